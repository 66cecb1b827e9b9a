/- Walks of functions, printed by a program. Conditions: none. -/
import Derived.Test.YthhcgcaefjmekaaProg
import Derived.Test.YthhcgcaefjmekaaGM
namespace Go.Proofs.Ythhcgcaefjmekaa.Abs
open Go Go.RowKit
set_option linter.unusedVariables false
set_option maxRecDepth 100000
open Z
/-- thrum/frame.Ack. -/
def en_frame_Ack (v : Int × Int × Int × Int × Int × Int × Int) : PV := .d (.agg [.int .i64 v.1, .int .i64 v.2.1, .int .i64 v.2.2.1, .int .i64 v.2.2.2.1, .int .i64 v.2.2.2.2.1, .lst [], .lst [], .int .i64 v.2.2.2.2.2.1, .int .i64 v.2.2.2.2.2.2, .lst [], .lst []])
def o59_0 : List AOper := [⟨some 4, none, 0, .alloc 53 11 [.int .i64 0, .int .i64 0, .int .i64 0, .int .i64 0, .int .i64 0, .lst [], .lst [], .int .i64 0, .int .i64 0, .lst [], .lst []]⟩]
def o59_1 : List AOper := [mv 5 100 0, mv 6 101 1, ⟨some 7, none, 102, .build [.int .i64 0, .int .i64 0, .int .i64 0, .int .i64 0, .int .i64 0, .lst [], .lst [], .int .i64 0, .int .i64 0, .lst [], .lst []] [(0, 1, .c (.d (.int .i64 2))), (1, 1, .t 5), (2, 1, .t 6)]⟩, ⟨none, none, 103, .store 11 (.t 4) (.t 7)⟩]
def c59_4 : AC := .seq (.reg o59_0) (.seq (.reg o59_1) .ret)
theorem fn59 : fnA Try.prog 59 = some (8, [.c 4 true 11], c59_4) := by kernel_rfl
theorem ok_frame_Ack (a0 : Int) (a1 : Int) : ∀ v, M_frame_Ack a0 a1 = some v → EvF Try.prog 59 [.int .i64 a0, .int .i64 a1] (en_frame_Ack v) := by
  intro v hv
  refine EvF_go fn59 (Nat.le_of_ble_eq_true rfl) ?_
  suffices h : Ok (M_frame_Ack a0 a1) fun v => go Try.prog 8 (Fnl [.c 4 true 11] (en_frame_Ack v) []) [.c c59_4] .norm (initSt (List.map PV.d [.int .i64 a0, .int .i64 a1]) []) from h v hv
  unfold M_frame_Ack
  refine Avk 12 [] .ret ⟨[(4, .ptr (.s 15) 0)], [(.s 15, [nI 2, nI a0, nI a1, nI 0, nI 0, .nils, .nils, nI 0, nI 0, .nils, .nils])]⟩ ?_
  exact L_ret
/-- thrum/index.measure. -/
def en_index_measure (v : Bool) : PV := bB v
def o152_0 : List AOper := [mb 2 0 false]
def o152_1 : List AOper := [mv 3 100 0, bc 4 101 .gtr 3 0, mv 5 102 4, gv 6 5 true 103 0, ⟨some 7, some (5, true), 104, .bin .leq .int (.t 6) (.c (.d (.int .i64 4096)))⟩, pk 8 105 5 7 false, mv 2 106 8]
def o152_1t3_6 : List AOper := (o152_1.drop 3).take 3
def c152_4 : AC := .seq (.reg o152_0) (.seq (.reg o152_1) .ret)
theorem fn152 : fnA Try.prog 152 = some (9, [.t 2], c152_4) := by kernel_rfl
theorem ok_index_measure (a0 : Int) : ∀ v, M_index_measure a0 = some v → EvF Try.prog 152 [.int .i64 a0] (en_index_measure v) := by
  intro v hv
  refine EvF_go fn152 (Nat.le_of_ble_eq_true rfl) ?_
  suffices h : Ok (M_index_measure a0) fun v => go Try.prog 9 (Fnl [.t 2] (en_index_measure v) []) [.c c152_4] .norm (initSt (List.map PV.d [.int .i64 a0]) []) from h v hv
  unfold M_index_measure
  refine Av 9 [.o false (o152_1.drop 3), .c .ret] ⟨[(5, bB (decide (a0 > 0))), (0, nI a0)], []⟩ ?_
  refine L_take 3 o152_1t3_6 (o152_1.drop 6) ?_
  refine L_join [.o false o152_1t3_6] [.o false (o152_1.drop 6), .c .ret] (fun x : Bool => ⟨[(8, bB x)], []⟩) ?_ (fun j1 => ?_)
  · refine L_split 5 rfl (fun _ => ?_) (fun _ => ?_)
    · refine Av 4 [] ⟨[(8, bB (decide (a0 ≤ 4096)))], []⟩ ?_
      exact L_end
    · refine Av 4 [] ⟨[(8, bB false)], []⟩ ?_
      exact L_end
  · refine Avk 3 [] .ret ⟨[(2, bB j1)], []⟩ ?_
    exact L_ret
/-- thrum/index.rises. -/
def en_index_rises (v : Bool) : PV := bB v
def o153_0 : List AOper := [mb 2 0 false]
def o153_1 : List AOper := [mi 3 100 1]
def o153_2 : List AOper := [mv 4 200 3, mv 5 201 0, ln 6 202 5, bi 7 203 .lss 4 6]
def o153_3 : List AOper := [mv 10 400 0, mv 11 401 3, bc 12 402 .sub 11 1, ⟨some 13, none, 403, .idxA 1 (.t 10) (.t 12)⟩, ld 14 404 13, mv 15 405 0, mv 16 406 3, ⟨some 17, none, 407, .idxA 1 (.t 15) (.t 16)⟩, ld 18 408 17, bi 19 409 .geq 14 18]
def o153_4 : List AOper := [mb 2 500 false]
def o153_5 : List AOper := [mv 8 300 3, bc 9 301 .add 8 1, mv 3 302 9]
def o153_6 : List AOper := [mb 2 600 true]
def c153_5 : AC := .cond (.t 7) .skip (.exit 0)
def c153_7 : AC := .draw [⟨mv 10 400 0, false, []⟩, ⟨mv 11 401 3, false, []⟩, ⟨bc 12 402 .sub 11 1, false, []⟩, ⟨⟨some 13, none, 403, .idxA 1 (.t 10) (.t 12)⟩, false, []⟩, ⟨ld 14 404 13, false, []⟩, ⟨mv 15 405 0, false, []⟩, ⟨mv 16 406 3, false, []⟩, ⟨⟨some 17, none, 407, .idxA 1 (.t 15) (.t 16)⟩, false, []⟩, ⟨ld 18 408 17, false, []⟩, ⟨bi 19 409 .geq 14 18, false, []⟩]
def c153_12 : AC := .cond (.t 19) (.seq (.reg o153_4) .ret) .skip
def c153_15 : AC := .reg o153_5
def c153_16 : AC := .seq (.block 1 (.seq c153_7 c153_12)) c153_15
def c153_17 : AC := .seq (.seq (.reg o153_2) c153_5) c153_16
def c153_23 : AC := .seq (.reg o153_6) .ret
def c153_25 : AC := .seq (.reg o153_0) (.seq (.seq (.reg o153_1) (.block 0 (.loop c153_17))) c153_23)
theorem fn153 : fnA Try.prog 153 = some (20, [.t 2], c153_25) := by kernel_rfl
def q_ok_index_rises_l0_ok (a0 : List Int) (x0 : Int) (v : (Sum Bool Unit)) : Prop := (fun v => go Try.prog 20 (PostR (fun r => Fnl [.t 2] (en_index_rises r) []) (.exit 0) (fun x : Unit => ⟨[], []⟩) v) [.l c153_17] .norm ⟨[(3, nI x0), (0, lI a0)], []⟩) v
theorem ok_index_rises_l0_ok (a0 : List Int) (x0 : Int) : Ok (M_index_rises_l0 a0 x0) (q_ok_index_rises_l0_ok a0 x0) := by
  refine M_index_rises_l0.partial_correctness a0 (q_ok_index_rises_l0_ok a0) ?_ x0
  clear x0
  intro f' IH x0
  refine okI ?_
  unfold q_ok_index_rises_l0_ok at *
  refine Av 1 [.c c153_17, .l c153_17] ⟨[(3, nI x0), (0, lI a0)], []⟩ ?_
  refine Av 5 [.o false (o153_2.drop 2), .c c153_5, .c c153_16, .l c153_17] ⟨[(5, lI a0), (4, nI x0), (3, nI x0), (0, lI a0)], []⟩ ?_
  refine L_len (enc := D.int .i64) (l := a0) trivial rfl ?_
  refine Av 2 [.c c153_5, .c c153_16, .l c153_17] ⟨[(7, bB (decide (x0 < (a0.length : Int)))), (3, nI x0), (0, lI a0)], []⟩ ?_
  refine L_split 7 rfl (fun _ => ?_) (fun _ => ?_)
  · refine Av 5 [.c c153_7, .c c153_12, .b 1, .c c153_15, .l c153_17] ⟨[(3, nI x0), (0, lI a0)], []⟩ ?_
    refine Ae 4 [.o true (o153_3.drop 3), .c c153_12, .b 1, .c c153_15, .l c153_17] ⟨[(12, nI (IntKind.i64.wrap (x0 - 1))), (11, nI x0), (10, lI a0), (3, nI x0), (0, lI a0)], []⟩ ?_
    refine L_idxD (enc := D.int .i64) (l := a0) (iv := IntKind.i64.wrap (x0 - 1)) trivial rfl rfl (fun _ => rfl) (fun hc403 => ?_)
    refine Ae 3 [.o true (o153_3.drop 7), .c c153_12, .b 1, .c c153_15, .l c153_17] ⟨[(16, nI x0), (15, lI a0), (14, nI (at' a0 (IntKind.i64.wrap (x0 - 1)))), (13, .d (.cp [.int .i64 (at' a0 (IntKind.i64.wrap (x0 - 1)))] 0)), (12, nI (IntKind.i64.wrap (x0 - 1))), (11, nI x0), (10, lI a0), (3, nI x0), (0, lI a0)], []⟩ ?_
    refine L_idxD (enc := D.int .i64) (l := a0) (iv := x0) trivial rfl rfl (fun _ => rfl) (fun hc407 => ?_)
    refine Av 3 [.c c153_12, .b 1, .c c153_15, .l c153_17] ⟨[(19, bB (decide ((at' a0 (IntKind.i64.wrap (x0 - 1))) ≥ (at' a0 x0)))), (3, nI x0), (0, lI a0)], []⟩ ?_
    refine L_split 19 rfl (fun _ => ?_) (fun _ => ?_)
    · refine Avk 9 [] .ret ⟨[(2, bB false)], []⟩ ?_
      exact L_retR
    · refine Av 8 [.l c153_17] ⟨[(3, nI (IntKind.i64.wrap (x0 + 1))), (0, lI a0)], []⟩ ?_
      exact L_again (IH (IntKind.i64.wrap (x0 + 1)))
  · refine Avk 4 [] (.exit 0) ⟨[], []⟩ ?_
    exact L_endR
theorem ok_index_rises (a0 : List Int) : ∀ v, M_index_rises a0 = some v → EvF Try.prog 153 [.lst (List.map (D.int .i64) a0)] (en_index_rises v) := by
  intro v hv
  refine EvF_go fn153 (Nat.le_of_ble_eq_true rfl) ?_
  suffices h : Ok (M_index_rises a0) fun v => go Try.prog 20 (Fnl [.t 2] (en_index_rises v) []) [.c c153_25] .norm (initSt (List.map PV.d [.lst (List.map (D.int .i64) a0)]) []) from h v hv
  unfold M_index_rises
  refine Av 11 [.l c153_17, .b 0, .c c153_23] ⟨[(3, nI 1), (0, lI a0)], []⟩ ?_
  refine L_pieceR (fs := [.l c153_17]) (ks := [.b 0, .c c153_23]) (ok_index_rises_l0_ok a0 1) L_thru (fun j1 => ?_)
  refine Avk 6 [] .ret ⟨[(2, bB true)], []⟩ ?_
  exact L_ret
/-- thrum/index.Check. -/
def en_index_Check (v : Int) : PV := nI v
def o106_0 : List AOper := [mi 4 0 0]
def o106_1 : List AOper := [mv 6 100 1, ln 7 101 6, mv 5 102 7]
def o106_2 : List AOper := [mv 8 200 0, cl' 9 201 152 [.t 8], ⟨some 10, none, 202, .un .not (.t 9)⟩, mv 11 203 10, gv 12 11 false 204 1, ⟨some 13, some (11, false), 205, .call 153 [.t 12]⟩, ⟨some 14, some (11, false), 206, .un .not (.t 13)⟩, pz 15 207 11 14 true, mv 16 208 15, gv 17 16 false 209 5, ⟨some 18, some (16, false), 210, .bin .gtr .int (.t 17) (.c (.d (.int .i64 0)))⟩, gv 19 16 false 211 18, gv 20 19 true 212 1, ⟨some 21, some (19, true), 213, .idxA 1 (.t 20) (.c (.d (.int .i64 0)))⟩, ⟨some 22, some (19, true), 214, .load false 1 (.t 21)⟩, ⟨some 23, some (19, true), 215, .bin .lss .int (.t 22) (.c (.d (.int .i64 0)))⟩, gv 24 19 true 216 23, gv 25 24 false 217 1, gv 26 24 false 218 5, ⟨some 27, some (24, false), 219, .bin .sub .int (.t 26) (.c (.d (.int .i64 1)))⟩, ⟨some 28, some (24, false), 220, .idxA 1 (.t 25) (.t 27)⟩, ⟨some 29, some (24, false), 221, .load false 1 (.t 28)⟩, gv 30 24 false 222 0, ⟨some 31, some (24, false), 223, .bin .geq .int (.t 29) (.t 30)⟩, ⟨some 32, some (19, true), 224, .pick (.t 24) (.c (.d (.bool true))) (.t 31)⟩, ⟨some 33, some (16, false), 225, .pick (.t 19) (.t 32) (.c (.d (.bool false)))⟩, pz 34 226 16 33 true]
def o106_3 : List AOper := [mi 4 300 1]
def o106_4 : List AOper := [mi 4 400 0]
def o106_2t4_8 : List AOper := (o106_2.drop 4).take 4
def c106_7 : AC := .cond (.t 34) (.seq (.reg o106_3) .ret) .skip
def c106_11 : AC := .seq (.reg o106_4) .ret
def c106_12 : AC := .seq (.seq (.reg o106_2) c106_7) c106_11
def c106_14 : AC := .seq (.reg o106_0) (.seq (.reg o106_1) c106_12)
theorem fn106 : fnA Try.prog 106 = some (35, [.t 4], c106_14) := by kernel_rfl
theorem ok_index_Check (a0 : Int) (a1 : List Int) : ∀ v, M_index_Check a0 a1 = some v → EvF Try.prog 106 [.int .i64 a0, .lst (List.map (D.int .i64) a1)] (en_index_Check v) := by
  intro v hv
  refine EvF_go fn106 (Nat.le_of_ble_eq_true rfl) ?_
  suffices h : Ok (M_index_Check a0 a1) fun v => go Try.prog 35 (Fnl [.t 4] (en_index_Check v) []) [.c c106_14] .norm (initSt (List.map PV.d [.int .i64 a0, .lst (List.map (D.int .i64) a1)]) []) from h v hv
  unfold M_index_Check
  refine Av 7 [.o false (o106_1.drop 1), .c c106_12] ⟨[(6, lI a1), (0, nI a0), (1, lI a1)], []⟩ ?_
  refine L_len (enc := D.int .i64) (l := a1) trivial rfl ?_
  refine Av 6 [.o false (o106_2.drop 1), .c c106_7, .c c106_11] ⟨[(8, nI a0), (5, nI (a1.length : Int)), (0, nI a0), (1, lI a1)], []⟩ ?_
  refine L_call (ok_index_measure a0) trivial rfl (fun _ => rfl) (fun _ => trivial) (fun r1 => ?_)
  refine Av 2 [.o false (o106_2.drop 4), .c c106_7, .c c106_11] ⟨[(11, bB (!r1)), (5, nI (a1.length : Int)), (0, nI a0), (1, lI a1)], []⟩ ?_
  refine L_take 4 o106_2t4_8 (o106_2.drop 8) ?_
  refine L_join [.o false o106_2t4_8] [.o false (o106_2.drop 8), .c c106_7, .c c106_11] (fun x : Bool => ⟨[(15, bB x), (5, nI (a1.length : Int)), (0, nI a0), (1, lI a1)], []⟩) ?_ (fun j3 => ?_)
  · refine L_split 11 decF (fun _ => ?_) (fun _ => ?_)
    · refine Av 5 [] ⟨[(15, bB true), (5, nI (a1.length : Int)), (0, nI a0), (1, lI a1)], []⟩ ?_
      exact L_end
    · refine Av 1 [.o false (o106_2t4_8.drop 1)] ⟨[(12, lI a1), (11, bB false), (5, nI (a1.length : Int)), (0, nI a0), (1, lI a1)], []⟩ ?_
      refine L_call (ok_index_rises a1) rfl rfl (fun _ => rfl) (fun _ => trivial) (fun r2 => ?_)
      refine Av 3 [] ⟨[(15, bB (!r2)), (5, nI (a1.length : Int)), (0, nI a0), (1, lI a1)], []⟩ ?_
      exact L_end
  · refine Av 1 [.o false (o106_2.drop 9), .c c106_7, .c c106_11] ⟨[(16, bB j3), (5, nI (a1.length : Int)), (0, nI a0), (1, lI a1)], []⟩ ?_
    refine L_split 16 decT (fun _ => ?_) (fun _ => ?_)
    · refine Avk 26 [] .ret ⟨[(4, nI 1)], []⟩ ?_
      exact L_ret
    · refine Av 3 [.o false (o106_2.drop 12), .c c106_7, .c c106_11] ⟨[(19, bB (decide ((a1.length : Int) > 0))), (16, bB false), (5, nI (a1.length : Int)), (0, nI a0), (1, lI a1)], []⟩ ?_
      refine L_split 19 rfl (fun _ => ?_) (fun _ => ?_)
      · refine Av 1 [.o false (o106_2.drop 13), .c c106_7, .c c106_11] ⟨[(20, lI a1), (19, bB true), (16, bB false), (5, nI (a1.length : Int)), (0, nI a0), (1, lI a1)], []⟩ ?_
        refine L_idxD (enc := D.int .i64) (l := a1) (iv := 0) rfl rfl rfl (fun _ => rfl) (fun hc213 => ?_)
        refine Av 3 [.o false (o106_2.drop 17), .c c106_7, .c c106_11] ⟨[(24, bB (decide ((at' a1 0) < 0))), (19, bB true), (16, bB false), (5, nI (a1.length : Int)), (0, nI a0), (1, lI a1)], []⟩ ?_
        refine L_split 24 rfl (fun _ => ?_) (fun _ => ?_)
        · refine Avk 18 [] .ret ⟨[(4, nI 1)], []⟩ ?_
          exact L_ret
        · refine Av 3 [.o false (o106_2.drop 20), .c c106_7, .c c106_11] ⟨[(27, nI (IntKind.i64.wrap ((a1.length : Int) - 1))), (24, bB false), (25, lI a1), (19, bB true), (16, bB false), (0, nI a0)], []⟩ ?_
          refine L_idxD (enc := D.int .i64) (l := a1) (iv := IntKind.i64.wrap ((a1.length : Int) - 1)) rfl rfl rfl (fun _ => rfl) (fun hc220 => ?_)
          refine Av 7 [.c c106_7, .c c106_11] ⟨[(34, bB (decide ((at' a1 (IntKind.i64.wrap ((a1.length : Int) - 1))) ≥ a0)))], []⟩ ?_
          refine L_split 34 rfl (fun _ => ?_) (fun _ => ?_)
          · refine Avk 7 [] .ret ⟨[(4, nI 1)], []⟩ ?_
            exact L_ret
          · refine Avk 7 [] .ret ⟨[(4, nI 0)], []⟩ ?_
            exact L_ret
      · refine Avk 23 [] .ret ⟨[(4, nI 0)], []⟩ ?_
        exact L_ret
/-- math/bits.Len64. -/
def en_math_bits_Len64 (v : Int) : PV := nI v
def o171_0 : List AOper := [mi 2 0 0]
def o171_1 : List AOper := [mv 3 100 0, ⟨some 4, none, 101, .bin .geq .int (.t 3) (.c (.d (.int .u64 4294967296)))⟩]
def o171_2 : List AOper := [mv 5 200 0, ⟨some 6, none, 201, .bin .shr .int (.t 5) (.c (.d (.int .u64 32)))⟩, mv 0 202 6]
def o171_3 : List AOper := [mi 2 300 32]
def o171_4 : List AOper := [mv 7 400 0, ⟨some 8, none, 401, .bin .geq .int (.t 7) (.c (.d (.int .u64 65536)))⟩]
def o171_5 : List AOper := [mv 9 500 0, ⟨some 10, none, 501, .bin .shr .int (.t 9) (.c (.d (.int .u64 16)))⟩, mv 0 502 10]
def o171_6 : List AOper := [mv 11 600 2, bc 12 601 .add 11 16, mv 2 602 12]
def o171_7 : List AOper := [mv 13 700 0, ⟨some 14, none, 701, .bin .geq .int (.t 13) (.c (.d (.int .u64 256)))⟩]
def o171_8 : List AOper := [mv 15 800 0, ⟨some 16, none, 801, .bin .shr .int (.t 15) (.c (.d (.int .u64 8)))⟩, mv 0 802 16]
def o171_9 : List AOper := [mv 17 900 2, bc 18 901 .add 17 8, mv 2 902 18]
def o171_10 : List AOper := [mv 19 1000 2, mv 20 1001 0, ⟨some 21, none, 1002, .convI .u8 (.t 20)⟩, ⟨some 22, none, 1003, .idxS (.c (.d (.str (ByteArray.mk #[0, 1, 2, 2, 3, 3, 3, 3, 4, 4, 4, 4, 4, 4, 4, 4, 5, 5, 5, 5, 5, 5, 5, 5, 5, 5, 5, 5, 5, 5, 5, 5, 6, 6, 6, 6, 6, 6, 6, 6, 6, 6, 6, 6, 6, 6, 6, 6, 6, 6, 6, 6, 6, 6, 6, 6, 6, 6, 6, 6, 6, 6, 6, 6, 7, 7, 7, 7, 7, 7, 7, 7, 7, 7, 7, 7, 7, 7, 7, 7, 7, 7, 7, 7, 7, 7, 7, 7, 7, 7, 7, 7, 7, 7, 7, 7, 7, 7, 7, 7, 7, 7, 7, 7, 7, 7, 7, 7, 7, 7, 7, 7, 7, 7, 7, 7, 7, 7, 7, 7, 7, 7, 7, 7, 7, 7, 7, 7, 8, 8, 8, 8, 8, 8, 8, 8, 8, 8, 8, 8, 8, 8, 8, 8, 8, 8, 8, 8, 8, 8, 8, 8, 8, 8, 8, 8, 8, 8, 8, 8, 8, 8, 8, 8, 8, 8, 8, 8, 8, 8, 8, 8, 8, 8, 8, 8, 8, 8, 8, 8, 8, 8, 8, 8, 8, 8, 8, 8, 8, 8, 8, 8, 8, 8, 8, 8, 8, 8, 8, 8, 8, 8, 8, 8, 8, 8, 8, 8, 8, 8, 8, 8, 8, 8, 8, 8, 8, 8, 8, 8, 8, 8, 8, 8, 8, 8, 8, 8, 8, 8, 8, 8, 8, 8, 8, 8, 8, 8, 8, 8, 8, 8, 8, 8, 8, 8, 8, 8, 8, 8, 8, 8, 8, 8, 8, 8])))) (.t 21)⟩, ⟨some 23, none, 1004, .convI .i64 (.t 22)⟩, bi 24 1005 .add 19 23, mv 2 1006 24]
def c171_6 : AC := .cond (.t 4) (.seq (.reg o171_2) (.reg o171_3)) .skip
def c171_13 : AC := .cond (.t 8) (.seq (.reg o171_5) (.reg o171_6)) .skip
def c171_20 : AC := .cond (.t 14) (.seq (.reg o171_8) (.reg o171_9)) .skip
def c171_24 : AC := .seq (.reg o171_10) .ret
def c171_25 : AC := .seq (.seq (.reg o171_7) c171_20) c171_24
def c171_26 : AC := .seq (.seq (.reg o171_4) c171_13) c171_25
def c171_28 : AC := .seq (.reg o171_0) (.seq (.seq (.reg o171_1) c171_6) c171_26)
theorem fn171 : fnA Try.prog 171 = some (25, [.t 2], c171_28) := by kernel_rfl
theorem ok_math_bits_Len64 (a0 : Int) : ∀ v, M_math_bits_Len64 a0 = some v → EvF Try.prog 171 [.int .u64 a0] (en_math_bits_Len64 v) := by
  intro v hv
  refine EvF_go fn171 (Nat.le_of_ble_eq_true rfl) ?_
  suffices h : Ok (M_math_bits_Len64 a0) fun v => go Try.prog 25 (Fnl [.t 2] (en_math_bits_Len64 v) []) [.c c171_28] .norm (initSt (List.map PV.d [.int .u64 a0]) []) from h v hv
  unfold M_math_bits_Len64
  refine Av 10 [.c c171_6, .c c171_26] ⟨[(4, bB (decide (a0 ≥ 4294967296))), (2, nI 0), (0, nU a0)], []⟩ ?_
  refine L_join [.c c171_6] [.c c171_26] (fun x : Int × Int => ⟨[(2, nI x.1), (0, nU x.2)], []⟩) ?_ (fun j1 => ?_)
  · refine L_split 4 rfl (fun _ => ?_) (fun _ => ?_)
    · refine Av 10 [] ⟨[(2, nI 32), (0, nU (sShr .u64 a0 32))], []⟩ ?_
      exact L_end
    · refine Av 2 [] ⟨[(2, nI 0), (0, nU a0)], []⟩ ?_
      exact L_end
  · refine Av 6 [.c c171_13, .c c171_25] ⟨[(8, bB (decide (j1.2 ≥ 65536))), (2, nI j1.1), (0, nU j1.2)], []⟩ ?_
    refine L_join [.c c171_13] [.c c171_25] (fun x : Int × Int => ⟨[(2, nI x.1), (0, nU x.2)], []⟩) ?_ (fun j2 => ?_)
    · refine L_split 8 rfl (fun _ => ?_) (fun _ => ?_)
      · refine Av 12 [] ⟨[(2, nI (IntKind.i64.wrap (j1.1 + 16))), (0, nU (sShr .u64 j1.2 16))], []⟩ ?_
        exact L_end
      · refine Av 2 [] ⟨[(2, nI j1.1), (0, nU j1.2)], []⟩ ?_
        exact L_end
    · refine Av 6 [.c c171_20, .c c171_24] ⟨[(14, bB (decide (j2.2 ≥ 256))), (2, nI j2.1), (0, nU j2.2)], []⟩ ?_
      refine L_split 14 rfl (fun _ => ?_) (fun _ => ?_)
      · refine Av 17 [.o false (o171_10.drop 3), .c .ret] ⟨[(21, nY (IntKind.u8.wrap (sShr .u64 j2.2 8))), (19, nI (IntKind.i64.wrap (j2.1 + 8)))], []⟩ ?_
        refine L_rd (c := 0 ≤ (IntKind.u8.wrap (sShr .u64 j2.2 8)) ∧ (IntKind.u8.wrap (sShr .u64 j2.2 8)) < ((ByteArray.mk #[0, 1, 2, 2, 3, 3, 3, 3, 4, 4, 4, 4, 4, 4, 4, 4, 5, 5, 5, 5, 5, 5, 5, 5, 5, 5, 5, 5, 5, 5, 5, 5, 6, 6, 6, 6, 6, 6, 6, 6, 6, 6, 6, 6, 6, 6, 6, 6, 6, 6, 6, 6, 6, 6, 6, 6, 6, 6, 6, 6, 6, 6, 6, 6, 7, 7, 7, 7, 7, 7, 7, 7, 7, 7, 7, 7, 7, 7, 7, 7, 7, 7, 7, 7, 7, 7, 7, 7, 7, 7, 7, 7, 7, 7, 7, 7, 7, 7, 7, 7, 7, 7, 7, 7, 7, 7, 7, 7, 7, 7, 7, 7, 7, 7, 7, 7, 7, 7, 7, 7, 7, 7, 7, 7, 7, 7, 7, 7, 8, 8, 8, 8, 8, 8, 8, 8, 8, 8, 8, 8, 8, 8, 8, 8, 8, 8, 8, 8, 8, 8, 8, 8, 8, 8, 8, 8, 8, 8, 8, 8, 8, 8, 8, 8, 8, 8, 8, 8, 8, 8, 8, 8, 8, 8, 8, 8, 8, 8, 8, 8, 8, 8, 8, 8, 8, 8, 8, 8, 8, 8, 8, 8, 8, 8, 8, 8, 8, 8, 8, 8, 8, 8, 8, 8, 8, 8, 8, 8, 8, 8, 8, 8, 8, 8, 8, 8, 8, 8, 8, 8, 8, 8, 8, 8, 8, 8, 8, 8, 8, 8, 8, 8, 8, 8, 8, 8, 8, 8, 8, 8, 8, 8, 8, 8, 8, 8, 8, 8, 8, 8, 8, 8, 8, 8, 8, 8]).size : Int)) (v := nY (((ByteArray.mk #[0, 1, 2, 2, 3, 3, 3, 3, 4, 4, 4, 4, 4, 4, 4, 4, 5, 5, 5, 5, 5, 5, 5, 5, 5, 5, 5, 5, 5, 5, 5, 5, 6, 6, 6, 6, 6, 6, 6, 6, 6, 6, 6, 6, 6, 6, 6, 6, 6, 6, 6, 6, 6, 6, 6, 6, 6, 6, 6, 6, 6, 6, 6, 6, 7, 7, 7, 7, 7, 7, 7, 7, 7, 7, 7, 7, 7, 7, 7, 7, 7, 7, 7, 7, 7, 7, 7, 7, 7, 7, 7, 7, 7, 7, 7, 7, 7, 7, 7, 7, 7, 7, 7, 7, 7, 7, 7, 7, 7, 7, 7, 7, 7, 7, 7, 7, 7, 7, 7, 7, 7, 7, 7, 7, 7, 7, 7, 7, 8, 8, 8, 8, 8, 8, 8, 8, 8, 8, 8, 8, 8, 8, 8, 8, 8, 8, 8, 8, 8, 8, 8, 8, 8, 8, 8, 8, 8, 8, 8, 8, 8, 8, 8, 8, 8, 8, 8, 8, 8, 8, 8, 8, 8, 8, 8, 8, 8, 8, 8, 8, 8, 8, 8, 8, 8, 8, 8, 8, 8, 8, 8, 8, 8, 8, 8, 8, 8, 8, 8, 8, 8, 8, 8, 8, 8, 8, 8, 8, 8, 8, 8, 8, 8, 8, 8, 8, 8, 8, 8, 8, 8, 8, 8, 8, 8, 8, 8, 8, 8, 8, 8, 8, 8, 8, 8, 8, 8, 8, 8, 8, 8, 8, 8, 8, 8, 8, 8, 8, 8, 8, 8, 8, 8, 8, 8, 8]).data.getD (Int.toNat (IntKind.u8.wrap (sShr .u64 j2.2 8))) 0).toNat : Int)) trivial rfl (fun _ => ?_)
        refine Avk 5 [] .ret ⟨[(2, nI (IntKind.i64.wrap ((IntKind.i64.wrap (j2.1 + 8)) + (IntKind.i64.wrap (((ByteArray.mk #[0, 1, 2, 2, 3, 3, 3, 3, 4, 4, 4, 4, 4, 4, 4, 4, 5, 5, 5, 5, 5, 5, 5, 5, 5, 5, 5, 5, 5, 5, 5, 5, 6, 6, 6, 6, 6, 6, 6, 6, 6, 6, 6, 6, 6, 6, 6, 6, 6, 6, 6, 6, 6, 6, 6, 6, 6, 6, 6, 6, 6, 6, 6, 6, 7, 7, 7, 7, 7, 7, 7, 7, 7, 7, 7, 7, 7, 7, 7, 7, 7, 7, 7, 7, 7, 7, 7, 7, 7, 7, 7, 7, 7, 7, 7, 7, 7, 7, 7, 7, 7, 7, 7, 7, 7, 7, 7, 7, 7, 7, 7, 7, 7, 7, 7, 7, 7, 7, 7, 7, 7, 7, 7, 7, 7, 7, 7, 7, 8, 8, 8, 8, 8, 8, 8, 8, 8, 8, 8, 8, 8, 8, 8, 8, 8, 8, 8, 8, 8, 8, 8, 8, 8, 8, 8, 8, 8, 8, 8, 8, 8, 8, 8, 8, 8, 8, 8, 8, 8, 8, 8, 8, 8, 8, 8, 8, 8, 8, 8, 8, 8, 8, 8, 8, 8, 8, 8, 8, 8, 8, 8, 8, 8, 8, 8, 8, 8, 8, 8, 8, 8, 8, 8, 8, 8, 8, 8, 8, 8, 8, 8, 8, 8, 8, 8, 8, 8, 8, 8, 8, 8, 8, 8, 8, 8, 8, 8, 8, 8, 8, 8, 8, 8, 8, 8, 8, 8, 8, 8, 8, 8, 8, 8, 8, 8, 8, 8, 8, 8, 8, 8, 8, 8, 8, 8, 8]).data.getD (Int.toNat (IntKind.u8.wrap (sShr .u64 j2.2 8))) 0).toNat : Int)))))], []⟩ ?_
        exact L_ret
      · refine Av 7 [.o false (o171_10.drop 3), .c .ret] ⟨[(21, nY (IntKind.u8.wrap j2.2)), (19, nI j2.1)], []⟩ ?_
        refine L_rd (c := 0 ≤ (IntKind.u8.wrap j2.2) ∧ (IntKind.u8.wrap j2.2) < ((ByteArray.mk #[0, 1, 2, 2, 3, 3, 3, 3, 4, 4, 4, 4, 4, 4, 4, 4, 5, 5, 5, 5, 5, 5, 5, 5, 5, 5, 5, 5, 5, 5, 5, 5, 6, 6, 6, 6, 6, 6, 6, 6, 6, 6, 6, 6, 6, 6, 6, 6, 6, 6, 6, 6, 6, 6, 6, 6, 6, 6, 6, 6, 6, 6, 6, 6, 7, 7, 7, 7, 7, 7, 7, 7, 7, 7, 7, 7, 7, 7, 7, 7, 7, 7, 7, 7, 7, 7, 7, 7, 7, 7, 7, 7, 7, 7, 7, 7, 7, 7, 7, 7, 7, 7, 7, 7, 7, 7, 7, 7, 7, 7, 7, 7, 7, 7, 7, 7, 7, 7, 7, 7, 7, 7, 7, 7, 7, 7, 7, 7, 8, 8, 8, 8, 8, 8, 8, 8, 8, 8, 8, 8, 8, 8, 8, 8, 8, 8, 8, 8, 8, 8, 8, 8, 8, 8, 8, 8, 8, 8, 8, 8, 8, 8, 8, 8, 8, 8, 8, 8, 8, 8, 8, 8, 8, 8, 8, 8, 8, 8, 8, 8, 8, 8, 8, 8, 8, 8, 8, 8, 8, 8, 8, 8, 8, 8, 8, 8, 8, 8, 8, 8, 8, 8, 8, 8, 8, 8, 8, 8, 8, 8, 8, 8, 8, 8, 8, 8, 8, 8, 8, 8, 8, 8, 8, 8, 8, 8, 8, 8, 8, 8, 8, 8, 8, 8, 8, 8, 8, 8, 8, 8, 8, 8, 8, 8, 8, 8, 8, 8, 8, 8, 8, 8, 8, 8, 8, 8]).size : Int)) (v := nY (((ByteArray.mk #[0, 1, 2, 2, 3, 3, 3, 3, 4, 4, 4, 4, 4, 4, 4, 4, 5, 5, 5, 5, 5, 5, 5, 5, 5, 5, 5, 5, 5, 5, 5, 5, 6, 6, 6, 6, 6, 6, 6, 6, 6, 6, 6, 6, 6, 6, 6, 6, 6, 6, 6, 6, 6, 6, 6, 6, 6, 6, 6, 6, 6, 6, 6, 6, 7, 7, 7, 7, 7, 7, 7, 7, 7, 7, 7, 7, 7, 7, 7, 7, 7, 7, 7, 7, 7, 7, 7, 7, 7, 7, 7, 7, 7, 7, 7, 7, 7, 7, 7, 7, 7, 7, 7, 7, 7, 7, 7, 7, 7, 7, 7, 7, 7, 7, 7, 7, 7, 7, 7, 7, 7, 7, 7, 7, 7, 7, 7, 7, 8, 8, 8, 8, 8, 8, 8, 8, 8, 8, 8, 8, 8, 8, 8, 8, 8, 8, 8, 8, 8, 8, 8, 8, 8, 8, 8, 8, 8, 8, 8, 8, 8, 8, 8, 8, 8, 8, 8, 8, 8, 8, 8, 8, 8, 8, 8, 8, 8, 8, 8, 8, 8, 8, 8, 8, 8, 8, 8, 8, 8, 8, 8, 8, 8, 8, 8, 8, 8, 8, 8, 8, 8, 8, 8, 8, 8, 8, 8, 8, 8, 8, 8, 8, 8, 8, 8, 8, 8, 8, 8, 8, 8, 8, 8, 8, 8, 8, 8, 8, 8, 8, 8, 8, 8, 8, 8, 8, 8, 8, 8, 8, 8, 8, 8, 8, 8, 8, 8, 8, 8, 8, 8, 8, 8, 8, 8, 8]).data.getD (Int.toNat (IntKind.u8.wrap j2.2)) 0).toNat : Int)) trivial rfl (fun _ => ?_)
        refine Avk 5 [] .ret ⟨[(2, nI (IntKind.i64.wrap (j2.1 + (IntKind.i64.wrap (((ByteArray.mk #[0, 1, 2, 2, 3, 3, 3, 3, 4, 4, 4, 4, 4, 4, 4, 4, 5, 5, 5, 5, 5, 5, 5, 5, 5, 5, 5, 5, 5, 5, 5, 5, 6, 6, 6, 6, 6, 6, 6, 6, 6, 6, 6, 6, 6, 6, 6, 6, 6, 6, 6, 6, 6, 6, 6, 6, 6, 6, 6, 6, 6, 6, 6, 6, 7, 7, 7, 7, 7, 7, 7, 7, 7, 7, 7, 7, 7, 7, 7, 7, 7, 7, 7, 7, 7, 7, 7, 7, 7, 7, 7, 7, 7, 7, 7, 7, 7, 7, 7, 7, 7, 7, 7, 7, 7, 7, 7, 7, 7, 7, 7, 7, 7, 7, 7, 7, 7, 7, 7, 7, 7, 7, 7, 7, 7, 7, 7, 7, 8, 8, 8, 8, 8, 8, 8, 8, 8, 8, 8, 8, 8, 8, 8, 8, 8, 8, 8, 8, 8, 8, 8, 8, 8, 8, 8, 8, 8, 8, 8, 8, 8, 8, 8, 8, 8, 8, 8, 8, 8, 8, 8, 8, 8, 8, 8, 8, 8, 8, 8, 8, 8, 8, 8, 8, 8, 8, 8, 8, 8, 8, 8, 8, 8, 8, 8, 8, 8, 8, 8, 8, 8, 8, 8, 8, 8, 8, 8, 8, 8, 8, 8, 8, 8, 8, 8, 8, 8, 8, 8, 8, 8, 8, 8, 8, 8, 8, 8, 8, 8, 8, 8, 8, 8, 8, 8, 8, 8, 8, 8, 8, 8, 8, 8, 8, 8, 8, 8, 8, 8, 8, 8, 8, 8, 8, 8, 8]).data.getD (Int.toNat (IntKind.u8.wrap j2.2)) 0).toNat : Int)))))], []⟩ ?_
        exact L_ret
/-- thrum/plane.Width. -/
def en_plane_Width (v : Int) : PV := nI v
def o133_0 : List AOper := [mi 2 0 0]
def o133_1 : List AOper := [mv 3 100 0, cl' 4 101 171 [.t 3], mv 2 102 4]
def c133_4 : AC := .seq (.reg o133_0) (.seq (.reg o133_1) .ret)
theorem fn133 : fnA Try.prog 133 = some (5, [.t 2], c133_4) := by kernel_rfl
theorem ok_plane_Width (a0 : Int) : ∀ v, M_plane_Width a0 = some v → EvF Try.prog 133 [.int .u64 a0] (en_plane_Width v) := by
  intro v hv
  refine EvF_go fn133 (Nat.le_of_ble_eq_true rfl) ?_
  suffices h : Ok (M_plane_Width a0) fun v => go Try.prog 5 (Fnl [.t 2] (en_plane_Width v) []) [.c c133_4] .norm (initSt (List.map PV.d [.int .u64 a0]) []) from h v hv
  unfold M_plane_Width
  refine Av 7 [.o false (o133_1.drop 1), .c .ret] ⟨[(3, nU a0)], []⟩ ?_
  refine L_call (ok_math_bits_Len64 a0) trivial rfl (fun _ => rfl) (fun _ => trivial) (fun r1 => ?_)
  refine Avk 3 [] .ret ⟨[(2, nI r1)], []⟩ ?_
  exact L_ret
/-- thrum/frame.bare$1. -/
def en_frame_bare_1_c (v : Bool) : PV := bB v
def o132_0 : List AOper := [mb 3 0 false]
def o132_1 : List AOper := [mv 4 100 0, ⟨some 6, none, 102, .fieldA 5 (.t 1)⟩, ld 7 103 6, cl' 5 101 133 [.t 4], bi 8 104 .gtr 5 7, mv 3 105 8]
def o132_1g0 : List AOper := [mv 4 100 0, ⟨some 6, none, 102, .fieldA 5 (.t 1)⟩, ld 7 103 6, cl' 5 101 133 [.t 4]]
def h132_1g0 : List AOper := [⟨some 6, none, 102, .fieldA 5 (.t 1)⟩, ld 7 103 6]
def o132_1g1 : List AOper := [bi 8 104 .gtr 5 7, mv 3 105 8]
def c132_1 : AC := .draw [⟨mv 4 100 0, false, []⟩, ⟨⟨some 6, none, 102, .fieldA 5 (.t 1)⟩, false, []⟩, ⟨ld 7 103 6, false, []⟩, ⟨cl' 5 101 133 [.t 4], true, [⟨some 6, none, 102, .fieldA 5 (.t 1)⟩, ld 7 103 6]⟩, ⟨bi 8 104 .gtr 5 7, false, []⟩, ⟨mv 3 105 8, false, []⟩]
def c132_4 : AC := .seq (.reg o132_0) (.seq c132_1 .ret)
theorem fn132 : fnA Try.prog 132 = some (9, [.t 3], c132_4) := by kernel_rfl
theorem ok_frame_bare_1_c (a0 : Int) (a1 : Int) (a2 : Int) (a3 : List Int) (a4 : List Int) (a5 : Int) (a6 : Int) (a7 : List Int) (a8 : List Bool) : ∀ v, M_frame_bare_1_c a0 a1 a2 a3 a4 a5 a6 a7 a8 = some v → EvF Try.prog 132 [.int .u64 a0, .cp [.int .i64 a1, .int .i64 a2, .lst (List.map (D.int .i64) a3), .lst (List.map (D.int .i64) a4), .int .i64 a5, .int .i64 a6, .lst (List.map (D.int .u64) a7), .lst (List.map D.bool a8)] 0] (en_frame_bare_1_c v) := by
  intro v hv
  refine EvF_go fn132 (Nat.le_of_ble_eq_true rfl) ?_
  suffices h : Ok (M_frame_bare_1_c a0 a1 a2 a3 a4 a5 a6 a7 a8) fun v => go Try.prog 9 (Fnl [.t 3] (en_frame_bare_1_c v) []) [.c c132_4] .norm (initSt (List.map PV.d [.int .u64 a0, .cp [.int .i64 a1, .int .i64 a2, .lst (List.map (D.int .i64) a3), .lst (List.map (D.int .i64) a4), .int .i64 a5, .int .i64 a6, .lst (List.map (D.int .u64) a7), .lst (List.map D.bool a8)] 0]) []) from h v hv
  unfold M_frame_bare_1_c
  refine Av 5 [.c c132_1, .c .ret] ⟨[(0, nU a0), (1, .d (.cp [.int .i64 a1, .int .i64 a2, .lst (List.map (D.int .i64) a3), .lst (List.map (D.int .i64) a4), .int .i64 a5, .int .i64 a6, .lst (List.map (D.int .u64) a7), .lst (List.map D.bool a8)] 0))], []⟩ ?_
  refine Ae 4 [.o true (o132_1g0.drop 3), .h h132_1g0, .o true o132_1g1, .h [], .c .ret] ⟨[(7, nI a6), (6, .d (.cp [.int .i64 a1, .int .i64 a2, .lst (List.map (D.int .i64) a3), .lst (List.map (D.int .i64) a4), .int .i64 a5, .int .i64 a6, .lst (List.map (D.int .u64) a7), .lst (List.map D.bool a8)] 5)), (4, nU a0), (0, nU a0), (1, .d (.cp [.int .i64 a1, .int .i64 a2, .lst (List.map (D.int .i64) a3), .lst (List.map (D.int .i64) a4), .int .i64 a5, .int .i64 a6, .lst (List.map (D.int .u64) a7), .lst (List.map D.bool a8)] 0))], []⟩ ?_
  refine L_call (ok_plane_Width a0) trivial rfl (fun _ => rfl) (fun _ => trivial) (fun r1 => ?_)
  refine Ae 1 [.h h132_1g0, .o true o132_1g1, .h [], .c .ret] ⟨[(5, nI r1), (7, nI a6), (6, .d (.cp [.int .i64 a1, .int .i64 a2, .lst (List.map (D.int .i64) a3), .lst (List.map (D.int .i64) a4), .int .i64 a5, .int .i64 a6, .lst (List.map (D.int .u64) a7), .lst (List.map D.bool a8)] 5)), (4, nU a0), (0, nU a0), (1, .d (.cp [.int .i64 a1, .int .i64 a2, .lst (List.map (D.int .i64) a3), .lst (List.map (D.int .i64) a4), .int .i64 a5, .int .i64 a6, .lst (List.map (D.int .u64) a7), .lst (List.map D.bool a8)] 0))], []⟩ ?_
  refine L_hold ⟨hC (.d (.cp [.int .i64 a1, .int .i64 a2, .lst (List.map (D.int .i64) a3), .lst (List.map (D.int .i64) a4), .int .i64 a5, .int .i64 a6, .lst (List.map (D.int .u64) a7), .lst (List.map D.bool a8)] 5)) trivial, hC (nI a6) trivial, trivial⟩ ?_
  refine Avk 5 [] .ret ⟨[(3, bB (decide (r1 > a6)))], []⟩ ?_
  exact L_ret
/-- slices.IndexFunc[[]uint64,uint64]. -/
def en_slices_IndexFunc_uint64_uint64_frame_bare_1 (v : Int) : PV := nI v
def o170_0 : List AOper := [mi 4 0 0]
def o170_1 : List AOper := [mv 6 100 0, ln 7 101 6, mi 8 102 0]
def o170_2 : List AOper := [bi 9 200 .lss 8 7]
def o170_3 : List AOper := [mv 10 300 8, mv 5 301 10]
def o170_4 : List AOper := [mv 11 400 1, mv 12 401 0, mv 13 402 5, ⟨some 14, none, 403, .idxA 1 (.t 12) (.t 13)⟩, ld 15 404 14, ⟨some 16, none, 405, .callv (.t 11) [.t 15]⟩]
def o170_5 : List AOper := [mv 17 500 5, mv 4 501 17]
def o170_6 : List AOper := [bc 18 600 .add 8 1, mv 8 601 18]
def o170_7 : List AOper := [mi 4 700 (-1)]
def c170_5 : AC := .cond (.t 9) .skip (.exit 0)
def c170_12 : AC := .cond (.t 16) (.seq (.reg o170_5) .ret) .skip
def c170_16 : AC := .reg o170_6
def c170_17 : AC := .seq (.block 1 (.seq (.reg o170_3) (.seq (.reg o170_4) c170_12))) c170_16
def c170_19 : AC := .seq (.reg o170_2) (.seq c170_5 c170_17)
def c170_21 : AC := .block 0 (.loop c170_19)
def c170_25 : AC := .seq (.reg o170_7) .ret
def c170_27 : AC := .seq (.reg o170_0) (.seq (.seq (.reg o170_1) c170_21) c170_25)
theorem fn170 : fnA Try.prog 170 = some (19, [.t 4], c170_27) := by kernel_rfl
def q_ok_slices_IndexFunc_uint64_uint64_frame_bare_1_l0_ok (a0 : List Int) (a1 : Int) (a2 : Int) (a3 : List Int) (a4 : List Int) (a5 : Int) (a6 : Int) (a7 : List Int) (a8 : List Bool) (x0 : Int) (v : (Sum Int Unit)) : Prop := (fun v => go Try.prog 19 (PostR (fun r => Fnl [.t 4] (en_slices_IndexFunc_uint64_uint64_frame_bare_1 r) []) (.exit 0) (fun x : Unit => ⟨[], []⟩) v) [.l c170_19] .norm ⟨[(8, nI x0), (7, nI (a0.length : Int)), (0, lU a0), (1, .d (.clo (.func 132) [] [.cp [.int .i64 a1, .int .i64 a2, .lst (List.map (D.int .i64) a3), .lst (List.map (D.int .i64) a4), .int .i64 a5, .int .i64 a6, .lst (List.map (D.int .u64) a7), .lst (List.map D.bool a8)] 0]))], []⟩) v
theorem ok_slices_IndexFunc_uint64_uint64_frame_bare_1_l0_ok (a0 : List Int) (a1 : Int) (a2 : Int) (a3 : List Int) (a4 : List Int) (a5 : Int) (a6 : Int) (a7 : List Int) (a8 : List Bool) (x0 : Int) : Ok (M_slices_IndexFunc_uint64_uint64_frame_bare_1_l0 a0 a1 a2 a3 a4 a5 a6 a7 a8 x0) (q_ok_slices_IndexFunc_uint64_uint64_frame_bare_1_l0_ok a0 a1 a2 a3 a4 a5 a6 a7 a8 x0) := by
  refine M_slices_IndexFunc_uint64_uint64_frame_bare_1_l0.partial_correctness a0 a1 a2 a3 a4 a5 a6 a7 a8 (q_ok_slices_IndexFunc_uint64_uint64_frame_bare_1_l0_ok a0 a1 a2 a3 a4 a5 a6 a7 a8) ?_ x0
  clear x0
  intro f' IH x0
  refine okI ?_
  unfold q_ok_slices_IndexFunc_uint64_uint64_frame_bare_1_l0_ok at *
  refine Av 1 [.c c170_19, .l c170_19] ⟨[(8, nI x0), (7, nI (a0.length : Int)), (0, lU a0), (1, .d (.clo (.func 132) [] [.cp [.int .i64 a1, .int .i64 a2, .lst (List.map (D.int .i64) a3), .lst (List.map (D.int .i64) a4), .int .i64 a5, .int .i64 a6, .lst (List.map (D.int .u64) a7), .lst (List.map D.bool a8)] 0]))], []⟩ ?_
  refine Av 5 [.c c170_5, .c c170_17, .l c170_19] ⟨[(9, bB (decide (x0 < (a0.length : Int)))), (8, nI x0), (7, nI (a0.length : Int)), (0, lU a0), (1, .d (.clo (.func 132) [] [.cp [.int .i64 a1, .int .i64 a2, .lst (List.map (D.int .i64) a3), .lst (List.map (D.int .i64) a4), .int .i64 a5, .int .i64 a6, .lst (List.map (D.int .u64) a7), .lst (List.map D.bool a8)] 0]))], []⟩ ?_
  refine L_split 9 rfl (fun _ => ?_) (fun _ => ?_)
  · refine Av 14 [.o false (o170_4.drop 3), .c c170_12, .b 1, .c c170_16, .l c170_19] ⟨[(13, nI x0), (12, lU a0), (11, .d (.clo (.func 132) [] [.cp [.int .i64 a1, .int .i64 a2, .lst (List.map (D.int .i64) a3), .lst (List.map (D.int .i64) a4), .int .i64 a5, .int .i64 a6, .lst (List.map (D.int .u64) a7), .lst (List.map D.bool a8)] 0])), (5, nI x0), (8, nI x0), (7, nI (a0.length : Int)), (0, lU a0), (1, .d (.clo (.func 132) [] [.cp [.int .i64 a1, .int .i64 a2, .lst (List.map (D.int .i64) a3), .lst (List.map (D.int .i64) a4), .int .i64 a5, .int .i64 a6, .lst (List.map (D.int .u64) a7), .lst (List.map D.bool a8)] 0]))], []⟩ ?_
    refine L_idxD (enc := D.int .u64) (l := a0) (iv := x0) trivial rfl rfl (fun _ => rfl) (fun hc403 => ?_)
    refine Av 1 [.o false (o170_4.drop 5), .c c170_12, .b 1, .c c170_16, .l c170_19] ⟨[(15, nU (at' a0 x0)), (11, .d (.clo (.func 132) [] [.cp [.int .i64 a1, .int .i64 a2, .lst (List.map (D.int .i64) a3), .lst (List.map (D.int .i64) a4), .int .i64 a5, .int .i64 a6, .lst (List.map (D.int .u64) a7), .lst (List.map D.bool a8)] 0])), (5, nI x0), (8, nI x0), (7, nI (a0.length : Int)), (0, lU a0), (1, .d (.clo (.func 132) [] [.cp [.int .i64 a1, .int .i64 a2, .lst (List.map (D.int .i64) a3), .lst (List.map (D.int .i64) a4), .int .i64 a5, .int .i64 a6, .lst (List.map (D.int .u64) a7), .lst (List.map D.bool a8)] 0]))], []⟩ ?_
    refine L_callv (ok_frame_bare_1_c (at' a0 x0) a1 a2 a3 a4 a5 a6 a7 a8) trivial (.inr ⟨_, _, rfl, rfl, rfl⟩) rfl rfl (fun _ => rfl) (fun _ => trivial) (fun r1 => ?_)
    refine Av 1 [.c c170_12, .b 1, .c c170_16, .l c170_19] ⟨[(16, bB r1), (5, nI x0), (8, nI x0), (7, nI (a0.length : Int)), (0, lU a0), (1, .d (.clo (.func 132) [] [.cp [.int .i64 a1, .int .i64 a2, .lst (List.map (D.int .i64) a3), .lst (List.map (D.int .i64) a4), .int .i64 a5, .int .i64 a6, .lst (List.map (D.int .u64) a7), .lst (List.map D.bool a8)] 0]))], []⟩ ?_
    refine L_split 16 decT (fun _ => ?_) (fun _ => ?_)
    · refine Avk 10 [] .ret ⟨[(4, nI x0)], []⟩ ?_
      exact L_retR
    · refine Av 7 [.l c170_19] ⟨[(8, nI (IntKind.i64.wrap (x0 + 1))), (7, nI (a0.length : Int)), (0, lU a0), (1, .d (.clo (.func 132) [] [.cp [.int .i64 a1, .int .i64 a2, .lst (List.map (D.int .i64) a3), .lst (List.map (D.int .i64) a4), .int .i64 a5, .int .i64 a6, .lst (List.map (D.int .u64) a7), .lst (List.map D.bool a8)] 0]))], []⟩ ?_
      exact L_again (IH (IntKind.i64.wrap (x0 + 1)))
  · refine Avk 4 [] (.exit 0) ⟨[], []⟩ ?_
    exact L_endR
theorem ok_slices_IndexFunc_uint64_uint64_frame_bare_1 (a0 : List Int) (a1 : Int) (a2 : Int) (a3 : List Int) (a4 : List Int) (a5 : Int) (a6 : Int) (a7 : List Int) (a8 : List Bool) : ∀ v, M_slices_IndexFunc_uint64_uint64_frame_bare_1 a0 a1 a2 a3 a4 a5 a6 a7 a8 = some v → EvF Try.prog 170 [.lst (List.map (D.int .u64) a0), .clo (.func 132) [] [.cp [.int .i64 a1, .int .i64 a2, .lst (List.map (D.int .i64) a3), .lst (List.map (D.int .i64) a4), .int .i64 a5, .int .i64 a6, .lst (List.map (D.int .u64) a7), .lst (List.map D.bool a8)] 0]] (en_slices_IndexFunc_uint64_uint64_frame_bare_1 v) := by
  intro v hv
  refine EvF_go fn170 (Nat.le_of_ble_eq_true rfl) ?_
  suffices h : Ok (M_slices_IndexFunc_uint64_uint64_frame_bare_1 a0 a1 a2 a3 a4 a5 a6 a7 a8) fun v => go Try.prog 19 (Fnl [.t 4] (en_slices_IndexFunc_uint64_uint64_frame_bare_1 v) []) [.c c170_27] .norm (initSt (List.map PV.d [.lst (List.map (D.int .u64) a0), .clo (.func 132) [] [.cp [.int .i64 a1, .int .i64 a2, .lst (List.map (D.int .i64) a3), .lst (List.map (D.int .i64) a4), .int .i64 a5, .int .i64 a6, .lst (List.map (D.int .u64) a7), .lst (List.map D.bool a8)] 0]]) []) from h v hv
  unfold M_slices_IndexFunc_uint64_uint64_frame_bare_1
  refine Av 8 [.o false (o170_1.drop 1), .c c170_21, .c c170_25] ⟨[(6, lU a0), (0, lU a0), (1, .d (.clo (.func 132) [] [.cp [.int .i64 a1, .int .i64 a2, .lst (List.map (D.int .i64) a3), .lst (List.map (D.int .i64) a4), .int .i64 a5, .int .i64 a6, .lst (List.map (D.int .u64) a7), .lst (List.map D.bool a8)] 0]))], []⟩ ?_
  refine L_len (enc := D.int .u64) (l := a0) trivial rfl ?_
  refine Av 4 [.l c170_19, .b 0, .c c170_25] ⟨[(8, nI 0), (7, nI (a0.length : Int)), (0, lU a0), (1, .d (.clo (.func 132) [] [.cp [.int .i64 a1, .int .i64 a2, .lst (List.map (D.int .i64) a3), .lst (List.map (D.int .i64) a4), .int .i64 a5, .int .i64 a6, .lst (List.map (D.int .u64) a7), .lst (List.map D.bool a8)] 0]))], []⟩ ?_
  refine L_pieceR (fs := [.l c170_19]) (ks := [.b 0, .c c170_25]) (ok_slices_IndexFunc_uint64_uint64_frame_bare_1_l0_ok a0 a1 a2 a3 a4 a5 a6 a7 a8 0) L_thru (fun j2 => ?_)
  refine Avk 6 [] .ret ⟨[(4, nI (-1))], []⟩ ?_
  exact L_ret
/-- slices.ContainsFunc[[]uint64,uint64]. -/
def en_slices_ContainsFunc_uint64_uint64_frame_bare_1 (v : Bool) : PV := bB v
def o131_0 : List AOper := [mb 4 0 false]
def o131_1 : List AOper := [mv 5 100 0, mv 6 101 1, cl' 7 102 170 [.t 5, .t 6], bc 8 103 .geq 7 0, mv 4 104 8]
def c131_4 : AC := .seq (.reg o131_0) (.seq (.reg o131_1) .ret)
theorem fn131 : fnA Try.prog 131 = some (9, [.t 4], c131_4) := by kernel_rfl
theorem ok_slices_ContainsFunc_uint64_uint64_frame_bare_1 (a0 : List Int) (a1 : Int) (a2 : Int) (a3 : List Int) (a4 : List Int) (a5 : Int) (a6 : Int) (a7 : List Int) (a8 : List Bool) : ∀ v, M_slices_ContainsFunc_uint64_uint64_frame_bare_1 a0 a1 a2 a3 a4 a5 a6 a7 a8 = some v → EvF Try.prog 131 [.lst (List.map (D.int .u64) a0), .clo (.func 132) [] [.cp [.int .i64 a1, .int .i64 a2, .lst (List.map (D.int .i64) a3), .lst (List.map (D.int .i64) a4), .int .i64 a5, .int .i64 a6, .lst (List.map (D.int .u64) a7), .lst (List.map D.bool a8)] 0]] (en_slices_ContainsFunc_uint64_uint64_frame_bare_1 v) := by
  intro v hv
  refine EvF_go fn131 (Nat.le_of_ble_eq_true rfl) ?_
  suffices h : Ok (M_slices_ContainsFunc_uint64_uint64_frame_bare_1 a0 a1 a2 a3 a4 a5 a6 a7 a8) fun v => go Try.prog 9 (Fnl [.t 4] (en_slices_ContainsFunc_uint64_uint64_frame_bare_1 v) []) [.c c131_4] .norm (initSt (List.map PV.d [.lst (List.map (D.int .u64) a0), .clo (.func 132) [] [.cp [.int .i64 a1, .int .i64 a2, .lst (List.map (D.int .i64) a3), .lst (List.map (D.int .i64) a4), .int .i64 a5, .int .i64 a6, .lst (List.map (D.int .u64) a7), .lst (List.map D.bool a8)] 0]]) []) from h v hv
  unfold M_slices_ContainsFunc_uint64_uint64_frame_bare_1
  refine Av 8 [.o false (o131_1.drop 2), .c .ret] ⟨[(6, .d (.clo (.func 132) [] [.cp [.int .i64 a1, .int .i64 a2, .lst (List.map (D.int .i64) a3), .lst (List.map (D.int .i64) a4), .int .i64 a5, .int .i64 a6, .lst (List.map (D.int .u64) a7), .lst (List.map D.bool a8)] 0])), (5, lU a0)], []⟩ ?_
  refine L_call (ok_slices_IndexFunc_uint64_uint64_frame_bare_1 a0 a1 a2 a3 a4 a5 a6 a7 a8) trivial rfl (fun _ => rfl) (fun _ => trivial) (fun r1 => ?_)
  refine Avk 4 [] .ret ⟨[(4, bB (decide (r1 ≥ 0)))], []⟩ ?_
  exact L_ret
/-- thrum/frame.bare. -/
def en_frame_bare (v : Int × Int × (List Int) × (List Int) × Int × Int × (List Int) × (List Bool) × Bool) : PV := .tup [.d (.agg [.int .i64 v.1, .int .i64 v.2.1, .lst (List.map (D.int .i64) v.2.2.1), .lst (List.map (D.int .i64) v.2.2.2.1), .int .i64 v.2.2.2.2.1, .int .i64 v.2.2.2.2.2.1, .lst (List.map (D.int .u64) v.2.2.2.2.2.2.1), .lst (List.map D.bool v.2.2.2.2.2.2.2.1)]), bB v.2.2.2.2.2.2.2.2]
def o83_0 : List AOper := [⟨some 1, none, 0, .box 51 (.t 0)⟩, ⟨some 2, none, 1, .alloc 51 8 [.int .i64 0, .int .i64 0, .lst [], .lst [], .int .i64 0, .int .i64 0, .lst [], .lst []]⟩, mb 3 2 false]
def o83_1 : List AOper := [⟨some 6, none, 100, .load true 8 (.t 1)⟩, ⟨some 4, none, 101, .alloc 51 8 [.int .i64 0, .int .i64 0, .lst [], .lst [], .int .i64 0, .int .i64 0, .lst [], .lst []]⟩, ⟨none, none, 102, .store 8 (.t 4) (.t 6)⟩]
def o83_2 : List AOper := [⟨some 7, none, 200, .fieldA 0 (.t 4)⟩, ⟨none, none, 201, .store 1 (.t 7) (.c (.d (.int .i64 0)))⟩, ⟨some 8, none, 202, .fieldA 1 (.t 4)⟩, ⟨none, none, 203, .store 1 (.t 8) (.c (.d (.int .i64 0)))⟩]
def o83_3 : List AOper := [⟨some 9, none, 300, .fieldA 1 (.t 1)⟩, ld 10 301 9, bc 11 302 .gtr 10 0, mv 12 303 11, ⟨some 13, some (12, true), 304, .fieldA 1 (.t 1)⟩, ⟨some 14, some (12, true), 305, .load false 1 (.t 13)⟩, ⟨some 15, some (12, true), 306, .bin .leq .int (.t 14) (.c (.d (.int .i64 4096)))⟩, pk 16 307 12 15 false, mv 5 308 16]
def o83_4 : List AOper := [⟨some 17, none, 400, .fieldA 0 (.t 1)⟩, ld 18 401 17]
def o83_5 : List AOper := [bc 20 500 .eql 18 0, mv 19 501 20]
def o83_6 : List AOper := [bc 22 600 .eql 18 1, mv 21 601 22]
def o83_7 : List AOper := [bc 24 700 .eql 18 2, mv 23 701 24]
def o83_8 : List AOper := [bc 26 800 .eql 18 3, mv 25 801 26]
def o83_9 : List AOper := [mv 27 900 5, mv 28 901 27, ⟨some 29, some (28, true), 902, .fieldA 3 (.t 1)⟩, ⟨some 30, some (28, true), 903, .load false 1 (.t 29)⟩, ⟨some 31, some (28, true), 904, .len (.t 30)⟩, ⟨some 32, some (28, true), 905, .fieldA 1 (.t 1)⟩, ⟨some 33, some (28, true), 906, .load false 1 (.t 32)⟩, ⟨some 34, some (28, true), 907, .bin .eql .int (.t 31) (.t 33)⟩, pk 35 908 28 34 false, mv 5 909 35]
def o83_10 : List AOper := [⟨some 36, none, 1000, .fieldA 3 (.t 4)⟩, ⟨none, none, 1001, .store 1 (.t 36) (.c .nils)⟩]
def o83_11 : List AOper := [mv 37 1100 5, mv 38 1101 37, ⟨some 39, some (38, true), 1102, .fieldA 1 (.t 1)⟩, ⟨some 40, some (38, true), 1103, .load false 1 (.t 39)⟩, ⟨some 41, some (38, true), 1104, .fieldA 2 (.t 1)⟩, ⟨some 42, some (38, true), 1105, .load false 1 (.t 41)⟩, ⟨some 43, some (38, true), 1106, .call 106 [.t 40, .t 42]⟩, ⟨some 44, some (38, true), 1107, .bin .eql .int (.t 43) (.c (.d (.int .i64 0)))⟩, pk 45 1108 38 44 false, mv 46 1109 45, ⟨some 47, some (46, true), 1110, .fieldA 2 (.t 1)⟩, ⟨some 48, some (46, true), 1111, .load false 1 (.t 47)⟩, ⟨some 49, some (46, true), 1112, .len (.t 48)⟩, ⟨some 50, some (46, true), 1113, .fieldA 3 (.t 1)⟩, ⟨some 51, some (46, true), 1114, .load false 1 (.t 50)⟩, ⟨some 52, some (46, true), 1115, .len (.t 51)⟩, ⟨some 53, some (46, true), 1116, .bin .eql .int (.t 49) (.t 52)⟩, pk 54 1117 46 53 false, mv 5 1118 54]
def o83_12 : List AOper := [⟨some 55, none, 1200, .fieldA 2 (.t 4)⟩, ⟨none, none, 1201, .store 1 (.t 55) (.c .nils)⟩, ⟨some 56, none, 1202, .fieldA 3 (.t 4)⟩, ⟨none, none, 1203, .store 1 (.t 56) (.c .nils)⟩]
def o83_13 : List AOper := [mv 57 1300 5, mv 58 1301 57, ⟨some 59, some (58, true), 1302, .fieldA 5 (.t 1)⟩, ⟨some 60, some (58, true), 1303, .load false 1 (.t 59)⟩, ⟨some 61, some (58, true), 1304, .bin .gtr .int (.t 60) (.c (.d (.int .i64 0)))⟩, pk 62 1305 58 61 false, mv 63 1306 62, ⟨some 64, some (63, true), 1307, .fieldA 5 (.t 1)⟩, ⟨some 65, some (63, true), 1308, .load false 1 (.t 64)⟩, ⟨some 66, some (63, true), 1309, .bin .leq .int (.t 65) (.c (.d (.int .i64 8)))⟩, pk 67 1310 63 66 false, mv 68 1311 67, ⟨some 69, some (68, true), 1312, .fieldA 6 (.t 1)⟩, ⟨some 70, some (68, true), 1313, .load false 1 (.t 69)⟩, ⟨some 71, some (68, true), 1314, .len (.t 70)⟩, ⟨some 72, some (68, true), 1315, .fieldA 1 (.t 1)⟩, ⟨some 73, some (68, true), 1316, .load false 1 (.t 72)⟩, ⟨some 74, some (68, true), 1317, .bin .eql .int (.t 71) (.t 73)⟩, pk 75 1318 68 74 false, mv 76 1319 75, ⟨some 77, some (76, true), 1320, .fieldA 6 (.t 1)⟩, ⟨some 78, some (76, true), 1321, .load false 1 (.t 77)⟩, ⟨some 79, some (76, true), 1322, .mkfn (.func 132) [] [.t 1]⟩, ⟨some 80, some (76, true), 1323, .call 131 [.t 78, .t 79]⟩, ⟨some 81, some (76, true), 1324, .un .not (.t 80)⟩, pk 82 1325 76 81 false, mv 5 1326 82]
def o83_14 : List AOper := [⟨some 83, none, 1400, .fieldA 6 (.t 4)⟩, ⟨none, none, 1401, .store 1 (.t 83) (.c .nils)⟩, ⟨some 84, none, 1402, .fieldA 5 (.t 4)⟩, ⟨none, none, 1403, .store 1 (.t 84) (.c (.d (.int .i64 0)))⟩]
def o83_15 : List AOper := [mv 85 1500 5, mv 86 1501 85, ⟨some 87, some (86, true), 1502, .fieldA 4 (.t 1)⟩, ⟨some 88, some (86, true), 1503, .load false 1 (.t 87)⟩, ⟨some 89, some (86, true), 1504, .bin .geq .int (.t 88) (.c (.d (.int .i64 0)))⟩, pk 90 1505 86 89 false, mv 91 1506 90, ⟨some 92, some (91, true), 1507, .fieldA 7 (.t 1)⟩, ⟨some 93, some (91, true), 1508, .load false 1 (.t 92)⟩, ⟨some 94, some (91, true), 1509, .len (.t 93)⟩, ⟨some 95, some (91, true), 1510, .fieldA 1 (.t 1)⟩, ⟨some 96, some (91, true), 1511, .load false 1 (.t 95)⟩, ⟨some 97, some (91, true), 1512, .bin .eql .int (.t 94) (.t 96)⟩, pk 98 1513 91 97 false, mv 5 1514 98]
def o83_16 : List AOper := [⟨some 99, none, 1600, .fieldA 4 (.t 4)⟩, ⟨none, none, 1601, .store 1 (.t 99) (.c (.d (.int .i64 0)))⟩, ⟨some 100, none, 1602, .fieldA 7 (.t 4)⟩, ⟨none, none, 1603, .store 1 (.t 100) (.c .nils)⟩]
def o83_17 : List AOper := [mb 5 1700 false]
def o83_18 : List AOper := [⟨some 101, none, 1800, .load true 8 (.t 4)⟩, mv 102 1801 5, ⟨none, none, 1802, .store 8 (.t 2) (.t 101)⟩, mv 3 1803 102]
def o83_3t4_8 : List AOper := (o83_3.drop 4).take 4
def o83_9t2_9 : List AOper := (o83_9.drop 2).take 7
def o83_11t2_9 : List AOper := (o83_11.drop 2).take 7
def o83_11t10_18 : List AOper := (o83_11.drop 10).take 8
def o83_13t2_6 : List AOper := (o83_13.drop 2).take 4
def o83_13t7_11 : List AOper := (o83_13.drop 7).take 4
def o83_13t12_19 : List AOper := (o83_13.drop 12).take 7
def o83_13t20_26 : List AOper := (o83_13.drop 20).take 6
def o83_15t2_6 : List AOper := (o83_15.drop 2).take 4
def o83_15t7_14 : List AOper := (o83_15.drop 7).take 7
def c83_8 : AC := .cond (.t 19) (.exit 1) .skip
def c83_13 : AC := .cond (.t 21) (.exit 2) .skip
def c83_18 : AC := .cond (.t 23) (.exit 3) .skip
def c83_23 : AC := .cond (.t 25) (.exit 4) .skip
def c83_24 : AC := .seq (.reg o83_8) c83_23
def c83_25 : AC := .seq (.seq (.reg o83_7) c83_18) c83_24
def c83_26 : AC := .seq (.seq (.reg o83_6) c83_13) c83_25
def c83_32 : AC := .reg o83_10
def c83_35 : AC := .seq (.seq (.reg o83_9) c83_32) (.exit 0)
def c83_39 : AC := .reg o83_12
def c83_42 : AC := .seq (.seq (.reg o83_11) c83_39) (.exit 0)
def c83_46 : AC := .reg o83_14
def c83_47 : AC := .seq (.reg o83_13) c83_46
def c83_51 : AC := .reg o83_16
def c83_54 : AC := .seq (.seq (.reg o83_15) c83_51) (.exit 0)
def c83_59 : AC := .seq (.reg o83_17) (.exit 0)
def c83_65 : AC := .seq (.reg o83_18) .ret
def c83_66 : AC := .seq (.seq (.reg o83_4) (.block 0 (.seq (.block 5 (.seq (.block 4 (.seq (.block 3 (.seq (.block 2 (.seq (.block 1 (.seq (.seq (.seq (.reg o83_5) c83_8) c83_26) (.exit 5))) c83_35)) c83_42)) c83_47)) c83_54)) c83_59))) c83_65
def c83_70 : AC := .seq (.reg o83_0) (.seq (.reg o83_1) (.seq (.reg o83_2) (.seq (.reg o83_3) c83_66)))
theorem fn83 : fnA Try.prog 83 = some (103, [.c 2 true 8, .t 3], c83_70) := by kernel_rfl
theorem ok_frame_bare (a0 : T_api_Sent) : ∀ v, M_frame_bare a0 = some v → EvF Try.prog 83 [.agg [.int .i64 a0.F_Scheme, .int .i64 a0.F_Dim, .lst (List.map (D.int .i64) a0.F_L), .lst (List.map (D.int .i64) a0.F_V), .int .i64 a0.F_Scale, .int .i64 a0.F_Wide, .lst (List.map (D.int .u64) a0.F_Lev), .lst (List.map D.bool a0.F_Neg)]] (en_frame_bare v) := by
  intro v hv
  refine EvF_go fn83 (Nat.le_of_ble_eq_true rfl) ?_
  suffices h : Ok (M_frame_bare a0) fun v => go Try.prog 103 (Fnl [.c 2 true 8, .t 3] (en_frame_bare v) []) [.c c83_70] .norm (initSt (List.map PV.d [.agg [.int .i64 a0.F_Scheme, .int .i64 a0.F_Dim, .lst (List.map (D.int .i64) a0.F_L), .lst (List.map (D.int .i64) a0.F_V), .int .i64 a0.F_Scale, .int .i64 a0.F_Wide, .lst (List.map (D.int .u64) a0.F_Lev), .lst (List.map D.bool a0.F_Neg)]]) []) from h v hv
  unfold M_frame_bare
  refine Av 25 [.o false (o83_3.drop 4), .c c83_66] ⟨[(12, bB (decide (a0.F_Dim > 0))), (4, .ptr (.s 1631) 0), (2, .ptr (.s 31) 0), (1, .ptr (.s 15) 0)], [(.s 1631, [nI 0, nI 0, lI a0.F_L, lI a0.F_V, nI a0.F_Scale, nI a0.F_Wide, lU a0.F_Lev, lB a0.F_Neg]), (.s 31, [nI 0, nI 0, .nils, .nils, nI 0, nI 0, .nils, .nils]), (.s 15, [nI a0.F_Scheme, nI a0.F_Dim, lI a0.F_L, lI a0.F_V, nI a0.F_Scale, nI a0.F_Wide, lU a0.F_Lev, lB a0.F_Neg])]⟩ ?_
  refine L_take 4 o83_3t4_8 (o83_3.drop 8) ?_
  refine L_join [.o false o83_3t4_8] [.o false (o83_3.drop 8), .c c83_66] (fun x : Bool => ⟨[(16, bB x), (4, .ptr (.s 1631) 0), (2, .ptr (.s 31) 0), (1, .ptr (.s 15) 0)], [(.s 1631, [nI 0, nI 0, lI a0.F_L, lI a0.F_V, nI a0.F_Scale, nI a0.F_Wide, lU a0.F_Lev, lB a0.F_Neg]), (.s 31, [nI 0, nI 0, .nils, .nils, nI 0, nI 0, .nils, .nils]), (.s 15, [nI a0.F_Scheme, nI a0.F_Dim, lI a0.F_L, lI a0.F_V, nI a0.F_Scale, nI a0.F_Wide, lU a0.F_Lev, lB a0.F_Neg])]⟩) ?_ (fun j1 => ?_)
  · refine L_split 12 rfl (fun _ => ?_) (fun _ => ?_)
    · refine Av 5 [] ⟨[(16, bB (decide (a0.F_Dim ≤ 4096))), (4, .ptr (.s 1631) 0), (2, .ptr (.s 31) 0), (1, .ptr (.s 15) 0)], [(.s 1631, [nI 0, nI 0, lI a0.F_L, lI a0.F_V, nI a0.F_Scale, nI a0.F_Wide, lU a0.F_Lev, lB a0.F_Neg]), (.s 31, [nI 0, nI 0, .nils, .nils, nI 0, nI 0, .nils, .nils]), (.s 15, [nI a0.F_Scheme, nI a0.F_Dim, lI a0.F_L, lI a0.F_V, nI a0.F_Scale, nI a0.F_Wide, lU a0.F_Lev, lB a0.F_Neg])]⟩ ?_
      exact L_end
    · refine Av 5 [] ⟨[(16, bB false), (4, .ptr (.s 1631) 0), (2, .ptr (.s 31) 0), (1, .ptr (.s 15) 0)], [(.s 1631, [nI 0, nI 0, lI a0.F_L, lI a0.F_V, nI a0.F_Scale, nI a0.F_Wide, lU a0.F_Lev, lB a0.F_Neg]), (.s 31, [nI 0, nI 0, .nils, .nils, nI 0, nI 0, .nils, .nils]), (.s 15, [nI a0.F_Scheme, nI a0.F_Dim, lI a0.F_L, lI a0.F_V, nI a0.F_Scale, nI a0.F_Wide, lU a0.F_Lev, lB a0.F_Neg])]⟩ ?_
      exact L_end
  · refine Av 26 [.c c83_8, .c c83_26, .c (.exit 5), .b 1, .c c83_35, .b 2, .c c83_42, .b 3, .c c83_47, .b 4, .c c83_54, .b 5, .c c83_59, .b 0, .c c83_65] ⟨[(19, bB (a0.F_Scheme == 0)), (18, nI a0.F_Scheme), (5, bB j1), (4, .ptr (.s 1631) 0), (2, .ptr (.s 31) 0), (1, .ptr (.s 15) 0)], [(.s 1631, [nI 0, nI 0, lI a0.F_L, lI a0.F_V, nI a0.F_Scale, nI a0.F_Wide, lU a0.F_Lev, lB a0.F_Neg]), (.s 31, [nI 0, nI 0, .nils, .nils, nI 0, nI 0, .nils, .nils]), (.s 15, [nI a0.F_Scheme, nI a0.F_Dim, lI a0.F_L, lI a0.F_V, nI a0.F_Scale, nI a0.F_Wide, lU a0.F_Lev, lB a0.F_Neg])]⟩ ?_
    refine L_split 19 decE (fun _ => ?_) (fun _ => ?_)
    · refine Av 10 [.o false (o83_9.drop 2), .c c83_32, .c (.exit 0), .b 2, .c c83_42, .b 3, .c c83_47, .b 4, .c c83_54, .b 5, .c c83_59, .b 0, .c c83_65] ⟨[(28, bB j1), (4, .ptr (.s 1631) 0), (2, .ptr (.s 31) 0), (1, .ptr (.s 15) 0)], [(.s 1631, [nI 0, nI 0, lI a0.F_L, lI a0.F_V, nI a0.F_Scale, nI a0.F_Wide, lU a0.F_Lev, lB a0.F_Neg]), (.s 31, [nI 0, nI 0, .nils, .nils, nI 0, nI 0, .nils, .nils]), (.s 15, [nI a0.F_Scheme, nI a0.F_Dim, lI a0.F_L, lI a0.F_V, nI a0.F_Scale, nI a0.F_Wide, lU a0.F_Lev, lB a0.F_Neg])]⟩ ?_
      refine L_take 7 o83_9t2_9 (o83_9.drop 9) ?_
      refine L_join [.o false o83_9t2_9] [.o false (o83_9.drop 9), .c c83_32, .c (.exit 0), .b 2, .c c83_42, .b 3, .c c83_47, .b 4, .c c83_54, .b 5, .c c83_59, .b 0, .c c83_65] (fun x : Bool => ⟨[(35, bB x), (4, .ptr (.s 1631) 0), (2, .ptr (.s 31) 0)], [(.s 1631, [nI 0, nI 0, lI a0.F_L, lI a0.F_V, nI a0.F_Scale, nI a0.F_Wide, lU a0.F_Lev, lB a0.F_Neg]), (.s 31, [nI 0, nI 0, .nils, .nils, nI 0, nI 0, .nils, .nils])]⟩) ?_ (fun j2 => ?_)
      · refine L_split 28 decT (fun _ => ?_) (fun _ => ?_)
        · refine Av 2 [.o false (o83_9t2_9.drop 2)] ⟨[(30, lI a0.F_V), (28, bB true), (4, .ptr (.s 1631) 0), (2, .ptr (.s 31) 0), (1, .ptr (.s 15) 0)], [(.s 1631, [nI 0, nI 0, lI a0.F_L, lI a0.F_V, nI a0.F_Scale, nI a0.F_Wide, lU a0.F_Lev, lB a0.F_Neg]), (.s 31, [nI 0, nI 0, .nils, .nils, nI 0, nI 0, .nils, .nils]), (.s 15, [nI a0.F_Scheme, nI a0.F_Dim, lI a0.F_L, lI a0.F_V, nI a0.F_Scale, nI a0.F_Wide, lU a0.F_Lev, lB a0.F_Neg])]⟩ ?_
          refine L_len (enc := D.int .i64) (l := a0.F_V) rfl rfl ?_
          refine Av 5 [] ⟨[(35, bB ((a0.F_V.length : Int) == a0.F_Dim)), (4, .ptr (.s 1631) 0), (2, .ptr (.s 31) 0)], [(.s 1631, [nI 0, nI 0, lI a0.F_L, lI a0.F_V, nI a0.F_Scale, nI a0.F_Wide, lU a0.F_Lev, lB a0.F_Neg]), (.s 31, [nI 0, nI 0, .nils, .nils, nI 0, nI 0, .nils, .nils])]⟩ ?_
          exact L_end
        · refine Av 8 [] ⟨[(35, bB false), (4, .ptr (.s 1631) 0), (2, .ptr (.s 31) 0)], [(.s 1631, [nI 0, nI 0, lI a0.F_L, lI a0.F_V, nI a0.F_Scale, nI a0.F_Wide, lU a0.F_Lev, lB a0.F_Neg]), (.s 31, [nI 0, nI 0, .nils, .nils, nI 0, nI 0, .nils, .nils])]⟩ ?_
          exact L_end
      · refine Avk 24 [] .ret ⟨[(3, bB j2), (2, .ptr (.s 31) 0)], [(.s 31, [nI 0, nI 0, lI a0.F_L, .nils, nI a0.F_Scale, nI a0.F_Wide, lU a0.F_Lev, lB a0.F_Neg])]⟩ ?_
        exact L_ret
    · refine Av 8 [.c c83_13, .c c83_25, .c (.exit 5), .b 1, .c c83_35, .b 2, .c c83_42, .b 3, .c c83_47, .b 4, .c c83_54, .b 5, .c c83_59, .b 0, .c c83_65] ⟨[(21, bB (a0.F_Scheme == 1)), (18, nI a0.F_Scheme), (5, bB j1), (4, .ptr (.s 1631) 0), (2, .ptr (.s 31) 0), (1, .ptr (.s 15) 0)], [(.s 1631, [nI 0, nI 0, lI a0.F_L, lI a0.F_V, nI a0.F_Scale, nI a0.F_Wide, lU a0.F_Lev, lB a0.F_Neg]), (.s 31, [nI 0, nI 0, .nils, .nils, nI 0, nI 0, .nils, .nils]), (.s 15, [nI a0.F_Scheme, nI a0.F_Dim, lI a0.F_L, lI a0.F_V, nI a0.F_Scale, nI a0.F_Wide, lU a0.F_Lev, lB a0.F_Neg])]⟩ ?_
      refine L_split 21 decE (fun _ => ?_) (fun _ => ?_)
      · refine Av 12 [.o false (o83_11.drop 2), .c c83_39, .c (.exit 0), .b 3, .c c83_47, .b 4, .c c83_54, .b 5, .c c83_59, .b 0, .c c83_65] ⟨[(38, bB j1), (4, .ptr (.s 1631) 0), (2, .ptr (.s 31) 0), (1, .ptr (.s 15) 0)], [(.s 1631, [nI 0, nI 0, lI a0.F_L, lI a0.F_V, nI a0.F_Scale, nI a0.F_Wide, lU a0.F_Lev, lB a0.F_Neg]), (.s 31, [nI 0, nI 0, .nils, .nils, nI 0, nI 0, .nils, .nils]), (.s 15, [nI a0.F_Scheme, nI a0.F_Dim, lI a0.F_L, lI a0.F_V, nI a0.F_Scale, nI a0.F_Wide, lU a0.F_Lev, lB a0.F_Neg])]⟩ ?_
        refine L_take 7 o83_11t2_9 (o83_11.drop 9) ?_
        refine L_join [.o false o83_11t2_9] [.o false (o83_11.drop 9), .c c83_39, .c (.exit 0), .b 3, .c c83_47, .b 4, .c c83_54, .b 5, .c c83_59, .b 0, .c c83_65] (fun x : Bool => ⟨[(45, bB x), (4, .ptr (.s 1631) 0), (2, .ptr (.s 31) 0), (1, .ptr (.s 15) 0)], [(.s 1631, [nI 0, nI 0, lI a0.F_L, lI a0.F_V, nI a0.F_Scale, nI a0.F_Wide, lU a0.F_Lev, lB a0.F_Neg]), (.s 31, [nI 0, nI 0, .nils, .nils, nI 0, nI 0, .nils, .nils]), (.s 15, [nI a0.F_Scheme, nI a0.F_Dim, lI a0.F_L, lI a0.F_V, nI a0.F_Scale, nI a0.F_Wide, lU a0.F_Lev, lB a0.F_Neg])]⟩) ?_ (fun j4 => ?_)
        · refine L_split 38 decT (fun _ => ?_) (fun _ => ?_)
          · refine Av 4 [.o false (o83_11t2_9.drop 4)] ⟨[(42, lI a0.F_L), (38, bB true), (40, nI a0.F_Dim), (4, .ptr (.s 1631) 0), (2, .ptr (.s 31) 0), (1, .ptr (.s 15) 0)], [(.s 1631, [nI 0, nI 0, lI a0.F_L, lI a0.F_V, nI a0.F_Scale, nI a0.F_Wide, lU a0.F_Lev, lB a0.F_Neg]), (.s 31, [nI 0, nI 0, .nils, .nils, nI 0, nI 0, .nils, .nils]), (.s 15, [nI a0.F_Scheme, nI a0.F_Dim, lI a0.F_L, lI a0.F_V, nI a0.F_Scale, nI a0.F_Wide, lU a0.F_Lev, lB a0.F_Neg])]⟩ ?_
            refine L_call (ok_index_Check a0.F_Dim a0.F_L) rfl rfl (fun _ => rfl) (fun _ => trivial) (fun r3 => ?_)
            refine Av 3 [] ⟨[(45, bB (r3 == 0)), (4, .ptr (.s 1631) 0), (2, .ptr (.s 31) 0), (1, .ptr (.s 15) 0)], [(.s 1631, [nI 0, nI 0, lI a0.F_L, lI a0.F_V, nI a0.F_Scale, nI a0.F_Wide, lU a0.F_Lev, lB a0.F_Neg]), (.s 31, [nI 0, nI 0, .nils, .nils, nI 0, nI 0, .nils, .nils]), (.s 15, [nI a0.F_Scheme, nI a0.F_Dim, lI a0.F_L, lI a0.F_V, nI a0.F_Scale, nI a0.F_Wide, lU a0.F_Lev, lB a0.F_Neg])]⟩ ?_
            exact L_end
          · refine Av 8 [] ⟨[(45, bB false), (4, .ptr (.s 1631) 0), (2, .ptr (.s 31) 0), (1, .ptr (.s 15) 0)], [(.s 1631, [nI 0, nI 0, lI a0.F_L, lI a0.F_V, nI a0.F_Scale, nI a0.F_Wide, lU a0.F_Lev, lB a0.F_Neg]), (.s 31, [nI 0, nI 0, .nils, .nils, nI 0, nI 0, .nils, .nils]), (.s 15, [nI a0.F_Scheme, nI a0.F_Dim, lI a0.F_L, lI a0.F_V, nI a0.F_Scale, nI a0.F_Wide, lU a0.F_Lev, lB a0.F_Neg])]⟩ ?_
            exact L_end
        · refine Av 1 [.o false (o83_11.drop 10), .c c83_39, .c (.exit 0), .b 3, .c c83_47, .b 4, .c c83_54, .b 5, .c c83_59, .b 0, .c c83_65] ⟨[(46, bB j4), (4, .ptr (.s 1631) 0), (2, .ptr (.s 31) 0), (1, .ptr (.s 15) 0)], [(.s 1631, [nI 0, nI 0, lI a0.F_L, lI a0.F_V, nI a0.F_Scale, nI a0.F_Wide, lU a0.F_Lev, lB a0.F_Neg]), (.s 31, [nI 0, nI 0, .nils, .nils, nI 0, nI 0, .nils, .nils]), (.s 15, [nI a0.F_Scheme, nI a0.F_Dim, lI a0.F_L, lI a0.F_V, nI a0.F_Scale, nI a0.F_Wide, lU a0.F_Lev, lB a0.F_Neg])]⟩ ?_
          refine L_take 8 o83_11t10_18 (o83_11.drop 18) ?_
          refine L_join [.o false o83_11t10_18] [.o false (o83_11.drop 18), .c c83_39, .c (.exit 0), .b 3, .c c83_47, .b 4, .c c83_54, .b 5, .c c83_59, .b 0, .c c83_65] (fun x : Bool => ⟨[(54, bB x), (4, .ptr (.s 1631) 0), (2, .ptr (.s 31) 0)], [(.s 1631, [nI 0, nI 0, lI a0.F_L, lI a0.F_V, nI a0.F_Scale, nI a0.F_Wide, lU a0.F_Lev, lB a0.F_Neg]), (.s 31, [nI 0, nI 0, .nils, .nils, nI 0, nI 0, .nils, .nils])]⟩) ?_ (fun j5 => ?_)
          · refine L_split 46 decT (fun _ => ?_) (fun _ => ?_)
            · refine Av 2 [.o false (o83_11t10_18.drop 2)] ⟨[(48, lI a0.F_L), (46, bB true), (4, .ptr (.s 1631) 0), (2, .ptr (.s 31) 0), (1, .ptr (.s 15) 0)], [(.s 1631, [nI 0, nI 0, lI a0.F_L, lI a0.F_V, nI a0.F_Scale, nI a0.F_Wide, lU a0.F_Lev, lB a0.F_Neg]), (.s 31, [nI 0, nI 0, .nils, .nils, nI 0, nI 0, .nils, .nils]), (.s 15, [nI a0.F_Scheme, nI a0.F_Dim, lI a0.F_L, lI a0.F_V, nI a0.F_Scale, nI a0.F_Wide, lU a0.F_Lev, lB a0.F_Neg])]⟩ ?_
              refine L_len (enc := D.int .i64) (l := a0.F_L) rfl rfl ?_
              refine Av 2 [.o false (o83_11t10_18.drop 5)] ⟨[(51, lI a0.F_V), (46, bB true), (49, nI (a0.F_L.length : Int)), (4, .ptr (.s 1631) 0), (2, .ptr (.s 31) 0)], [(.s 1631, [nI 0, nI 0, lI a0.F_L, lI a0.F_V, nI a0.F_Scale, nI a0.F_Wide, lU a0.F_Lev, lB a0.F_Neg]), (.s 31, [nI 0, nI 0, .nils, .nils, nI 0, nI 0, .nils, .nils])]⟩ ?_
              refine L_len (enc := D.int .i64) (l := a0.F_V) rfl rfl ?_
              refine Av 3 [] ⟨[(54, bB ((a0.F_L.length : Int) == (a0.F_V.length : Int))), (4, .ptr (.s 1631) 0), (2, .ptr (.s 31) 0)], [(.s 1631, [nI 0, nI 0, lI a0.F_L, lI a0.F_V, nI a0.F_Scale, nI a0.F_Wide, lU a0.F_Lev, lB a0.F_Neg]), (.s 31, [nI 0, nI 0, .nils, .nils, nI 0, nI 0, .nils, .nils])]⟩ ?_
              exact L_end
            · refine Av 9 [] ⟨[(54, bB false), (4, .ptr (.s 1631) 0), (2, .ptr (.s 31) 0)], [(.s 1631, [nI 0, nI 0, lI a0.F_L, lI a0.F_V, nI a0.F_Scale, nI a0.F_Wide, lU a0.F_Lev, lB a0.F_Neg]), (.s 31, [nI 0, nI 0, .nils, .nils, nI 0, nI 0, .nils, .nils])]⟩ ?_
              exact L_end
          · refine Avk 24 [] .ret ⟨[(3, bB j5), (2, .ptr (.s 31) 0)], [(.s 31, [nI 0, nI 0, .nils, .nils, nI a0.F_Scale, nI a0.F_Wide, lU a0.F_Lev, lB a0.F_Neg])]⟩ ?_
            exact L_ret
      · refine Av 8 [.c c83_18, .c c83_24, .c (.exit 5), .b 1, .c c83_35, .b 2, .c c83_42, .b 3, .c c83_47, .b 4, .c c83_54, .b 5, .c c83_59, .b 0, .c c83_65] ⟨[(23, bB (a0.F_Scheme == 2)), (18, nI a0.F_Scheme), (5, bB j1), (4, .ptr (.s 1631) 0), (2, .ptr (.s 31) 0), (1, .ptr (.s 15) 0)], [(.s 1631, [nI 0, nI 0, lI a0.F_L, lI a0.F_V, nI a0.F_Scale, nI a0.F_Wide, lU a0.F_Lev, lB a0.F_Neg]), (.s 31, [nI 0, nI 0, .nils, .nils, nI 0, nI 0, .nils, .nils]), (.s 15, [nI a0.F_Scheme, nI a0.F_Dim, lI a0.F_L, lI a0.F_V, nI a0.F_Scale, nI a0.F_Wide, lU a0.F_Lev, lB a0.F_Neg])]⟩ ?_
        refine L_split 23 decE (fun _ => ?_) (fun _ => ?_)
        · refine Av 13 [.o false (o83_13.drop 2), .c c83_46, .b 4, .c c83_54, .b 5, .c c83_59, .b 0, .c c83_65] ⟨[(58, bB j1), (4, .ptr (.s 1631) 0), (2, .ptr (.s 31) 0), (1, .ptr (.s 15) 0)], [(.s 1631, [nI 0, nI 0, lI a0.F_L, lI a0.F_V, nI a0.F_Scale, nI a0.F_Wide, lU a0.F_Lev, lB a0.F_Neg]), (.s 31, [nI 0, nI 0, .nils, .nils, nI 0, nI 0, .nils, .nils]), (.s 15, [nI a0.F_Scheme, nI a0.F_Dim, lI a0.F_L, lI a0.F_V, nI a0.F_Scale, nI a0.F_Wide, lU a0.F_Lev, lB a0.F_Neg])]⟩ ?_
          refine L_take 4 o83_13t2_6 (o83_13.drop 6) ?_
          refine L_join [.o false o83_13t2_6] [.o false (o83_13.drop 6), .c c83_46, .b 4, .c c83_54, .b 5, .c c83_59, .b 0, .c c83_65] (fun x : Bool => ⟨[(62, bB x), (4, .ptr (.s 1631) 0), (2, .ptr (.s 31) 0), (1, .ptr (.s 15) 0)], [(.s 1631, [nI 0, nI 0, lI a0.F_L, lI a0.F_V, nI a0.F_Scale, nI a0.F_Wide, lU a0.F_Lev, lB a0.F_Neg]), (.s 31, [nI 0, nI 0, .nils, .nils, nI 0, nI 0, .nils, .nils]), (.s 15, [nI a0.F_Scheme, nI a0.F_Dim, lI a0.F_L, lI a0.F_V, nI a0.F_Scale, nI a0.F_Wide, lU a0.F_Lev, lB a0.F_Neg])]⟩) ?_ (fun j6 => ?_)
          · refine L_split 58 decT (fun _ => ?_) (fun _ => ?_)
            · refine Av 5 [] ⟨[(62, bB (decide (a0.F_Wide > 0))), (4, .ptr (.s 1631) 0), (2, .ptr (.s 31) 0), (1, .ptr (.s 15) 0)], [(.s 1631, [nI 0, nI 0, lI a0.F_L, lI a0.F_V, nI a0.F_Scale, nI a0.F_Wide, lU a0.F_Lev, lB a0.F_Neg]), (.s 31, [nI 0, nI 0, .nils, .nils, nI 0, nI 0, .nils, .nils]), (.s 15, [nI a0.F_Scheme, nI a0.F_Dim, lI a0.F_L, lI a0.F_V, nI a0.F_Scale, nI a0.F_Wide, lU a0.F_Lev, lB a0.F_Neg])]⟩ ?_
              exact L_end
            · refine Av 5 [] ⟨[(62, bB false), (4, .ptr (.s 1631) 0), (2, .ptr (.s 31) 0), (1, .ptr (.s 15) 0)], [(.s 1631, [nI 0, nI 0, lI a0.F_L, lI a0.F_V, nI a0.F_Scale, nI a0.F_Wide, lU a0.F_Lev, lB a0.F_Neg]), (.s 31, [nI 0, nI 0, .nils, .nils, nI 0, nI 0, .nils, .nils]), (.s 15, [nI a0.F_Scheme, nI a0.F_Dim, lI a0.F_L, lI a0.F_V, nI a0.F_Scale, nI a0.F_Wide, lU a0.F_Lev, lB a0.F_Neg])]⟩ ?_
              exact L_end
          · refine Av 1 [.o false (o83_13.drop 7), .c c83_46, .b 4, .c c83_54, .b 5, .c c83_59, .b 0, .c c83_65] ⟨[(63, bB j6), (4, .ptr (.s 1631) 0), (2, .ptr (.s 31) 0), (1, .ptr (.s 15) 0)], [(.s 1631, [nI 0, nI 0, lI a0.F_L, lI a0.F_V, nI a0.F_Scale, nI a0.F_Wide, lU a0.F_Lev, lB a0.F_Neg]), (.s 31, [nI 0, nI 0, .nils, .nils, nI 0, nI 0, .nils, .nils]), (.s 15, [nI a0.F_Scheme, nI a0.F_Dim, lI a0.F_L, lI a0.F_V, nI a0.F_Scale, nI a0.F_Wide, lU a0.F_Lev, lB a0.F_Neg])]⟩ ?_
            refine L_take 4 o83_13t7_11 (o83_13.drop 11) ?_
            refine L_join [.o false o83_13t7_11] [.o false (o83_13.drop 11), .c c83_46, .b 4, .c c83_54, .b 5, .c c83_59, .b 0, .c c83_65] (fun x : Bool => ⟨[(67, bB x), (4, .ptr (.s 1631) 0), (2, .ptr (.s 31) 0), (1, .ptr (.s 15) 0)], [(.s 1631, [nI 0, nI 0, lI a0.F_L, lI a0.F_V, nI a0.F_Scale, nI a0.F_Wide, lU a0.F_Lev, lB a0.F_Neg]), (.s 31, [nI 0, nI 0, .nils, .nils, nI 0, nI 0, .nils, .nils]), (.s 15, [nI a0.F_Scheme, nI a0.F_Dim, lI a0.F_L, lI a0.F_V, nI a0.F_Scale, nI a0.F_Wide, lU a0.F_Lev, lB a0.F_Neg])]⟩) ?_ (fun j7 => ?_)
            · refine L_split 63 decT (fun _ => ?_) (fun _ => ?_)
              · refine Av 5 [] ⟨[(67, bB (decide (a0.F_Wide ≤ 8))), (4, .ptr (.s 1631) 0), (2, .ptr (.s 31) 0), (1, .ptr (.s 15) 0)], [(.s 1631, [nI 0, nI 0, lI a0.F_L, lI a0.F_V, nI a0.F_Scale, nI a0.F_Wide, lU a0.F_Lev, lB a0.F_Neg]), (.s 31, [nI 0, nI 0, .nils, .nils, nI 0, nI 0, .nils, .nils]), (.s 15, [nI a0.F_Scheme, nI a0.F_Dim, lI a0.F_L, lI a0.F_V, nI a0.F_Scale, nI a0.F_Wide, lU a0.F_Lev, lB a0.F_Neg])]⟩ ?_
                exact L_end
              · refine Av 5 [] ⟨[(67, bB false), (4, .ptr (.s 1631) 0), (2, .ptr (.s 31) 0), (1, .ptr (.s 15) 0)], [(.s 1631, [nI 0, nI 0, lI a0.F_L, lI a0.F_V, nI a0.F_Scale, nI a0.F_Wide, lU a0.F_Lev, lB a0.F_Neg]), (.s 31, [nI 0, nI 0, .nils, .nils, nI 0, nI 0, .nils, .nils]), (.s 15, [nI a0.F_Scheme, nI a0.F_Dim, lI a0.F_L, lI a0.F_V, nI a0.F_Scale, nI a0.F_Wide, lU a0.F_Lev, lB a0.F_Neg])]⟩ ?_
                exact L_end
            · refine Av 1 [.o false (o83_13.drop 12), .c c83_46, .b 4, .c c83_54, .b 5, .c c83_59, .b 0, .c c83_65] ⟨[(68, bB j7), (4, .ptr (.s 1631) 0), (2, .ptr (.s 31) 0), (1, .ptr (.s 15) 0)], [(.s 1631, [nI 0, nI 0, lI a0.F_L, lI a0.F_V, nI a0.F_Scale, nI a0.F_Wide, lU a0.F_Lev, lB a0.F_Neg]), (.s 31, [nI 0, nI 0, .nils, .nils, nI 0, nI 0, .nils, .nils]), (.s 15, [nI a0.F_Scheme, nI a0.F_Dim, lI a0.F_L, lI a0.F_V, nI a0.F_Scale, nI a0.F_Wide, lU a0.F_Lev, lB a0.F_Neg])]⟩ ?_
              refine L_take 7 o83_13t12_19 (o83_13.drop 19) ?_
              refine L_join [.o false o83_13t12_19] [.o false (o83_13.drop 19), .c c83_46, .b 4, .c c83_54, .b 5, .c c83_59, .b 0, .c c83_65] (fun x : Bool => ⟨[(75, bB x), (4, .ptr (.s 1631) 0), (2, .ptr (.s 31) 0), (1, .ptr (.s 15) 0)], [(.s 1631, [nI 0, nI 0, lI a0.F_L, lI a0.F_V, nI a0.F_Scale, nI a0.F_Wide, lU a0.F_Lev, lB a0.F_Neg]), (.s 31, [nI 0, nI 0, .nils, .nils, nI 0, nI 0, .nils, .nils]), (.s 15, [nI a0.F_Scheme, nI a0.F_Dim, lI a0.F_L, lI a0.F_V, nI a0.F_Scale, nI a0.F_Wide, lU a0.F_Lev, lB a0.F_Neg])]⟩) ?_ (fun j8 => ?_)
              · refine L_split 68 decT (fun _ => ?_) (fun _ => ?_)
                · refine Av 2 [.o false (o83_13t12_19.drop 2)] ⟨[(70, lU a0.F_Lev), (68, bB true), (4, .ptr (.s 1631) 0), (2, .ptr (.s 31) 0), (1, .ptr (.s 15) 0)], [(.s 1631, [nI 0, nI 0, lI a0.F_L, lI a0.F_V, nI a0.F_Scale, nI a0.F_Wide, lU a0.F_Lev, lB a0.F_Neg]), (.s 31, [nI 0, nI 0, .nils, .nils, nI 0, nI 0, .nils, .nils]), (.s 15, [nI a0.F_Scheme, nI a0.F_Dim, lI a0.F_L, lI a0.F_V, nI a0.F_Scale, nI a0.F_Wide, lU a0.F_Lev, lB a0.F_Neg])]⟩ ?_
                  refine L_len (enc := D.int .u64) (l := a0.F_Lev) rfl rfl ?_
                  refine Av 5 [] ⟨[(75, bB ((a0.F_Lev.length : Int) == a0.F_Dim)), (4, .ptr (.s 1631) 0), (2, .ptr (.s 31) 0), (1, .ptr (.s 15) 0)], [(.s 1631, [nI 0, nI 0, lI a0.F_L, lI a0.F_V, nI a0.F_Scale, nI a0.F_Wide, lU a0.F_Lev, lB a0.F_Neg]), (.s 31, [nI 0, nI 0, .nils, .nils, nI 0, nI 0, .nils, .nils]), (.s 15, [nI a0.F_Scheme, nI a0.F_Dim, lI a0.F_L, lI a0.F_V, nI a0.F_Scale, nI a0.F_Wide, lU a0.F_Lev, lB a0.F_Neg])]⟩ ?_
                  exact L_end
                · refine Av 8 [] ⟨[(75, bB false), (4, .ptr (.s 1631) 0), (2, .ptr (.s 31) 0), (1, .ptr (.s 15) 0)], [(.s 1631, [nI 0, nI 0, lI a0.F_L, lI a0.F_V, nI a0.F_Scale, nI a0.F_Wide, lU a0.F_Lev, lB a0.F_Neg]), (.s 31, [nI 0, nI 0, .nils, .nils, nI 0, nI 0, .nils, .nils]), (.s 15, [nI a0.F_Scheme, nI a0.F_Dim, lI a0.F_L, lI a0.F_V, nI a0.F_Scale, nI a0.F_Wide, lU a0.F_Lev, lB a0.F_Neg])]⟩ ?_
                  exact L_end
              · refine Av 1 [.o false (o83_13.drop 20), .c c83_46, .b 4, .c c83_54, .b 5, .c c83_59, .b 0, .c c83_65] ⟨[(76, bB j8), (4, .ptr (.s 1631) 0), (2, .ptr (.s 31) 0), (1, .ptr (.s 15) 0)], [(.s 1631, [nI 0, nI 0, lI a0.F_L, lI a0.F_V, nI a0.F_Scale, nI a0.F_Wide, lU a0.F_Lev, lB a0.F_Neg]), (.s 31, [nI 0, nI 0, .nils, .nils, nI 0, nI 0, .nils, .nils]), (.s 15, [nI a0.F_Scheme, nI a0.F_Dim, lI a0.F_L, lI a0.F_V, nI a0.F_Scale, nI a0.F_Wide, lU a0.F_Lev, lB a0.F_Neg])]⟩ ?_
                refine L_take 6 o83_13t20_26 (o83_13.drop 26) ?_
                refine L_join [.o false o83_13t20_26] [.o false (o83_13.drop 26), .c c83_46, .b 4, .c c83_54, .b 5, .c c83_59, .b 0, .c c83_65] (fun x : Bool => ⟨[(82, bB x), (4, .ptr (.s 1631) 0), (2, .ptr (.s 31) 0), (1, .ptr (.s 15) 0)], [(.s 1631, [nI 0, nI 0, lI a0.F_L, lI a0.F_V, nI a0.F_Scale, nI a0.F_Wide, lU a0.F_Lev, lB a0.F_Neg]), (.s 31, [nI 0, nI 0, .nils, .nils, nI 0, nI 0, .nils, .nils]), (.s 15, [nI a0.F_Scheme, nI a0.F_Dim, lI a0.F_L, lI a0.F_V, nI a0.F_Scale, nI a0.F_Wide, lU a0.F_Lev, lB a0.F_Neg])]⟩) ?_ (fun j10 => ?_)
                · refine L_split 76 decT (fun _ => ?_) (fun _ => ?_)
                  · refine Av 3 [.o false (o83_13t20_26.drop 3)] ⟨[(79, .clo (.func 132) [] [.ptr (.s 15) 0]), (76, bB true), (78, lU a0.F_Lev), (4, .ptr (.s 1631) 0), (2, .ptr (.s 31) 0), (1, .ptr (.s 15) 0)], [(.s 1631, [nI 0, nI 0, lI a0.F_L, lI a0.F_V, nI a0.F_Scale, nI a0.F_Wide, lU a0.F_Lev, lB a0.F_Neg]), (.s 31, [nI 0, nI 0, .nils, .nils, nI 0, nI 0, .nils, .nils]), (.s 15, [nI a0.F_Scheme, nI a0.F_Dim, lI a0.F_L, lI a0.F_V, nI a0.F_Scale, nI a0.F_Wide, lU a0.F_Lev, lB a0.F_Neg])]⟩ ?_
                    refine L_call (ok_slices_ContainsFunc_uint64_uint64_frame_bare_1 a0.F_Lev a0.F_Scheme a0.F_Dim a0.F_L a0.F_V a0.F_Scale a0.F_Wide a0.F_Lev a0.F_Neg) rfl rfl (fun _ => rfl) (fun _ => trivial) (fun r9 => ?_)
                    refine Av 3 [] ⟨[(82, bB (!r9)), (4, .ptr (.s 1631) 0), (2, .ptr (.s 31) 0), (1, .ptr (.s 15) 0)], [(.s 1631, [nI 0, nI 0, lI a0.F_L, lI a0.F_V, nI a0.F_Scale, nI a0.F_Wide, lU a0.F_Lev, lB a0.F_Neg]), (.s 31, [nI 0, nI 0, .nils, .nils, nI 0, nI 0, .nils, .nils]), (.s 15, [nI a0.F_Scheme, nI a0.F_Dim, lI a0.F_L, lI a0.F_V, nI a0.F_Scale, nI a0.F_Wide, lU a0.F_Lev, lB a0.F_Neg])]⟩ ?_
                    exact L_end
                  · refine Av 7 [] ⟨[(82, bB false), (4, .ptr (.s 1631) 0), (2, .ptr (.s 31) 0), (1, .ptr (.s 15) 0)], [(.s 1631, [nI 0, nI 0, lI a0.F_L, lI a0.F_V, nI a0.F_Scale, nI a0.F_Wide, lU a0.F_Lev, lB a0.F_Neg]), (.s 31, [nI 0, nI 0, .nils, .nils, nI 0, nI 0, .nils, .nils]), (.s 15, [nI a0.F_Scheme, nI a0.F_Dim, lI a0.F_L, lI a0.F_V, nI a0.F_Scale, nI a0.F_Wide, lU a0.F_Lev, lB a0.F_Neg])]⟩ ?_
                    exact L_end
                · refine Av 14 [.o false (o83_15.drop 2), .c c83_51, .c (.exit 0), .b 5, .c c83_59, .b 0, .c c83_65] ⟨[(86, bB j10), (4, .ptr (.s 1631) 0), (2, .ptr (.s 31) 0), (1, .ptr (.s 15) 0)], [(.s 1631, [nI 0, nI 0, lI a0.F_L, lI a0.F_V, nI a0.F_Scale, nI 0, .nils, lB a0.F_Neg]), (.s 31, [nI 0, nI 0, .nils, .nils, nI 0, nI 0, .nils, .nils]), (.s 15, [nI a0.F_Scheme, nI a0.F_Dim, lI a0.F_L, lI a0.F_V, nI a0.F_Scale, nI a0.F_Wide, lU a0.F_Lev, lB a0.F_Neg])]⟩ ?_
                  refine L_take 4 o83_15t2_6 (o83_15.drop 6) ?_
                  refine L_join [.o false o83_15t2_6] [.o false (o83_15.drop 6), .c c83_51, .c (.exit 0), .b 5, .c c83_59, .b 0, .c c83_65] (fun x : Bool => ⟨[(90, bB x), (4, .ptr (.s 1631) 0), (2, .ptr (.s 31) 0), (1, .ptr (.s 15) 0)], [(.s 1631, [nI 0, nI 0, lI a0.F_L, lI a0.F_V, nI a0.F_Scale, nI 0, .nils, lB a0.F_Neg]), (.s 31, [nI 0, nI 0, .nils, .nils, nI 0, nI 0, .nils, .nils]), (.s 15, [nI a0.F_Scheme, nI a0.F_Dim, lI a0.F_L, lI a0.F_V, nI a0.F_Scale, nI a0.F_Wide, lU a0.F_Lev, lB a0.F_Neg])]⟩) ?_ (fun j11 => ?_)
                  · refine L_split 86 decT (fun _ => ?_) (fun _ => ?_)
                    · refine Av 5 [] ⟨[(90, bB (decide (a0.F_Scale ≥ 0))), (4, .ptr (.s 1631) 0), (2, .ptr (.s 31) 0), (1, .ptr (.s 15) 0)], [(.s 1631, [nI 0, nI 0, lI a0.F_L, lI a0.F_V, nI a0.F_Scale, nI 0, .nils, lB a0.F_Neg]), (.s 31, [nI 0, nI 0, .nils, .nils, nI 0, nI 0, .nils, .nils]), (.s 15, [nI a0.F_Scheme, nI a0.F_Dim, lI a0.F_L, lI a0.F_V, nI a0.F_Scale, nI a0.F_Wide, lU a0.F_Lev, lB a0.F_Neg])]⟩ ?_
                      exact L_end
                    · refine Av 5 [] ⟨[(90, bB false), (4, .ptr (.s 1631) 0), (2, .ptr (.s 31) 0), (1, .ptr (.s 15) 0)], [(.s 1631, [nI 0, nI 0, lI a0.F_L, lI a0.F_V, nI a0.F_Scale, nI 0, .nils, lB a0.F_Neg]), (.s 31, [nI 0, nI 0, .nils, .nils, nI 0, nI 0, .nils, .nils]), (.s 15, [nI a0.F_Scheme, nI a0.F_Dim, lI a0.F_L, lI a0.F_V, nI a0.F_Scale, nI a0.F_Wide, lU a0.F_Lev, lB a0.F_Neg])]⟩ ?_
                      exact L_end
                  · refine Av 1 [.o false (o83_15.drop 7), .c c83_51, .c (.exit 0), .b 5, .c c83_59, .b 0, .c c83_65] ⟨[(91, bB j11), (4, .ptr (.s 1631) 0), (2, .ptr (.s 31) 0), (1, .ptr (.s 15) 0)], [(.s 1631, [nI 0, nI 0, lI a0.F_L, lI a0.F_V, nI a0.F_Scale, nI 0, .nils, lB a0.F_Neg]), (.s 31, [nI 0, nI 0, .nils, .nils, nI 0, nI 0, .nils, .nils]), (.s 15, [nI a0.F_Scheme, nI a0.F_Dim, lI a0.F_L, lI a0.F_V, nI a0.F_Scale, nI a0.F_Wide, lU a0.F_Lev, lB a0.F_Neg])]⟩ ?_
                    refine L_take 7 o83_15t7_14 (o83_15.drop 14) ?_
                    refine L_join [.o false o83_15t7_14] [.o false (o83_15.drop 14), .c c83_51, .c (.exit 0), .b 5, .c c83_59, .b 0, .c c83_65] (fun x : Bool => ⟨[(98, bB x), (4, .ptr (.s 1631) 0), (2, .ptr (.s 31) 0)], [(.s 1631, [nI 0, nI 0, lI a0.F_L, lI a0.F_V, nI a0.F_Scale, nI 0, .nils, lB a0.F_Neg]), (.s 31, [nI 0, nI 0, .nils, .nils, nI 0, nI 0, .nils, .nils])]⟩) ?_ (fun j12 => ?_)
                    · refine L_split 91 decT (fun _ => ?_) (fun _ => ?_)
                      · refine Av 2 [.o false (o83_15t7_14.drop 2)] ⟨[(93, lB a0.F_Neg), (91, bB true), (4, .ptr (.s 1631) 0), (2, .ptr (.s 31) 0), (1, .ptr (.s 15) 0)], [(.s 1631, [nI 0, nI 0, lI a0.F_L, lI a0.F_V, nI a0.F_Scale, nI 0, .nils, lB a0.F_Neg]), (.s 31, [nI 0, nI 0, .nils, .nils, nI 0, nI 0, .nils, .nils]), (.s 15, [nI a0.F_Scheme, nI a0.F_Dim, lI a0.F_L, lI a0.F_V, nI a0.F_Scale, nI a0.F_Wide, lU a0.F_Lev, lB a0.F_Neg])]⟩ ?_
                        refine L_len (enc := D.bool) (l := a0.F_Neg) rfl rfl ?_
                        refine Av 5 [] ⟨[(98, bB ((a0.F_Neg.length : Int) == a0.F_Dim)), (4, .ptr (.s 1631) 0), (2, .ptr (.s 31) 0)], [(.s 1631, [nI 0, nI 0, lI a0.F_L, lI a0.F_V, nI a0.F_Scale, nI 0, .nils, lB a0.F_Neg]), (.s 31, [nI 0, nI 0, .nils, .nils, nI 0, nI 0, .nils, .nils])]⟩ ?_
                        exact L_end
                      · refine Av 8 [] ⟨[(98, bB false), (4, .ptr (.s 1631) 0), (2, .ptr (.s 31) 0)], [(.s 1631, [nI 0, nI 0, lI a0.F_L, lI a0.F_V, nI a0.F_Scale, nI 0, .nils, lB a0.F_Neg]), (.s 31, [nI 0, nI 0, .nils, .nils, nI 0, nI 0, .nils, .nils])]⟩ ?_
                        exact L_end
                    · refine Avk 20 [] .ret ⟨[(3, bB j12), (2, .ptr (.s 31) 0)], [(.s 31, [nI 0, nI 0, lI a0.F_L, lI a0.F_V, nI 0, nI 0, .nils, .nils])]⟩ ?_
                      exact L_ret
        · refine Av 7 [.c c83_23, .c (.exit 5), .b 1, .c c83_35, .b 2, .c c83_42, .b 3, .c c83_47, .b 4, .c c83_54, .b 5, .c c83_59, .b 0, .c c83_65] ⟨[(25, bB (a0.F_Scheme == 3)), (5, bB j1), (4, .ptr (.s 1631) 0), (2, .ptr (.s 31) 0), (1, .ptr (.s 15) 0)], [(.s 1631, [nI 0, nI 0, lI a0.F_L, lI a0.F_V, nI a0.F_Scale, nI a0.F_Wide, lU a0.F_Lev, lB a0.F_Neg]), (.s 31, [nI 0, nI 0, .nils, .nils, nI 0, nI 0, .nils, .nils]), (.s 15, [nI a0.F_Scheme, nI a0.F_Dim, lI a0.F_L, lI a0.F_V, nI a0.F_Scale, nI a0.F_Wide, lU a0.F_Lev, lB a0.F_Neg])]⟩ ?_
          refine L_split 25 decE (fun _ => ?_) (fun _ => ?_)
          · refine Av 15 [.o false (o83_15.drop 2), .c c83_51, .c (.exit 0), .b 5, .c c83_59, .b 0, .c c83_65] ⟨[(86, bB j1), (4, .ptr (.s 1631) 0), (2, .ptr (.s 31) 0), (1, .ptr (.s 15) 0)], [(.s 1631, [nI 0, nI 0, lI a0.F_L, lI a0.F_V, nI a0.F_Scale, nI a0.F_Wide, lU a0.F_Lev, lB a0.F_Neg]), (.s 31, [nI 0, nI 0, .nils, .nils, nI 0, nI 0, .nils, .nils]), (.s 15, [nI a0.F_Scheme, nI a0.F_Dim, lI a0.F_L, lI a0.F_V, nI a0.F_Scale, nI a0.F_Wide, lU a0.F_Lev, lB a0.F_Neg])]⟩ ?_
            refine L_take 4 o83_15t2_6 (o83_15.drop 6) ?_
            refine L_join [.o false o83_15t2_6] [.o false (o83_15.drop 6), .c c83_51, .c (.exit 0), .b 5, .c c83_59, .b 0, .c c83_65] (fun x : Bool => ⟨[(90, bB x), (4, .ptr (.s 1631) 0), (2, .ptr (.s 31) 0), (1, .ptr (.s 15) 0)], [(.s 1631, [nI 0, nI 0, lI a0.F_L, lI a0.F_V, nI a0.F_Scale, nI a0.F_Wide, lU a0.F_Lev, lB a0.F_Neg]), (.s 31, [nI 0, nI 0, .nils, .nils, nI 0, nI 0, .nils, .nils]), (.s 15, [nI a0.F_Scheme, nI a0.F_Dim, lI a0.F_L, lI a0.F_V, nI a0.F_Scale, nI a0.F_Wide, lU a0.F_Lev, lB a0.F_Neg])]⟩) ?_ (fun j13 => ?_)
            · refine L_split 86 decT (fun _ => ?_) (fun _ => ?_)
              · refine Av 5 [] ⟨[(90, bB (decide (a0.F_Scale ≥ 0))), (4, .ptr (.s 1631) 0), (2, .ptr (.s 31) 0), (1, .ptr (.s 15) 0)], [(.s 1631, [nI 0, nI 0, lI a0.F_L, lI a0.F_V, nI a0.F_Scale, nI a0.F_Wide, lU a0.F_Lev, lB a0.F_Neg]), (.s 31, [nI 0, nI 0, .nils, .nils, nI 0, nI 0, .nils, .nils]), (.s 15, [nI a0.F_Scheme, nI a0.F_Dim, lI a0.F_L, lI a0.F_V, nI a0.F_Scale, nI a0.F_Wide, lU a0.F_Lev, lB a0.F_Neg])]⟩ ?_
                exact L_end
              · refine Av 5 [] ⟨[(90, bB false), (4, .ptr (.s 1631) 0), (2, .ptr (.s 31) 0), (1, .ptr (.s 15) 0)], [(.s 1631, [nI 0, nI 0, lI a0.F_L, lI a0.F_V, nI a0.F_Scale, nI a0.F_Wide, lU a0.F_Lev, lB a0.F_Neg]), (.s 31, [nI 0, nI 0, .nils, .nils, nI 0, nI 0, .nils, .nils]), (.s 15, [nI a0.F_Scheme, nI a0.F_Dim, lI a0.F_L, lI a0.F_V, nI a0.F_Scale, nI a0.F_Wide, lU a0.F_Lev, lB a0.F_Neg])]⟩ ?_
                exact L_end
            · refine Av 1 [.o false (o83_15.drop 7), .c c83_51, .c (.exit 0), .b 5, .c c83_59, .b 0, .c c83_65] ⟨[(91, bB j13), (4, .ptr (.s 1631) 0), (2, .ptr (.s 31) 0), (1, .ptr (.s 15) 0)], [(.s 1631, [nI 0, nI 0, lI a0.F_L, lI a0.F_V, nI a0.F_Scale, nI a0.F_Wide, lU a0.F_Lev, lB a0.F_Neg]), (.s 31, [nI 0, nI 0, .nils, .nils, nI 0, nI 0, .nils, .nils]), (.s 15, [nI a0.F_Scheme, nI a0.F_Dim, lI a0.F_L, lI a0.F_V, nI a0.F_Scale, nI a0.F_Wide, lU a0.F_Lev, lB a0.F_Neg])]⟩ ?_
              refine L_take 7 o83_15t7_14 (o83_15.drop 14) ?_
              refine L_join [.o false o83_15t7_14] [.o false (o83_15.drop 14), .c c83_51, .c (.exit 0), .b 5, .c c83_59, .b 0, .c c83_65] (fun x : Bool => ⟨[(98, bB x), (4, .ptr (.s 1631) 0), (2, .ptr (.s 31) 0)], [(.s 1631, [nI 0, nI 0, lI a0.F_L, lI a0.F_V, nI a0.F_Scale, nI a0.F_Wide, lU a0.F_Lev, lB a0.F_Neg]), (.s 31, [nI 0, nI 0, .nils, .nils, nI 0, nI 0, .nils, .nils])]⟩) ?_ (fun j14 => ?_)
              · refine L_split 91 decT (fun _ => ?_) (fun _ => ?_)
                · refine Av 2 [.o false (o83_15t7_14.drop 2)] ⟨[(93, lB a0.F_Neg), (91, bB true), (4, .ptr (.s 1631) 0), (2, .ptr (.s 31) 0), (1, .ptr (.s 15) 0)], [(.s 1631, [nI 0, nI 0, lI a0.F_L, lI a0.F_V, nI a0.F_Scale, nI a0.F_Wide, lU a0.F_Lev, lB a0.F_Neg]), (.s 31, [nI 0, nI 0, .nils, .nils, nI 0, nI 0, .nils, .nils]), (.s 15, [nI a0.F_Scheme, nI a0.F_Dim, lI a0.F_L, lI a0.F_V, nI a0.F_Scale, nI a0.F_Wide, lU a0.F_Lev, lB a0.F_Neg])]⟩ ?_
                  refine L_len (enc := D.bool) (l := a0.F_Neg) rfl rfl ?_
                  refine Av 5 [] ⟨[(98, bB ((a0.F_Neg.length : Int) == a0.F_Dim)), (4, .ptr (.s 1631) 0), (2, .ptr (.s 31) 0)], [(.s 1631, [nI 0, nI 0, lI a0.F_L, lI a0.F_V, nI a0.F_Scale, nI a0.F_Wide, lU a0.F_Lev, lB a0.F_Neg]), (.s 31, [nI 0, nI 0, .nils, .nils, nI 0, nI 0, .nils, .nils])]⟩ ?_
                  exact L_end
                · refine Av 8 [] ⟨[(98, bB false), (4, .ptr (.s 1631) 0), (2, .ptr (.s 31) 0)], [(.s 1631, [nI 0, nI 0, lI a0.F_L, lI a0.F_V, nI a0.F_Scale, nI a0.F_Wide, lU a0.F_Lev, lB a0.F_Neg]), (.s 31, [nI 0, nI 0, .nils, .nils, nI 0, nI 0, .nils, .nils])]⟩ ?_
                  exact L_end
              · refine Avk 20 [] .ret ⟨[(3, bB j14), (2, .ptr (.s 31) 0)], [(.s 31, [nI 0, nI 0, lI a0.F_L, lI a0.F_V, nI 0, nI a0.F_Wide, lU a0.F_Lev, .nils])]⟩ ?_
                exact L_ret
          · refine Avk 26 [] .ret ⟨[(3, bB false), (2, .ptr (.s 31) 0)], [(.s 31, [nI 0, nI 0, lI a0.F_L, lI a0.F_V, nI a0.F_Scale, nI a0.F_Wide, lU a0.F_Lev, lB a0.F_Neg])]⟩ ?_
            exact L_ret
/-- slices.Equal[[]int,int]. -/
def en_slices_Equal_int_int (v : Bool) : PV := bB v
def o122_0 : List AOper := [mb 4 0 false]
def o122_1 : List AOper := [mv 6 100 0, ln 7 101 6, mv 8 102 1, ln 9 103 8, bi 10 104 .neq 7 9]
def o122_2 : List AOper := [mb 4 200 false]
def o122_3 : List AOper := [mv 11 300 0, ln 12 301 11, mi 13 302 0]
def o122_4 : List AOper := [bi 14 400 .lss 13 12]
def o122_5 : List AOper := [mv 15 500 13, mv 5 501 15]
def o122_6 : List AOper := [mv 16 600 0, mv 17 601 5, ⟨some 18, none, 602, .idxA 1 (.t 16) (.t 17)⟩, ld 19 603 18, mv 20 604 1, mv 21 605 5, ⟨some 22, none, 606, .idxA 1 (.t 20) (.t 21)⟩, ld 23 607 22, bi 24 608 .neq 19 23]
def o122_7 : List AOper := [mb 4 700 false]
def o122_8 : List AOper := [bc 25 800 .add 13 1, mv 13 801 25]
def o122_9 : List AOper := [mb 4 900 true]
def c122_6 : AC := .cond (.t 10) (.seq (.reg o122_2) .ret) .skip
def c122_12 : AC := .cond (.t 14) .skip (.exit 0)
def c122_14 : AC := .draw [⟨mv 16 600 0, false, []⟩, ⟨mv 17 601 5, false, []⟩, ⟨⟨some 18, none, 602, .idxA 1 (.t 16) (.t 17)⟩, false, []⟩, ⟨ld 19 603 18, false, []⟩, ⟨mv 20 604 1, false, []⟩, ⟨mv 21 605 5, false, []⟩, ⟨⟨some 22, none, 606, .idxA 1 (.t 20) (.t 21)⟩, false, []⟩, ⟨ld 23 607 22, false, []⟩, ⟨bi 24 608 .neq 19 23, false, []⟩]
def c122_19 : AC := .cond (.t 24) (.seq (.reg o122_7) .ret) .skip
def c122_23 : AC := .reg o122_8
def c122_24 : AC := .seq (.block 1 (.seq (.reg o122_5) (.seq c122_14 c122_19))) c122_23
def c122_26 : AC := .seq (.reg o122_4) (.seq c122_12 c122_24)
def c122_28 : AC := .block 0 (.loop c122_26)
def c122_32 : AC := .seq (.reg o122_9) .ret
def c122_33 : AC := .seq (.seq (.reg o122_3) c122_28) c122_32
def c122_35 : AC := .seq (.reg o122_0) (.seq (.seq (.reg o122_1) c122_6) c122_33)
theorem fn122 : fnA Try.prog 122 = some (26, [.t 4], c122_35) := by kernel_rfl
def q_ok_slices_Equal_int_int_l0_ok (a0 : List Int) (a1 : List Int) (x0 : Int) (v : (Sum Bool Unit)) : Prop := (fun v => go Try.prog 26 (PostR (fun r => Fnl [.t 4] (en_slices_Equal_int_int r) []) (.exit 0) (fun x : Unit => ⟨[], []⟩) v) [.l c122_26] .norm ⟨[(13, nI x0), (12, nI (a0.length : Int)), (0, lI a0), (1, lI a1)], []⟩) v
theorem ok_slices_Equal_int_int_l0_ok (a0 : List Int) (a1 : List Int) (x0 : Int) : Ok (M_slices_Equal_int_int_l0 a0 a1 x0) (q_ok_slices_Equal_int_int_l0_ok a0 a1 x0) := by
  refine M_slices_Equal_int_int_l0.partial_correctness a0 a1 (q_ok_slices_Equal_int_int_l0_ok a0 a1) ?_ x0
  clear x0
  intro f' IH x0
  refine okI ?_
  unfold q_ok_slices_Equal_int_int_l0_ok at *
  refine Av 1 [.c c122_26, .l c122_26] ⟨[(13, nI x0), (12, nI (a0.length : Int)), (0, lI a0), (1, lI a1)], []⟩ ?_
  refine Av 5 [.c c122_12, .c c122_24, .l c122_26] ⟨[(14, bB (decide (x0 < (a0.length : Int)))), (13, nI x0), (12, nI (a0.length : Int)), (0, lI a0), (1, lI a1)], []⟩ ?_
  refine L_split 14 rfl (fun _ => ?_) (fun _ => ?_)
  · refine Av 10 [.c c122_14, .c c122_19, .b 1, .c c122_23, .l c122_26] ⟨[(5, nI x0), (13, nI x0), (12, nI (a0.length : Int)), (0, lI a0), (1, lI a1)], []⟩ ?_
    refine Ae 3 [.o true (o122_6.drop 2), .c c122_19, .b 1, .c c122_23, .l c122_26] ⟨[(17, nI x0), (16, lI a0), (5, nI x0), (13, nI x0), (12, nI (a0.length : Int)), (0, lI a0), (1, lI a1)], []⟩ ?_
    refine L_idxD (enc := D.int .i64) (l := a0) (iv := x0) trivial rfl rfl (fun _ => rfl) (fun hc602 => ?_)
    refine Ae 3 [.o true (o122_6.drop 6), .c c122_19, .b 1, .c c122_23, .l c122_26] ⟨[(21, nI x0), (20, lI a1), (19, nI (at' a0 x0)), (18, .d (.cp [.int .i64 (at' a0 x0)] 0)), (17, nI x0), (16, lI a0), (5, nI x0), (13, nI x0), (12, nI (a0.length : Int)), (0, lI a0), (1, lI a1)], []⟩ ?_
    refine L_idxD (enc := D.int .i64) (l := a1) (iv := x0) trivial rfl rfl (fun _ => rfl) (fun hc606 => ?_)
    refine Av 3 [.c c122_19, .b 1, .c c122_23, .l c122_26] ⟨[(24, bB ((at' a0 x0) != (at' a1 x0))), (13, nI x0), (12, nI (a0.length : Int)), (0, lI a0), (1, lI a1)], []⟩ ?_
    refine L_split 24 decNe (fun _ => ?_) (fun _ => ?_)
    · refine Avk 9 [] .ret ⟨[(4, bB false)], []⟩ ?_
      exact L_retR
    · refine Av 7 [.l c122_26] ⟨[(13, nI (IntKind.i64.wrap (x0 + 1))), (12, nI (a0.length : Int)), (0, lI a0), (1, lI a1)], []⟩ ?_
      exact L_again (IH (IntKind.i64.wrap (x0 + 1)))
  · refine Avk 4 [] (.exit 0) ⟨[], []⟩ ?_
    exact L_endR
theorem ok_slices_Equal_int_int (a0 : List Int) (a1 : List Int) : ∀ v, M_slices_Equal_int_int a0 a1 = some v → EvF Try.prog 122 [.lst (List.map (D.int .i64) a0), .lst (List.map (D.int .i64) a1)] (en_slices_Equal_int_int v) := by
  intro v hv
  refine EvF_go fn122 (Nat.le_of_ble_eq_true rfl) ?_
  suffices h : Ok (M_slices_Equal_int_int a0 a1) fun v => go Try.prog 26 (Fnl [.t 4] (en_slices_Equal_int_int v) []) [.c c122_35] .norm (initSt (List.map PV.d [.lst (List.map (D.int .i64) a0), .lst (List.map (D.int .i64) a1)]) []) from h v hv
  unfold M_slices_Equal_int_int
  refine Av 8 [.o false (o122_1.drop 1), .c c122_6, .c c122_33] ⟨[(6, lI a0), (0, lI a0), (1, lI a1)], []⟩ ?_
  refine L_len (enc := D.int .i64) (l := a0) trivial rfl ?_
  refine Av 1 [.o false (o122_1.drop 3), .c c122_6, .c c122_33] ⟨[(8, lI a1), (7, nI (a0.length : Int)), (0, lI a0), (1, lI a1)], []⟩ ?_
  refine L_len (enc := D.int .i64) (l := a1) trivial rfl ?_
  refine Av 2 [.c c122_6, .c c122_33] ⟨[(10, bB ((a0.length : Int) != (a1.length : Int))), (0, lI a0), (1, lI a1)], []⟩ ?_
  refine L_split 10 decNe (fun _ => ?_) (fun _ => ?_)
  · refine Avk 7 [] .ret ⟨[(4, bB false)], []⟩ ?_
    exact L_ret
  · refine Av 6 [.o false (o122_3.drop 1), .c c122_28, .c c122_32] ⟨[(11, lI a0), (0, lI a0), (1, lI a1)], []⟩ ?_
    refine L_len (enc := D.int .i64) (l := a0) trivial rfl ?_
    refine Av 4 [.l c122_26, .b 0, .c c122_32] ⟨[(13, nI 0), (12, nI (a0.length : Int)), (0, lI a0), (1, lI a1)], []⟩ ?_
    refine L_pieceR (fs := [.l c122_26]) (ks := [.b 0, .c c122_32]) (ok_slices_Equal_int_int_l0_ok a0 a1 0) L_thru (fun j1 => ?_)
    refine Avk 6 [] .ret ⟨[(4, bB true)], []⟩ ?_
    exact L_ret
/-- slices.Equal[[]int64,int64]. -/
def en_slices_Equal_int64_int64 (v : Bool) : PV := bB v
def o123_0 : List AOper := [mb 4 0 false]
def o123_1 : List AOper := [mv 6 100 0, ln 7 101 6, mv 8 102 1, ln 9 103 8, bi 10 104 .neq 7 9]
def o123_2 : List AOper := [mb 4 200 false]
def o123_3 : List AOper := [mv 11 300 0, ln 12 301 11, mi 13 302 0]
def o123_4 : List AOper := [bi 14 400 .lss 13 12]
def o123_5 : List AOper := [mv 15 500 13, mv 5 501 15]
def o123_6 : List AOper := [mv 16 600 0, mv 17 601 5, ⟨some 18, none, 602, .idxA 1 (.t 16) (.t 17)⟩, ld 19 603 18, mv 20 604 1, mv 21 605 5, ⟨some 22, none, 606, .idxA 1 (.t 20) (.t 21)⟩, ld 23 607 22, bi 24 608 .neq 19 23]
def o123_7 : List AOper := [mb 4 700 false]
def o123_8 : List AOper := [bc 25 800 .add 13 1, mv 13 801 25]
def o123_9 : List AOper := [mb 4 900 true]
def c123_6 : AC := .cond (.t 10) (.seq (.reg o123_2) .ret) .skip
def c123_12 : AC := .cond (.t 14) .skip (.exit 0)
def c123_14 : AC := .draw [⟨mv 16 600 0, false, []⟩, ⟨mv 17 601 5, false, []⟩, ⟨⟨some 18, none, 602, .idxA 1 (.t 16) (.t 17)⟩, false, []⟩, ⟨ld 19 603 18, false, []⟩, ⟨mv 20 604 1, false, []⟩, ⟨mv 21 605 5, false, []⟩, ⟨⟨some 22, none, 606, .idxA 1 (.t 20) (.t 21)⟩, false, []⟩, ⟨ld 23 607 22, false, []⟩, ⟨bi 24 608 .neq 19 23, false, []⟩]
def c123_19 : AC := .cond (.t 24) (.seq (.reg o123_7) .ret) .skip
def c123_23 : AC := .reg o123_8
def c123_24 : AC := .seq (.block 1 (.seq (.reg o123_5) (.seq c123_14 c123_19))) c123_23
def c123_26 : AC := .seq (.reg o123_4) (.seq c123_12 c123_24)
def c123_28 : AC := .block 0 (.loop c123_26)
def c123_32 : AC := .seq (.reg o123_9) .ret
def c123_33 : AC := .seq (.seq (.reg o123_3) c123_28) c123_32
def c123_35 : AC := .seq (.reg o123_0) (.seq (.seq (.reg o123_1) c123_6) c123_33)
theorem fn123 : fnA Try.prog 123 = some (26, [.t 4], c123_35) := by kernel_rfl
def q_ok_slices_Equal_int64_int64_l0_ok (a0 : List Int) (a1 : List Int) (x0 : Int) (v : (Sum Bool Unit)) : Prop := (fun v => go Try.prog 26 (PostR (fun r => Fnl [.t 4] (en_slices_Equal_int64_int64 r) []) (.exit 0) (fun x : Unit => ⟨[], []⟩) v) [.l c123_26] .norm ⟨[(13, nI x0), (12, nI (a0.length : Int)), (0, lI a0), (1, lI a1)], []⟩) v
theorem ok_slices_Equal_int64_int64_l0_ok (a0 : List Int) (a1 : List Int) (x0 : Int) : Ok (M_slices_Equal_int64_int64_l0 a0 a1 x0) (q_ok_slices_Equal_int64_int64_l0_ok a0 a1 x0) := by
  refine M_slices_Equal_int64_int64_l0.partial_correctness a0 a1 (q_ok_slices_Equal_int64_int64_l0_ok a0 a1) ?_ x0
  clear x0
  intro f' IH x0
  refine okI ?_
  unfold q_ok_slices_Equal_int64_int64_l0_ok at *
  refine Av 1 [.c c123_26, .l c123_26] ⟨[(13, nI x0), (12, nI (a0.length : Int)), (0, lI a0), (1, lI a1)], []⟩ ?_
  refine Av 5 [.c c123_12, .c c123_24, .l c123_26] ⟨[(14, bB (decide (x0 < (a0.length : Int)))), (13, nI x0), (12, nI (a0.length : Int)), (0, lI a0), (1, lI a1)], []⟩ ?_
  refine L_split 14 rfl (fun _ => ?_) (fun _ => ?_)
  · refine Av 10 [.c c123_14, .c c123_19, .b 1, .c c123_23, .l c123_26] ⟨[(5, nI x0), (13, nI x0), (12, nI (a0.length : Int)), (0, lI a0), (1, lI a1)], []⟩ ?_
    refine Ae 3 [.o true (o123_6.drop 2), .c c123_19, .b 1, .c c123_23, .l c123_26] ⟨[(17, nI x0), (16, lI a0), (5, nI x0), (13, nI x0), (12, nI (a0.length : Int)), (0, lI a0), (1, lI a1)], []⟩ ?_
    refine L_idxD (enc := D.int .i64) (l := a0) (iv := x0) trivial rfl rfl (fun _ => rfl) (fun hc602 => ?_)
    refine Ae 3 [.o true (o123_6.drop 6), .c c123_19, .b 1, .c c123_23, .l c123_26] ⟨[(21, nI x0), (20, lI a1), (19, nI (at' a0 x0)), (18, .d (.cp [.int .i64 (at' a0 x0)] 0)), (17, nI x0), (16, lI a0), (5, nI x0), (13, nI x0), (12, nI (a0.length : Int)), (0, lI a0), (1, lI a1)], []⟩ ?_
    refine L_idxD (enc := D.int .i64) (l := a1) (iv := x0) trivial rfl rfl (fun _ => rfl) (fun hc606 => ?_)
    refine Av 3 [.c c123_19, .b 1, .c c123_23, .l c123_26] ⟨[(24, bB ((at' a0 x0) != (at' a1 x0))), (13, nI x0), (12, nI (a0.length : Int)), (0, lI a0), (1, lI a1)], []⟩ ?_
    refine L_split 24 decNe (fun _ => ?_) (fun _ => ?_)
    · refine Avk 9 [] .ret ⟨[(4, bB false)], []⟩ ?_
      exact L_retR
    · refine Av 7 [.l c123_26] ⟨[(13, nI (IntKind.i64.wrap (x0 + 1))), (12, nI (a0.length : Int)), (0, lI a0), (1, lI a1)], []⟩ ?_
      exact L_again (IH (IntKind.i64.wrap (x0 + 1)))
  · refine Avk 4 [] (.exit 0) ⟨[], []⟩ ?_
    exact L_endR
theorem ok_slices_Equal_int64_int64 (a0 : List Int) (a1 : List Int) : ∀ v, M_slices_Equal_int64_int64 a0 a1 = some v → EvF Try.prog 123 [.lst (List.map (D.int .i64) a0), .lst (List.map (D.int .i64) a1)] (en_slices_Equal_int64_int64 v) := by
  intro v hv
  refine EvF_go fn123 (Nat.le_of_ble_eq_true rfl) ?_
  suffices h : Ok (M_slices_Equal_int64_int64 a0 a1) fun v => go Try.prog 26 (Fnl [.t 4] (en_slices_Equal_int64_int64 v) []) [.c c123_35] .norm (initSt (List.map PV.d [.lst (List.map (D.int .i64) a0), .lst (List.map (D.int .i64) a1)]) []) from h v hv
  unfold M_slices_Equal_int64_int64
  refine Av 8 [.o false (o123_1.drop 1), .c c123_6, .c c123_33] ⟨[(6, lI a0), (0, lI a0), (1, lI a1)], []⟩ ?_
  refine L_len (enc := D.int .i64) (l := a0) trivial rfl ?_
  refine Av 1 [.o false (o123_1.drop 3), .c c123_6, .c c123_33] ⟨[(8, lI a1), (7, nI (a0.length : Int)), (0, lI a0), (1, lI a1)], []⟩ ?_
  refine L_len (enc := D.int .i64) (l := a1) trivial rfl ?_
  refine Av 2 [.c c123_6, .c c123_33] ⟨[(10, bB ((a0.length : Int) != (a1.length : Int))), (0, lI a0), (1, lI a1)], []⟩ ?_
  refine L_split 10 decNe (fun _ => ?_) (fun _ => ?_)
  · refine Avk 7 [] .ret ⟨[(4, bB false)], []⟩ ?_
    exact L_ret
  · refine Av 6 [.o false (o123_3.drop 1), .c c123_28, .c c123_32] ⟨[(11, lI a0), (0, lI a0), (1, lI a1)], []⟩ ?_
    refine L_len (enc := D.int .i64) (l := a0) trivial rfl ?_
    refine Av 4 [.l c123_26, .b 0, .c c123_32] ⟨[(13, nI 0), (12, nI (a0.length : Int)), (0, lI a0), (1, lI a1)], []⟩ ?_
    refine L_pieceR (fs := [.l c123_26]) (ks := [.b 0, .c c123_32]) (ok_slices_Equal_int64_int64_l0_ok a0 a1 0) L_thru (fun j1 => ?_)
    refine Avk 6 [] .ret ⟨[(4, bB true)], []⟩ ?_
    exact L_ret
/-- slices.Equal[[]uint64,uint64]. -/
def en_slices_Equal_uint64_uint64 (v : Bool) : PV := bB v
def o129_0 : List AOper := [mb 4 0 false]
def o129_1 : List AOper := [mv 6 100 0, ln 7 101 6, mv 8 102 1, ln 9 103 8, bi 10 104 .neq 7 9]
def o129_2 : List AOper := [mb 4 200 false]
def o129_3 : List AOper := [mv 11 300 0, ln 12 301 11, mi 13 302 0]
def o129_4 : List AOper := [bi 14 400 .lss 13 12]
def o129_5 : List AOper := [mv 15 500 13, mv 5 501 15]
def o129_6 : List AOper := [mv 16 600 0, mv 17 601 5, ⟨some 18, none, 602, .idxA 1 (.t 16) (.t 17)⟩, ld 19 603 18, mv 20 604 1, mv 21 605 5, ⟨some 22, none, 606, .idxA 1 (.t 20) (.t 21)⟩, ld 23 607 22, bi 24 608 .neq 19 23]
def o129_7 : List AOper := [mb 4 700 false]
def o129_8 : List AOper := [bc 25 800 .add 13 1, mv 13 801 25]
def o129_9 : List AOper := [mb 4 900 true]
def c129_6 : AC := .cond (.t 10) (.seq (.reg o129_2) .ret) .skip
def c129_12 : AC := .cond (.t 14) .skip (.exit 0)
def c129_14 : AC := .draw [⟨mv 16 600 0, false, []⟩, ⟨mv 17 601 5, false, []⟩, ⟨⟨some 18, none, 602, .idxA 1 (.t 16) (.t 17)⟩, false, []⟩, ⟨ld 19 603 18, false, []⟩, ⟨mv 20 604 1, false, []⟩, ⟨mv 21 605 5, false, []⟩, ⟨⟨some 22, none, 606, .idxA 1 (.t 20) (.t 21)⟩, false, []⟩, ⟨ld 23 607 22, false, []⟩, ⟨bi 24 608 .neq 19 23, false, []⟩]
def c129_19 : AC := .cond (.t 24) (.seq (.reg o129_7) .ret) .skip
def c129_23 : AC := .reg o129_8
def c129_24 : AC := .seq (.block 1 (.seq (.reg o129_5) (.seq c129_14 c129_19))) c129_23
def c129_26 : AC := .seq (.reg o129_4) (.seq c129_12 c129_24)
def c129_28 : AC := .block 0 (.loop c129_26)
def c129_32 : AC := .seq (.reg o129_9) .ret
def c129_33 : AC := .seq (.seq (.reg o129_3) c129_28) c129_32
def c129_35 : AC := .seq (.reg o129_0) (.seq (.seq (.reg o129_1) c129_6) c129_33)
theorem fn129 : fnA Try.prog 129 = some (26, [.t 4], c129_35) := by kernel_rfl
def q_ok_slices_Equal_uint64_uint64_l0_ok (a0 : List Int) (a1 : List Int) (x0 : Int) (v : (Sum Bool Unit)) : Prop := (fun v => go Try.prog 26 (PostR (fun r => Fnl [.t 4] (en_slices_Equal_uint64_uint64 r) []) (.exit 0) (fun x : Unit => ⟨[], []⟩) v) [.l c129_26] .norm ⟨[(13, nI x0), (12, nI (a0.length : Int)), (0, lU a0), (1, lU a1)], []⟩) v
theorem ok_slices_Equal_uint64_uint64_l0_ok (a0 : List Int) (a1 : List Int) (x0 : Int) : Ok (M_slices_Equal_uint64_uint64_l0 a0 a1 x0) (q_ok_slices_Equal_uint64_uint64_l0_ok a0 a1 x0) := by
  refine M_slices_Equal_uint64_uint64_l0.partial_correctness a0 a1 (q_ok_slices_Equal_uint64_uint64_l0_ok a0 a1) ?_ x0
  clear x0
  intro f' IH x0
  refine okI ?_
  unfold q_ok_slices_Equal_uint64_uint64_l0_ok at *
  refine Av 1 [.c c129_26, .l c129_26] ⟨[(13, nI x0), (12, nI (a0.length : Int)), (0, lU a0), (1, lU a1)], []⟩ ?_
  refine Av 5 [.c c129_12, .c c129_24, .l c129_26] ⟨[(14, bB (decide (x0 < (a0.length : Int)))), (13, nI x0), (12, nI (a0.length : Int)), (0, lU a0), (1, lU a1)], []⟩ ?_
  refine L_split 14 rfl (fun _ => ?_) (fun _ => ?_)
  · refine Av 10 [.c c129_14, .c c129_19, .b 1, .c c129_23, .l c129_26] ⟨[(5, nI x0), (13, nI x0), (12, nI (a0.length : Int)), (0, lU a0), (1, lU a1)], []⟩ ?_
    refine Ae 3 [.o true (o129_6.drop 2), .c c129_19, .b 1, .c c129_23, .l c129_26] ⟨[(17, nI x0), (16, lU a0), (5, nI x0), (13, nI x0), (12, nI (a0.length : Int)), (0, lU a0), (1, lU a1)], []⟩ ?_
    refine L_idxD (enc := D.int .u64) (l := a0) (iv := x0) trivial rfl rfl (fun _ => rfl) (fun hc602 => ?_)
    refine Ae 3 [.o true (o129_6.drop 6), .c c129_19, .b 1, .c c129_23, .l c129_26] ⟨[(21, nI x0), (20, lU a1), (19, nU (at' a0 x0)), (18, .d (.cp [.int .u64 (at' a0 x0)] 0)), (17, nI x0), (16, lU a0), (5, nI x0), (13, nI x0), (12, nI (a0.length : Int)), (0, lU a0), (1, lU a1)], []⟩ ?_
    refine L_idxD (enc := D.int .u64) (l := a1) (iv := x0) trivial rfl rfl (fun _ => rfl) (fun hc606 => ?_)
    refine Av 3 [.c c129_19, .b 1, .c c129_23, .l c129_26] ⟨[(24, bB ((at' a0 x0) != (at' a1 x0))), (13, nI x0), (12, nI (a0.length : Int)), (0, lU a0), (1, lU a1)], []⟩ ?_
    refine L_split 24 decNe (fun _ => ?_) (fun _ => ?_)
    · refine Avk 9 [] .ret ⟨[(4, bB false)], []⟩ ?_
      exact L_retR
    · refine Av 7 [.l c129_26] ⟨[(13, nI (IntKind.i64.wrap (x0 + 1))), (12, nI (a0.length : Int)), (0, lU a0), (1, lU a1)], []⟩ ?_
      exact L_again (IH (IntKind.i64.wrap (x0 + 1)))
  · refine Avk 4 [] (.exit 0) ⟨[], []⟩ ?_
    exact L_endR
theorem ok_slices_Equal_uint64_uint64 (a0 : List Int) (a1 : List Int) : ∀ v, M_slices_Equal_uint64_uint64 a0 a1 = some v → EvF Try.prog 129 [.lst (List.map (D.int .u64) a0), .lst (List.map (D.int .u64) a1)] (en_slices_Equal_uint64_uint64 v) := by
  intro v hv
  refine EvF_go fn129 (Nat.le_of_ble_eq_true rfl) ?_
  suffices h : Ok (M_slices_Equal_uint64_uint64 a0 a1) fun v => go Try.prog 26 (Fnl [.t 4] (en_slices_Equal_uint64_uint64 v) []) [.c c129_35] .norm (initSt (List.map PV.d [.lst (List.map (D.int .u64) a0), .lst (List.map (D.int .u64) a1)]) []) from h v hv
  unfold M_slices_Equal_uint64_uint64
  refine Av 8 [.o false (o129_1.drop 1), .c c129_6, .c c129_33] ⟨[(6, lU a0), (0, lU a0), (1, lU a1)], []⟩ ?_
  refine L_len (enc := D.int .u64) (l := a0) trivial rfl ?_
  refine Av 1 [.o false (o129_1.drop 3), .c c129_6, .c c129_33] ⟨[(8, lU a1), (7, nI (a0.length : Int)), (0, lU a0), (1, lU a1)], []⟩ ?_
  refine L_len (enc := D.int .u64) (l := a1) trivial rfl ?_
  refine Av 2 [.c c129_6, .c c129_33] ⟨[(10, bB ((a0.length : Int) != (a1.length : Int))), (0, lU a0), (1, lU a1)], []⟩ ?_
  refine L_split 10 decNe (fun _ => ?_) (fun _ => ?_)
  · refine Avk 7 [] .ret ⟨[(4, bB false)], []⟩ ?_
    exact L_ret
  · refine Av 6 [.o false (o129_3.drop 1), .c c129_28, .c c129_32] ⟨[(11, lU a0), (0, lU a0), (1, lU a1)], []⟩ ?_
    refine L_len (enc := D.int .u64) (l := a0) trivial rfl ?_
    refine Av 4 [.l c129_26, .b 0, .c c129_32] ⟨[(13, nI 0), (12, nI (a0.length : Int)), (0, lU a0), (1, lU a1)], []⟩ ?_
    refine L_pieceR (fs := [.l c129_26]) (ks := [.b 0, .c c129_32]) (ok_slices_Equal_uint64_uint64_l0_ok a0 a1 0) L_thru (fun j1 => ?_)
    refine Avk 6 [] .ret ⟨[(4, bB true)], []⟩ ?_
    exact L_ret
/-- slices.Equal[[]bool,bool]. -/
def en_slices_Equal_bool_bool (v : Bool) : PV := bB v
def o130_0 : List AOper := [mb 4 0 false]
def o130_1 : List AOper := [mv 6 100 0, ln 7 101 6, mv 8 102 1, ln 9 103 8, bi 10 104 .neq 7 9]
def o130_2 : List AOper := [mb 4 200 false]
def o130_3 : List AOper := [mv 11 300 0, ln 12 301 11, mi 13 302 0]
def o130_4 : List AOper := [bi 14 400 .lss 13 12]
def o130_5 : List AOper := [mv 15 500 13, mv 5 501 15]
def o130_6 : List AOper := [mv 16 600 0, mv 17 601 5, ⟨some 18, none, 602, .idxA 1 (.t 16) (.t 17)⟩, ld 19 603 18, mv 20 604 1, mv 21 605 5, ⟨some 22, none, 606, .idxA 1 (.t 20) (.t 21)⟩, ld 23 607 22, ⟨some 24, none, 608, .bin .neq .bool (.t 19) (.t 23)⟩]
def o130_7 : List AOper := [mb 4 700 false]
def o130_8 : List AOper := [bc 25 800 .add 13 1, mv 13 801 25]
def o130_9 : List AOper := [mb 4 900 true]
def c130_6 : AC := .cond (.t 10) (.seq (.reg o130_2) .ret) .skip
def c130_12 : AC := .cond (.t 14) .skip (.exit 0)
def c130_14 : AC := .draw [⟨mv 16 600 0, false, []⟩, ⟨mv 17 601 5, false, []⟩, ⟨⟨some 18, none, 602, .idxA 1 (.t 16) (.t 17)⟩, false, []⟩, ⟨ld 19 603 18, false, []⟩, ⟨mv 20 604 1, false, []⟩, ⟨mv 21 605 5, false, []⟩, ⟨⟨some 22, none, 606, .idxA 1 (.t 20) (.t 21)⟩, false, []⟩, ⟨ld 23 607 22, false, []⟩, ⟨⟨some 24, none, 608, .bin .neq .bool (.t 19) (.t 23)⟩, false, []⟩]
def c130_19 : AC := .cond (.t 24) (.seq (.reg o130_7) .ret) .skip
def c130_23 : AC := .reg o130_8
def c130_24 : AC := .seq (.block 1 (.seq (.reg o130_5) (.seq c130_14 c130_19))) c130_23
def c130_26 : AC := .seq (.reg o130_4) (.seq c130_12 c130_24)
def c130_28 : AC := .block 0 (.loop c130_26)
def c130_32 : AC := .seq (.reg o130_9) .ret
def c130_33 : AC := .seq (.seq (.reg o130_3) c130_28) c130_32
def c130_35 : AC := .seq (.reg o130_0) (.seq (.seq (.reg o130_1) c130_6) c130_33)
theorem fn130 : fnA Try.prog 130 = some (26, [.t 4], c130_35) := by kernel_rfl
def q_ok_slices_Equal_bool_bool_l0_ok (a0 : List Bool) (a1 : List Bool) (x0 : Int) (v : (Sum Bool Unit)) : Prop := (fun v => go Try.prog 26 (PostR (fun r => Fnl [.t 4] (en_slices_Equal_bool_bool r) []) (.exit 0) (fun x : Unit => ⟨[], []⟩) v) [.l c130_26] .norm ⟨[(13, nI x0), (12, nI (a0.length : Int)), (0, lB a0), (1, lB a1)], []⟩) v
theorem ok_slices_Equal_bool_bool_l0_ok (a0 : List Bool) (a1 : List Bool) (x0 : Int) : Ok (M_slices_Equal_bool_bool_l0 a0 a1 x0) (q_ok_slices_Equal_bool_bool_l0_ok a0 a1 x0) := by
  refine M_slices_Equal_bool_bool_l0.partial_correctness a0 a1 (q_ok_slices_Equal_bool_bool_l0_ok a0 a1) ?_ x0
  clear x0
  intro f' IH x0
  refine okI ?_
  unfold q_ok_slices_Equal_bool_bool_l0_ok at *
  refine Av 1 [.c c130_26, .l c130_26] ⟨[(13, nI x0), (12, nI (a0.length : Int)), (0, lB a0), (1, lB a1)], []⟩ ?_
  refine Av 5 [.c c130_12, .c c130_24, .l c130_26] ⟨[(14, bB (decide (x0 < (a0.length : Int)))), (13, nI x0), (12, nI (a0.length : Int)), (0, lB a0), (1, lB a1)], []⟩ ?_
  refine L_split 14 rfl (fun _ => ?_) (fun _ => ?_)
  · refine Av 10 [.c c130_14, .c c130_19, .b 1, .c c130_23, .l c130_26] ⟨[(5, nI x0), (13, nI x0), (12, nI (a0.length : Int)), (0, lB a0), (1, lB a1)], []⟩ ?_
    refine Ae 3 [.o true (o130_6.drop 2), .c c130_19, .b 1, .c c130_23, .l c130_26] ⟨[(17, nI x0), (16, lB a0), (5, nI x0), (13, nI x0), (12, nI (a0.length : Int)), (0, lB a0), (1, lB a1)], []⟩ ?_
    refine L_idxD (enc := D.bool) (l := a0) (iv := x0) trivial rfl rfl (fun _ => rfl) (fun hc602 => ?_)
    refine Ae 3 [.o true (o130_6.drop 6), .c c130_19, .b 1, .c c130_23, .l c130_26] ⟨[(21, nI x0), (20, lB a1), (19, bB (at' a0 x0)), (18, .d (.cp [.bool (at' a0 x0)] 0)), (17, nI x0), (16, lB a0), (5, nI x0), (13, nI x0), (12, nI (a0.length : Int)), (0, lB a0), (1, lB a1)], []⟩ ?_
    refine L_idxD (enc := D.bool) (l := a1) (iv := x0) trivial rfl rfl (fun _ => rfl) (fun hc606 => ?_)
    refine Av 3 [.c c130_19, .b 1, .c c130_23, .l c130_26] ⟨[(24, bB (!((at' a0 x0) == (at' a1 x0)))), (13, nI x0), (12, nI (a0.length : Int)), (0, lB a0), (1, lB a1)], []⟩ ?_
    refine L_split 24 decBn (fun _ => ?_) (fun _ => ?_)
    · refine Avk 9 [] .ret ⟨[(4, bB false)], []⟩ ?_
      exact L_retR
    · refine Av 7 [.l c130_26] ⟨[(13, nI (IntKind.i64.wrap (x0 + 1))), (12, nI (a0.length : Int)), (0, lB a0), (1, lB a1)], []⟩ ?_
      exact L_again (IH (IntKind.i64.wrap (x0 + 1)))
  · refine Avk 4 [] (.exit 0) ⟨[], []⟩ ?_
    exact L_endR
theorem ok_slices_Equal_bool_bool (a0 : List Bool) (a1 : List Bool) : ∀ v, M_slices_Equal_bool_bool a0 a1 = some v → EvF Try.prog 130 [.lst (List.map D.bool a0), .lst (List.map D.bool a1)] (en_slices_Equal_bool_bool v) := by
  intro v hv
  refine EvF_go fn130 (Nat.le_of_ble_eq_true rfl) ?_
  suffices h : Ok (M_slices_Equal_bool_bool a0 a1) fun v => go Try.prog 26 (Fnl [.t 4] (en_slices_Equal_bool_bool v) []) [.c c130_35] .norm (initSt (List.map PV.d [.lst (List.map D.bool a0), .lst (List.map D.bool a1)]) []) from h v hv
  unfold M_slices_Equal_bool_bool
  refine Av 8 [.o false (o130_1.drop 1), .c c130_6, .c c130_33] ⟨[(6, lB a0), (0, lB a0), (1, lB a1)], []⟩ ?_
  refine L_len (enc := D.bool) (l := a0) trivial rfl ?_
  refine Av 1 [.o false (o130_1.drop 3), .c c130_6, .c c130_33] ⟨[(8, lB a1), (7, nI (a0.length : Int)), (0, lB a0), (1, lB a1)], []⟩ ?_
  refine L_len (enc := D.bool) (l := a1) trivial rfl ?_
  refine Av 2 [.c c130_6, .c c130_33] ⟨[(10, bB ((a0.length : Int) != (a1.length : Int))), (0, lB a0), (1, lB a1)], []⟩ ?_
  refine L_split 10 decNe (fun _ => ?_) (fun _ => ?_)
  · refine Avk 7 [] .ret ⟨[(4, bB false)], []⟩ ?_
    exact L_ret
  · refine Av 6 [.o false (o130_3.drop 1), .c c130_28, .c c130_32] ⟨[(11, lB a0), (0, lB a0), (1, lB a1)], []⟩ ?_
    refine L_len (enc := D.bool) (l := a0) trivial rfl ?_
    refine Av 4 [.l c130_26, .b 0, .c c130_32] ⟨[(13, nI 0), (12, nI (a0.length : Int)), (0, lB a0), (1, lB a1)], []⟩ ?_
    refine L_pieceR (fs := [.l c130_26]) (ks := [.b 0, .c c130_32]) (ok_slices_Equal_bool_bool_l0_ok a0 a1 0) L_thru (fun j1 => ?_)
    refine Avk 6 [] .ret ⟨[(4, bB true)], []⟩ ?_
    exact L_ret
/-- thrum/frame.same. -/
def en_frame_same (v : Bool) : PV := bB v
def o82_0 : List AOper := [⟨some 2, none, 0, .box 51 (.t 0)⟩, ⟨some 3, none, 1, .box 51 (.t 1)⟩, mb 4 2 false]
def o82_1 : List AOper := [⟨some 5, none, 100, .fieldA 0 (.t 2)⟩, ld 6 101 5, ⟨some 7, none, 102, .fieldA 1 (.t 2)⟩, ld 8 103 7, ⟨some 9, none, 104, .fieldA 4 (.t 2)⟩, ld 10 105 9, ⟨some 11, none, 106, .fieldA 5 (.t 2)⟩, ld 12 107 11, ⟨some 13, none, 108, .build [.int .i64 0, .int .i64 0, .int .i64 0, .int .i64 0] [(0, 1, .t 6), (1, 1, .t 8), (2, 1, .t 10), (3, 1, .t 12)]⟩, ⟨some 14, none, 109, .fieldA 0 (.t 3)⟩, ld 15 110 14, ⟨some 16, none, 111, .fieldA 1 (.t 3)⟩, ld 17 112 16, ⟨some 18, none, 113, .fieldA 4 (.t 3)⟩, ld 19 114 18, ⟨some 20, none, 115, .fieldA 5 (.t 3)⟩, ld 21 116 20, ⟨some 22, none, 117, .build [.int .i64 0, .int .i64 0, .int .i64 0, .int .i64 0] [(0, 1, .t 15), (1, 1, .t 17), (2, 1, .t 19), (3, 1, .t 21)]⟩, ⟨some 23, none, 118, .eqA false .i64 4 (.t 13) (.t 22)⟩, mv 24 119 23, ⟨some 25, some (24, true), 120, .fieldA 2 (.t 2)⟩, ⟨some 26, some (24, true), 121, .load false 1 (.t 25)⟩, ⟨some 27, some (24, true), 122, .fieldA 2 (.t 3)⟩, ⟨some 28, some (24, true), 123, .load false 1 (.t 27)⟩, ⟨some 29, some (24, true), 124, .call 122 [.t 26, .t 28]⟩, pk 30 125 24 29 false, mv 31 126 30, ⟨some 32, some (31, true), 127, .fieldA 3 (.t 2)⟩, ⟨some 33, some (31, true), 128, .load false 1 (.t 32)⟩, ⟨some 34, some (31, true), 129, .fieldA 3 (.t 3)⟩, ⟨some 35, some (31, true), 130, .load false 1 (.t 34)⟩, ⟨some 36, some (31, true), 131, .call 123 [.t 33, .t 35]⟩, pk 37 132 31 36 false, mv 38 133 37, ⟨some 39, some (38, true), 134, .fieldA 6 (.t 2)⟩, ⟨some 40, some (38, true), 135, .load false 1 (.t 39)⟩, ⟨some 41, some (38, true), 136, .fieldA 6 (.t 3)⟩, ⟨some 42, some (38, true), 137, .load false 1 (.t 41)⟩, ⟨some 43, some (38, true), 138, .call 129 [.t 40, .t 42]⟩, pk 44 139 38 43 false, mv 45 140 44, ⟨some 46, some (45, true), 141, .fieldA 7 (.t 2)⟩, ⟨some 47, some (45, true), 142, .load false 1 (.t 46)⟩, ⟨some 48, some (45, true), 143, .fieldA 7 (.t 3)⟩, ⟨some 49, some (45, true), 144, .load false 1 (.t 48)⟩, ⟨some 50, some (45, true), 145, .call 130 [.t 47, .t 49]⟩, pk 51 146 45 50 false, mv 4 147 51]
def o82_1t20_26 : List AOper := (o82_1.drop 20).take 6
def o82_1t27_33 : List AOper := (o82_1.drop 27).take 6
def o82_1t34_40 : List AOper := (o82_1.drop 34).take 6
def o82_1t41_47 : List AOper := (o82_1.drop 41).take 6
def c82_4 : AC := .seq (.reg o82_0) (.seq (.reg o82_1) .ret)
theorem fn82 : fnA Try.prog 82 = some (52, [.t 4], c82_4) := by kernel_rfl
theorem ok_frame_same (a0 : T_api_Sent) (a1 : T_api_Sent) : ∀ v, M_frame_same a0 a1 = some v → EvF Try.prog 82 [.agg [.int .i64 a0.F_Scheme, .int .i64 a0.F_Dim, .lst (List.map (D.int .i64) a0.F_L), .lst (List.map (D.int .i64) a0.F_V), .int .i64 a0.F_Scale, .int .i64 a0.F_Wide, .lst (List.map (D.int .u64) a0.F_Lev), .lst (List.map D.bool a0.F_Neg)], .agg [.int .i64 a1.F_Scheme, .int .i64 a1.F_Dim, .lst (List.map (D.int .i64) a1.F_L), .lst (List.map (D.int .i64) a1.F_V), .int .i64 a1.F_Scale, .int .i64 a1.F_Wide, .lst (List.map (D.int .u64) a1.F_Lev), .lst (List.map D.bool a1.F_Neg)]] (en_frame_same v) := by
  intro v hv
  refine EvF_go fn82 (Nat.le_of_ble_eq_true rfl) ?_
  suffices h : Ok (M_frame_same a0 a1) fun v => go Try.prog 52 (Fnl [.t 4] (en_frame_same v) []) [.c c82_4] .norm (initSt (List.map PV.d [.agg [.int .i64 a0.F_Scheme, .int .i64 a0.F_Dim, .lst (List.map (D.int .i64) a0.F_L), .lst (List.map (D.int .i64) a0.F_V), .int .i64 a0.F_Scale, .int .i64 a0.F_Wide, .lst (List.map (D.int .u64) a0.F_Lev), .lst (List.map D.bool a0.F_Neg)], .agg [.int .i64 a1.F_Scheme, .int .i64 a1.F_Dim, .lst (List.map (D.int .i64) a1.F_L), .lst (List.map (D.int .i64) a1.F_V), .int .i64 a1.F_Scale, .int .i64 a1.F_Wide, .lst (List.map (D.int .u64) a1.F_Lev), .lst (List.map D.bool a1.F_Neg)]]) []) from h v hv
  unfold M_frame_same
  refine Av 28 [.o false (o82_1.drop 20), .c .ret] ⟨[(24, bB (([a0.F_Scheme, a0.F_Dim, a0.F_Scale, a0.F_Wide] : List Int) == [a1.F_Scheme, a1.F_Dim, a1.F_Scale, a1.F_Wide])), (3, .ptr (.s 31) 0), (2, .ptr (.s 15) 0)], [(.s 31, [nI a1.F_Scheme, nI a1.F_Dim, lI a1.F_L, lI a1.F_V, nI a1.F_Scale, nI a1.F_Wide, lU a1.F_Lev, lB a1.F_Neg]), (.s 15, [nI a0.F_Scheme, nI a0.F_Dim, lI a0.F_L, lI a0.F_V, nI a0.F_Scale, nI a0.F_Wide, lU a0.F_Lev, lB a0.F_Neg])]⟩ ?_
  refine L_take 6 o82_1t20_26 (o82_1.drop 26) ?_
  refine L_join [.o false o82_1t20_26] [.o false (o82_1.drop 26), .c .ret] (fun x : Bool => ⟨[(30, bB x), (3, .ptr (.s 31) 0), (2, .ptr (.s 15) 0)], [(.s 31, [nI a1.F_Scheme, nI a1.F_Dim, lI a1.F_L, lI a1.F_V, nI a1.F_Scale, nI a1.F_Wide, lU a1.F_Lev, lB a1.F_Neg]), (.s 15, [nI a0.F_Scheme, nI a0.F_Dim, lI a0.F_L, lI a0.F_V, nI a0.F_Scale, nI a0.F_Wide, lU a0.F_Lev, lB a0.F_Neg])]⟩) ?_ (fun j2 => ?_)
  · refine L_split 24 decL (fun _ => ?_) (fun _ => ?_)
    · refine Av 4 [.o false (o82_1t20_26.drop 4)] ⟨[(28, lI a1.F_L), (24, bB true), (26, lI a0.F_L), (3, .ptr (.s 31) 0), (2, .ptr (.s 15) 0)], [(.s 31, [nI a1.F_Scheme, nI a1.F_Dim, lI a1.F_L, lI a1.F_V, nI a1.F_Scale, nI a1.F_Wide, lU a1.F_Lev, lB a1.F_Neg]), (.s 15, [nI a0.F_Scheme, nI a0.F_Dim, lI a0.F_L, lI a0.F_V, nI a0.F_Scale, nI a0.F_Wide, lU a0.F_Lev, lB a0.F_Neg])]⟩ ?_
      refine L_call (ok_slices_Equal_int_int a0.F_L a1.F_L) rfl rfl (fun _ => rfl) (fun _ => trivial) (fun r1 => ?_)
      refine Av 2 [] ⟨[(30, bB r1), (3, .ptr (.s 31) 0), (2, .ptr (.s 15) 0)], [(.s 31, [nI a1.F_Scheme, nI a1.F_Dim, lI a1.F_L, lI a1.F_V, nI a1.F_Scale, nI a1.F_Wide, lU a1.F_Lev, lB a1.F_Neg]), (.s 15, [nI a0.F_Scheme, nI a0.F_Dim, lI a0.F_L, lI a0.F_V, nI a0.F_Scale, nI a0.F_Wide, lU a0.F_Lev, lB a0.F_Neg])]⟩ ?_
      exact L_end
    · refine Av 7 [] ⟨[(30, bB false), (3, .ptr (.s 31) 0), (2, .ptr (.s 15) 0)], [(.s 31, [nI a1.F_Scheme, nI a1.F_Dim, lI a1.F_L, lI a1.F_V, nI a1.F_Scale, nI a1.F_Wide, lU a1.F_Lev, lB a1.F_Neg]), (.s 15, [nI a0.F_Scheme, nI a0.F_Dim, lI a0.F_L, lI a0.F_V, nI a0.F_Scale, nI a0.F_Wide, lU a0.F_Lev, lB a0.F_Neg])]⟩ ?_
      exact L_end
  · refine Av 1 [.o false (o82_1.drop 27), .c .ret] ⟨[(31, bB j2), (3, .ptr (.s 31) 0), (2, .ptr (.s 15) 0)], [(.s 31, [nI a1.F_Scheme, nI a1.F_Dim, lI a1.F_L, lI a1.F_V, nI a1.F_Scale, nI a1.F_Wide, lU a1.F_Lev, lB a1.F_Neg]), (.s 15, [nI a0.F_Scheme, nI a0.F_Dim, lI a0.F_L, lI a0.F_V, nI a0.F_Scale, nI a0.F_Wide, lU a0.F_Lev, lB a0.F_Neg])]⟩ ?_
    refine L_take 6 o82_1t27_33 (o82_1.drop 33) ?_
    refine L_join [.o false o82_1t27_33] [.o false (o82_1.drop 33), .c .ret] (fun x : Bool => ⟨[(37, bB x), (3, .ptr (.s 31) 0), (2, .ptr (.s 15) 0)], [(.s 31, [nI a1.F_Scheme, nI a1.F_Dim, lI a1.F_L, lI a1.F_V, nI a1.F_Scale, nI a1.F_Wide, lU a1.F_Lev, lB a1.F_Neg]), (.s 15, [nI a0.F_Scheme, nI a0.F_Dim, lI a0.F_L, lI a0.F_V, nI a0.F_Scale, nI a0.F_Wide, lU a0.F_Lev, lB a0.F_Neg])]⟩) ?_ (fun j4 => ?_)
    · refine L_split 31 decT (fun _ => ?_) (fun _ => ?_)
      · refine Av 4 [.o false (o82_1t27_33.drop 4)] ⟨[(35, lI a1.F_V), (31, bB true), (33, lI a0.F_V), (3, .ptr (.s 31) 0), (2, .ptr (.s 15) 0)], [(.s 31, [nI a1.F_Scheme, nI a1.F_Dim, lI a1.F_L, lI a1.F_V, nI a1.F_Scale, nI a1.F_Wide, lU a1.F_Lev, lB a1.F_Neg]), (.s 15, [nI a0.F_Scheme, nI a0.F_Dim, lI a0.F_L, lI a0.F_V, nI a0.F_Scale, nI a0.F_Wide, lU a0.F_Lev, lB a0.F_Neg])]⟩ ?_
        refine L_call (ok_slices_Equal_int64_int64 a0.F_V a1.F_V) rfl rfl (fun _ => rfl) (fun _ => trivial) (fun r3 => ?_)
        refine Av 2 [] ⟨[(37, bB r3), (3, .ptr (.s 31) 0), (2, .ptr (.s 15) 0)], [(.s 31, [nI a1.F_Scheme, nI a1.F_Dim, lI a1.F_L, lI a1.F_V, nI a1.F_Scale, nI a1.F_Wide, lU a1.F_Lev, lB a1.F_Neg]), (.s 15, [nI a0.F_Scheme, nI a0.F_Dim, lI a0.F_L, lI a0.F_V, nI a0.F_Scale, nI a0.F_Wide, lU a0.F_Lev, lB a0.F_Neg])]⟩ ?_
        exact L_end
      · refine Av 7 [] ⟨[(37, bB false), (3, .ptr (.s 31) 0), (2, .ptr (.s 15) 0)], [(.s 31, [nI a1.F_Scheme, nI a1.F_Dim, lI a1.F_L, lI a1.F_V, nI a1.F_Scale, nI a1.F_Wide, lU a1.F_Lev, lB a1.F_Neg]), (.s 15, [nI a0.F_Scheme, nI a0.F_Dim, lI a0.F_L, lI a0.F_V, nI a0.F_Scale, nI a0.F_Wide, lU a0.F_Lev, lB a0.F_Neg])]⟩ ?_
        exact L_end
    · refine Av 1 [.o false (o82_1.drop 34), .c .ret] ⟨[(38, bB j4), (3, .ptr (.s 31) 0), (2, .ptr (.s 15) 0)], [(.s 31, [nI a1.F_Scheme, nI a1.F_Dim, lI a1.F_L, lI a1.F_V, nI a1.F_Scale, nI a1.F_Wide, lU a1.F_Lev, lB a1.F_Neg]), (.s 15, [nI a0.F_Scheme, nI a0.F_Dim, lI a0.F_L, lI a0.F_V, nI a0.F_Scale, nI a0.F_Wide, lU a0.F_Lev, lB a0.F_Neg])]⟩ ?_
      refine L_take 6 o82_1t34_40 (o82_1.drop 40) ?_
      refine L_join [.o false o82_1t34_40] [.o false (o82_1.drop 40), .c .ret] (fun x : Bool => ⟨[(44, bB x), (3, .ptr (.s 31) 0), (2, .ptr (.s 15) 0)], [(.s 31, [nI a1.F_Scheme, nI a1.F_Dim, lI a1.F_L, lI a1.F_V, nI a1.F_Scale, nI a1.F_Wide, lU a1.F_Lev, lB a1.F_Neg]), (.s 15, [nI a0.F_Scheme, nI a0.F_Dim, lI a0.F_L, lI a0.F_V, nI a0.F_Scale, nI a0.F_Wide, lU a0.F_Lev, lB a0.F_Neg])]⟩) ?_ (fun j6 => ?_)
      · refine L_split 38 decT (fun _ => ?_) (fun _ => ?_)
        · refine Av 4 [.o false (o82_1t34_40.drop 4)] ⟨[(42, lU a1.F_Lev), (38, bB true), (40, lU a0.F_Lev), (3, .ptr (.s 31) 0), (2, .ptr (.s 15) 0)], [(.s 31, [nI a1.F_Scheme, nI a1.F_Dim, lI a1.F_L, lI a1.F_V, nI a1.F_Scale, nI a1.F_Wide, lU a1.F_Lev, lB a1.F_Neg]), (.s 15, [nI a0.F_Scheme, nI a0.F_Dim, lI a0.F_L, lI a0.F_V, nI a0.F_Scale, nI a0.F_Wide, lU a0.F_Lev, lB a0.F_Neg])]⟩ ?_
          refine L_call (ok_slices_Equal_uint64_uint64 a0.F_Lev a1.F_Lev) rfl rfl (fun _ => rfl) (fun _ => trivial) (fun r5 => ?_)
          refine Av 2 [] ⟨[(44, bB r5), (3, .ptr (.s 31) 0), (2, .ptr (.s 15) 0)], [(.s 31, [nI a1.F_Scheme, nI a1.F_Dim, lI a1.F_L, lI a1.F_V, nI a1.F_Scale, nI a1.F_Wide, lU a1.F_Lev, lB a1.F_Neg]), (.s 15, [nI a0.F_Scheme, nI a0.F_Dim, lI a0.F_L, lI a0.F_V, nI a0.F_Scale, nI a0.F_Wide, lU a0.F_Lev, lB a0.F_Neg])]⟩ ?_
          exact L_end
        · refine Av 7 [] ⟨[(44, bB false), (3, .ptr (.s 31) 0), (2, .ptr (.s 15) 0)], [(.s 31, [nI a1.F_Scheme, nI a1.F_Dim, lI a1.F_L, lI a1.F_V, nI a1.F_Scale, nI a1.F_Wide, lU a1.F_Lev, lB a1.F_Neg]), (.s 15, [nI a0.F_Scheme, nI a0.F_Dim, lI a0.F_L, lI a0.F_V, nI a0.F_Scale, nI a0.F_Wide, lU a0.F_Lev, lB a0.F_Neg])]⟩ ?_
          exact L_end
      · refine Av 1 [.o false (o82_1.drop 41), .c .ret] ⟨[(45, bB j6), (3, .ptr (.s 31) 0), (2, .ptr (.s 15) 0)], [(.s 31, [nI a1.F_Scheme, nI a1.F_Dim, lI a1.F_L, lI a1.F_V, nI a1.F_Scale, nI a1.F_Wide, lU a1.F_Lev, lB a1.F_Neg]), (.s 15, [nI a0.F_Scheme, nI a0.F_Dim, lI a0.F_L, lI a0.F_V, nI a0.F_Scale, nI a0.F_Wide, lU a0.F_Lev, lB a0.F_Neg])]⟩ ?_
        refine L_take 6 o82_1t41_47 (o82_1.drop 47) ?_
        refine L_join [.o false o82_1t41_47] [.o false (o82_1.drop 47), .c .ret] (fun x : Bool => ⟨[(51, bB x)], []⟩) ?_ (fun j8 => ?_)
        · refine L_split 45 decT (fun _ => ?_) (fun _ => ?_)
          · refine Av 4 [.o false (o82_1t41_47.drop 4)] ⟨[(49, lB a1.F_Neg), (45, bB true), (47, lB a0.F_Neg)], []⟩ ?_
            refine L_call (ok_slices_Equal_bool_bool a0.F_Neg a1.F_Neg) rfl rfl (fun _ => rfl) (fun _ => trivial) (fun r7 => ?_)
            refine Av 2 [] ⟨[(51, bB r7)], []⟩ ?_
            exact L_end
          · refine Av 7 [] ⟨[(51, bB false)], []⟩ ?_
            exact L_end
        · refine Avk 3 [] .ret ⟨[(4, bB j8)], []⟩ ?_
          exact L_ret
/-- thrum/frame.May. -/
def en_frame_May (v : Bool) : PV := bB v
def o31_0 : List AOper := [⟨some 1, none, 0, .box 51 (.t 0)⟩, mb 2 1 false]
def o31_1 : List AOper := [⟨some 6, none, 100, .load true 8 (.t 1)⟩, cl' 7 101 83 [.t 6], mv 5 102 7, xt 8 103 5 0, xt 9 104 5 1, ⟨some 3, none, 105, .alloc 51 8 [.int .i64 0, .int .i64 0, .lst [], .lst [], .int .i64 0, .int .i64 0, .lst [], .lst []]⟩, ⟨none, none, 106, .store 8 (.t 3) (.t 8)⟩, mv 4 107 9]
def o31_2 : List AOper := [mv 10 200 4, mv 11 201 10, ⟨some 12, some (11, true), 202, .load true 8 (.t 3)⟩, ⟨some 13, some (11, true), 203, .build [.int .i64 0, .int .i64 0, .lst [], .lst [], .int .i64 0, .int .i64 0, .lst [], .lst []] []⟩, ⟨some 14, some (11, true), 204, .call 82 [.t 12, .t 13]⟩, pk 15 205 11 14 false, mv 2 206 15]
def o31_2t2_6 : List AOper := (o31_2.drop 2).take 4
def c31_4 : AC := .seq (.reg o31_2) .ret
def c31_6 : AC := .seq (.reg o31_0) (.seq (.reg o31_1) c31_4)
theorem fn31 : fnA Try.prog 31 = some (16, [.t 2], c31_6) := by kernel_rfl
theorem ok_frame_May (a0 : T_api_Sent) : ∀ v, M_frame_May a0 = some v → EvF Try.prog 31 [.agg [.int .i64 a0.F_Scheme, .int .i64 a0.F_Dim, .lst (List.map (D.int .i64) a0.F_L), .lst (List.map (D.int .i64) a0.F_V), .int .i64 a0.F_Scale, .int .i64 a0.F_Wide, .lst (List.map (D.int .u64) a0.F_Lev), .lst (List.map D.bool a0.F_Neg)]] (en_frame_May v) := by
  intro v hv
  refine EvF_go fn31 (Nat.le_of_ble_eq_true rfl) ?_
  suffices h : Ok (M_frame_May a0) fun v => go Try.prog 16 (Fnl [.t 2] (en_frame_May v) []) [.c c31_6] .norm (initSt (List.map PV.d [.agg [.int .i64 a0.F_Scheme, .int .i64 a0.F_Dim, .lst (List.map (D.int .i64) a0.F_L), .lst (List.map (D.int .i64) a0.F_V), .int .i64 a0.F_Scale, .int .i64 a0.F_Wide, .lst (List.map (D.int .u64) a0.F_Lev), .lst (List.map D.bool a0.F_Neg)]]) []) from h v hv
  unfold M_frame_May
  refine Av 8 [.o false (o31_1.drop 1), .c c31_4] ⟨[(6, .agg [nI a0.F_Scheme, nI a0.F_Dim, lI a0.F_L, lI a0.F_V, nI a0.F_Scale, nI a0.F_Wide, lU a0.F_Lev, lB a0.F_Neg])], []⟩ ?_
  refine L_callZ [] (ok_frame_bare a0) trivial rfl rfl (fun _ => rfl) (fun r1 => ?_)
  refine Av 11 [.o false (o31_2.drop 2), .c .ret] ⟨[(11, bB r1.2.2.2.2.2.2.2.2), (3, .ptr (.s 1695) 0)], [(.s 1695, [nI r1.1, nI r1.2.1, lI r1.2.2.1, lI r1.2.2.2.1, nI r1.2.2.2.2.1, nI r1.2.2.2.2.2.1, lU r1.2.2.2.2.2.2.1, lB r1.2.2.2.2.2.2.2.1])]⟩ ?_
  refine L_take 4 o31_2t2_6 (o31_2.drop 6) ?_
  refine L_join [.o false o31_2t2_6] [.o false (o31_2.drop 6), .c .ret] (fun x : Bool => ⟨[(15, bB x)], []⟩) ?_ (fun j3 => ?_)
  · refine L_split 11 decT (fun _ => ?_) (fun _ => ?_)
    · refine Av 2 [.o false (o31_2t2_6.drop 2)] ⟨[(13, .agg [nI 0, nI 0, .nils, .nils, nI 0, nI 0, .nils, .nils]), (11, bB true), (12, .agg [nI r1.1, nI r1.2.1, lI r1.2.2.1, lI r1.2.2.2.1, nI r1.2.2.2.2.1, nI r1.2.2.2.2.2.1, lU r1.2.2.2.2.2.2.1, lB r1.2.2.2.2.2.2.2.1])], []⟩ ?_
      refine L_call (ok_frame_same (⟨r1.1, r1.2.1, r1.2.2.1, r1.2.2.2.1, r1.2.2.2.2.1, r1.2.2.2.2.2.1, r1.2.2.2.2.2.2.1, r1.2.2.2.2.2.2.2.1⟩ : T_api_Sent) (⟨0, 0, [], [], 0, 0, [], []⟩ : T_api_Sent)) rfl rfl (fun _ => rfl) (fun _ => trivial) (fun r2 => ?_)
      refine Av 2 [] ⟨[(15, bB r2)], []⟩ ?_
      exact L_end
    · refine Av 5 [] ⟨[(15, bB false)], []⟩ ?_
      exact L_end
  · refine Avk 3 [] .ret ⟨[(2, bB j3)], []⟩ ?_
    exact L_ret
/-- thrum/frame.Check. -/
def en_frame_Check (v : Int) : PV := nI v
def o30_0 : List AOper := [⟨some 1, none, 0, .box 53 (.t 0)⟩, mi 2 1 0]
def o30_1 : List AOper := [⟨some 4, none, 100, .fieldA 1 (.t 1)⟩, ld 5 101 4, bc 6 102 .geq 5 0, mv 7 103 6, ⟨some 8, some (7, true), 104, .fieldA 1 (.t 1)⟩, ⟨some 9, some (7, true), 105, .load false 1 (.t 8)⟩, ⟨some 10, some (7, true), 106, .bin .lss .int (.t 9) (.c (.d (.int .i64 64)))⟩, pk 11 107 7 10 false, mv 12 108 11, ⟨some 13, some (12, true), 109, .fieldA 2 (.t 1)⟩, ⟨some 14, some (12, true), 110, .load false 1 (.t 13)⟩, ⟨some 15, some (12, true), 111, .bin .geq .int (.t 14) (.c (.d (.int .i64 0)))⟩, pk 16 112 12 15 false, mv 17 113 16, ⟨some 18, some (17, true), 114, .fieldA 2 (.t 1)⟩, ⟨some 19, some (17, true), 115, .load false 1 (.t 18)⟩, ⟨some 20, some (17, true), 116, .bin .leq .int (.t 19) (.c (.d (.int .i64 1073741824)))⟩, pk 21 117 17 20 false, mv 3 118 21]
def o30_2 : List AOper := [mv 22 200 3, mv 23 201 22, ⟨some 24, some (23, true), 202, .fieldA 0 (.t 1)⟩, ⟨some 25, some (23, true), 203, .load false 1 (.t 24)⟩, ⟨some 26, some (23, true), 204, .bin .eql .int (.t 25) (.c (.d (.int .i64 1)))⟩, gv 27 23 true 205 26, ⟨some 28, some (27, true), 206, .fieldA 3 (.t 1)⟩, ⟨some 29, some (27, true), 207, .load true 8 (.t 28)⟩, ⟨some 30, some (27, true), 208, .call 31 [.t 29]⟩, ⟨some 31, some (23, true), 209, .pick (.t 27) (.t 30) (.c (.d (.bool false)))⟩, gv 32 23 true 210 31, ⟨some 33, some (32, false), 211, .fieldA 0 (.t 1)⟩, ⟨some 34, some (32, false), 212, .load false 1 (.t 33)⟩, ⟨some 35, some (32, false), 213, .bin .eql .int (.t 34) (.c (.d (.int .i64 2)))⟩, gv 36 32 false 214 35, ⟨some 37, some (36, true), 215, .fieldA 3 (.t 1)⟩, ⟨some 38, some (36, true), 216, .load true 8 (.t 37)⟩, ⟨some 39, some (36, true), 217, .build [.int .i64 0, .int .i64 0, .lst [], .lst [], .int .i64 0, .int .i64 0, .lst [], .lst []] []⟩, ⟨some 40, some (36, true), 218, .call 82 [.t 38, .t 39]⟩, ⟨some 41, some (32, false), 219, .pick (.t 36) (.t 40) (.c (.d (.bool false)))⟩, ⟨some 42, some (23, true), 220, .pick (.t 32) (.c (.d (.bool true))) (.t 41)⟩, pk 43 221 23 42 false]
def o30_3 : List AOper := [mi 2 300 0]
def o30_4 : List AOper := [mi 2 400 1]
def o30_1t4_8 : List AOper := (o30_1.drop 4).take 4
def o30_1t9_13 : List AOper := (o30_1.drop 9).take 4
def o30_1t14_18 : List AOper := (o30_1.drop 14).take 4
def c30_7 : AC := .cond (.t 43) (.seq (.reg o30_3) .ret) .skip
def c30_11 : AC := .seq (.reg o30_4) .ret
def c30_12 : AC := .seq (.seq (.reg o30_2) c30_7) c30_11
def c30_14 : AC := .seq (.reg o30_0) (.seq (.reg o30_1) c30_12)
theorem fn30 : fnA Try.prog 30 = some (44, [.t 2], c30_14) := by kernel_rfl
theorem ok_frame_Check (a0 : T_api_Frame) : ∀ v, M_frame_Check a0 = some v → EvF Try.prog 30 [.agg [.int .i64 a0.F_Kind, .int .i64 a0.F_From, .int .i64 a0.F_Step, .int .i64 a0.F_S.F_Scheme, .int .i64 a0.F_S.F_Dim, .lst (List.map (D.int .i64) a0.F_S.F_L), .lst (List.map (D.int .i64) a0.F_S.F_V), .int .i64 a0.F_S.F_Scale, .int .i64 a0.F_S.F_Wide, .lst (List.map (D.int .u64) a0.F_S.F_Lev), .lst (List.map D.bool a0.F_S.F_Neg)]] (en_frame_Check v) := by
  intro v hv
  refine EvF_go fn30 (Nat.le_of_ble_eq_true rfl) ?_
  suffices h : Ok (M_frame_Check a0) fun v => go Try.prog 44 (Fnl [.t 2] (en_frame_Check v) []) [.c c30_14] .norm (initSt (List.map PV.d [.agg [.int .i64 a0.F_Kind, .int .i64 a0.F_From, .int .i64 a0.F_Step, .int .i64 a0.F_S.F_Scheme, .int .i64 a0.F_S.F_Dim, .lst (List.map (D.int .i64) a0.F_S.F_L), .lst (List.map (D.int .i64) a0.F_S.F_V), .int .i64 a0.F_S.F_Scale, .int .i64 a0.F_S.F_Wide, .lst (List.map (D.int .u64) a0.F_S.F_Lev), .lst (List.map D.bool a0.F_S.F_Neg)]]) []) from h v hv
  unfold M_frame_Check
  refine Av 11 [.o false (o30_1.drop 4), .c c30_12] ⟨[(7, bB (decide (a0.F_From ≥ 0))), (1, .ptr (.s 15) 0)], [(.s 15, [nI a0.F_Kind, nI a0.F_From, nI a0.F_Step, nI a0.F_S.F_Scheme, nI a0.F_S.F_Dim, lI a0.F_S.F_L, lI a0.F_S.F_V, nI a0.F_S.F_Scale, nI a0.F_S.F_Wide, lU a0.F_S.F_Lev, lB a0.F_S.F_Neg])]⟩ ?_
  refine L_take 4 o30_1t4_8 (o30_1.drop 8) ?_
  refine L_join [.o false o30_1t4_8] [.o false (o30_1.drop 8), .c c30_12] (fun x : Bool => ⟨[(11, bB x), (1, .ptr (.s 15) 0)], [(.s 15, [nI a0.F_Kind, nI a0.F_From, nI a0.F_Step, nI a0.F_S.F_Scheme, nI a0.F_S.F_Dim, lI a0.F_S.F_L, lI a0.F_S.F_V, nI a0.F_S.F_Scale, nI a0.F_S.F_Wide, lU a0.F_S.F_Lev, lB a0.F_S.F_Neg])]⟩) ?_ (fun j1 => ?_)
  · refine L_split 7 rfl (fun _ => ?_) (fun _ => ?_)
    · refine Av 5 [] ⟨[(11, bB (decide (a0.F_From < 64))), (1, .ptr (.s 15) 0)], [(.s 15, [nI a0.F_Kind, nI a0.F_From, nI a0.F_Step, nI a0.F_S.F_Scheme, nI a0.F_S.F_Dim, lI a0.F_S.F_L, lI a0.F_S.F_V, nI a0.F_S.F_Scale, nI a0.F_S.F_Wide, lU a0.F_S.F_Lev, lB a0.F_S.F_Neg])]⟩ ?_
      exact L_end
    · refine Av 5 [] ⟨[(11, bB false), (1, .ptr (.s 15) 0)], [(.s 15, [nI a0.F_Kind, nI a0.F_From, nI a0.F_Step, nI a0.F_S.F_Scheme, nI a0.F_S.F_Dim, lI a0.F_S.F_L, lI a0.F_S.F_V, nI a0.F_S.F_Scale, nI a0.F_S.F_Wide, lU a0.F_S.F_Lev, lB a0.F_S.F_Neg])]⟩ ?_
      exact L_end
  · refine Av 1 [.o false (o30_1.drop 9), .c c30_12] ⟨[(12, bB j1), (1, .ptr (.s 15) 0)], [(.s 15, [nI a0.F_Kind, nI a0.F_From, nI a0.F_Step, nI a0.F_S.F_Scheme, nI a0.F_S.F_Dim, lI a0.F_S.F_L, lI a0.F_S.F_V, nI a0.F_S.F_Scale, nI a0.F_S.F_Wide, lU a0.F_S.F_Lev, lB a0.F_S.F_Neg])]⟩ ?_
    refine L_take 4 o30_1t9_13 (o30_1.drop 13) ?_
    refine L_join [.o false o30_1t9_13] [.o false (o30_1.drop 13), .c c30_12] (fun x : Bool => ⟨[(16, bB x), (1, .ptr (.s 15) 0)], [(.s 15, [nI a0.F_Kind, nI a0.F_From, nI a0.F_Step, nI a0.F_S.F_Scheme, nI a0.F_S.F_Dim, lI a0.F_S.F_L, lI a0.F_S.F_V, nI a0.F_S.F_Scale, nI a0.F_S.F_Wide, lU a0.F_S.F_Lev, lB a0.F_S.F_Neg])]⟩) ?_ (fun j2 => ?_)
    · refine L_split 12 decT (fun _ => ?_) (fun _ => ?_)
      · refine Av 5 [] ⟨[(16, bB (decide (a0.F_Step ≥ 0))), (1, .ptr (.s 15) 0)], [(.s 15, [nI a0.F_Kind, nI a0.F_From, nI a0.F_Step, nI a0.F_S.F_Scheme, nI a0.F_S.F_Dim, lI a0.F_S.F_L, lI a0.F_S.F_V, nI a0.F_S.F_Scale, nI a0.F_S.F_Wide, lU a0.F_S.F_Lev, lB a0.F_S.F_Neg])]⟩ ?_
        exact L_end
      · refine Av 5 [] ⟨[(16, bB false), (1, .ptr (.s 15) 0)], [(.s 15, [nI a0.F_Kind, nI a0.F_From, nI a0.F_Step, nI a0.F_S.F_Scheme, nI a0.F_S.F_Dim, lI a0.F_S.F_L, lI a0.F_S.F_V, nI a0.F_S.F_Scale, nI a0.F_S.F_Wide, lU a0.F_S.F_Lev, lB a0.F_S.F_Neg])]⟩ ?_
        exact L_end
    · refine Av 1 [.o false (o30_1.drop 14), .c c30_12] ⟨[(17, bB j2), (1, .ptr (.s 15) 0)], [(.s 15, [nI a0.F_Kind, nI a0.F_From, nI a0.F_Step, nI a0.F_S.F_Scheme, nI a0.F_S.F_Dim, lI a0.F_S.F_L, lI a0.F_S.F_V, nI a0.F_S.F_Scale, nI a0.F_S.F_Wide, lU a0.F_S.F_Lev, lB a0.F_S.F_Neg])]⟩ ?_
      refine L_take 4 o30_1t14_18 (o30_1.drop 18) ?_
      refine L_join [.o false o30_1t14_18] [.o false (o30_1.drop 18), .c c30_12] (fun x : Bool => ⟨[(21, bB x), (1, .ptr (.s 15) 0)], [(.s 15, [nI a0.F_Kind, nI a0.F_From, nI a0.F_Step, nI a0.F_S.F_Scheme, nI a0.F_S.F_Dim, lI a0.F_S.F_L, lI a0.F_S.F_V, nI a0.F_S.F_Scale, nI a0.F_S.F_Wide, lU a0.F_S.F_Lev, lB a0.F_S.F_Neg])]⟩) ?_ (fun j3 => ?_)
      · refine L_split 17 decT (fun _ => ?_) (fun _ => ?_)
        · refine Av 5 [] ⟨[(21, bB (decide (a0.F_Step ≤ 1073741824))), (1, .ptr (.s 15) 0)], [(.s 15, [nI a0.F_Kind, nI a0.F_From, nI a0.F_Step, nI a0.F_S.F_Scheme, nI a0.F_S.F_Dim, lI a0.F_S.F_L, lI a0.F_S.F_V, nI a0.F_S.F_Scale, nI a0.F_S.F_Wide, lU a0.F_S.F_Lev, lB a0.F_S.F_Neg])]⟩ ?_
          exact L_end
        · refine Av 5 [] ⟨[(21, bB false), (1, .ptr (.s 15) 0)], [(.s 15, [nI a0.F_Kind, nI a0.F_From, nI a0.F_Step, nI a0.F_S.F_Scheme, nI a0.F_S.F_Dim, lI a0.F_S.F_L, lI a0.F_S.F_V, nI a0.F_S.F_Scale, nI a0.F_S.F_Wide, lU a0.F_S.F_Lev, lB a0.F_S.F_Neg])]⟩ ?_
          exact L_end
      · refine Av 7 [.o false (o30_2.drop 2), .c c30_7, .c c30_11] ⟨[(23, bB j3), (1, .ptr (.s 15) 0)], [(.s 15, [nI a0.F_Kind, nI a0.F_From, nI a0.F_Step, nI a0.F_S.F_Scheme, nI a0.F_S.F_Dim, lI a0.F_S.F_L, lI a0.F_S.F_V, nI a0.F_S.F_Scale, nI a0.F_S.F_Wide, lU a0.F_S.F_Lev, lB a0.F_S.F_Neg])]⟩ ?_
        refine L_split 23 decT (fun _ => ?_) (fun _ => ?_)
        · refine Av 4 [.o false (o30_2.drop 6), .c c30_7, .c c30_11] ⟨[(27, bB (a0.F_Kind == 1)), (23, bB true), (1, .ptr (.s 15) 0)], [(.s 15, [nI a0.F_Kind, nI a0.F_From, nI a0.F_Step, nI a0.F_S.F_Scheme, nI a0.F_S.F_Dim, lI a0.F_S.F_L, lI a0.F_S.F_V, nI a0.F_S.F_Scale, nI a0.F_S.F_Wide, lU a0.F_S.F_Lev, lB a0.F_S.F_Neg])]⟩ ?_
          refine L_split 27 decE (fun _ => ?_) (fun _ => ?_)
          · refine Av 2 [.o false (o30_2.drop 8), .c c30_7, .c c30_11] ⟨[(29, .agg [nI a0.F_S.F_Scheme, nI a0.F_S.F_Dim, lI a0.F_S.F_L, lI a0.F_S.F_V, nI a0.F_S.F_Scale, nI a0.F_S.F_Wide, lU a0.F_S.F_Lev, lB a0.F_S.F_Neg]), (27, bB true), (23, bB true), (1, .ptr (.s 15) 0)], [(.s 15, [nI a0.F_Kind, nI a0.F_From, nI a0.F_Step, nI a0.F_S.F_Scheme, nI a0.F_S.F_Dim, lI a0.F_S.F_L, lI a0.F_S.F_V, nI a0.F_S.F_Scale, nI a0.F_S.F_Wide, lU a0.F_S.F_Lev, lB a0.F_S.F_Neg])]⟩ ?_
            refine L_call (ok_frame_May a0.F_S) rfl rfl (fun _ => rfl) (fun _ => trivial) (fun r4 => ?_)
            refine Av 2 [.o false (o30_2.drop 11), .c c30_7, .c c30_11] ⟨[(32, bB r4), (23, bB true), (1, .ptr (.s 15) 0)], [(.s 15, [nI a0.F_Kind, nI a0.F_From, nI a0.F_Step, nI a0.F_S.F_Scheme, nI a0.F_S.F_Dim, lI a0.F_S.F_L, lI a0.F_S.F_V, nI a0.F_S.F_Scale, nI a0.F_S.F_Wide, lU a0.F_S.F_Lev, lB a0.F_S.F_Neg])]⟩ ?_
            refine L_split 32 decT (fun _ => ?_) (fun _ => ?_)
            · refine Avk 19 [] .ret ⟨[(2, nI 0)], []⟩ ?_
              exact L_ret
            · refine Av 4 [.o false (o30_2.drop 15), .c c30_7, .c c30_11] ⟨[(36, bB (a0.F_Kind == 2)), (32, bB false), (23, bB true), (1, .ptr (.s 15) 0)], [(.s 15, [nI a0.F_Kind, nI a0.F_From, nI a0.F_Step, nI a0.F_S.F_Scheme, nI a0.F_S.F_Dim, lI a0.F_S.F_L, lI a0.F_S.F_V, nI a0.F_S.F_Scale, nI a0.F_S.F_Wide, lU a0.F_S.F_Lev, lB a0.F_S.F_Neg])]⟩ ?_
              refine L_split 36 decE (fun _ => ?_) (fun _ => ?_)
              · refine Av 3 [.o false (o30_2.drop 18), .c c30_7, .c c30_11] ⟨[(39, .agg [nI 0, nI 0, .nils, .nils, nI 0, nI 0, .nils, .nils]), (36, bB true), (38, .agg [nI a0.F_S.F_Scheme, nI a0.F_S.F_Dim, lI a0.F_S.F_L, lI a0.F_S.F_V, nI a0.F_S.F_Scale, nI a0.F_S.F_Wide, lU a0.F_S.F_Lev, lB a0.F_S.F_Neg]), (32, bB false), (23, bB true)], []⟩ ?_
                refine L_call (ok_frame_same a0.F_S (⟨0, 0, [], [], 0, 0, [], []⟩ : T_api_Sent)) rfl rfl (fun _ => rfl) (fun _ => trivial) (fun r5 => ?_)
                refine Av 4 [.c c30_7, .c c30_11] ⟨[(43, bB r5)], []⟩ ?_
                refine L_split 43 decT (fun _ => ?_) (fun _ => ?_)
                · refine Avk 7 [] .ret ⟨[(2, nI 0)], []⟩ ?_
                  exact L_ret
                · refine Avk 7 [] .ret ⟨[(2, nI 1)], []⟩ ?_
                  exact L_ret
              · refine Avk 15 [] .ret ⟨[(2, nI 1)], []⟩ ?_
                exact L_ret
          · refine Av 9 [.o false (o30_2.drop 15), .c c30_7, .c c30_11] ⟨[(36, bB (a0.F_Kind == 2)), (32, bB false), (23, bB true), (1, .ptr (.s 15) 0)], [(.s 15, [nI a0.F_Kind, nI a0.F_From, nI a0.F_Step, nI a0.F_S.F_Scheme, nI a0.F_S.F_Dim, lI a0.F_S.F_L, lI a0.F_S.F_V, nI a0.F_S.F_Scale, nI a0.F_S.F_Wide, lU a0.F_S.F_Lev, lB a0.F_S.F_Neg])]⟩ ?_
            refine L_split 36 decE (fun _ => ?_) (fun _ => ?_)
            · refine Av 3 [.o false (o30_2.drop 18), .c c30_7, .c c30_11] ⟨[(39, .agg [nI 0, nI 0, .nils, .nils, nI 0, nI 0, .nils, .nils]), (36, bB true), (38, .agg [nI a0.F_S.F_Scheme, nI a0.F_S.F_Dim, lI a0.F_S.F_L, lI a0.F_S.F_V, nI a0.F_S.F_Scale, nI a0.F_S.F_Wide, lU a0.F_S.F_Lev, lB a0.F_S.F_Neg]), (32, bB false), (23, bB true)], []⟩ ?_
              refine L_call (ok_frame_same a0.F_S (⟨0, 0, [], [], 0, 0, [], []⟩ : T_api_Sent)) rfl rfl (fun _ => rfl) (fun _ => trivial) (fun r6 => ?_)
              refine Av 4 [.c c30_7, .c c30_11] ⟨[(43, bB r6)], []⟩ ?_
              refine L_split 43 decT (fun _ => ?_) (fun _ => ?_)
              · refine Avk 7 [] .ret ⟨[(2, nI 0)], []⟩ ?_
                exact L_ret
              · refine Avk 7 [] .ret ⟨[(2, nI 1)], []⟩ ?_
                exact L_ret
            · refine Avk 15 [] .ret ⟨[(2, nI 1)], []⟩ ?_
              exact L_ret
        · refine Avk 28 [] .ret ⟨[(2, nI 1)], []⟩ ?_
          exact L_ret
/-- slices.Clone[[]byte,byte]. -/
def en_slices_Clone_byte_byte (v : (List Int)) : PV := sY (.s 0) v
def o76_0 : List AOper := [⟨some 2, none, 0, .mov (.c .nils)⟩]
def o76_1 : List AOper := [mv 3 100 0, ⟨some 4, none, 101, .bin .eql .slice (.t 3) (.c .nils)⟩]
def o76_2 : List AOper := [⟨some 2, none, 200, .mov (.c .nils)⟩]
def o76_3 : List AOper := [⟨some 5, none, 300, .bslice 5 1 []⟩, mv 6 301 0, ⟨some 7, none, 302, .app 5 1 1 (.t 5) (.t 6)⟩, mv 2 303 7]
def c76_6 : AC := .cond (.t 4) (.seq (.reg o76_2) .ret) .skip
def c76_10 : AC := .seq (.reg o76_3) .ret
def c76_12 : AC := .seq (.reg o76_0) (.seq (.seq (.reg o76_1) c76_6) c76_10)
theorem fn76 : fnA Try.prog 76 = some (8, [.t 2], c76_12) := by kernel_rfl
theorem ok_slices_Clone_byte_byte (a0 : List Int) : ∀ v, M_slices_Clone_byte_byte a0 = some v → EvF Try.prog 76 [.lst (List.map (D.int .u8) a0)] (en_slices_Clone_byte_byte v) := by
  intro v hv
  refine EvF_go fn76 (Nat.le_of_ble_eq_true rfl) ?_
  suffices h : Ok (M_slices_Clone_byte_byte a0) fun v => go Try.prog 8 (Fnl [.t 2] (en_slices_Clone_byte_byte v) []) [.c c76_12] .norm (initSt (List.map PV.d [.lst (List.map (D.int .u8) a0)]) []) from h v hv
  unfold M_slices_Clone_byte_byte
  refine Av 8 [.o false (o76_1.drop 1), .c c76_6, .c c76_10] ⟨[(3, lY a0), (0, lY a0)], []⟩ ?_
  refine L_nil (enc := D.int .u8) (l := a0) (e := true) (m2 := some []) trivial rfl (fun h => by (try obtain rfl := List.eq_nil_of_length_eq_zero h); first | rfl | (simp [h]; done)) ?_ ?_
  · refine Av 7 [.o false (o76_3.drop 2), .c .ret] ⟨[(6, lY a0), (5, sY (.s 4815) [])], []⟩ ?_
    refine L_app (enc := D.int .u8) (l := []) (l2 := a0) trivial rfl rfl (fun _ => rfl) (fun _ => ?_)
    refine Avk 3 [] .ret ⟨[(2, sY (.s 4847) ([] ++ a0))], []⟩ ?_
    exact L_ret
  · refine Avk 8 [] .ret ⟨[(2, .nils)], []⟩ ?_
    exact L_ret
/-- thrum/leb.put. -/
def en_leb_put (v : (List Int)) : PV := sY (.s 0) v
def bx_leb_put (v : (List Int)) : List (Tg × List PV) := []
def o126_0 : List AOper := [⟨some 4, none, 0, .mov (.c .nils)⟩]
def o126_1 : List AOper := [mv 5 100 1, ⟨some 6, none, 101, .bin .gtr .int (.t 5) (.c (.d (.int .u64 127)))⟩]
def o126_2 : List AOper := [mv 7 200 0, mv 8 201 1, ⟨some 9, none, 202, .convI .u8 (.t 8)⟩, ⟨some 10, none, 203, .bin .or .int (.t 9) (.c (.d (.int .u8 128)))⟩, ⟨some 11, none, 204, .bslice 5 1 [.t 10]⟩, ⟨some 12, none, 205, .app 5 1 1 (.t 7) (.t 11)⟩, mv 0 206 12]
def o126_3 : List AOper := [mv 13 300 1, ⟨some 14, none, 301, .bin .shr .int (.t 13) (.c (.d (.int .u64 7)))⟩, mv 1 302 14]
def o126_4 : List AOper := [mv 15 400 0, mv 16 401 1, ⟨some 17, none, 402, .convI .u8 (.t 16)⟩, ⟨some 18, none, 403, .bslice 5 1 [.t 17]⟩, ⟨some 19, none, 404, .app 5 1 1 (.t 15) (.t 18)⟩, mv 4 405 19]
def c126_4 : AC := .cond (.t 6) .skip (.exit 0)
def c126_7 : AC := .reg o126_3
def c126_9 : AC := .block 1 (.seq (.reg o126_2) c126_7)
def c126_10 : AC := .seq (.seq (.reg o126_1) c126_4) c126_9
def c126_15 : AC := .seq (.reg o126_4) .ret
def c126_17 : AC := .seq (.reg o126_0) (.seq (.block 0 (.loop c126_10)) c126_15)
theorem fn126 : fnA Try.prog 126 = some (20, [.t 4], c126_17) := by kernel_rfl
def q_ok_leb_put_l0_ok (x0 : List Int) (x1 : Int) (v : ((List Int) × Int)) : Prop := (fun v => go Try.prog 20 (PostN (.exit 0) (fun x : (List Int) × Int => ⟨[(0, sY (.h 2) x.1), (1, nU x.2)], []⟩) v) [.l c126_10] .norm ⟨[(0, sY (.h 1) x0), (1, nU x1)], []⟩) v
theorem ok_leb_put_l0_ok (x0 : List Int) (x1 : Int) : Ok (M_leb_put_l0 x0 x1) (q_ok_leb_put_l0_ok x0 x1) := by
  refine M_leb_put_l0.partial_correctness (q_ok_leb_put_l0_ok) ?_ x0 x1
  clear x0 x1
  intro f' IH x0 x1
  refine okI ?_
  unfold q_ok_leb_put_l0_ok at *
  refine Av 1 [.c c126_10, .l c126_10] ⟨[(0, sY (.h 1) x0), (1, nU x1)], []⟩ ?_
  refine Av 6 [.c c126_4, .c c126_9, .l c126_10] ⟨[(6, bB (decide (x1 > 127))), (0, sY (.h 1) x0), (1, nU x1)], []⟩ ?_
  refine L_split 6 rfl (fun _ => ?_) (fun _ => ?_)
  · refine Av 10 [.o false (o126_2.drop 5), .c c126_7, .b 1, .l c126_10] ⟨[(11, sY (.s 3279) [bOr .u8 (IntKind.u8.wrap x1) 128]), (7, sY (.h 1) x0), (1, nU x1)], []⟩ ?_
    refine L_app (enc := D.int .u8) (l := x0) (l2 := [bOr .u8 (IntKind.u8.wrap x1) 128]) trivial rfl rfl (fun _ => rfl) (fun _ => ?_)
    refine Al 8 [.l c126_10] .norm (fun y1 : List Int => ⟨[(1, nU (sShr .u64 x1 7)), (0, sY (.s 3295) y1)], []⟩) (fun y1 => ?_)
    exact L_again (IH y1 (sShr .u64 x1 7))
  · refine Avk 4 [] (.exit 0) ⟨[(0, sY (.h 1) x0), (1, nU x1)], []⟩ ?_
    exact L_end
theorem ok_leb_put (a0 : List Int) (a1 : Int) : ∀ v, M_leb_put a0 a1 = some v → EvG Try.prog 126 [sY (.h 0) a0, nU a1] [] (en_leb_put v) (bx_leb_put v) := by
  intro v hv
  refine EvG_go fn126 (Nat.le_of_ble_eq_true rfl) ?_
  suffices h : Ok (M_leb_put a0 a1) fun v => go Try.prog 20 (Fnl [.t 4] (en_leb_put v) (bx_leb_put v)) [.c c126_17] .norm (initSt [sY (.h 0) a0, nU a1] []) from h v hv
  unfold M_leb_put
  refine Av 7 [.l c126_10, .b 0, .c c126_15] ⟨[(0, sY (.h 0) a0), (1, nU a1)], []⟩ ?_
  refine L_piece (fs := [.l c126_10]) (ks := [.b 0, .c c126_15]) (ok_leb_put_l0_ok a0 a1) (fun j3 => ?_)
  refine Av 7 [.o false (o126_4.drop 4), .c .ret] ⟨[(18, sY (.s 6463) [IntKind.u8.wrap j3.2]), (15, sY (.h 2) j3.1)], []⟩ ?_
  refine L_app (enc := D.int .u8) (l := j3.1) (l2 := [IntKind.u8.wrap j3.2]) trivial rfl rfl (fun _ => rfl) (fun _ => ?_)
  refine Avk 3 [] .ret ⟨[(4, sY (.s 6479) (j3.1 ++ [IntKind.u8.wrap j3.2]))], []⟩ ?_
  exact L_ret
/-- thrum/leb.Put. -/
def en_leb_Put (v : (List Int)) : PV := sY (.s 0) v
def o78_0 : List AOper := [⟨some 4, none, 0, .mov (.c .nils)⟩]
def o78_1 : List AOper := [mv 7 100 0, cl' 8 101 76 [.t 7], mv 0 102 8]
def o78_2 : List AOper := [mv 9 200 1, ln 10 201 9, mi 11 202 0]
def o78_3 : List AOper := [bi 12 300 .lss 11 10]
def o78_4 : List AOper := [⟨some 13, none, 400, .idxA 1 (.t 9) (.t 11)⟩, ld 14 401 13, mv 6 402 14]
def o78_5 : List AOper := [mv 15 500 0, mv 16 501 6, cl' 17 502 126 [.t 15, .t 16], mv 0 503 17]
def o78_6 : List AOper := [bc 18 600 .add 11 1, mv 11 601 18]
def o78_7 : List AOper := [mv 19 700 0, mv 4 701 19]
def c78_6 : AC := .cond (.t 12) .skip (.exit 0)
def c78_8 : AC := .reg o78_5
def c78_11 : AC := .reg o78_6
def c78_12 : AC := .seq (.block 1 (.seq (.reg o78_4) c78_8)) c78_11
def c78_14 : AC := .seq (.reg o78_3) (.seq c78_6 c78_12)
def c78_16 : AC := .block 0 (.loop c78_14)
def c78_20 : AC := .seq (.reg o78_7) .ret
def c78_21 : AC := .seq (.seq (.reg o78_2) c78_16) c78_20
def c78_23 : AC := .seq (.reg o78_0) (.seq (.reg o78_1) c78_21)
theorem fn78 : fnA Try.prog 78 = some (20, [.t 4], c78_23) := by kernel_rfl
def q_ok_leb_Put_l0_ok (a1 : List Int) (x0 : Int) (x1 : List Int) (v : (List Int)) : Prop := (fun v => go Try.prog 20 (PostN (.exit 0) (fun x : (List Int) => ⟨[(0, sY (.h 1) x)], []⟩) v) [.l c78_14] .norm ⟨[(11, nI x0), (10, nI (a1.length : Int)), (9, lU a1), (0, sY (.h 0) x1)], []⟩) v
theorem ok_leb_Put_l0_ok (a1 : List Int) (x0 : Int) (x1 : List Int) : Ok (M_leb_Put_l0 a1 x0 x1) (q_ok_leb_Put_l0_ok a1 x0 x1) := by
  refine M_leb_Put_l0.partial_correctness a1 (q_ok_leb_Put_l0_ok a1) ?_ x0 x1
  clear x0 x1
  intro f' IH x0 x1
  refine okI ?_
  unfold q_ok_leb_Put_l0_ok at *
  refine Av 1 [.c c78_14, .l c78_14] ⟨[(11, nI x0), (10, nI (a1.length : Int)), (9, lU a1), (0, sY (.h 0) x1)], []⟩ ?_
  refine Av 5 [.c c78_6, .c c78_12, .l c78_14] ⟨[(12, bB (decide (x0 < (a1.length : Int)))), (11, nI x0), (10, nI (a1.length : Int)), (9, lU a1), (0, sY (.h 0) x1)], []⟩ ?_
  refine L_split 12 rfl (fun _ => ?_) (fun _ => ?_)
  · refine Av 6 [.o false o78_4, .c c78_8, .b 1, .c c78_11, .l c78_14] ⟨[(11, nI x0), (10, nI (a1.length : Int)), (9, lU a1), (0, sY (.h 0) x1)], []⟩ ?_
    refine L_idxD (enc := D.int .u64) (l := a1) (iv := x0) trivial rfl rfl (fun _ => rfl) (fun hc400 => ?_)
    refine Av 6 [.o false (o78_5.drop 2), .b 1, .c c78_11, .l c78_14] ⟨[(16, nU (at' a1 x0)), (15, sY (.h 0) x1), (11, nI x0), (10, nI (a1.length : Int)), (9, lU a1)], []⟩ ?_
    refine L_callB (enR := en_leb_put) (bx' := bx_leb_put) (ps := [sY (.h 0) x1, nU (at' a1 x0)]) (bx := []) [(.h 0, .h 0)] (ok_leb_put x1 (at' a1 x0)) trivial rfl rfl (fun _ => rfl) (fun _ => rfl) (fun _ => by kernel_rfl) (fun _ => by kernel_rfl) (fun _ => (flat_map_of fun _ => trivial)) (fun _ => trivial) (fun r2 => ?_)
    refine Av 7 [.l c78_14] ⟨[(11, nI (IntKind.i64.wrap (x0 + 1))), (0, sY (.s 8032) r2), (10, nI (a1.length : Int)), (9, lU a1)], []⟩ ?_
    exact L_again (IH (IntKind.i64.wrap (x0 + 1)) r2)
  · refine Avk 4 [] (.exit 0) ⟨[(0, sY (.h 0) x1)], []⟩ ?_
    exact L_end
theorem ok_leb_Put (a0 : List Int) (a1 : List Int) : ∀ v, M_leb_Put a0 a1 = some v → EvF Try.prog 78 [.lst (List.map (D.int .u8) a0), .lst (List.map (D.int .u64) a1)] (en_leb_Put v) := by
  intro v hv
  refine EvF_go fn78 (Nat.le_of_ble_eq_true rfl) ?_
  suffices h : Ok (M_leb_Put a0 a1) fun v => go Try.prog 20 (Fnl [.t 4] (en_leb_Put v) []) [.c c78_23] .norm (initSt (List.map PV.d [.lst (List.map (D.int .u8) a0), .lst (List.map (D.int .u64) a1)]) []) from h v hv
  unfold M_leb_Put
  refine Av 7 [.o false (o78_1.drop 1), .c c78_21] ⟨[(7, lY a0), (1, lU a1)], []⟩ ?_
  refine L_call (ok_slices_Clone_byte_byte a0) trivial rfl (fun _ => rfl) (fun _ => (flat_map_of fun _ => trivial)) (fun r1 => ?_)
  refine Av 6 [.o false (o78_2.drop 1), .c c78_16, .c c78_20] ⟨[(9, lU a1), (0, sY (.s 1616) r1)], []⟩ ?_
  refine L_len (enc := D.int .u64) (l := a1) trivial rfl ?_
  refine Av 4 [.l c78_14, .b 0, .c c78_20] ⟨[(11, nI 0), (10, nI (a1.length : Int)), (9, lU a1), (0, sY (.s 1616) r1)], []⟩ ?_
  refine L_piece (fs := [.l c78_14]) (ks := [.b 0, .c c78_20]) (ok_leb_Put_l0_ok a1 0 r1) (fun j3 => ?_)
  refine Avk 7 [] .ret ⟨[(4, sY (.h 1) j3)], []⟩ ?_
  exact L_ret
/-- thrum/leb.Zig. -/
def en_leb_Zig (v : Int) : PV := nU v
def o141_0 : List AOper := [⟨some 2, none, 0, .mov (.c (.d (.int .u64 0)))⟩]
def o141_1 : List AOper := [mv 3 100 0, ⟨some 4, none, 101, .bin .shl .int (.t 3) (.c (.d (.int .u64 1)))⟩, ⟨some 5, none, 102, .convI .u64 (.t 4)⟩, mv 6 103 0, ⟨some 7, none, 104, .bin .shr .int (.t 6) (.c (.d (.int .u64 63)))⟩, ⟨some 8, none, 105, .convI .u64 (.t 7)⟩, bi 9 106 .xor 5 8, mv 2 107 9]
def c141_4 : AC := .seq (.reg o141_0) (.seq (.reg o141_1) .ret)
theorem fn141 : fnA Try.prog 141 = some (10, [.t 2], c141_4) := by kernel_rfl
theorem ok_leb_Zig (a0 : Int) : ∀ v, M_leb_Zig a0 = some v → EvF Try.prog 141 [.int .i64 a0] (en_leb_Zig v) := by
  intro v hv
  refine EvF_go fn141 (Nat.le_of_ble_eq_true rfl) ?_
  suffices h : Ok (M_leb_Zig a0) fun v => go Try.prog 10 (Fnl [.t 2] (en_leb_Zig v) []) [.c c141_4] .norm (initSt (List.map PV.d [.int .i64 a0]) []) from h v hv
  unfold M_leb_Zig
  refine Avk 16 [] .ret ⟨[(2, nU (bXor .u64 (IntKind.u64.wrap (sShl .i64 a0 1)) (IntKind.u64.wrap (sShr .i64 a0 63))))], []⟩ ?_
  exact L_ret
/-- thrum/leb.Signed. -/
def en_leb_Signed (v : (List Int)) : PV := sY (.s 0) v
def o91_0 : List AOper := [⟨some 4, none, 0, .mov (.c .nils)⟩]
def o91_1 : List AOper := [mv 7 100 0, cl' 8 101 76 [.t 7], mv 0 102 8]
def o91_2 : List AOper := [mv 9 200 1, ln 10 201 9, mi 11 202 0]
def o91_3 : List AOper := [bi 12 300 .lss 11 10]
def o91_4 : List AOper := [⟨some 13, none, 400, .idxA 1 (.t 9) (.t 11)⟩, ld 14 401 13, mv 6 402 14]
def o91_5 : List AOper := [mv 15 500 0, mv 16 501 6, cl' 17 502 141 [.t 16], cl' 18 503 126 [.t 15, .t 17], mv 0 504 18]
def o91_6 : List AOper := [bc 19 600 .add 11 1, mv 11 601 19]
def o91_7 : List AOper := [mv 20 700 0, mv 4 701 20]
def c91_6 : AC := .cond (.t 12) .skip (.exit 0)
def c91_8 : AC := .reg o91_5
def c91_11 : AC := .reg o91_6
def c91_12 : AC := .seq (.block 1 (.seq (.reg o91_4) c91_8)) c91_11
def c91_14 : AC := .seq (.reg o91_3) (.seq c91_6 c91_12)
def c91_16 : AC := .block 0 (.loop c91_14)
def c91_20 : AC := .seq (.reg o91_7) .ret
def c91_21 : AC := .seq (.seq (.reg o91_2) c91_16) c91_20
def c91_23 : AC := .seq (.reg o91_0) (.seq (.reg o91_1) c91_21)
theorem fn91 : fnA Try.prog 91 = some (21, [.t 4], c91_23) := by kernel_rfl
def q_ok_leb_Signed_l0_ok (a1 : List Int) (x0 : Int) (x1 : List Int) (v : (List Int)) : Prop := (fun v => go Try.prog 21 (PostN (.exit 0) (fun x : (List Int) => ⟨[(0, sY (.h 1) x)], []⟩) v) [.l c91_14] .norm ⟨[(11, nI x0), (10, nI (a1.length : Int)), (9, lI a1), (0, sY (.h 0) x1)], []⟩) v
theorem ok_leb_Signed_l0_ok (a1 : List Int) (x0 : Int) (x1 : List Int) : Ok (M_leb_Signed_l0 a1 x0 x1) (q_ok_leb_Signed_l0_ok a1 x0 x1) := by
  refine M_leb_Signed_l0.partial_correctness a1 (q_ok_leb_Signed_l0_ok a1) ?_ x0 x1
  clear x0 x1
  intro f' IH x0 x1
  refine okI ?_
  unfold q_ok_leb_Signed_l0_ok at *
  refine Av 1 [.c c91_14, .l c91_14] ⟨[(11, nI x0), (10, nI (a1.length : Int)), (9, lI a1), (0, sY (.h 0) x1)], []⟩ ?_
  refine Av 5 [.c c91_6, .c c91_12, .l c91_14] ⟨[(12, bB (decide (x0 < (a1.length : Int)))), (11, nI x0), (10, nI (a1.length : Int)), (9, lI a1), (0, sY (.h 0) x1)], []⟩ ?_
  refine L_split 12 rfl (fun _ => ?_) (fun _ => ?_)
  · refine Av 6 [.o false o91_4, .c c91_8, .b 1, .c c91_11, .l c91_14] ⟨[(11, nI x0), (10, nI (a1.length : Int)), (9, lI a1), (0, sY (.h 0) x1)], []⟩ ?_
    refine L_idxD (enc := D.int .i64) (l := a1) (iv := x0) trivial rfl rfl (fun _ => rfl) (fun hc400 => ?_)
    refine Av 6 [.o false (o91_5.drop 2), .b 1, .c c91_11, .l c91_14] ⟨[(16, nI (at' a1 x0)), (15, sY (.h 0) x1), (11, nI x0), (10, nI (a1.length : Int)), (9, lI a1)], []⟩ ?_
    refine L_call (ok_leb_Zig (at' a1 x0)) trivial rfl (fun _ => rfl) (fun _ => trivial) (fun r2 => ?_)
    refine Av 0 [.o false (o91_5.drop 3), .b 1, .c c91_11, .l c91_14] ⟨[(17, nU r2), (15, sY (.h 0) x1), (11, nI x0), (10, nI (a1.length : Int)), (9, lI a1)], []⟩ ?_
    refine L_callB (enR := en_leb_put) (bx' := bx_leb_put) (ps := [sY (.h 0) x1, nU r2]) (bx := []) [(.h 0, .h 0)] (ok_leb_put x1 r2) trivial rfl rfl (fun _ => rfl) (fun _ => rfl) (fun _ => by kernel_rfl) (fun _ => by kernel_rfl) (fun _ => (flat_map_of fun _ => trivial)) (fun _ => trivial) (fun r3 => ?_)
    refine Av 7 [.l c91_14] ⟨[(11, nI (IntKind.i64.wrap (x0 + 1))), (0, sY (.s 8048) r3), (10, nI (a1.length : Int)), (9, lI a1)], []⟩ ?_
    exact L_again (IH (IntKind.i64.wrap (x0 + 1)) r3)
  · refine Avk 4 [] (.exit 0) ⟨[(0, sY (.h 0) x1)], []⟩ ?_
    exact L_end
theorem ok_leb_Signed (a0 : List Int) (a1 : List Int) : ∀ v, M_leb_Signed a0 a1 = some v → EvF Try.prog 91 [.lst (List.map (D.int .u8) a0), .lst (List.map (D.int .i64) a1)] (en_leb_Signed v) := by
  intro v hv
  refine EvF_go fn91 (Nat.le_of_ble_eq_true rfl) ?_
  suffices h : Ok (M_leb_Signed a0 a1) fun v => go Try.prog 21 (Fnl [.t 4] (en_leb_Signed v) []) [.c c91_23] .norm (initSt (List.map PV.d [.lst (List.map (D.int .u8) a0), .lst (List.map (D.int .i64) a1)]) []) from h v hv
  unfold M_leb_Signed
  refine Av 7 [.o false (o91_1.drop 1), .c c91_21] ⟨[(7, lY a0), (1, lI a1)], []⟩ ?_
  refine L_call (ok_slices_Clone_byte_byte a0) trivial rfl (fun _ => rfl) (fun _ => (flat_map_of fun _ => trivial)) (fun r1 => ?_)
  refine Av 6 [.o false (o91_2.drop 1), .c c91_16, .c c91_20] ⟨[(9, lI a1), (0, sY (.s 1616) r1)], []⟩ ?_
  refine L_len (enc := D.int .i64) (l := a1) trivial rfl ?_
  refine Av 4 [.l c91_14, .b 0, .c c91_20] ⟨[(11, nI 0), (10, nI (a1.length : Int)), (9, lI a1), (0, sY (.s 1616) r1)], []⟩ ?_
  refine L_piece (fs := [.l c91_14]) (ks := [.b 0, .c c91_20]) (ok_leb_Signed_l0_ok a1 0 r1) (fun j4 => ?_)
  refine Avk 7 [] .ret ⟨[(4, sY (.h 1) j4)], []⟩ ?_
  exact L_ret
/-- (*thrum/frame.pen).dense. -/
def en_thrum_frame_pen_dense (v : (List Int) × Int) : PV := .tup []
def bx_thrum_frame_pen_dense (v : (List Int) × Int) : List (Tg × List PV) := [(.up (.s 0), [sY (.s 0) v.1, nI v.2])]
def o136_0 : List AOper := [⟨some 3, none, 0, .box 51 (.t 1)⟩]
def o136_1 : List AOper := [mv 4 100 0, mv 5 101 0, ⟨some 6, none, 102, .nilck (.t 5)⟩, ⟨some 7, none, 103, .fieldA 0 (.t 6)⟩, ld 8 104 7, ⟨some 9, none, 105, .fieldA 3 (.t 3)⟩, ld 10 106 9, cl' 11 107 91 [.t 8, .t 10], ⟨some 12, none, 108, .nilck (.t 4)⟩, ⟨some 13, none, 109, .fieldA 0 (.t 12)⟩, ⟨none, none, 110, .store 1 (.t 13) (.t 11)⟩]
def o136_1g0 : List AOper := [mv 4 100 0, mv 5 101 0, ⟨some 6, none, 102, .nilck (.t 5)⟩, ⟨some 7, none, 103, .fieldA 0 (.t 6)⟩, ld 8 104 7, ⟨some 9, none, 105, .fieldA 3 (.t 3)⟩, ld 10 106 9, cl' 11 107 91 [.t 8, .t 10]]
def h136_1g0 : List AOper := [mv 4 100 0]
def o136_1g1 : List AOper := [⟨some 12, none, 108, .nilck (.t 4)⟩, ⟨some 13, none, 109, .fieldA 0 (.t 12)⟩, ⟨none, none, 110, .store 1 (.t 13) (.t 11)⟩]
def c136_1 : AC := .draw [⟨mv 4 100 0, false, []⟩, ⟨mv 5 101 0, false, []⟩, ⟨⟨some 6, none, 102, .nilck (.t 5)⟩, false, []⟩, ⟨⟨some 7, none, 103, .fieldA 0 (.t 6)⟩, false, []⟩, ⟨ld 8 104 7, false, []⟩, ⟨⟨some 9, none, 105, .fieldA 3 (.t 3)⟩, false, []⟩, ⟨ld 10 106 9, false, []⟩, ⟨cl' 11 107 91 [.t 8, .t 10], true, [mv 4 100 0]⟩, ⟨⟨some 12, none, 108, .nilck (.t 4)⟩, false, []⟩, ⟨⟨some 13, none, 109, .fieldA 0 (.t 12)⟩, false, []⟩, ⟨⟨none, none, 110, .store 1 (.t 13) (.t 11)⟩, true, []⟩]
def c136_2 : AC := .seq (.reg o136_0) c136_1
theorem fn136 : fnA Try.prog 136 = some (14, [], c136_2) := by kernel_rfl
theorem ok_thrum_frame_pen_dense (a0 : T_frame_pen) (a1 : T_api_Sent) : ∀ v, M_thrum_frame_pen_dense a0 a1 = some v → EvG Try.prog 136 [.ptr (.up (.s 0)) 0, .d (.agg [.int .i64 a1.F_Scheme, .int .i64 a1.F_Dim, .lst (List.map (D.int .i64) a1.F_L), .lst (List.map (D.int .i64) a1.F_V), .int .i64 a1.F_Scale, .int .i64 a1.F_Wide, .lst (List.map (D.int .u64) a1.F_Lev), .lst (List.map D.bool a1.F_Neg)])] [(.up (.s 0), [lY a0.F_b, nI a0.F_e])] (en_thrum_frame_pen_dense v) (bx_thrum_frame_pen_dense v) := by
  intro v hv
  refine EvG_go fn136 (Nat.le_of_ble_eq_true rfl) ?_
  suffices h : Ok (M_thrum_frame_pen_dense a0 a1) fun v => go Try.prog 14 (Fnl [] (en_thrum_frame_pen_dense v) (bx_thrum_frame_pen_dense v)) [.c c136_2] .norm (initSt [.ptr (.up (.s 0)) 0, .d (.agg [.int .i64 a1.F_Scheme, .int .i64 a1.F_Dim, .lst (List.map (D.int .i64) a1.F_L), .lst (List.map (D.int .i64) a1.F_V), .int .i64 a1.F_Scale, .int .i64 a1.F_Wide, .lst (List.map (D.int .u64) a1.F_Lev), .lst (List.map D.bool a1.F_Neg)])] [(.up (.s 0), [lY a0.F_b, nI a0.F_e])]) from h v hv
  unfold M_thrum_frame_pen_dense
  refine Av 4 [.c c136_1] ⟨[(3, .ptr (.s 15) 0), (0, .ptr (.up (.s 0)) 0)], [(.s 15, [nI a1.F_Scheme, nI a1.F_Dim, lI a1.F_L, lI a1.F_V, nI a1.F_Scale, nI a1.F_Wide, lU a1.F_Lev, lB a1.F_Neg]), (.up (.s 0), [lY a0.F_b, nI a0.F_e])]⟩ ?_
  refine Ae 8 [.o true (o136_1g0.drop 7), .h h136_1g0, .o true o136_1g1, .h []] ⟨[(10, lI a1.F_V), (9, .ptr (.s 15) 3), (8, lY a0.F_b), (7, .ptr (.up (.s 0)) 0), (6, .ptr (.up (.s 0)) 0), (5, .ptr (.up (.s 0)) 0), (4, .ptr (.up (.s 0)) 0), (3, .ptr (.s 15) 0), (0, .ptr (.up (.s 0)) 0)], [(.s 15, [nI a1.F_Scheme, nI a1.F_Dim, lI a1.F_L, lI a1.F_V, nI a1.F_Scale, nI a1.F_Wide, lU a1.F_Lev, lB a1.F_Neg]), (.up (.s 0), [lY a0.F_b, nI a0.F_e])]⟩ ?_
  refine L_call (ok_leb_Signed a0.F_b a1.F_V) trivial rfl (fun _ => rfl) (fun _ => (flat_map_of fun _ => trivial)) (fun r1 => ?_)
  refine Ae 1 [.h h136_1g0, .o true o136_1g1, .h []] ⟨[(11, sY (.s 1712) r1), (10, lI a1.F_V), (9, .ptr (.s 15) 3), (8, lY a0.F_b), (7, .ptr (.up (.s 0)) 0), (6, .ptr (.up (.s 0)) 0), (5, .ptr (.up (.s 0)) 0), (4, .ptr (.up (.s 0)) 0), (3, .ptr (.s 15) 0), (0, .ptr (.up (.s 0)) 0)], [(.s 15, [nI a1.F_Scheme, nI a1.F_Dim, lI a1.F_L, lI a1.F_V, nI a1.F_Scale, nI a1.F_Wide, lU a1.F_Lev, lB a1.F_Neg]), (.up (.s 0), [lY a0.F_b, nI a0.F_e])]⟩ ?_
  refine L_hold ⟨hC (.ptr (.up (.s 0)) 0) trivial, trivial⟩ ?_
  refine Av 5 [] ⟨[], [(.up (.s 0), [sY (.s 1712) r1, nI a0.F_e])]⟩ ?_
  exact L_ret
/-- thrum/index.Put. -/
def en_index_Put (v : (List Int) × Int) : PV := .tup [sY (.s 0) v.1, nI v.2]
def o174_0 : List AOper := [⟨some 4, none, 0, .mov (.c .nils)⟩, mi 5 1 0]
def o174_1 : List AOper := [mv 11 100 0, mv 12 101 1, cl' 13 102 106 [.t 11, .t 12], mv 6 103 13]
def o174_2 : List AOper := [mv 14 200 6, bc 15 201 .neq 14 0]
def o174_3 : List AOper := [mv 16 300 6, ⟨some 4, none, 301, .mov (.c .nils)⟩, mv 5 302 16]
def o174_4 : List AOper := [mv 17 400 1, ln 18 401 17, bc 19 402 .add 18 1, ⟨some 20, none, 403, .mkS 82 1 8 (.int .u64 0) (.c (.d (.int .i64 0))) (.t 19)⟩, mv 7 404 20]
def o174_5 : List AOper := [mv 21 500 7, mv 22 501 1, ln 23 502 22, ⟨some 24, none, 503, .convI .u64 (.t 23)⟩, ⟨some 25, none, 504, .bslice 82 1 [.t 24]⟩, ⟨some 26, none, 505, .app 82 1 8 (.t 21) (.t 25)⟩, mv 7 506 26]
def o174_6 : List AOper := [mi 8 600 (-1)]
def o174_7 : List AOper := [mv 27 700 1, ln 28 701 27, mi 29 702 0]
def o174_8 : List AOper := [bi 30 800 .lss 29 28]
def o174_9 : List AOper := [⟨some 31, none, 900, .idxA 1 (.t 27) (.t 29)⟩, ld 32 901 31, mv 10 902 32]
def o174_10 : List AOper := [mv 33 1000 7, mv 34 1001 10, mv 35 1002 8, bi 36 1003 .sub 34 35, bc 37 1004 .sub 36 1, ⟨some 38, none, 1005, .convI .u64 (.t 37)⟩, ⟨some 39, none, 1006, .bslice 82 1 [.t 38]⟩, ⟨some 40, none, 1007, .app 82 1 8 (.t 33) (.t 39)⟩, mv 7 1008 40]
def o174_11 : List AOper := [mv 41 1100 10, mv 8 1101 41]
def o174_12 : List AOper := [bc 42 1200 .add 29 1, mv 29 1201 42]
def o174_13 : List AOper := [mv 43 1300 7, cl' 44 1301 78 [.c (.nils), .t 43], mv 4 1302 44, mi 5 1303 0]
def c174_7 : AC := .cond (.t 15) (.seq (.reg o174_3) .ret) .skip
def c174_8 : AC := .seq (.reg o174_2) c174_7
def c174_17 : AC := .cond (.t 30) .skip (.exit 0)
def c174_20 : AC := .reg o174_11
def c174_21 : AC := .seq (.reg o174_10) c174_20
def c174_24 : AC := .reg o174_12
def c174_25 : AC := .seq (.block 1 (.seq (.reg o174_9) c174_21)) c174_24
def c174_27 : AC := .seq (.reg o174_8) (.seq c174_17 c174_25)
def c174_29 : AC := .block 0 (.loop c174_27)
def c174_33 : AC := .seq (.reg o174_13) .ret
def c174_35 : AC := .seq (.reg o174_6) (.seq (.seq (.reg o174_7) c174_29) c174_33)
def c174_36 : AC := .seq (.reg o174_5) c174_35
def c174_37 : AC := .seq (.reg o174_4) c174_36
def c174_39 : AC := .seq (.reg o174_0) (.seq (.seq (.reg o174_1) c174_8) c174_37)
theorem fn174 : fnA Try.prog 174 = some (45, [.t 4, .t 5], c174_39) := by kernel_rfl
def q_ok_index_Put_l0_ok (a1 : List Int) (x0 : Int) (x1 : Int) (x2 : List Int) (v : (List Int)) : Prop := (fun v => go Try.prog 45 (PostN (.exit 0) (fun x : (List Int) => ⟨[(7, sU (.h 1) x)], []⟩) v) [.l c174_27] .norm ⟨[(29, nI x0), (28, nI (a1.length : Int)), (27, lI a1), (8, nI x1), (7, sU (.h 0) x2)], []⟩) v
theorem ok_index_Put_l0_ok (a1 : List Int) (x0 : Int) (x1 : Int) (x2 : List Int) : Ok (M_index_Put_l0 a1 x0 x1 x2) (q_ok_index_Put_l0_ok a1 x0 x1 x2) := by
  refine M_index_Put_l0.partial_correctness a1 (q_ok_index_Put_l0_ok a1) ?_ x0 x1 x2
  clear x0 x1 x2
  intro f' IH x0 x1 x2
  refine okI ?_
  unfold q_ok_index_Put_l0_ok at *
  refine Av 1 [.c c174_27, .l c174_27] ⟨[(29, nI x0), (28, nI (a1.length : Int)), (27, lI a1), (8, nI x1), (7, sU (.h 0) x2)], []⟩ ?_
  refine Av 5 [.c c174_17, .c c174_25, .l c174_27] ⟨[(30, bB (decide (x0 < (a1.length : Int)))), (29, nI x0), (28, nI (a1.length : Int)), (27, lI a1), (8, nI x1), (7, sU (.h 0) x2)], []⟩ ?_
  refine L_split 30 rfl (fun _ => ?_) (fun _ => ?_)
  · refine Av 6 [.o false o174_9, .c c174_21, .b 1, .c c174_24, .l c174_27] ⟨[(29, nI x0), (28, nI (a1.length : Int)), (27, lI a1), (8, nI x1), (7, sU (.h 0) x2)], []⟩ ?_
    refine L_idxD (enc := D.int .i64) (l := a1) (iv := x0) trivial rfl rfl (fun _ => rfl) (fun hc900 => ?_)
    refine Av 12 [.o false (o174_10.drop 7), .c c174_20, .b 1, .c c174_24, .l c174_27] ⟨[(39, sU (.s 16111) [IntKind.u64.wrap (IntKind.i64.wrap ((IntKind.i64.wrap ((at' a1 x0) - x1)) - 1))]), (33, sU (.h 0) x2), (10, nI (at' a1 x0)), (29, nI x0), (28, nI (a1.length : Int)), (27, lI a1)], []⟩ ?_
    refine L_app (enc := D.int .u64) (l := x2) (l2 := [IntKind.u64.wrap (IntKind.i64.wrap ((IntKind.i64.wrap ((at' a1 x0) - x1)) - 1))]) trivial rfl rfl (fun _ => rfl) (fun _ => ?_)
    refine Al 11 [.l c174_27] .norm (fun y6 : List Int => ⟨[(29, nI (IntKind.i64.wrap (x0 + 1))), (8, nI (at' a1 x0)), (7, sU (.s 16127) y6), (28, nI (a1.length : Int)), (27, lI a1)], []⟩) (fun y6 => ?_)
    exact L_again (IH (IntKind.i64.wrap (x0 + 1)) (at' a1 x0) y6)
  · refine Avk 4 [] (.exit 0) ⟨[(7, sU (.h 0) x2)], []⟩ ?_
    exact L_end
theorem ok_index_Put (a0 : Int) (a1 : List Int) : ∀ v, M_index_Put a0 a1 = some v → EvF Try.prog 174 [.int .i64 a0, .lst (List.map (D.int .i64) a1)] (en_index_Put v) := by
  intro v hv
  refine EvF_go fn174 (Nat.le_of_ble_eq_true rfl) ?_
  suffices h : Ok (M_index_Put a0 a1) fun v => go Try.prog 45 (Fnl [.t 4, .t 5] (en_index_Put v) []) [.c c174_39] .norm (initSt (List.map PV.d [.int .i64 a0, .lst (List.map (D.int .i64) a1)]) []) from h v hv
  unfold M_index_Put
  refine Av 10 [.o false (o174_1.drop 2), .c c174_8, .c c174_37] ⟨[(12, lI a1), (11, nI a0), (1, lI a1)], []⟩ ?_
  refine L_call (ok_index_Check a0 a1) trivial rfl (fun _ => rfl) (fun _ => trivial) (fun r1 => ?_)
  refine Av 7 [.c c174_7, .c c174_37] ⟨[(15, bB (r1 != 0)), (6, nI r1), (1, lI a1)], []⟩ ?_
  refine L_split 15 decNe (fun _ => ?_) (fun _ => ?_)
  · refine Avk 9 [] .ret ⟨[(5, nI r1), (4, .nils)], []⟩ ?_
    exact L_ret
  · refine Av 5 [.o false (o174_4.drop 1), .c c174_36] ⟨[(17, lI a1), (1, lI a1)], []⟩ ?_
    refine L_len (enc := D.int .i64) (l := a1) trivial rfl ?_
    refine Av 1 [.o false (o174_4.drop 3), .c c174_36] ⟨[(19, nI (IntKind.i64.wrap ((a1.length : Int) + 1))), (1, lI a1)], []⟩ ?_
    refine L_mk (enc := D.int .u64) (z0 := 0) (a := 0) (b := IntKind.i64.wrap ((a1.length : Int) + 1)) trivial rfl rfl rfl (fun _ => ?_)
    refine Al 6 [.o false (o174_5.drop 2), .c c174_35] .norm (fun y2 : List Int => ⟨[(22, lI a1), (21, sU (.s 6463) y2), (1, lI a1)], []⟩) (fun y2 => ?_)
    refine L_len (enc := D.int .i64) (l := a1) trivial rfl ?_
    refine Av 2 [.o false (o174_5.drop 5), .c c174_35] ⟨[(25, sU (.s 8079) [IntKind.u64.wrap (a1.length : Int)]), (21, sU (.s 6463) y2), (1, lI a1)], []⟩ ?_
    refine L_app (enc := D.int .u64) (l := y2) (l2 := [IntKind.u64.wrap (a1.length : Int)]) trivial rfl rfl (fun _ => rfl) (fun _ => ?_)
    refine Al 10 [.o false (o174_7.drop 1), .c c174_29, .c c174_33] .norm (fun y4 : List Int => ⟨[(27, lI a1), (8, nI (-1)), (7, sU (.s 8095) y4)], []⟩) (fun y4 => ?_)
    refine L_len (enc := D.int .i64) (l := a1) trivial rfl ?_
    refine Av 4 [.l c174_27, .b 0, .c c174_33] ⟨[(29, nI 0), (28, nI (a1.length : Int)), (27, lI a1), (8, nI (-1)), (7, sU (.s 8095) y4)], []⟩ ?_
    refine L_piece (fs := [.l c174_27]) (ks := [.b 0, .c c174_33]) (ok_index_Put_l0_ok a1 0 (-1) y4) (fun j8 => ?_)
    refine Av 4 [.o false (o174_13.drop 1), .c .ret] ⟨[(43, sU (.h 1) j8)], []⟩ ?_
    refine L_call (ok_leb_Put [] j8) trivial rfl (fun _ => rfl) (fun _ => (flat_map_of fun _ => trivial)) (fun r9 => ?_)
    refine Avk 4 [] .ret ⟨[(5, nI 0), (4, sY (.s 20816) r9)], []⟩ ?_
    exact L_ret
/-- (*thrum/frame.pen).bytes. -/
def en_thrum_frame_pen_bytes (v : (List Int) × Int) : PV := .tup []
def bx_thrum_frame_pen_bytes (v : (List Int) × Int) : List (Tg × List PV) := [(.up (.s 0), [sY (.s 0) v.1, nI v.2])]
def o173_0 : List AOper := [mv 6 0 0, mv 7 1 0, ⟨some 8, none, 2, .nilck (.t 7)⟩, ⟨some 9, none, 3, .fieldA 0 (.t 8)⟩, ld 10 4 9, mv 11 5 1, ⟨some 12, none, 6, .app 5 1 1 (.t 10) (.t 11)⟩, ⟨some 13, none, 7, .nilck (.t 6)⟩, ⟨some 14, none, 8, .fieldA 0 (.t 13)⟩, ⟨none, none, 9, .store 1 (.t 14) (.t 12)⟩]
def o173_1 : List AOper := [mv 15 100 2, bc 16 101 .neq 15 0]
def o173_2 : List AOper := [mv 17 200 0, mv 18 201 2, ⟨some 19, none, 202, .nilck (.t 17)⟩, ⟨some 20, none, 203, .fieldA 1 (.t 19)⟩, ⟨none, none, 204, .store 1 (.t 20) (.t 18)⟩]
def c173_4 : AC := .cond (.t 16) (.reg o173_2) .skip
def c173_5 : AC := .seq (.reg o173_1) c173_4
def c173_6 : AC := .seq (.reg o173_0) c173_5
theorem fn173 : fnA Try.prog 173 = some (21, [], c173_6) := by kernel_rfl
theorem ok_thrum_frame_pen_bytes (a0 : T_frame_pen) (a1 : List Int) (a2 : Int) : ∀ v, M_thrum_frame_pen_bytes a0 a1 a2 = some v → EvG Try.prog 173 [.ptr (.up (.s 0)) 0, lY a1, nI a2] [(.up (.s 0), [sY (.h 0) a0.F_b, nI a0.F_e])] (en_thrum_frame_pen_bytes v) (bx_thrum_frame_pen_bytes v) := by
  intro v hv
  refine EvG_go fn173 (Nat.le_of_ble_eq_true rfl) ?_
  suffices h : Ok (M_thrum_frame_pen_bytes a0 a1 a2) fun v => go Try.prog 21 (Fnl [] (en_thrum_frame_pen_bytes v) (bx_thrum_frame_pen_bytes v)) [.c c173_6] .norm (initSt [.ptr (.up (.s 0)) 0, lY a1, nI a2] [(.up (.s 0), [sY (.h 0) a0.F_b, nI a0.F_e])]) from h v hv
  unfold M_thrum_frame_pen_bytes
  refine Av 8 [.o false (o173_0.drop 6), .c c173_5] ⟨[(11, lY a1), (10, sY (.h 0) a0.F_b), (6, .ptr (.up (.s 0)) 0), (0, .ptr (.up (.s 0)) 0), (2, nI a2)], [(.up (.s 0), [sY (.h 0) a0.F_b, nI a0.F_e])]⟩ ?_
  refine L_app (enc := D.int .u8) (l := a0.F_b) (l2 := a1) trivial rfl rfl (fun _ => rfl) (fun _ => ?_)
  refine Av 9 [.c c173_4] ⟨[(16, bB (a2 != 0)), (0, .ptr (.up (.s 0)) 0), (2, nI a2)], [(.up (.s 0), [sY (.s 111) (a0.F_b ++ a1), nI a0.F_e])]⟩ ?_
  refine L_split 16 decNe (fun _ => ?_) (fun _ => ?_)
  · refine Av 8 [] ⟨[], [(.up (.s 0), [sY (.s 111) (a0.F_b ++ a1), nI a2])]⟩ ?_
    exact L_ret
  · refine Av 2 [] ⟨[], [(.up (.s 0), [sY (.s 111) (a0.F_b ++ a1), nI a0.F_e])]⟩ ?_
    exact L_ret
/-- (*thrum/frame.pen).top. -/
def en_thrum_frame_pen_top (v : (List Int) × Int) : PV := .tup []
def bx_thrum_frame_pen_top (v : (List Int) × Int) : List (Tg × List PV) := [(.up (.s 0), [sY (.s 0) v.1, nI v.2])]
def o137_0 : List AOper := [⟨some 3, none, 0, .box 51 (.t 1)⟩]
def o137_1 : List AOper := [mv 4 100 0, ⟨some 5, none, 101, .fieldA 1 (.t 3)⟩, ld 6 102 5, ⟨some 7, none, 103, .fieldA 2 (.t 3)⟩, ld 8 104 7, cl' 9 105 174 [.t 6, .t 8], xt 10 106 9 0, xt 11 107 9 1, cl' 12 108 173 [.t 4, .t 10, .t 11]]
def o137_2 : List AOper := [mv 13 200 0, ⟨some 14, none, 201, .load true 8 (.t 3)⟩, cl' 15 202 136 [.t 13, .t 14]]
def c137_2 : AC := .reg o137_2
def c137_4 : AC := .seq (.reg o137_0) (.seq (.reg o137_1) c137_2)
theorem fn137 : fnA Try.prog 137 = some (16, [], c137_4) := by kernel_rfl
theorem ok_thrum_frame_pen_top (a0 : T_frame_pen) (a1 : T_api_Sent) : ∀ v, M_thrum_frame_pen_top a0 a1 = some v → EvG Try.prog 137 [.ptr (.up (.s 0)) 0, .d (.agg [.int .i64 a1.F_Scheme, .int .i64 a1.F_Dim, .lst (List.map (D.int .i64) a1.F_L), .lst (List.map (D.int .i64) a1.F_V), .int .i64 a1.F_Scale, .int .i64 a1.F_Wide, .lst (List.map (D.int .u64) a1.F_Lev), .lst (List.map D.bool a1.F_Neg)])] [(.up (.s 0), [sY (.h 0) a0.F_b, nI a0.F_e])] (en_thrum_frame_pen_top v) (bx_thrum_frame_pen_top v) := by
  intro v hv
  refine EvG_go fn137 (Nat.le_of_ble_eq_true rfl) ?_
  suffices h : Ok (M_thrum_frame_pen_top a0 a1) fun v => go Try.prog 16 (Fnl [] (en_thrum_frame_pen_top v) (bx_thrum_frame_pen_top v)) [.c c137_4] .norm (initSt [.ptr (.up (.s 0)) 0, .d (.agg [.int .i64 a1.F_Scheme, .int .i64 a1.F_Dim, .lst (List.map (D.int .i64) a1.F_L), .lst (List.map (D.int .i64) a1.F_V), .int .i64 a1.F_Scale, .int .i64 a1.F_Wide, .lst (List.map (D.int .u64) a1.F_Lev), .lst (List.map D.bool a1.F_Neg)])] [(.up (.s 0), [sY (.h 0) a0.F_b, nI a0.F_e])]) from h v hv
  unfold M_thrum_frame_pen_top
  refine Av 11 [.o false (o137_1.drop 5), .c c137_2] ⟨[(8, lI a1.F_L), (6, nI a1.F_Dim), (4, .ptr (.up (.s 0)) 0), (3, .ptr (.s 15) 0), (0, .ptr (.up (.s 0)) 0)], [(.s 15, [nI a1.F_Scheme, nI a1.F_Dim, lI a1.F_L, lI a1.F_V, nI a1.F_Scale, nI a1.F_Wide, lU a1.F_Lev, lB a1.F_Neg]), (.up (.s 0), [sY (.h 0) a0.F_b, nI a0.F_e])]⟩ ?_
  refine L_call (ok_index_Put a1.F_Dim a1.F_L) trivial rfl (fun _ => rfl) (fun _ => ⟨(flat_map_of fun _ => trivial), trivial, trivial⟩) (fun r1 => ?_)
  refine Av 2 [.o false (o137_1.drop 8), .c c137_2] ⟨[(11, nI r1.2), (10, sY (.s 1680) r1.1), (4, .ptr (.up (.s 0)) 0), (3, .ptr (.s 15) 0), (0, .ptr (.up (.s 0)) 0)], [(.s 15, [nI a1.F_Scheme, nI a1.F_Dim, lI a1.F_L, lI a1.F_V, nI a1.F_Scale, nI a1.F_Wide, lU a1.F_Lev, lB a1.F_Neg]), (.up (.s 0), [sY (.h 0) a0.F_b, nI a0.F_e])]⟩ ?_
  refine L_callB (enR := en_thrum_frame_pen_bytes) (bx' := bx_thrum_frame_pen_bytes) (ps := [.ptr (.up (.s 0)) 0, lY r1.1, nI r1.2]) (bx := [(.up (.s 0), [sY (.h 0) a0.F_b, nI a0.F_e])]) [(.up (.s 0), .up (.s 0)), (.h 0, .h 0)] (ok_thrum_frame_pen_bytes a0 r1.1 r1.2) trivial rfl rfl (fun _ => rfl) (fun _ => rfl) (fun _ => by kernel_rfl) (fun _ => by kernel_rfl) (fun _ => trivial) (fun _ => ⟨⟨(flat_map_of fun _ => trivial), trivial, trivial⟩, trivial⟩) (fun r2 => ?_)
  refine Av 4 [.o false (o137_2.drop 2)] ⟨[(14, .agg [nI a1.F_Scheme, nI a1.F_Dim, lI a1.F_L, lI a1.F_V, nI a1.F_Scale, nI a1.F_Wide, lU a1.F_Lev, lB a1.F_Neg]), (13, .ptr (.up (.s 0)) 0)], [(.up (.s 0), [sY (.s 1728) r2.1, nI r2.2])]⟩ ?_
  refine L_callG (enR := en_thrum_frame_pen_dense) (bx' := bx_thrum_frame_pen_dense) (ps := [.ptr (.up (.s 0)) 0, .d (.agg [.int .i64 a1.F_Scheme, .int .i64 a1.F_Dim, .lst (List.map (D.int .i64) a1.F_L), .lst (List.map (D.int .i64) a1.F_V), .int .i64 a1.F_Scale, .int .i64 a1.F_Wide, .lst (List.map (D.int .u64) a1.F_Lev), .lst (List.map D.bool a1.F_Neg)])]) (bx := [(.up (.s 0), [lY ((⟨r2.1, r2.2⟩ : T_frame_pen).F_b), nI ((⟨r2.1, r2.2⟩ : T_frame_pen).F_e)])]) [(.up (.s 0), .up (.s 0))] [.s 1728] (ok_thrum_frame_pen_dense (⟨r2.1, r2.2⟩ : T_frame_pen) a1) trivial rfl rfl (fun _ => rfl) (fun _ => rfl) (fun _ => by kernel_rfl) (fun _ => by kernel_rfl) (fun r3 => ?_)
  refine Av 1 [] ⟨[], [(.up (.s 0), [sY (.s 3232) r3.1, nI r3.2])]⟩ ?_
  exact L_ret
/-- thrum/plane.woven. -/
def en_plane_woven (v : Int) : PV := .d (.clo (.func 211) [] [.cp [.int .i64 v] 0])
def o190_0 : List AOper := [⟨some 1, none, 0, .box 3 (.t 0)⟩, ⟨some 2, none, 1, .mov (.c (.d .nilfn))⟩]
def o190_1 : List AOper := [⟨some 3, none, 100, .mkfn (.func 211) [] [.t 1]⟩, mv 2 101 3]
def c190_4 : AC := .seq (.reg o190_0) (.seq (.reg o190_1) .ret)
theorem fn190 : fnA Try.prog 190 = some (4, [.t 2], c190_4) := by kernel_rfl
theorem ok_plane_woven (a0 : Int) : ∀ v, M_plane_woven a0 = some v → EvF Try.prog 190 [.int .i64 a0] (en_plane_woven v) := by
  intro v hv
  refine EvF_go fn190 (Nat.le_of_ble_eq_true rfl) ?_
  suffices h : Ok (M_plane_woven a0) fun v => go Try.prog 4 (Fnl [.t 2] (en_plane_woven v) []) [.c c190_4] .norm (initSt (List.map PV.d [.int .i64 a0]) []) from h v hv
  unfold M_plane_woven
  refine Avk 11 [] .ret ⟨[(2, .clo (.func 211) [] [.ptr (.s 15) 0])], [(.s 15, [nI a0])]⟩ ?_
  refine L_box (.s 15) [.int .i64 a0] ⟨[(2, .clo (.func 211) [] [.d (.cp [.int .i64 a0] 0)])], []⟩ ?_
  exact L_ret
/-- thrum/plane.Bytes. -/
def en_plane_Bytes (v : Int × Int) : PV := .tup [nI v.1, nI v.2]
def o158_0 : List AOper := [mi 4 0 0, mi 5 1 0]
def o158_1 : List AOper := [mv 7 100 0, bc 8 101 .lss 7 0, mv 9 102 8, gv 10 9 false 103 0, ⟨some 11, some (9, false), 104, .bin .gtr .int (.t 10) (.c (.d (.int .i64 32)))⟩, pz 12 105 9 11 true, mv 13 106 12, gv 14 13 false 107 1, ⟨some 15, some (13, false), 108, .bin .lss .int (.t 14) (.c (.d (.int .i64 0)))⟩, pz 16 109 13 15 true, mv 6 110 16]
def o158_2 : List AOper := [mi 4 200 0, mi 5 201 1]
def o158_3 : List AOper := [mv 18 300 1, bc 19 301 .gtr 18 4096, mv 17 302 19]
def o158_4 : List AOper := [mi 4 400 0, mi 5 401 3]
def o158_5 : List AOper := [mv 20 500 0, mv 21 501 1, bi 22 502 .mul 20 21, bc 23 503 .add 22 7, ⟨some 24, none, 504, .bin .shr .int (.t 23) (.c (.d (.int .u64 3)))⟩, mv 4 505 24, mi 5 506 0]
def o158_1t3_6 : List AOper := (o158_1.drop 3).take 3
def o158_1t7_10 : List AOper := (o158_1.drop 7).take 3
def c158_10 : AC := .cond (.t 17) (.seq (.reg o158_4) .ret) .skip
def c158_12 : AC := .cond (.t 6) (.seq (.reg o158_2) .ret) (.seq (.reg o158_3) c158_10)
def c158_17 : AC := .seq (.reg o158_5) .ret
def c158_19 : AC := .seq (.reg o158_0) (.seq (.block 0 (.seq (.reg o158_1) c158_12)) c158_17)
theorem fn158 : fnA Try.prog 158 = some (25, [.t 4, .t 5], c158_19) := by kernel_rfl
theorem ok_plane_Bytes (a0 : Int) (a1 : Int) : ∀ v, M_plane_Bytes a0 a1 = some v → EvF Try.prog 158 [.int .i64 a0, .int .i64 a1] (en_plane_Bytes v) := by
  intro v hv
  refine EvF_go fn158 (Nat.le_of_ble_eq_true rfl) ?_
  suffices h : Ok (M_plane_Bytes a0 a1) fun v => go Try.prog 25 (Fnl [.t 4, .t 5] (en_plane_Bytes v) []) [.c c158_19] .norm (initSt (List.map PV.d [.int .i64 a0, .int .i64 a1]) []) from h v hv
  unfold M_plane_Bytes
  refine Av 12 [.o false (o158_1.drop 3), .c c158_12, .b 0, .c c158_17] ⟨[(9, bB (decide (a0 < 0))), (0, nI a0), (1, nI a1)], []⟩ ?_
  refine L_take 3 o158_1t3_6 (o158_1.drop 6) ?_
  refine L_join [.o false o158_1t3_6] [.o false (o158_1.drop 6), .c c158_12, .b 0, .c c158_17] (fun x : Bool => ⟨[(12, bB x), (0, nI a0), (1, nI a1)], []⟩) ?_ (fun j1 => ?_)
  · refine L_split 9 rfl (fun _ => ?_) (fun _ => ?_)
    · refine Av 4 [] ⟨[(12, bB true), (0, nI a0), (1, nI a1)], []⟩ ?_
      exact L_end
    · refine Av 4 [] ⟨[(12, bB (decide (a0 > 32))), (0, nI a0), (1, nI a1)], []⟩ ?_
      exact L_end
  · refine Av 1 [.o false (o158_1.drop 7), .c c158_12, .b 0, .c c158_17] ⟨[(13, bB j1), (0, nI a0), (1, nI a1)], []⟩ ?_
    refine L_take 3 o158_1t7_10 (o158_1.drop 10) ?_
    refine L_join [.o false o158_1t7_10] [.o false (o158_1.drop 10), .c c158_12, .b 0, .c c158_17] (fun x : Bool => ⟨[(16, bB x), (0, nI a0), (1, nI a1)], []⟩) ?_ (fun j2 => ?_)
    · refine L_split 13 decT (fun _ => ?_) (fun _ => ?_)
      · refine Av 4 [] ⟨[(16, bB true), (0, nI a0), (1, nI a1)], []⟩ ?_
        exact L_end
      · refine Av 4 [] ⟨[(16, bB (decide (a1 < 0))), (0, nI a0), (1, nI a1)], []⟩ ?_
        exact L_end
    · refine Av 2 [.c c158_12, .b 0, .c c158_17] ⟨[(6, bB j2), (0, nI a0), (1, nI a1)], []⟩ ?_
      refine L_split 6 decT (fun _ => ?_) (fun _ => ?_)
      · refine Avk 9 [] .ret ⟨[(5, nI 1), (4, nI 0)], []⟩ ?_
        exact L_ret
      · refine Av 7 [.c c158_10, .b 0, .c c158_17] ⟨[(17, bB (decide (a1 > 4096))), (0, nI a0), (1, nI a1)], []⟩ ?_
        refine L_split 17 rfl (fun _ => ?_) (fun _ => ?_)
        · refine Avk 9 [] .ret ⟨[(5, nI 3), (4, nI 0)], []⟩ ?_
          exact L_ret
        · refine Avk 14 [] .ret ⟨[(5, nI 0), (4, nI (sShr .i64 (IntKind.i64.wrap ((IntKind.i64.wrap (a0 * a1)) + 7)) 3))], []⟩ ?_
          exact L_ret
/-- thrum/plane.put$1. -/
def en_plane_put_1_c (v : Bool) : PV := bB v
def o218_0 : List AOper := [mb 3 0 false]
def o218_1 : List AOper := [mv 4 100 0, ld 5 101 1, bi 6 102 .shr 4 5, ⟨some 7, none, 103, .bin .neq .int (.t 6) (.c (.d (.int .u64 0)))⟩, mv 3 104 7]
def c218_4 : AC := .seq (.reg o218_0) (.seq (.reg o218_1) .ret)
theorem fn218 : fnA Try.prog 218 = some (8, [.t 3], c218_4) := by kernel_rfl
theorem ok_plane_put_1_c (a0 : Int) (a1 : Int) : ∀ v, M_plane_put_1_c a0 a1 = some v → EvF Try.prog 218 [.int .u64 a0, .cp [.int .i64 a1] 0] (en_plane_put_1_c v) := by
  intro v hv
  refine EvF_go fn218 (Nat.le_of_ble_eq_true rfl) ?_
  suffices h : Ok (M_plane_put_1_c a0 a1) fun v => go Try.prog 8 (Fnl [.t 3] (en_plane_put_1_c v) []) [.c c218_4] .norm (initSt (List.map PV.d [.int .u64 a0, .cp [.int .i64 a1] 0]) []) from h v hv
  unfold M_plane_put_1_c
  refine Av 8 [.o false (o218_1.drop 2), .c .ret] ⟨[(5, nI a1), (4, nU a0)], []⟩ ?_
  refine L_rd (c := 0 ≤ a1) (v := nU (sShr .u64 a0 a1)) trivial rfl (fun _ => ?_)
  refine Avk 4 [] .ret ⟨[(3, bB ((sShr .u64 a0 a1) != 0))], []⟩ ?_
  exact L_ret
/-- slices.IndexFunc[[]uint64,uint64]. -/
def en_slices_IndexFunc_uint64_uint64_plane_put_1 (v : Int) : PV := nI v
def q_ok_slices_IndexFunc_uint64_uint64_plane_put_1_l0_ok (a0 : List Int) (a1 : Int) (x0 : Int) (v : (Sum Int Unit)) : Prop := (fun v => go Try.prog 19 (PostR (fun r => Fnl [.t 4] (en_slices_IndexFunc_uint64_uint64_plane_put_1 r) []) (.exit 0) (fun x : Unit => ⟨[], []⟩) v) [.l c170_19] .norm ⟨[(8, nI x0), (7, nI (a0.length : Int)), (0, lU a0), (1, .d (.clo (.func 218) [] [.cp [.int .i64 a1] 0]))], []⟩) v
theorem ok_slices_IndexFunc_uint64_uint64_plane_put_1_l0_ok (a0 : List Int) (a1 : Int) (x0 : Int) : Ok (M_slices_IndexFunc_uint64_uint64_plane_put_1_l0 a0 a1 x0) (q_ok_slices_IndexFunc_uint64_uint64_plane_put_1_l0_ok a0 a1 x0) := by
  refine M_slices_IndexFunc_uint64_uint64_plane_put_1_l0.partial_correctness a0 a1 (q_ok_slices_IndexFunc_uint64_uint64_plane_put_1_l0_ok a0 a1) ?_ x0
  clear x0
  intro f' IH x0
  refine okI ?_
  unfold q_ok_slices_IndexFunc_uint64_uint64_plane_put_1_l0_ok at *
  refine Av 1 [.c c170_19, .l c170_19] ⟨[(8, nI x0), (7, nI (a0.length : Int)), (0, lU a0), (1, .d (.clo (.func 218) [] [.cp [.int .i64 a1] 0]))], []⟩ ?_
  refine Av 5 [.c c170_5, .c c170_17, .l c170_19] ⟨[(9, bB (decide (x0 < (a0.length : Int)))), (8, nI x0), (7, nI (a0.length : Int)), (0, lU a0), (1, .d (.clo (.func 218) [] [.cp [.int .i64 a1] 0]))], []⟩ ?_
  refine L_split 9 rfl (fun _ => ?_) (fun _ => ?_)
  · refine Av 14 [.o false (o170_4.drop 3), .c c170_12, .b 1, .c c170_16, .l c170_19] ⟨[(13, nI x0), (12, lU a0), (11, .d (.clo (.func 218) [] [.cp [.int .i64 a1] 0])), (5, nI x0), (8, nI x0), (7, nI (a0.length : Int)), (0, lU a0), (1, .d (.clo (.func 218) [] [.cp [.int .i64 a1] 0]))], []⟩ ?_
    refine L_idxD (enc := D.int .u64) (l := a0) (iv := x0) trivial rfl rfl (fun _ => rfl) (fun hc403 => ?_)
    refine Av 1 [.o false (o170_4.drop 5), .c c170_12, .b 1, .c c170_16, .l c170_19] ⟨[(15, nU (at' a0 x0)), (11, .d (.clo (.func 218) [] [.cp [.int .i64 a1] 0])), (5, nI x0), (8, nI x0), (7, nI (a0.length : Int)), (0, lU a0), (1, .d (.clo (.func 218) [] [.cp [.int .i64 a1] 0]))], []⟩ ?_
    refine L_callv (ok_plane_put_1_c (at' a0 x0) a1) trivial (.inr ⟨_, _, rfl, rfl, rfl⟩) rfl rfl (fun _ => rfl) (fun _ => trivial) (fun r1 => ?_)
    refine Av 1 [.c c170_12, .b 1, .c c170_16, .l c170_19] ⟨[(16, bB r1), (5, nI x0), (8, nI x0), (7, nI (a0.length : Int)), (0, lU a0), (1, .d (.clo (.func 218) [] [.cp [.int .i64 a1] 0]))], []⟩ ?_
    refine L_split 16 decT (fun _ => ?_) (fun _ => ?_)
    · refine Avk 10 [] .ret ⟨[(4, nI x0)], []⟩ ?_
      exact L_retR
    · refine Av 7 [.l c170_19] ⟨[(8, nI (IntKind.i64.wrap (x0 + 1))), (7, nI (a0.length : Int)), (0, lU a0), (1, .d (.clo (.func 218) [] [.cp [.int .i64 a1] 0]))], []⟩ ?_
      exact L_again (IH (IntKind.i64.wrap (x0 + 1)))
  · refine Avk 4 [] (.exit 0) ⟨[], []⟩ ?_
    exact L_endR
theorem ok_slices_IndexFunc_uint64_uint64_plane_put_1 (a0 : List Int) (a1 : Int) : ∀ v, M_slices_IndexFunc_uint64_uint64_plane_put_1 a0 a1 = some v → EvF Try.prog 170 [.lst (List.map (D.int .u64) a0), .clo (.func 218) [] [.cp [.int .i64 a1] 0]] (en_slices_IndexFunc_uint64_uint64_plane_put_1 v) := by
  intro v hv
  refine EvF_go fn170 (Nat.le_of_ble_eq_true rfl) ?_
  suffices h : Ok (M_slices_IndexFunc_uint64_uint64_plane_put_1 a0 a1) fun v => go Try.prog 19 (Fnl [.t 4] (en_slices_IndexFunc_uint64_uint64_plane_put_1 v) []) [.c c170_27] .norm (initSt (List.map PV.d [.lst (List.map (D.int .u64) a0), .clo (.func 218) [] [.cp [.int .i64 a1] 0]]) []) from h v hv
  unfold M_slices_IndexFunc_uint64_uint64_plane_put_1
  refine Av 8 [.o false (o170_1.drop 1), .c c170_21, .c c170_25] ⟨[(6, lU a0), (0, lU a0), (1, .d (.clo (.func 218) [] [.cp [.int .i64 a1] 0]))], []⟩ ?_
  refine L_len (enc := D.int .u64) (l := a0) trivial rfl ?_
  refine Av 4 [.l c170_19, .b 0, .c c170_25] ⟨[(8, nI 0), (7, nI (a0.length : Int)), (0, lU a0), (1, .d (.clo (.func 218) [] [.cp [.int .i64 a1] 0]))], []⟩ ?_
  refine L_pieceR (fs := [.l c170_19]) (ks := [.b 0, .c c170_25]) (ok_slices_IndexFunc_uint64_uint64_plane_put_1_l0_ok a0 a1 0) L_thru (fun j2 => ?_)
  refine Avk 6 [] .ret ⟨[(4, nI (-1))], []⟩ ?_
  exact L_ret
/-- slices.ContainsFunc[[]uint64,uint64]. -/
def en_slices_ContainsFunc_uint64_uint64_plane_put_1 (v : Bool) : PV := bB v
theorem ok_slices_ContainsFunc_uint64_uint64_plane_put_1 (a0 : List Int) (a1 : Int) : ∀ v, M_slices_ContainsFunc_uint64_uint64_plane_put_1 a0 a1 = some v → EvF Try.prog 131 [.lst (List.map (D.int .u64) a0), .clo (.func 218) [] [.cp [.int .i64 a1] 0]] (en_slices_ContainsFunc_uint64_uint64_plane_put_1 v) := by
  intro v hv
  refine EvF_go fn131 (Nat.le_of_ble_eq_true rfl) ?_
  suffices h : Ok (M_slices_ContainsFunc_uint64_uint64_plane_put_1 a0 a1) fun v => go Try.prog 9 (Fnl [.t 4] (en_slices_ContainsFunc_uint64_uint64_plane_put_1 v) []) [.c c131_4] .norm (initSt (List.map PV.d [.lst (List.map (D.int .u64) a0), .clo (.func 218) [] [.cp [.int .i64 a1] 0]]) []) from h v hv
  unfold M_slices_ContainsFunc_uint64_uint64_plane_put_1
  refine Av 8 [.o false (o131_1.drop 2), .c .ret] ⟨[(6, .d (.clo (.func 218) [] [.cp [.int .i64 a1] 0])), (5, lU a0)], []⟩ ?_
  refine L_call (ok_slices_IndexFunc_uint64_uint64_plane_put_1 a0 a1) trivial rfl (fun _ => rfl) (fun _ => trivial) (fun r1 => ?_)
  refine Avk 4 [] .ret ⟨[(4, bB (decide (r1 ≥ 0)))], []⟩ ?_
  exact L_ret
/-- thrum/plane.woven$1. -/
def en_plane_woven_1_c (v : Int) : PV := nI v
def o211_0 : List AOper := [mi 5 0 0]
def o211_1 : List AOper := [mv 6 100 1, ld 7 101 2, bi 8 102 .mul 6 7, mv 9 103 0, bi 10 104 .add 8 9, mv 5 105 10]
def c211_4 : AC := .seq (.reg o211_0) (.seq (.reg o211_1) .ret)
theorem fn211 : fnA Try.prog 211 = some (11, [.t 5], c211_4) := by kernel_rfl
theorem ok_plane_woven_1_c (a0 : Int) (a1 : Int) (a2 : Int) : ∀ v, M_plane_woven_1_c a0 a1 a2 = some v → EvF Try.prog 211 [.int .i64 a0, .int .i64 a1, .cp [.int .i64 a2] 0] (en_plane_woven_1_c v) := by
  intro v hv
  refine EvF_go fn211 (Nat.le_of_ble_eq_true rfl) ?_
  suffices h : Ok (M_plane_woven_1_c a0 a1 a2) fun v => go Try.prog 11 (Fnl [.t 5] (en_plane_woven_1_c v) []) [.c c211_4] .norm (initSt (List.map PV.d [.int .i64 a0, .int .i64 a1, .cp [.int .i64 a2] 0]) []) from h v hv
  unfold M_plane_woven_1_c
  refine Avk 14 [] .ret ⟨[(5, nI (IntKind.i64.wrap ((IntKind.i64.wrap (a1 * a2)) + a0)))], []⟩ ?_
  exact L_ret
/-- thrum/plane.put. -/
def en_plane_put_plane_woven_1 (v : (List Int) × Int) : PV := .tup [sY (.s 0) v.1, nI v.2]
def o204_0 : List AOper := [⟨some 3, none, 0, .box 3 (.t 0)⟩, ⟨some 6, none, 1, .mov (.c .nils)⟩, mi 7 2 0]
def o204_1 : List AOper := [ld 16 100 3, mv 17 101 1, ln 18 102 17, cl' 19 103 158 [.t 16, .t 18], mv 15 104 19, xt 20 105 15 0, xt 21 106 15 1, mv 8 107 20, mv 9 108 21]
def o204_2 : List AOper := [mv 22 200 9, bc 23 201 .neq 22 0]
def o204_3 : List AOper := [mv 24 300 9, ⟨some 6, none, 301, .mov (.c .nils)⟩, mv 7 302 24]
def o204_4 : List AOper := [mv 25 400 1, ⟨some 26, none, 401, .mkfn (.func 218) [] [.t 3]⟩, cl' 27 402 131 [.t 25, .t 26]]
def o204_5 : List AOper := [⟨some 6, none, 500, .mov (.c .nils)⟩, mi 7 501 1]
def o204_6 : List AOper := [mv 28 600 8, ⟨some 29, none, 601, .mkS 5 1 1 (.int .u8 0) (.t 28) (.t 28)⟩, mv 10 602 29]
def o204_7 : List AOper := [mv 30 700 1, ln 31 701 30, mi 32 702 0]
def o204_8 : List AOper := [bi 33 800 .lss 32 31]
def o204_9 : List AOper := [mv 34 900 32, ⟨some 35, none, 901, .idxA 1 (.t 30) (.t 32)⟩, ld 36 902 35, mv 11 903 34, mv 12 904 36]
def o204_10 : List AOper := [ld 37 1000 3, mi 38 1001 0]
def o204_11 : List AOper := [bi 39 1100 .lss 38 37]
def o204_12 : List AOper := [mv 40 1200 38, mv 13 1201 40]
def o204_13 : List AOper := [mv 41 1300 2, mv 42 1301 11, mv 43 1302 13, ⟨some 44, none, 1303, .callv (.t 41) [.t 42, .t 43]⟩, mv 14 1304 44]
def o204_14 : List AOper := [mv 45 1400 10, mv 46 1401 14, ⟨some 47, none, 1402, .bin .shr .int (.t 46) (.c (.d (.int .u64 3)))⟩, ⟨some 48, none, 1403, .idxA 1 (.t 45) (.t 47)⟩, ld 49 1404 48, mv 50 1405 12, ld 51 1406 3, bc 52 1407 .sub 51 1, mv 53 1408 13, bi 54 1409 .sub 52 53, bi 55 1410 .shr 50 54, ⟨some 56, none, 1411, .bin .and .int (.t 55) (.c (.d (.int .u64 1)))⟩, ⟨some 57, none, 1412, .convI .u8 (.t 56)⟩, mv 58 1413 14, bc 59 1414 .and 58 7, ⟨some 60, none, 1415, .bin .sub .int (.c (.d (.int .i64 7))) (.t 59)⟩, bi 61 1416 .shl 57 60, bi 62 1417 .or 49 61, ⟨some 63, none, 1418, .idxA 1 (.t 45) (.t 47)⟩, ⟨none, none, 1419, .store 1 (.t 63) (.t 62)⟩]
def o204_15 : List AOper := [bc 64 1500 .add 38 1, mv 38 1501 64]
def o204_16 : List AOper := [bc 65 1600 .add 32 1, mv 32 1601 65]
def o204_17 : List AOper := [mv 66 1700 10, mv 6 1701 66, mi 7 1702 0]
def c204_7 : AC := .cond (.t 23) (.seq (.reg o204_3) .ret) .skip
def c204_14 : AC := .cond (.t 27) (.seq (.reg o204_5) .ret) .skip
def c204_21 : AC := .cond (.t 33) .skip (.exit 0)
def c204_27 : AC := .cond (.t 39) .skip (.exit 2)
def c204_30 : AC := .draw [⟨mv 45 1400 10, false, []⟩, ⟨mv 46 1401 14, false, []⟩, ⟨⟨some 47, none, 1402, .bin .shr .int (.t 46) (.c (.d (.int .u64 3)))⟩, false, []⟩, ⟨⟨some 48, none, 1403, .idxA 1 (.t 45) (.t 47)⟩, false, []⟩, ⟨ld 49 1404 48, false, []⟩, ⟨mv 50 1405 12, false, []⟩, ⟨ld 51 1406 3, false, []⟩, ⟨bc 52 1407 .sub 51 1, false, []⟩, ⟨mv 53 1408 13, false, []⟩, ⟨bi 54 1409 .sub 52 53, false, []⟩, ⟨bi 55 1410 .shr 50 54, false, []⟩, ⟨⟨some 56, none, 1411, .bin .and .int (.t 55) (.c (.d (.int .u64 1)))⟩, false, []⟩, ⟨⟨some 57, none, 1412, .convI .u8 (.t 56)⟩, false, []⟩, ⟨mv 58 1413 14, false, []⟩, ⟨bc 59 1414 .and 58 7, false, []⟩, ⟨⟨some 60, none, 1415, .bin .sub .int (.c (.d (.int .i64 7))) (.t 59)⟩, false, []⟩, ⟨bi 61 1416 .shl 57 60, false, []⟩, ⟨bi 62 1417 .or 49 61, false, []⟩, ⟨⟨some 63, none, 1418, .idxA 1 (.t 45) (.t 47)⟩, false, []⟩, ⟨⟨none, none, 1419, .store 1 (.t 63) (.t 62)⟩, true, []⟩]
def c204_34 : AC := .reg o204_15
def c204_35 : AC := .seq (.block 3 (.seq (.reg o204_12) (.seq (.reg o204_13) c204_30))) c204_34
def c204_37 : AC := .seq (.reg o204_11) (.seq c204_27 c204_35)
def c204_40 : AC := .seq (.reg o204_10) (.block 2 (.loop c204_37))
def c204_43 : AC := .reg o204_16
def c204_44 : AC := .seq (.block 1 (.seq (.reg o204_9) c204_40)) c204_43
def c204_46 : AC := .seq (.reg o204_8) (.seq c204_21 c204_44)
def c204_48 : AC := .block 0 (.loop c204_46)
def c204_52 : AC := .seq (.reg o204_17) .ret
def c204_53 : AC := .seq (.seq (.reg o204_7) c204_48) c204_52
def c204_54 : AC := .seq (.reg o204_6) c204_53
def c204_55 : AC := .seq (.seq (.reg o204_4) c204_14) c204_54
def c204_56 : AC := .seq (.seq (.reg o204_2) c204_7) c204_55
def c204_58 : AC := .seq (.reg o204_0) (.seq (.reg o204_1) c204_56)
theorem fn204 : fnA Try.prog 204 = some (67, [.t 6, .t 7], c204_58) := by kernel_rfl
def q_ok_plane_put_plane_woven_1_l1_ok (a0 : Int) (a1 : List Int) (a2 : Int) (x0 : Int) (x0_ : Int) (x1_ : List Int) (v : (List Int)) : Prop := (fun v => go Try.prog 67 (PostN (.exit 2) (fun x : (List Int) => ⟨[(32, nI x0), (31, nI (a1.length : Int)), (30, lU a1), (10, sY (.h 2) x), (3, .ptr (.s 15) 0), (2, .d (.clo (.func 211) [] [.cp [.int .i64 a2] 0]))], [(.s 15, [nI a0])]⟩) v) [.l c204_37] .norm ⟨[(38, nI x0_), (37, nI a0), (12, nU (at' a1 x0)), (11, nI x0), (32, nI x0), (31, nI (a1.length : Int)), (30, lU a1), (10, sY (.h 1) x1_), (3, .ptr (.s 15) 0), (2, .d (.clo (.func 211) [] [.cp [.int .i64 a2] 0]))], [(.s 15, [nI a0])]⟩) v
theorem ok_plane_put_plane_woven_1_l1_ok (a0 : Int) (a1 : List Int) (a2 : Int) (x0 : Int) (x0_ : Int) (x1_ : List Int) : Ok (M_plane_put_plane_woven_1_l1 a0 a1 a2 x0 x0_ x1_) (q_ok_plane_put_plane_woven_1_l1_ok a0 a1 a2 x0 x0_ x1_) := by
  refine M_plane_put_plane_woven_1_l1.partial_correctness a0 a1 a2 x0 (q_ok_plane_put_plane_woven_1_l1_ok a0 a1 a2 x0) ?_ x0_ x1_
  clear x0_ x1_
  intro f' IH x0_ x1_
  refine okI ?_
  unfold q_ok_plane_put_plane_woven_1_l1_ok at *
  refine Av 1 [.c c204_37, .l c204_37] ⟨[(38, nI x0_), (37, nI a0), (12, nU (at' a1 x0)), (11, nI x0), (32, nI x0), (31, nI (a1.length : Int)), (30, lU a1), (10, sY (.h 1) x1_), (3, .ptr (.s 15) 0), (2, .d (.clo (.func 211) [] [.cp [.int .i64 a2] 0]))], [(.s 15, [nI a0])]⟩ ?_
  refine Av 5 [.c c204_27, .c c204_35, .l c204_37] ⟨[(39, bB (decide (x0_ < a0))), (38, nI x0_), (37, nI a0), (12, nU (at' a1 x0)), (11, nI x0), (32, nI x0), (31, nI (a1.length : Int)), (30, lU a1), (10, sY (.h 1) x1_), (3, .ptr (.s 15) 0), (2, .d (.clo (.func 211) [] [.cp [.int .i64 a2] 0]))], [(.s 15, [nI a0])]⟩ ?_
  refine L_split 39 rfl (fun _ => ?_) (fun _ => ?_)
  · refine Av 14 [.o false (o204_13.drop 3), .c c204_30, .b 3, .c c204_34, .l c204_37] ⟨[(43, nI x0_), (42, nI x0), (41, .d (.clo (.func 211) [] [.cp [.int .i64 a2] 0])), (13, nI x0_), (38, nI x0_), (37, nI a0), (12, nU (at' a1 x0)), (11, nI x0), (32, nI x0), (31, nI (a1.length : Int)), (30, lU a1), (10, sY (.h 1) x1_), (3, .ptr (.s 15) 0), (2, .d (.clo (.func 211) [] [.cp [.int .i64 a2] 0]))], [(.s 15, [nI a0])]⟩ ?_
    refine L_callv (ok_plane_woven_1_c x0 x0_ a2) trivial (.inr ⟨_, _, rfl, rfl, rfl⟩) rfl rfl (fun _ => rfl) (fun _ => trivial) (fun r5 => ?_)
    refine Av 2 [.c c204_30, .b 3, .c c204_34, .l c204_37] ⟨[(14, nI r5), (13, nI x0_), (38, nI x0_), (37, nI a0), (12, nU (at' a1 x0)), (11, nI x0), (32, nI x0), (31, nI (a1.length : Int)), (30, lU a1), (10, sY (.h 1) x1_), (3, .ptr (.s 15) 0), (2, .d (.clo (.func 211) [] [.cp [.int .i64 a2] 0]))], [(.s 15, [nI a0])]⟩ ?_
    refine Ae 4 [.o true (o204_14.drop 3), .b 3, .c c204_34, .l c204_37] ⟨[(47, nI (sShr .i64 r5 3)), (46, nI r5), (45, sY (.h 1) x1_), (14, nI r5), (13, nI x0_), (38, nI x0_), (37, nI a0), (12, nU (at' a1 x0)), (11, nI x0), (32, nI x0), (31, nI (a1.length : Int)), (30, lU a1), (10, sY (.h 1) x1_), (3, .ptr (.s 15) 0), (2, .d (.clo (.func 211) [] [.cp [.int .i64 a2] 0]))], [(.s 15, [nI a0])]⟩ ?_
    refine L_idxO (enc := D.int .u8) (l := x1_) (iv := sShr .i64 r5 3) trivial rfl rfl (fun hc1403 => ?_)
    refine Ae 6 [.o true (o204_14.drop 10), .b 3, .c c204_34, .l c204_37] ⟨[(54, nI (IntKind.i64.wrap ((IntKind.i64.wrap (a0 - 1)) - x0_))), (53, nI x0_), (52, nI (IntKind.i64.wrap (a0 - 1))), (51, nI a0), (50, nU (at' a1 x0)), (49, nY (at' x1_ (sShr .i64 r5 3))), (48, .ep (.h 1) 1 (0 + Int.toNat (sShr .i64 r5 3)) none (some (.int .u8 (at' x1_ (sShr .i64 r5 3))))), (47, nI (sShr .i64 r5 3)), (46, nI r5), (45, sY (.h 1) x1_), (14, nI r5), (13, nI x0_), (38, nI x0_), (37, nI a0), (12, nU (at' a1 x0)), (11, nI x0), (32, nI x0), (31, nI (a1.length : Int)), (30, lU a1), (10, sY (.h 1) x1_), (3, .ptr (.s 15) 0), (2, .d (.clo (.func 211) [] [.cp [.int .i64 a2] 0]))], [(.s 15, [nI a0])]⟩ ?_
    refine L_rd (c := 0 ≤ IntKind.i64.wrap ((IntKind.i64.wrap (a0 - 1)) - x0_)) (v := nU (sShr .u64 (at' a1 x0) (IntKind.i64.wrap ((IntKind.i64.wrap (a0 - 1)) - x0_)))) trivial rfl (fun _ => ?_)
    refine Ae 5 [.o true (o204_14.drop 16), .b 3, .c c204_34, .l c204_37] ⟨[(60, nI (IntKind.i64.wrap (7 - (bAnd .i64 r5 7)))), (59, nI (bAnd .i64 r5 7)), (58, nI r5), (57, nY (IntKind.u8.wrap (bAnd .u64 (sShr .u64 (at' a1 x0) (IntKind.i64.wrap ((IntKind.i64.wrap (a0 - 1)) - x0_))) 1))), (56, nU (bAnd .u64 (sShr .u64 (at' a1 x0) (IntKind.i64.wrap ((IntKind.i64.wrap (a0 - 1)) - x0_))) 1)), (55, nU (sShr .u64 (at' a1 x0) (IntKind.i64.wrap ((IntKind.i64.wrap (a0 - 1)) - x0_)))), (54, nI (IntKind.i64.wrap ((IntKind.i64.wrap (a0 - 1)) - x0_))), (53, nI x0_), (52, nI (IntKind.i64.wrap (a0 - 1))), (51, nI a0), (50, nU (at' a1 x0)), (49, nY (at' x1_ (sShr .i64 r5 3))), (48, .ep (.h 1) 1 (0 + Int.toNat (sShr .i64 r5 3)) none (some (.int .u8 (at' x1_ (sShr .i64 r5 3))))), (47, nI (sShr .i64 r5 3)), (46, nI r5), (45, sY (.h 1) x1_), (14, nI r5), (13, nI x0_), (38, nI x0_), (37, nI a0), (12, nU (at' a1 x0)), (11, nI x0), (32, nI x0), (31, nI (a1.length : Int)), (30, lU a1), (10, sY (.h 1) x1_), (3, .ptr (.s 15) 0), (2, .d (.clo (.func 211) [] [.cp [.int .i64 a2] 0]))], [(.s 15, [nI a0])]⟩ ?_
    refine L_rd (c := 0 ≤ IntKind.i64.wrap (7 - (bAnd .i64 r5 7))) (v := nY (sShl .u8 (IntKind.u8.wrap (bAnd .u64 (sShr .u64 (at' a1 x0) (IntKind.i64.wrap ((IntKind.i64.wrap (a0 - 1)) - x0_))) 1)) (IntKind.i64.wrap (7 - (bAnd .i64 r5 7))))) trivial rfl (fun _ => ?_)
    refine Ae 1 [.o true (o204_14.drop 18), .b 3, .c c204_34, .l c204_37] ⟨[(62, nY (bOr .u8 (at' x1_ (sShr .i64 r5 3)) (sShl .u8 (IntKind.u8.wrap (bAnd .u64 (sShr .u64 (at' a1 x0) (IntKind.i64.wrap ((IntKind.i64.wrap (a0 - 1)) - x0_))) 1)) (IntKind.i64.wrap (7 - (bAnd .i64 r5 7)))))), (61, nY (sShl .u8 (IntKind.u8.wrap (bAnd .u64 (sShr .u64 (at' a1 x0) (IntKind.i64.wrap ((IntKind.i64.wrap (a0 - 1)) - x0_))) 1)) (IntKind.i64.wrap (7 - (bAnd .i64 r5 7))))), (60, nI (IntKind.i64.wrap (7 - (bAnd .i64 r5 7)))), (59, nI (bAnd .i64 r5 7)), (58, nI r5), (57, nY (IntKind.u8.wrap (bAnd .u64 (sShr .u64 (at' a1 x0) (IntKind.i64.wrap ((IntKind.i64.wrap (a0 - 1)) - x0_))) 1))), (56, nU (bAnd .u64 (sShr .u64 (at' a1 x0) (IntKind.i64.wrap ((IntKind.i64.wrap (a0 - 1)) - x0_))) 1)), (55, nU (sShr .u64 (at' a1 x0) (IntKind.i64.wrap ((IntKind.i64.wrap (a0 - 1)) - x0_)))), (54, nI (IntKind.i64.wrap ((IntKind.i64.wrap (a0 - 1)) - x0_))), (53, nI x0_), (52, nI (IntKind.i64.wrap (a0 - 1))), (51, nI a0), (50, nU (at' a1 x0)), (49, nY (at' x1_ (sShr .i64 r5 3))), (48, .ep (.h 1) 1 (0 + Int.toNat (sShr .i64 r5 3)) none (some (.int .u8 (at' x1_ (sShr .i64 r5 3))))), (47, nI (sShr .i64 r5 3)), (46, nI r5), (45, sY (.h 1) x1_), (14, nI r5), (13, nI x0_), (38, nI x0_), (37, nI a0), (12, nU (at' a1 x0)), (11, nI x0), (32, nI x0), (31, nI (a1.length : Int)), (30, lU a1), (10, sY (.h 1) x1_), (3, .ptr (.s 15) 0), (2, .d (.clo (.func 211) [] [.cp [.int .i64 a2] 0]))], [(.s 15, [nI a0])]⟩ ?_
    refine L_idxO (enc := D.int .u8) (l := x1_) (iv := sShr .i64 r5 3) trivial rfl rfl (fun hc1418 => ?_)
    refine Ae 0 [.o true (o204_14.drop 19), .b 3, .c c204_34, .l c204_37] ⟨[(63, .ep (.h 1) 1 (0 + Int.toNat (sShr .i64 r5 3)) none (some (.int .u8 (at' x1_ (sShr .i64 r5 3))))), (62, nY (bOr .u8 (at' x1_ (sShr .i64 r5 3)) (sShl .u8 (IntKind.u8.wrap (bAnd .u64 (sShr .u64 (at' a1 x0) (IntKind.i64.wrap ((IntKind.i64.wrap (a0 - 1)) - x0_))) 1)) (IntKind.i64.wrap (7 - (bAnd .i64 r5 7)))))), (61, nY (sShl .u8 (IntKind.u8.wrap (bAnd .u64 (sShr .u64 (at' a1 x0) (IntKind.i64.wrap ((IntKind.i64.wrap (a0 - 1)) - x0_))) 1)) (IntKind.i64.wrap (7 - (bAnd .i64 r5 7))))), (60, nI (IntKind.i64.wrap (7 - (bAnd .i64 r5 7)))), (59, nI (bAnd .i64 r5 7)), (58, nI r5), (57, nY (IntKind.u8.wrap (bAnd .u64 (sShr .u64 (at' a1 x0) (IntKind.i64.wrap ((IntKind.i64.wrap (a0 - 1)) - x0_))) 1))), (56, nU (bAnd .u64 (sShr .u64 (at' a1 x0) (IntKind.i64.wrap ((IntKind.i64.wrap (a0 - 1)) - x0_))) 1)), (55, nU (sShr .u64 (at' a1 x0) (IntKind.i64.wrap ((IntKind.i64.wrap (a0 - 1)) - x0_)))), (54, nI (IntKind.i64.wrap ((IntKind.i64.wrap (a0 - 1)) - x0_))), (53, nI x0_), (52, nI (IntKind.i64.wrap (a0 - 1))), (51, nI a0), (50, nU (at' a1 x0)), (49, nY (at' x1_ (sShr .i64 r5 3))), (48, .ep (.h 1) 1 (0 + Int.toNat (sShr .i64 r5 3)) none (some (.int .u8 (at' x1_ (sShr .i64 r5 3))))), (47, nI (sShr .i64 r5 3)), (46, nI r5), (45, sY (.h 1) x1_), (14, nI r5), (13, nI x0_), (38, nI x0_), (37, nI a0), (12, nU (at' a1 x0)), (11, nI x0), (32, nI x0), (31, nI (a1.length : Int)), (30, lU a1), (10, sY (.h 1) x1_), (3, .ptr (.s 15) 0), (2, .d (.clo (.func 211) [] [.cp [.int .i64 a2] 0]))], [(.s 15, [nI a0])]⟩ ?_
    refine L_sto (p := nY (bOr .u8 (at' x1_ (sShr .i64 r5 3)) (sShl .u8 (IntKind.u8.wrap (bAnd .u64 (sShr .u64 (at' a1 x0) (IntKind.i64.wrap ((IntKind.i64.wrap (a0 - 1)) - x0_))) 1)) (IntKind.i64.wrap (7 - (bAnd .i64 r5 7)))))) (d := .int .u8 (bOr .u8 (at' x1_ (sShr .i64 r5 3)) (sShl .u8 (IntKind.u8.wrap (bAnd .u64 (sShr .u64 (at' a1 x0) (IntKind.i64.wrap ((IntKind.i64.wrap (a0 - 1)) - x0_))) 1)) (IntKind.i64.wrap (7 - (bAnd .i64 r5 7)))))) trivial rfl rfl rfl (of_decide_eq_true (by kernel_rfl)) rfl ?_
    refine Av 1 [.b 3, .c c204_34, .l c204_37] ⟨[(38, nI x0_), (37, nI a0), (12, nU (at' a1 x0)), (11, nI x0), (32, nI x0), (31, nI (a1.length : Int)), (30, lU a1), (10, .sl (.h 1) 1 0 (updEs none (.int .u8 (bOr .u8 (at' x1_ (sShr .i64 r5 3)) (sShl .u8 (IntKind.u8.wrap (bAnd .u64 (sShr .u64 (at' a1 x0) (IntKind.i64.wrap ((IntKind.i64.wrap (a0 - 1)) - x0_))) 1)) (IntKind.i64.wrap (7 - (bAnd .i64 r5 7)))))) (List.map (D.int .u8) x1_) (0 + Int.toNat (sShr .i64 r5 3)))), (3, .ptr (.s 15) 0), (2, .d (.clo (.func 211) [] [.cp [.int .i64 a2] 0]))], [(.s 15, [nI a0])]⟩ ?_
    refine L_rw (fun z => ⟨[(38, nI x0_), (37, nI a0), (12, nU (at' a1 x0)), (11, nI x0), (32, nI x0), (31, nI (a1.length : Int)), (30, lU a1), (10, .sl (.h 1) 1 0 z), (3, .ptr (.s 15) 0), (2, .d (.clo (.func 211) [] [.cp [.int .i64 a2] 0]))], [(.s 15, [nI a0])]⟩) (b := List.map (D.int .u8) (x1_.set (Int.toNat (sShr .i64 r5 3)) (bOr .u8 (at' x1_ (sShr .i64 r5 3)) (sShl .u8 (IntKind.u8.wrap (bAnd .u64 (sShr .u64 (at' a1 x0) (IntKind.i64.wrap ((IntKind.i64.wrap (a0 - 1)) - x0_))) 1)) (IntKind.i64.wrap (7 - (bAnd .i64 r5 7))))))) (by rw [Nat.zero_add]; exact set_map) ?_
    refine Al 5 [.l c204_37] .norm (fun y6 : List Int => ⟨[(38, nI (IntKind.i64.wrap (x0_ + 1))), (37, nI a0), (12, nU (at' a1 x0)), (11, nI x0), (32, nI x0), (31, nI (a1.length : Int)), (30, lU a1), (10, sY (.h 1) y6), (3, .ptr (.s 15) 0), (2, .d (.clo (.func 211) [] [.cp [.int .i64 a2] 0]))], [(.s 15, [nI a0])]⟩) (fun y6 => ?_)
    exact L_again (IH (IntKind.i64.wrap (x0_ + 1)) y6)
  · refine Avk 4 [] (.exit 2) ⟨[(32, nI x0), (31, nI (a1.length : Int)), (30, lU a1), (10, sY (.h 1) x1_), (3, .ptr (.s 15) 0), (2, .d (.clo (.func 211) [] [.cp [.int .i64 a2] 0]))], [(.s 15, [nI a0])]⟩ ?_
    exact L_end
def q_ok_plane_put_plane_woven_1_l0_ok (a0 : Int) (a1 : List Int) (a2 : Int) (x0 : Int) (x1 : List Int) (v : (List Int)) : Prop := (fun v => go Try.prog 67 (PostN (.exit 0) (fun x : (List Int) => ⟨[(10, sY (.h 1) x)], []⟩) v) [.l c204_46] .norm ⟨[(32, nI x0), (31, nI (a1.length : Int)), (30, lU a1), (10, sY (.h 0) x1), (3, .ptr (.s 15) 0), (2, .d (.clo (.func 211) [] [.cp [.int .i64 a2] 0]))], [(.s 15, [nI a0])]⟩) v
theorem ok_plane_put_plane_woven_1_l0_ok (a0 : Int) (a1 : List Int) (a2 : Int) (x0 : Int) (x1 : List Int) : Ok (M_plane_put_plane_woven_1_l0 a0 a1 a2 x0 x1) (q_ok_plane_put_plane_woven_1_l0_ok a0 a1 a2 x0 x1) := by
  refine M_plane_put_plane_woven_1_l0.partial_correctness a0 a1 a2 (q_ok_plane_put_plane_woven_1_l0_ok a0 a1 a2) ?_ x0 x1
  clear x0 x1
  intro f' IH x0 x1
  refine okI ?_
  unfold q_ok_plane_put_plane_woven_1_l0_ok at *
  refine Av 1 [.c c204_46, .l c204_46] ⟨[(32, nI x0), (31, nI (a1.length : Int)), (30, lU a1), (10, sY (.h 0) x1), (3, .ptr (.s 15) 0), (2, .d (.clo (.func 211) [] [.cp [.int .i64 a2] 0]))], [(.s 15, [nI a0])]⟩ ?_
  refine Av 5 [.c c204_21, .c c204_44, .l c204_46] ⟨[(33, bB (decide (x0 < (a1.length : Int)))), (32, nI x0), (31, nI (a1.length : Int)), (30, lU a1), (10, sY (.h 0) x1), (3, .ptr (.s 15) 0), (2, .d (.clo (.func 211) [] [.cp [.int .i64 a2] 0]))], [(.s 15, [nI a0])]⟩ ?_
  refine L_split 33 rfl (fun _ => ?_) (fun _ => ?_)
  · refine Av 7 [.o false (o204_9.drop 1), .c c204_40, .b 1, .c c204_43, .l c204_46] ⟨[(34, nI x0), (32, nI x0), (31, nI (a1.length : Int)), (30, lU a1), (10, sY (.h 0) x1), (3, .ptr (.s 15) 0), (2, .d (.clo (.func 211) [] [.cp [.int .i64 a2] 0]))], [(.s 15, [nI a0])]⟩ ?_
    refine L_idxD (enc := D.int .u64) (l := a1) (iv := x0) trivial rfl rfl (fun _ => rfl) (fun hc901 => ?_)
    refine Av 11 [.l c204_37, .b 2, .b 1, .c c204_43, .l c204_46] ⟨[(38, nI 0), (37, nI a0), (12, nU (at' a1 x0)), (11, nI x0), (32, nI x0), (31, nI (a1.length : Int)), (30, lU a1), (10, sY (.h 0) x1), (3, .ptr (.s 15) 0), (2, .d (.clo (.func 211) [] [.cp [.int .i64 a2] 0]))], [(.s 15, [nI a0])]⟩ ?_
    refine L_piece (fs := [.l c204_37]) (ks := [.b 2, .b 1, .c c204_43, .l c204_46]) (ok_plane_put_plane_woven_1_l1_ok a0 a1 a2 x0 0 x1) (fun j8 => ?_)
    refine Av 6 [.l c204_46] ⟨[(32, nI (IntKind.i64.wrap (x0 + 1))), (31, nI (a1.length : Int)), (30, lU a1), (10, sY (.h 2) j8), (3, .ptr (.s 15) 0), (2, .d (.clo (.func 211) [] [.cp [.int .i64 a2] 0]))], [(.s 15, [nI a0])]⟩ ?_
    exact L_again (IH (IntKind.i64.wrap (x0 + 1)) j8)
  · refine Avk 4 [] (.exit 0) ⟨[(10, sY (.h 0) x1)], []⟩ ?_
    exact L_end
theorem ok_plane_put_plane_woven_1 (a0 : Int) (a1 : List Int) (a2 : Int) : ∀ v, M_plane_put_plane_woven_1 a0 a1 a2 = some v → EvF Try.prog 204 [.int .i64 a0, .lst (List.map (D.int .u64) a1), .clo (.func 211) [] [.cp [.int .i64 a2] 0]] (en_plane_put_plane_woven_1 v) := by
  intro v hv
  refine EvF_go fn204 (Nat.le_of_ble_eq_true rfl) ?_
  suffices h : Ok (M_plane_put_plane_woven_1 a0 a1 a2) fun v => go Try.prog 67 (Fnl [.t 6, .t 7] (en_plane_put_plane_woven_1 v) []) [.c c204_58] .norm (initSt (List.map PV.d [.int .i64 a0, .lst (List.map (D.int .u64) a1), .clo (.func 211) [] [.cp [.int .i64 a2] 0]]) []) from h v hv
  unfold M_plane_put_plane_woven_1
  refine Av 10 [.o false (o204_1.drop 2), .c c204_56] ⟨[(17, lU a1), (16, nI a0), (3, .ptr (.s 15) 0), (1, lU a1), (2, .d (.clo (.func 211) [] [.cp [.int .i64 a2] 0]))], [(.s 15, [nI a0])]⟩ ?_
  refine L_len (enc := D.int .u64) (l := a1) trivial rfl ?_
  refine Av 0 [.o false (o204_1.drop 3), .c c204_56] ⟨[(18, nI (a1.length : Int)), (16, nI a0), (3, .ptr (.s 15) 0), (1, lU a1), (2, .d (.clo (.func 211) [] [.cp [.int .i64 a2] 0]))], [(.s 15, [nI a0])]⟩ ?_
  refine L_call (ok_plane_Bytes a0 (a1.length : Int)) trivial rfl (fun _ => rfl) (fun _ => ⟨trivial, trivial, trivial⟩) (fun r1 => ?_)
  refine Av 12 [.c c204_7, .c c204_55] ⟨[(23, bB (r1.2 != 0)), (9, nI r1.2), (8, nI r1.1), (3, .ptr (.s 15) 0), (1, lU a1), (2, .d (.clo (.func 211) [] [.cp [.int .i64 a2] 0]))], [(.s 15, [nI a0])]⟩ ?_
  refine L_split 23 decNe (fun _ => ?_) (fun _ => ?_)
  · refine Avk 9 [] .ret ⟨[(7, nI r1.2), (6, .nils)], []⟩ ?_
    exact L_ret
  · refine Av 7 [.o false (o204_4.drop 2), .c c204_14, .c c204_54] ⟨[(26, .clo (.func 218) [] [.ptr (.s 15) 0]), (25, lU a1), (8, nI r1.1), (3, .ptr (.s 15) 0), (1, lU a1), (2, .d (.clo (.func 211) [] [.cp [.int .i64 a2] 0]))], [(.s 15, [nI a0])]⟩ ?_
    refine L_call (ok_slices_ContainsFunc_uint64_uint64_plane_put_1 a1 a0) trivial rfl (fun _ => rfl) (fun _ => trivial) (fun r2 => ?_)
    refine Av 1 [.c c204_14, .c c204_54] ⟨[(27, bB r2), (8, nI r1.1), (3, .ptr (.s 15) 0), (1, lU a1), (2, .d (.clo (.func 211) [] [.cp [.int .i64 a2] 0]))], [(.s 15, [nI a0])]⟩ ?_
    refine L_split 27 decT (fun _ => ?_) (fun _ => ?_)
    · refine Avk 8 [] .ret ⟨[(7, nI 1), (6, .nils)], []⟩ ?_
      exact L_ret
    · refine Av 5 [.o false (o204_6.drop 1), .c c204_53] ⟨[(28, nI r1.1), (3, .ptr (.s 15) 0), (1, lU a1), (2, .d (.clo (.func 211) [] [.cp [.int .i64 a2] 0]))], [(.s 15, [nI a0])]⟩ ?_
      refine L_mk (enc := D.int .u8) (z0 := 0) (a := r1.1) (b := r1.1) trivial rfl rfl rfl (fun _ => ?_)
      refine Al 6 [.o false (o204_7.drop 1), .c c204_48, .c c204_52] .norm (fun y3 : List Int => ⟨[(30, lU a1), (10, sY (.s 9631) y3), (3, .ptr (.s 15) 0), (2, .d (.clo (.func 211) [] [.cp [.int .i64 a2] 0]))], [(.s 15, [nI a0])]⟩) (fun y3 => ?_)
      refine L_len (enc := D.int .u64) (l := a1) trivial rfl ?_
      refine Av 4 [.l c204_46, .b 0, .c c204_52] ⟨[(32, nI 0), (31, nI (a1.length : Int)), (30, lU a1), (10, sY (.s 9631) y3), (3, .ptr (.s 15) 0), (2, .d (.clo (.func 211) [] [.cp [.int .i64 a2] 0]))], [(.s 15, [nI a0])]⟩ ?_
      refine L_piece (fs := [.l c204_46]) (ks := [.b 0, .c c204_52]) (ok_plane_put_plane_woven_1_l0_ok a0 a1 a2 0 y3) (fun j9 => ?_)
      refine Avk 8 [] .ret ⟨[(7, nI 0), (6, sY (.h 1) j9)], []⟩ ?_
      exact L_ret
/-- thrum/plane.Weave. -/
def en_plane_Weave (v : (List Int) × Int) : PV := .tup [sY (.s 0) v.1, nI v.2]
def o175_0 : List AOper := [⟨some 4, none, 0, .mov (.c .nils)⟩, mi 5 1 0]
def o175_1 : List AOper := [mv 6 100 0, mv 7 101 1, mv 8 102 1, ln 9 103 8, cl' 10 104 190 [.t 9], cl' 11 105 204 [.t 6, .t 7, .t 10], xt 12 106 11 0, xt 13 107 11 1, mv 4 108 12, mv 5 109 13]
def c175_4 : AC := .seq (.reg o175_0) (.seq (.reg o175_1) .ret)
theorem fn175 : fnA Try.prog 175 = some (14, [.t 4, .t 5], c175_4) := by kernel_rfl
theorem ok_plane_Weave (a0 : Int) (a1 : List Int) : ∀ v, M_plane_Weave a0 a1 = some v → EvF Try.prog 175 [.int .i64 a0, .lst (List.map (D.int .u64) a1)] (en_plane_Weave v) := by
  intro v hv
  refine EvF_go fn175 (Nat.le_of_ble_eq_true rfl) ?_
  suffices h : Ok (M_plane_Weave a0 a1) fun v => go Try.prog 14 (Fnl [.t 4, .t 5] (en_plane_Weave v) []) [.c c175_4] .norm (initSt (List.map PV.d [.int .i64 a0, .lst (List.map (D.int .u64) a1)]) []) from h v hv
  unfold M_plane_Weave
  refine Av 10 [.o false (o175_1.drop 3), .c .ret] ⟨[(8, lU a1), (7, lU a1), (6, nI a0)], []⟩ ?_
  refine L_len (enc := D.int .u64) (l := a1) trivial rfl ?_
  refine Av 0 [.o false (o175_1.drop 4), .c .ret] ⟨[(9, nI (a1.length : Int)), (7, lU a1), (6, nI a0)], []⟩ ?_
  refine L_callZ [] (ok_plane_woven (a1.length : Int)) trivial rfl rfl (fun _ => rfl) (fun r1 => ?_)
  refine Av 0 [.o false (o175_1.drop 5), .c .ret] ⟨[(10, .d (.clo (.func 211) [] [.cp [.int .i64 r1] 0])), (7, lU a1), (6, nI a0)], []⟩ ?_
  refine L_call (ok_plane_put_plane_woven_1 a0 a1 r1) trivial rfl (fun _ => rfl) (fun _ => ⟨(flat_map_of fun _ => trivial), trivial, trivial⟩) (fun r2 => ?_)
  refine Avk 6 [] .ret ⟨[(5, nI r2.2), (4, sY (.s 1680) r2.1)], []⟩ ?_
  exact L_ret
/-- thrum/plane.side. -/
def en_plane_side (v : Int) : PV := .d (.clo (.func 224) [] [.cp [.int .i64 v] 0])
def o219_0 : List AOper := [⟨some 1, none, 0, .box 3 (.t 0)⟩, ⟨some 2, none, 1, .mov (.c (.d .nilfn))⟩]
def o219_1 : List AOper := [⟨some 3, none, 100, .mkfn (.func 224) [] [.t 1]⟩, mv 2 101 3]
def c219_4 : AC := .seq (.reg o219_0) (.seq (.reg o219_1) .ret)
theorem fn219 : fnA Try.prog 219 = some (4, [.t 2], c219_4) := by kernel_rfl
theorem ok_plane_side (a0 : Int) : ∀ v, M_plane_side a0 = some v → EvF Try.prog 219 [.int .i64 a0] (en_plane_side v) := by
  intro v hv
  refine EvF_go fn219 (Nat.le_of_ble_eq_true rfl) ?_
  suffices h : Ok (M_plane_side a0) fun v => go Try.prog 4 (Fnl [.t 2] (en_plane_side v) []) [.c c219_4] .norm (initSt (List.map PV.d [.int .i64 a0]) []) from h v hv
  unfold M_plane_side
  refine Avk 11 [] .ret ⟨[(2, .clo (.func 224) [] [.ptr (.s 15) 0])], [(.s 15, [nI a0])]⟩ ?_
  refine L_box (.s 15) [.int .i64 a0] ⟨[(2, .clo (.func 224) [] [.d (.cp [.int .i64 a0] 0)])], []⟩ ?_
  exact L_ret
/-- thrum/plane.side$1. -/
def en_plane_side_1_c (v : Int) : PV := nI v
def o224_0 : List AOper := [mi 5 0 0]
def o224_1 : List AOper := [mv 6 100 0, ld 7 101 2, bi 8 102 .mul 6 7, mv 9 103 1, bi 10 104 .add 8 9, mv 5 105 10]
def c224_4 : AC := .seq (.reg o224_0) (.seq (.reg o224_1) .ret)
theorem fn224 : fnA Try.prog 224 = some (11, [.t 5], c224_4) := by kernel_rfl
theorem ok_plane_side_1_c (a0 : Int) (a1 : Int) (a2 : Int) : ∀ v, M_plane_side_1_c a0 a1 a2 = some v → EvF Try.prog 224 [.int .i64 a0, .int .i64 a1, .cp [.int .i64 a2] 0] (en_plane_side_1_c v) := by
  intro v hv
  refine EvF_go fn224 (Nat.le_of_ble_eq_true rfl) ?_
  suffices h : Ok (M_plane_side_1_c a0 a1 a2) fun v => go Try.prog 11 (Fnl [.t 5] (en_plane_side_1_c v) []) [.c c224_4] .norm (initSt (List.map PV.d [.int .i64 a0, .int .i64 a1, .cp [.int .i64 a2] 0]) []) from h v hv
  unfold M_plane_side_1_c
  refine Avk 14 [] .ret ⟨[(5, nI (IntKind.i64.wrap ((IntKind.i64.wrap (a0 * a2)) + a1)))], []⟩ ?_
  exact L_ret
/-- thrum/plane.put. -/
def en_plane_put_plane_side_1 (v : (List Int) × Int) : PV := .tup [sY (.s 0) v.1, nI v.2]
def q_ok_plane_put_plane_side_1_l1_ok (a0 : Int) (a1 : List Int) (a2 : Int) (x0 : Int) (x0_ : Int) (x1_ : List Int) (v : (List Int)) : Prop := (fun v => go Try.prog 67 (PostN (.exit 2) (fun x : (List Int) => ⟨[(32, nI x0), (31, nI (a1.length : Int)), (30, lU a1), (10, sY (.h 2) x), (3, .ptr (.s 15) 0), (2, .d (.clo (.func 224) [] [.cp [.int .i64 a2] 0]))], [(.s 15, [nI a0])]⟩) v) [.l c204_37] .norm ⟨[(38, nI x0_), (37, nI a0), (12, nU (at' a1 x0)), (11, nI x0), (32, nI x0), (31, nI (a1.length : Int)), (30, lU a1), (10, sY (.h 1) x1_), (3, .ptr (.s 15) 0), (2, .d (.clo (.func 224) [] [.cp [.int .i64 a2] 0]))], [(.s 15, [nI a0])]⟩) v
theorem ok_plane_put_plane_side_1_l1_ok (a0 : Int) (a1 : List Int) (a2 : Int) (x0 : Int) (x0_ : Int) (x1_ : List Int) : Ok (M_plane_put_plane_side_1_l1 a0 a1 a2 x0 x0_ x1_) (q_ok_plane_put_plane_side_1_l1_ok a0 a1 a2 x0 x0_ x1_) := by
  refine M_plane_put_plane_side_1_l1.partial_correctness a0 a1 a2 x0 (q_ok_plane_put_plane_side_1_l1_ok a0 a1 a2 x0) ?_ x0_ x1_
  clear x0_ x1_
  intro f' IH x0_ x1_
  refine okI ?_
  unfold q_ok_plane_put_plane_side_1_l1_ok at *
  refine Av 1 [.c c204_37, .l c204_37] ⟨[(38, nI x0_), (37, nI a0), (12, nU (at' a1 x0)), (11, nI x0), (32, nI x0), (31, nI (a1.length : Int)), (30, lU a1), (10, sY (.h 1) x1_), (3, .ptr (.s 15) 0), (2, .d (.clo (.func 224) [] [.cp [.int .i64 a2] 0]))], [(.s 15, [nI a0])]⟩ ?_
  refine Av 5 [.c c204_27, .c c204_35, .l c204_37] ⟨[(39, bB (decide (x0_ < a0))), (38, nI x0_), (37, nI a0), (12, nU (at' a1 x0)), (11, nI x0), (32, nI x0), (31, nI (a1.length : Int)), (30, lU a1), (10, sY (.h 1) x1_), (3, .ptr (.s 15) 0), (2, .d (.clo (.func 224) [] [.cp [.int .i64 a2] 0]))], [(.s 15, [nI a0])]⟩ ?_
  refine L_split 39 rfl (fun _ => ?_) (fun _ => ?_)
  · refine Av 14 [.o false (o204_13.drop 3), .c c204_30, .b 3, .c c204_34, .l c204_37] ⟨[(43, nI x0_), (42, nI x0), (41, .d (.clo (.func 224) [] [.cp [.int .i64 a2] 0])), (13, nI x0_), (38, nI x0_), (37, nI a0), (12, nU (at' a1 x0)), (11, nI x0), (32, nI x0), (31, nI (a1.length : Int)), (30, lU a1), (10, sY (.h 1) x1_), (3, .ptr (.s 15) 0), (2, .d (.clo (.func 224) [] [.cp [.int .i64 a2] 0]))], [(.s 15, [nI a0])]⟩ ?_
    refine L_callv (ok_plane_side_1_c x0 x0_ a2) trivial (.inr ⟨_, _, rfl, rfl, rfl⟩) rfl rfl (fun _ => rfl) (fun _ => trivial) (fun r5 => ?_)
    refine Av 2 [.c c204_30, .b 3, .c c204_34, .l c204_37] ⟨[(14, nI r5), (13, nI x0_), (38, nI x0_), (37, nI a0), (12, nU (at' a1 x0)), (11, nI x0), (32, nI x0), (31, nI (a1.length : Int)), (30, lU a1), (10, sY (.h 1) x1_), (3, .ptr (.s 15) 0), (2, .d (.clo (.func 224) [] [.cp [.int .i64 a2] 0]))], [(.s 15, [nI a0])]⟩ ?_
    refine Ae 4 [.o true (o204_14.drop 3), .b 3, .c c204_34, .l c204_37] ⟨[(47, nI (sShr .i64 r5 3)), (46, nI r5), (45, sY (.h 1) x1_), (14, nI r5), (13, nI x0_), (38, nI x0_), (37, nI a0), (12, nU (at' a1 x0)), (11, nI x0), (32, nI x0), (31, nI (a1.length : Int)), (30, lU a1), (10, sY (.h 1) x1_), (3, .ptr (.s 15) 0), (2, .d (.clo (.func 224) [] [.cp [.int .i64 a2] 0]))], [(.s 15, [nI a0])]⟩ ?_
    refine L_idxO (enc := D.int .u8) (l := x1_) (iv := sShr .i64 r5 3) trivial rfl rfl (fun hc1403 => ?_)
    refine Ae 6 [.o true (o204_14.drop 10), .b 3, .c c204_34, .l c204_37] ⟨[(54, nI (IntKind.i64.wrap ((IntKind.i64.wrap (a0 - 1)) - x0_))), (53, nI x0_), (52, nI (IntKind.i64.wrap (a0 - 1))), (51, nI a0), (50, nU (at' a1 x0)), (49, nY (at' x1_ (sShr .i64 r5 3))), (48, .ep (.h 1) 1 (0 + Int.toNat (sShr .i64 r5 3)) none (some (.int .u8 (at' x1_ (sShr .i64 r5 3))))), (47, nI (sShr .i64 r5 3)), (46, nI r5), (45, sY (.h 1) x1_), (14, nI r5), (13, nI x0_), (38, nI x0_), (37, nI a0), (12, nU (at' a1 x0)), (11, nI x0), (32, nI x0), (31, nI (a1.length : Int)), (30, lU a1), (10, sY (.h 1) x1_), (3, .ptr (.s 15) 0), (2, .d (.clo (.func 224) [] [.cp [.int .i64 a2] 0]))], [(.s 15, [nI a0])]⟩ ?_
    refine L_rd (c := 0 ≤ IntKind.i64.wrap ((IntKind.i64.wrap (a0 - 1)) - x0_)) (v := nU (sShr .u64 (at' a1 x0) (IntKind.i64.wrap ((IntKind.i64.wrap (a0 - 1)) - x0_)))) trivial rfl (fun _ => ?_)
    refine Ae 5 [.o true (o204_14.drop 16), .b 3, .c c204_34, .l c204_37] ⟨[(60, nI (IntKind.i64.wrap (7 - (bAnd .i64 r5 7)))), (59, nI (bAnd .i64 r5 7)), (58, nI r5), (57, nY (IntKind.u8.wrap (bAnd .u64 (sShr .u64 (at' a1 x0) (IntKind.i64.wrap ((IntKind.i64.wrap (a0 - 1)) - x0_))) 1))), (56, nU (bAnd .u64 (sShr .u64 (at' a1 x0) (IntKind.i64.wrap ((IntKind.i64.wrap (a0 - 1)) - x0_))) 1)), (55, nU (sShr .u64 (at' a1 x0) (IntKind.i64.wrap ((IntKind.i64.wrap (a0 - 1)) - x0_)))), (54, nI (IntKind.i64.wrap ((IntKind.i64.wrap (a0 - 1)) - x0_))), (53, nI x0_), (52, nI (IntKind.i64.wrap (a0 - 1))), (51, nI a0), (50, nU (at' a1 x0)), (49, nY (at' x1_ (sShr .i64 r5 3))), (48, .ep (.h 1) 1 (0 + Int.toNat (sShr .i64 r5 3)) none (some (.int .u8 (at' x1_ (sShr .i64 r5 3))))), (47, nI (sShr .i64 r5 3)), (46, nI r5), (45, sY (.h 1) x1_), (14, nI r5), (13, nI x0_), (38, nI x0_), (37, nI a0), (12, nU (at' a1 x0)), (11, nI x0), (32, nI x0), (31, nI (a1.length : Int)), (30, lU a1), (10, sY (.h 1) x1_), (3, .ptr (.s 15) 0), (2, .d (.clo (.func 224) [] [.cp [.int .i64 a2] 0]))], [(.s 15, [nI a0])]⟩ ?_
    refine L_rd (c := 0 ≤ IntKind.i64.wrap (7 - (bAnd .i64 r5 7))) (v := nY (sShl .u8 (IntKind.u8.wrap (bAnd .u64 (sShr .u64 (at' a1 x0) (IntKind.i64.wrap ((IntKind.i64.wrap (a0 - 1)) - x0_))) 1)) (IntKind.i64.wrap (7 - (bAnd .i64 r5 7))))) trivial rfl (fun _ => ?_)
    refine Ae 1 [.o true (o204_14.drop 18), .b 3, .c c204_34, .l c204_37] ⟨[(62, nY (bOr .u8 (at' x1_ (sShr .i64 r5 3)) (sShl .u8 (IntKind.u8.wrap (bAnd .u64 (sShr .u64 (at' a1 x0) (IntKind.i64.wrap ((IntKind.i64.wrap (a0 - 1)) - x0_))) 1)) (IntKind.i64.wrap (7 - (bAnd .i64 r5 7)))))), (61, nY (sShl .u8 (IntKind.u8.wrap (bAnd .u64 (sShr .u64 (at' a1 x0) (IntKind.i64.wrap ((IntKind.i64.wrap (a0 - 1)) - x0_))) 1)) (IntKind.i64.wrap (7 - (bAnd .i64 r5 7))))), (60, nI (IntKind.i64.wrap (7 - (bAnd .i64 r5 7)))), (59, nI (bAnd .i64 r5 7)), (58, nI r5), (57, nY (IntKind.u8.wrap (bAnd .u64 (sShr .u64 (at' a1 x0) (IntKind.i64.wrap ((IntKind.i64.wrap (a0 - 1)) - x0_))) 1))), (56, nU (bAnd .u64 (sShr .u64 (at' a1 x0) (IntKind.i64.wrap ((IntKind.i64.wrap (a0 - 1)) - x0_))) 1)), (55, nU (sShr .u64 (at' a1 x0) (IntKind.i64.wrap ((IntKind.i64.wrap (a0 - 1)) - x0_)))), (54, nI (IntKind.i64.wrap ((IntKind.i64.wrap (a0 - 1)) - x0_))), (53, nI x0_), (52, nI (IntKind.i64.wrap (a0 - 1))), (51, nI a0), (50, nU (at' a1 x0)), (49, nY (at' x1_ (sShr .i64 r5 3))), (48, .ep (.h 1) 1 (0 + Int.toNat (sShr .i64 r5 3)) none (some (.int .u8 (at' x1_ (sShr .i64 r5 3))))), (47, nI (sShr .i64 r5 3)), (46, nI r5), (45, sY (.h 1) x1_), (14, nI r5), (13, nI x0_), (38, nI x0_), (37, nI a0), (12, nU (at' a1 x0)), (11, nI x0), (32, nI x0), (31, nI (a1.length : Int)), (30, lU a1), (10, sY (.h 1) x1_), (3, .ptr (.s 15) 0), (2, .d (.clo (.func 224) [] [.cp [.int .i64 a2] 0]))], [(.s 15, [nI a0])]⟩ ?_
    refine L_idxO (enc := D.int .u8) (l := x1_) (iv := sShr .i64 r5 3) trivial rfl rfl (fun hc1418 => ?_)
    refine Ae 0 [.o true (o204_14.drop 19), .b 3, .c c204_34, .l c204_37] ⟨[(63, .ep (.h 1) 1 (0 + Int.toNat (sShr .i64 r5 3)) none (some (.int .u8 (at' x1_ (sShr .i64 r5 3))))), (62, nY (bOr .u8 (at' x1_ (sShr .i64 r5 3)) (sShl .u8 (IntKind.u8.wrap (bAnd .u64 (sShr .u64 (at' a1 x0) (IntKind.i64.wrap ((IntKind.i64.wrap (a0 - 1)) - x0_))) 1)) (IntKind.i64.wrap (7 - (bAnd .i64 r5 7)))))), (61, nY (sShl .u8 (IntKind.u8.wrap (bAnd .u64 (sShr .u64 (at' a1 x0) (IntKind.i64.wrap ((IntKind.i64.wrap (a0 - 1)) - x0_))) 1)) (IntKind.i64.wrap (7 - (bAnd .i64 r5 7))))), (60, nI (IntKind.i64.wrap (7 - (bAnd .i64 r5 7)))), (59, nI (bAnd .i64 r5 7)), (58, nI r5), (57, nY (IntKind.u8.wrap (bAnd .u64 (sShr .u64 (at' a1 x0) (IntKind.i64.wrap ((IntKind.i64.wrap (a0 - 1)) - x0_))) 1))), (56, nU (bAnd .u64 (sShr .u64 (at' a1 x0) (IntKind.i64.wrap ((IntKind.i64.wrap (a0 - 1)) - x0_))) 1)), (55, nU (sShr .u64 (at' a1 x0) (IntKind.i64.wrap ((IntKind.i64.wrap (a0 - 1)) - x0_)))), (54, nI (IntKind.i64.wrap ((IntKind.i64.wrap (a0 - 1)) - x0_))), (53, nI x0_), (52, nI (IntKind.i64.wrap (a0 - 1))), (51, nI a0), (50, nU (at' a1 x0)), (49, nY (at' x1_ (sShr .i64 r5 3))), (48, .ep (.h 1) 1 (0 + Int.toNat (sShr .i64 r5 3)) none (some (.int .u8 (at' x1_ (sShr .i64 r5 3))))), (47, nI (sShr .i64 r5 3)), (46, nI r5), (45, sY (.h 1) x1_), (14, nI r5), (13, nI x0_), (38, nI x0_), (37, nI a0), (12, nU (at' a1 x0)), (11, nI x0), (32, nI x0), (31, nI (a1.length : Int)), (30, lU a1), (10, sY (.h 1) x1_), (3, .ptr (.s 15) 0), (2, .d (.clo (.func 224) [] [.cp [.int .i64 a2] 0]))], [(.s 15, [nI a0])]⟩ ?_
    refine L_sto (p := nY (bOr .u8 (at' x1_ (sShr .i64 r5 3)) (sShl .u8 (IntKind.u8.wrap (bAnd .u64 (sShr .u64 (at' a1 x0) (IntKind.i64.wrap ((IntKind.i64.wrap (a0 - 1)) - x0_))) 1)) (IntKind.i64.wrap (7 - (bAnd .i64 r5 7)))))) (d := .int .u8 (bOr .u8 (at' x1_ (sShr .i64 r5 3)) (sShl .u8 (IntKind.u8.wrap (bAnd .u64 (sShr .u64 (at' a1 x0) (IntKind.i64.wrap ((IntKind.i64.wrap (a0 - 1)) - x0_))) 1)) (IntKind.i64.wrap (7 - (bAnd .i64 r5 7)))))) trivial rfl rfl rfl (of_decide_eq_true (by kernel_rfl)) rfl ?_
    refine Av 1 [.b 3, .c c204_34, .l c204_37] ⟨[(38, nI x0_), (37, nI a0), (12, nU (at' a1 x0)), (11, nI x0), (32, nI x0), (31, nI (a1.length : Int)), (30, lU a1), (10, .sl (.h 1) 1 0 (updEs none (.int .u8 (bOr .u8 (at' x1_ (sShr .i64 r5 3)) (sShl .u8 (IntKind.u8.wrap (bAnd .u64 (sShr .u64 (at' a1 x0) (IntKind.i64.wrap ((IntKind.i64.wrap (a0 - 1)) - x0_))) 1)) (IntKind.i64.wrap (7 - (bAnd .i64 r5 7)))))) (List.map (D.int .u8) x1_) (0 + Int.toNat (sShr .i64 r5 3)))), (3, .ptr (.s 15) 0), (2, .d (.clo (.func 224) [] [.cp [.int .i64 a2] 0]))], [(.s 15, [nI a0])]⟩ ?_
    refine L_rw (fun z => ⟨[(38, nI x0_), (37, nI a0), (12, nU (at' a1 x0)), (11, nI x0), (32, nI x0), (31, nI (a1.length : Int)), (30, lU a1), (10, .sl (.h 1) 1 0 z), (3, .ptr (.s 15) 0), (2, .d (.clo (.func 224) [] [.cp [.int .i64 a2] 0]))], [(.s 15, [nI a0])]⟩) (b := List.map (D.int .u8) (x1_.set (Int.toNat (sShr .i64 r5 3)) (bOr .u8 (at' x1_ (sShr .i64 r5 3)) (sShl .u8 (IntKind.u8.wrap (bAnd .u64 (sShr .u64 (at' a1 x0) (IntKind.i64.wrap ((IntKind.i64.wrap (a0 - 1)) - x0_))) 1)) (IntKind.i64.wrap (7 - (bAnd .i64 r5 7))))))) (by rw [Nat.zero_add]; exact set_map) ?_
    refine Al 5 [.l c204_37] .norm (fun y6 : List Int => ⟨[(38, nI (IntKind.i64.wrap (x0_ + 1))), (37, nI a0), (12, nU (at' a1 x0)), (11, nI x0), (32, nI x0), (31, nI (a1.length : Int)), (30, lU a1), (10, sY (.h 1) y6), (3, .ptr (.s 15) 0), (2, .d (.clo (.func 224) [] [.cp [.int .i64 a2] 0]))], [(.s 15, [nI a0])]⟩) (fun y6 => ?_)
    exact L_again (IH (IntKind.i64.wrap (x0_ + 1)) y6)
  · refine Avk 4 [] (.exit 2) ⟨[(32, nI x0), (31, nI (a1.length : Int)), (30, lU a1), (10, sY (.h 1) x1_), (3, .ptr (.s 15) 0), (2, .d (.clo (.func 224) [] [.cp [.int .i64 a2] 0]))], [(.s 15, [nI a0])]⟩ ?_
    exact L_end
def q_ok_plane_put_plane_side_1_l0_ok (a0 : Int) (a1 : List Int) (a2 : Int) (x0 : Int) (x1 : List Int) (v : (List Int)) : Prop := (fun v => go Try.prog 67 (PostN (.exit 0) (fun x : (List Int) => ⟨[(10, sY (.h 1) x)], []⟩) v) [.l c204_46] .norm ⟨[(32, nI x0), (31, nI (a1.length : Int)), (30, lU a1), (10, sY (.h 0) x1), (3, .ptr (.s 15) 0), (2, .d (.clo (.func 224) [] [.cp [.int .i64 a2] 0]))], [(.s 15, [nI a0])]⟩) v
theorem ok_plane_put_plane_side_1_l0_ok (a0 : Int) (a1 : List Int) (a2 : Int) (x0 : Int) (x1 : List Int) : Ok (M_plane_put_plane_side_1_l0 a0 a1 a2 x0 x1) (q_ok_plane_put_plane_side_1_l0_ok a0 a1 a2 x0 x1) := by
  refine M_plane_put_plane_side_1_l0.partial_correctness a0 a1 a2 (q_ok_plane_put_plane_side_1_l0_ok a0 a1 a2) ?_ x0 x1
  clear x0 x1
  intro f' IH x0 x1
  refine okI ?_
  unfold q_ok_plane_put_plane_side_1_l0_ok at *
  refine Av 1 [.c c204_46, .l c204_46] ⟨[(32, nI x0), (31, nI (a1.length : Int)), (30, lU a1), (10, sY (.h 0) x1), (3, .ptr (.s 15) 0), (2, .d (.clo (.func 224) [] [.cp [.int .i64 a2] 0]))], [(.s 15, [nI a0])]⟩ ?_
  refine Av 5 [.c c204_21, .c c204_44, .l c204_46] ⟨[(33, bB (decide (x0 < (a1.length : Int)))), (32, nI x0), (31, nI (a1.length : Int)), (30, lU a1), (10, sY (.h 0) x1), (3, .ptr (.s 15) 0), (2, .d (.clo (.func 224) [] [.cp [.int .i64 a2] 0]))], [(.s 15, [nI a0])]⟩ ?_
  refine L_split 33 rfl (fun _ => ?_) (fun _ => ?_)
  · refine Av 7 [.o false (o204_9.drop 1), .c c204_40, .b 1, .c c204_43, .l c204_46] ⟨[(34, nI x0), (32, nI x0), (31, nI (a1.length : Int)), (30, lU a1), (10, sY (.h 0) x1), (3, .ptr (.s 15) 0), (2, .d (.clo (.func 224) [] [.cp [.int .i64 a2] 0]))], [(.s 15, [nI a0])]⟩ ?_
    refine L_idxD (enc := D.int .u64) (l := a1) (iv := x0) trivial rfl rfl (fun _ => rfl) (fun hc901 => ?_)
    refine Av 11 [.l c204_37, .b 2, .b 1, .c c204_43, .l c204_46] ⟨[(38, nI 0), (37, nI a0), (12, nU (at' a1 x0)), (11, nI x0), (32, nI x0), (31, nI (a1.length : Int)), (30, lU a1), (10, sY (.h 0) x1), (3, .ptr (.s 15) 0), (2, .d (.clo (.func 224) [] [.cp [.int .i64 a2] 0]))], [(.s 15, [nI a0])]⟩ ?_
    refine L_piece (fs := [.l c204_37]) (ks := [.b 2, .b 1, .c c204_43, .l c204_46]) (ok_plane_put_plane_side_1_l1_ok a0 a1 a2 x0 0 x1) (fun j8 => ?_)
    refine Av 6 [.l c204_46] ⟨[(32, nI (IntKind.i64.wrap (x0 + 1))), (31, nI (a1.length : Int)), (30, lU a1), (10, sY (.h 2) j8), (3, .ptr (.s 15) 0), (2, .d (.clo (.func 224) [] [.cp [.int .i64 a2] 0]))], [(.s 15, [nI a0])]⟩ ?_
    exact L_again (IH (IntKind.i64.wrap (x0 + 1)) j8)
  · refine Avk 4 [] (.exit 0) ⟨[(10, sY (.h 0) x1)], []⟩ ?_
    exact L_end
theorem ok_plane_put_plane_side_1 (a0 : Int) (a1 : List Int) (a2 : Int) : ∀ v, M_plane_put_plane_side_1 a0 a1 a2 = some v → EvF Try.prog 204 [.int .i64 a0, .lst (List.map (D.int .u64) a1), .clo (.func 224) [] [.cp [.int .i64 a2] 0]] (en_plane_put_plane_side_1 v) := by
  intro v hv
  refine EvF_go fn204 (Nat.le_of_ble_eq_true rfl) ?_
  suffices h : Ok (M_plane_put_plane_side_1 a0 a1 a2) fun v => go Try.prog 67 (Fnl [.t 6, .t 7] (en_plane_put_plane_side_1 v) []) [.c c204_58] .norm (initSt (List.map PV.d [.int .i64 a0, .lst (List.map (D.int .u64) a1), .clo (.func 224) [] [.cp [.int .i64 a2] 0]]) []) from h v hv
  unfold M_plane_put_plane_side_1
  refine Av 10 [.o false (o204_1.drop 2), .c c204_56] ⟨[(17, lU a1), (16, nI a0), (3, .ptr (.s 15) 0), (1, lU a1), (2, .d (.clo (.func 224) [] [.cp [.int .i64 a2] 0]))], [(.s 15, [nI a0])]⟩ ?_
  refine L_len (enc := D.int .u64) (l := a1) trivial rfl ?_
  refine Av 0 [.o false (o204_1.drop 3), .c c204_56] ⟨[(18, nI (a1.length : Int)), (16, nI a0), (3, .ptr (.s 15) 0), (1, lU a1), (2, .d (.clo (.func 224) [] [.cp [.int .i64 a2] 0]))], [(.s 15, [nI a0])]⟩ ?_
  refine L_call (ok_plane_Bytes a0 (a1.length : Int)) trivial rfl (fun _ => rfl) (fun _ => ⟨trivial, trivial, trivial⟩) (fun r1 => ?_)
  refine Av 12 [.c c204_7, .c c204_55] ⟨[(23, bB (r1.2 != 0)), (9, nI r1.2), (8, nI r1.1), (3, .ptr (.s 15) 0), (1, lU a1), (2, .d (.clo (.func 224) [] [.cp [.int .i64 a2] 0]))], [(.s 15, [nI a0])]⟩ ?_
  refine L_split 23 decNe (fun _ => ?_) (fun _ => ?_)
  · refine Avk 9 [] .ret ⟨[(7, nI r1.2), (6, .nils)], []⟩ ?_
    exact L_ret
  · refine Av 7 [.o false (o204_4.drop 2), .c c204_14, .c c204_54] ⟨[(26, .clo (.func 218) [] [.ptr (.s 15) 0]), (25, lU a1), (8, nI r1.1), (3, .ptr (.s 15) 0), (1, lU a1), (2, .d (.clo (.func 224) [] [.cp [.int .i64 a2] 0]))], [(.s 15, [nI a0])]⟩ ?_
    refine L_call (ok_slices_ContainsFunc_uint64_uint64_plane_put_1 a1 a0) trivial rfl (fun _ => rfl) (fun _ => trivial) (fun r2 => ?_)
    refine Av 1 [.c c204_14, .c c204_54] ⟨[(27, bB r2), (8, nI r1.1), (3, .ptr (.s 15) 0), (1, lU a1), (2, .d (.clo (.func 224) [] [.cp [.int .i64 a2] 0]))], [(.s 15, [nI a0])]⟩ ?_
    refine L_split 27 decT (fun _ => ?_) (fun _ => ?_)
    · refine Avk 8 [] .ret ⟨[(7, nI 1), (6, .nils)], []⟩ ?_
      exact L_ret
    · refine Av 5 [.o false (o204_6.drop 1), .c c204_53] ⟨[(28, nI r1.1), (3, .ptr (.s 15) 0), (1, lU a1), (2, .d (.clo (.func 224) [] [.cp [.int .i64 a2] 0]))], [(.s 15, [nI a0])]⟩ ?_
      refine L_mk (enc := D.int .u8) (z0 := 0) (a := r1.1) (b := r1.1) trivial rfl rfl rfl (fun _ => ?_)
      refine Al 6 [.o false (o204_7.drop 1), .c c204_48, .c c204_52] .norm (fun y3 : List Int => ⟨[(30, lU a1), (10, sY (.s 9631) y3), (3, .ptr (.s 15) 0), (2, .d (.clo (.func 224) [] [.cp [.int .i64 a2] 0]))], [(.s 15, [nI a0])]⟩) (fun y3 => ?_)
      refine L_len (enc := D.int .u64) (l := a1) trivial rfl ?_
      refine Av 4 [.l c204_46, .b 0, .c c204_52] ⟨[(32, nI 0), (31, nI (a1.length : Int)), (30, lU a1), (10, sY (.s 9631) y3), (3, .ptr (.s 15) 0), (2, .d (.clo (.func 224) [] [.cp [.int .i64 a2] 0]))], [(.s 15, [nI a0])]⟩ ?_
      refine L_piece (fs := [.l c204_46]) (ks := [.b 0, .c c204_52]) (ok_plane_put_plane_side_1_l0_ok a0 a1 a2 0 y3) (fun j9 => ?_)
      refine Avk 8 [] .ret ⟨[(7, nI 0), (6, sY (.h 1) j9)], []⟩ ?_
      exact L_ret
/-- thrum/plane.Pack. -/
def en_plane_Pack (v : (List Int) × Int) : PV := .tup [sY (.s 0) v.1, nI v.2]
def o205_0 : List AOper := [⟨some 4, none, 0, .mov (.c .nils)⟩, mi 5 1 0]
def o205_1 : List AOper := [mv 6 100 0, mv 7 101 1, mv 8 102 0, cl' 9 103 219 [.t 8], cl' 10 104 204 [.t 6, .t 7, .t 9], xt 11 105 10 0, xt 12 106 10 1, mv 4 107 11, mv 5 108 12]
def c205_4 : AC := .seq (.reg o205_0) (.seq (.reg o205_1) .ret)
theorem fn205 : fnA Try.prog 205 = some (13, [.t 4, .t 5], c205_4) := by kernel_rfl
theorem ok_plane_Pack (a0 : Int) (a1 : List Int) : ∀ v, M_plane_Pack a0 a1 = some v → EvF Try.prog 205 [.int .i64 a0, .lst (List.map (D.int .u64) a1)] (en_plane_Pack v) := by
  intro v hv
  refine EvF_go fn205 (Nat.le_of_ble_eq_true rfl) ?_
  suffices h : Ok (M_plane_Pack a0 a1) fun v => go Try.prog 13 (Fnl [.t 4, .t 5] (en_plane_Pack v) []) [.c c205_4] .norm (initSt (List.map PV.d [.int .i64 a0, .lst (List.map (D.int .u64) a1)]) []) from h v hv
  unfold M_plane_Pack
  refine Av 10 [.o false (o205_1.drop 3), .c .ret] ⟨[(8, nI a0), (7, lU a1), (6, nI a0)], []⟩ ?_
  refine L_callZ [] (ok_plane_side a0) trivial rfl rfl (fun _ => rfl) (fun r1 => ?_)
  refine Av 0 [.o false (o205_1.drop 4), .c .ret] ⟨[(9, .d (.clo (.func 224) [] [.cp [.int .i64 r1] 0])), (7, lU a1), (6, nI a0)], []⟩ ?_
  refine L_call (ok_plane_put_plane_side_1 a0 a1 r1) trivial rfl (fun _ => rfl) (fun _ => ⟨(flat_map_of fun _ => trivial), trivial, trivial⟩) (fun r2 => ?_)
  refine Avk 6 [] .ret ⟨[(5, nI r2.2), (4, sY (.s 1664) r2.1)], []⟩ ?_
  exact L_ret
/-- thrum/plane.Signs. -/
def en_plane_Signs (v : (List Int) × Int) : PV := .tup [sY (.s 0) v.1, nI v.2]
def o176_0 : List AOper := [⟨some 2, none, 0, .mov (.c .nils)⟩, mi 3 1 0]
def o176_1 : List AOper := [mv 7 100 0, ln 8 101 7, ⟨some 9, none, 102, .mkS 82 1 8 (.int .u64 0) (.t 8) (.t 8)⟩, mv 4 103 9]
def o176_2 : List AOper := [mv 10 200 0, ln 11 201 10, mi 12 202 0]
def o176_3 : List AOper := [bi 13 300 .lss 12 11]
def o176_4 : List AOper := [mv 14 400 12, ⟨some 15, none, 401, .idxA 1 (.t 10) (.t 12)⟩, ld 16 402 15, mv 5 403 14, mv 6 404 16]
def o176_5 : List AOper := [mv 17 500 6]
def o176_6 : List AOper := [mv 18 600 4, mv 19 601 5, ⟨some 20, none, 602, .idxA 1 (.t 18) (.t 19)⟩, ⟨none, none, 603, .store 1 (.t 20) (.c (.d (.int .u64 1)))⟩]
def o176_7 : List AOper := [bc 21 700 .add 12 1, mv 12 701 21]
def o176_8 : List AOper := [mv 22 800 4, cl' 23 801 205 [.c (.d (.int .i64 1)), .t 22], xt 24 802 23 0, xt 25 803 23 1, mv 2 804 24, mv 3 805 25]
def c176_6 : AC := .cond (.t 13) .skip (.exit 0)
def c176_11 : AC := .cond (.t 17) (.reg o176_6) .skip
def c176_12 : AC := .seq (.reg o176_5) c176_11
def c176_15 : AC := .reg o176_7
def c176_16 : AC := .seq (.block 1 (.seq (.reg o176_4) c176_12)) c176_15
def c176_18 : AC := .seq (.reg o176_3) (.seq c176_6 c176_16)
def c176_20 : AC := .block 0 (.loop c176_18)
def c176_24 : AC := .seq (.reg o176_8) .ret
def c176_25 : AC := .seq (.seq (.reg o176_2) c176_20) c176_24
def c176_27 : AC := .seq (.reg o176_0) (.seq (.reg o176_1) c176_25)
theorem fn176 : fnA Try.prog 176 = some (26, [.t 2, .t 3], c176_27) := by kernel_rfl
def q_ok_plane_Signs_l0_ok (a0 : List Bool) (x0 : Int) (x1 : List Int) (v : (List Int)) : Prop := (fun v => go Try.prog 26 (PostN (.exit 0) (fun x : (List Int) => ⟨[(4, sU (.h 1) x)], []⟩) v) [.l c176_18] .norm ⟨[(12, nI x0), (11, nI (a0.length : Int)), (10, lB a0), (4, sU (.h 0) x1)], []⟩) v
theorem ok_plane_Signs_l0_ok (a0 : List Bool) (x0 : Int) (x1 : List Int) : Ok (M_plane_Signs_l0 a0 x0 x1) (q_ok_plane_Signs_l0_ok a0 x0 x1) := by
  refine M_plane_Signs_l0.partial_correctness a0 (q_ok_plane_Signs_l0_ok a0) ?_ x0 x1
  clear x0 x1
  intro f' IH x0 x1
  refine okI ?_
  unfold q_ok_plane_Signs_l0_ok at *
  refine Av 1 [.c c176_18, .l c176_18] ⟨[(12, nI x0), (11, nI (a0.length : Int)), (10, lB a0), (4, sU (.h 0) x1)], []⟩ ?_
  refine Av 5 [.c c176_6, .c c176_16, .l c176_18] ⟨[(13, bB (decide (x0 < (a0.length : Int)))), (12, nI x0), (11, nI (a0.length : Int)), (10, lB a0), (4, sU (.h 0) x1)], []⟩ ?_
  refine L_split 13 rfl (fun _ => ?_) (fun _ => ?_)
  · refine Av 7 [.o false (o176_4.drop 1), .c c176_12, .b 1, .c c176_15, .l c176_18] ⟨[(14, nI x0), (12, nI x0), (11, nI (a0.length : Int)), (10, lB a0), (4, sU (.h 0) x1)], []⟩ ?_
    refine L_idxD (enc := D.bool) (l := a0) (iv := x0) trivial rfl rfl (fun _ => rfl) (fun hc401 => ?_)
    refine Av 8 [.c c176_11, .b 1, .c c176_15, .l c176_18] ⟨[(17, bB (at' a0 x0)), (5, nI x0), (12, nI x0), (11, nI (a0.length : Int)), (10, lB a0), (4, sU (.h 0) x1)], []⟩ ?_
    refine L_split 17 decT (fun _ => ?_) (fun _ => ?_)
    · refine Av 4 [.o false (o176_6.drop 2), .b 1, .c c176_15, .l c176_18] ⟨[(19, nI x0), (18, sU (.h 0) x1), (12, nI x0), (11, nI (a0.length : Int)), (10, lB a0), (4, sU (.h 0) x1)], []⟩ ?_
      refine L_idxO (enc := D.int .u64) (l := x1) (iv := x0) trivial rfl rfl (fun hc602 => ?_)
      refine Av 0 [.o false (o176_6.drop 3), .b 1, .c c176_15, .l c176_18] ⟨[(20, .ep (.h 0) 1 (0 + Int.toNat x0) none (some (.int .u64 (at' x1 x0)))), (12, nI x0), (11, nI (a0.length : Int)), (10, lB a0), (4, sU (.h 0) x1)], []⟩ ?_
      refine L_sto (p := nU 1) (d := .int .u64 1) trivial rfl rfl rfl (of_decide_eq_true (by kernel_rfl)) rfl ?_
      refine Av 0 [.o false (o176_6.drop 4), .b 1, .c c176_15, .l c176_18] ⟨[(12, nI x0), (11, nI (a0.length : Int)), (10, lB a0), (4, .sl (.h 0) 1 0 (updEs none (.int .u64 1) (List.map (D.int .u64) x1) (0 + Int.toNat x0)))], []⟩ ?_
      refine L_rw (fun z => ⟨[(12, nI x0), (11, nI (a0.length : Int)), (10, lB a0), (4, .sl (.h 0) 1 0 z)], []⟩) (b := List.map (D.int .u64) (x1.set (Int.toNat x0) 1)) (by rw [Nat.zero_add]; exact set_map) ?_
      refine Av 6 [.l c176_18] ⟨[(12, nI (IntKind.i64.wrap (x0 + 1))), (11, nI (a0.length : Int)), (10, lB a0), (4, sU (.h 0) (x1.set (Int.toNat x0) 1))], []⟩ ?_
      exact L_again (IH (IntKind.i64.wrap (x0 + 1)) (x1.set (Int.toNat x0) 1))
    · refine Av 7 [.l c176_18] ⟨[(12, nI (IntKind.i64.wrap (x0 + 1))), (11, nI (a0.length : Int)), (10, lB a0), (4, sU (.h 0) x1)], []⟩ ?_
      exact L_again (IH (IntKind.i64.wrap (x0 + 1)) x1)
  · refine Avk 4 [] (.exit 0) ⟨[(4, sU (.h 0) x1)], []⟩ ?_
    exact L_end
theorem ok_plane_Signs (a0 : List Bool) : ∀ v, M_plane_Signs a0 = some v → EvF Try.prog 176 [.lst (List.map D.bool a0)] (en_plane_Signs v) := by
  intro v hv
  refine EvF_go fn176 (Nat.le_of_ble_eq_true rfl) ?_
  suffices h : Ok (M_plane_Signs a0) fun v => go Try.prog 26 (Fnl [.t 2, .t 3] (en_plane_Signs v) []) [.c c176_27] .norm (initSt (List.map PV.d [.lst (List.map D.bool a0)]) []) from h v hv
  unfold M_plane_Signs
  refine Av 8 [.o false (o176_1.drop 1), .c c176_25] ⟨[(7, lB a0), (0, lB a0)], []⟩ ?_
  refine L_len (enc := D.bool) (l := a0) trivial rfl ?_
  refine Av 0 [.o false (o176_1.drop 2), .c c176_25] ⟨[(8, nI (a0.length : Int)), (0, lB a0)], []⟩ ?_
  refine L_mk (enc := D.int .u64) (z0 := 0) (a := (a0.length : Int)) (b := (a0.length : Int)) trivial rfl rfl rfl (fun _ => ?_)
  refine Al 6 [.o false (o176_2.drop 1), .c c176_20, .c c176_24] .norm (fun y1 : List Int => ⟨[(10, lB a0), (4, sU (.s 1647) y1)], []⟩) (fun y1 => ?_)
  refine L_len (enc := D.bool) (l := a0) trivial rfl ?_
  refine Av 4 [.l c176_18, .b 0, .c c176_24] ⟨[(12, nI 0), (11, nI (a0.length : Int)), (10, lB a0), (4, sU (.s 1647) y1)], []⟩ ?_
  refine L_piece (fs := [.l c176_18]) (ks := [.b 0, .c c176_24]) (ok_plane_Signs_l0_ok a0 0 y1) (fun j3 => ?_)
  refine Av 4 [.o false (o176_8.drop 1), .c .ret] ⟨[(22, sU (.h 1) j3)], []⟩ ?_
  refine L_call (ok_plane_Pack 1 j3) trivial rfl (fun _ => rfl) (fun _ => ⟨(flat_map_of fun _ => trivial), trivial, trivial⟩) (fun r4 => ?_)
  refine Avk 6 [] .ret ⟨[(3, nI r4.2), (2, sY (.s 12816) r4.1)], []⟩ ?_
  exact L_ret
end Go.Proofs.Ythhcgcaefjmekaa.Abs
