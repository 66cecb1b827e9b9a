/- The table, and sums: walks. -/
import Derived.Test.YtelobmiooldoaaaCrcC
import Derived.Test.YtelobmiooldoaaaPB
namespace Go.Proofs.Ytelobmiooldoaaa.Abs
open Go Go.RowKit Crc
set_option maxRecDepth 100000
set_option linter.unusedVariables false
open Z
theorem L_pos {β : Type} {m : Option β} {Φ : β → Prop} {p : Prop} [Decidable p] (hp : p) (h : Ok (if p then m else none) Φ) : Ok m Φ := by rwa [if_pos hp] at h
/-- A cell of an array in a box is read. -/
theorem L_ldA {P : Program} {N : Nat} {β : Type} {m : Option β} {R : β → Kd → St → Prop} {ks : List Fr} {st : St} {l : List Int} {k : Tg} {a b iv : Int} {q : Bool} {dst : Option Nat} {g : Option (Nat × Bool)} {n : Nat} {x : Opd} {r : List AOper} (hg : gok g st)
    (hx : (gst g st).val x = some (.ptr k (3 + iv.toNat * 1))) (hb : (gst g st).box k = some (mkC a b l)) (h0 : 0 ≤ iv) (h1 : iv < (l.length : Int))
    (next : Ok m fun b => go P N (R b) (.o q r :: ks) .norm ((gst g st).putO dst (nW (at' l iv)))) (hM : k.isM = false := by rfl) :
    Ok m fun b => go P N (R b) (.o q (⟨dst, g, n, .load false 1 x⟩ :: r) :: ks) .norm st := by
  refine next.mono fun z hz => ops_step hg (stepR (v := nW (at' l iv)) (c := 3 + iv.toNat * 1 < (mkC a b l).length) ?_ ?_ hz)
  · simp only [rop, hx, hb]
    have : (mkC a b l).getD (3 + iv.toNat * 1) .unk = nW (at' l iv) := by
      have h2 : iv.toNat < l.length := by omega
      rw [Nat.mul_one, Nat.add_comm]
      simp [mkC, at', h2]
    rw [this, hM]; rfl
  · simp [mkC]; omega
def z29 : List D := .int .u32 0 :: .int .i32 0 :: List.replicate 257 (.int .u32 0)
def zeroT : List PV := mkC 0 0 (List.replicate 256 0)
def doneT : List PV := mkC 1 0 tabL
def oK55_0 : List AOper := [{ dst := some 1, guard := none, n := 0, op := AOp.box 171 (Opd.t 0) }, { dst := some 2, guard := none, n := 1, op := AOp.mov (Opd.c (PV.d (D.nilptr))) }]
def oK55_1 : List AOper := [{ dst := some 3, guard := none, n := 100, op := AOp.load false 1 (Opd.t 1) }, { dst := some 4, guard := none, n := 101, op := AOp.nilck (Opd.t 3) }, { dst := some 5, guard := none, n := 102, op := AOp.fieldA 0 (Opd.t 4) }, { dst := some 6, guard := none, n := 103, op := AOp.mkfn (Fn.func 149) [] [Opd.t 1] }, { dst := some 7, guard := none, n := 104, op := AOp.call 148 [Opd.t 5, Opd.t 6] }]
def oK55_2 : List AOper := [{ dst := some 8, guard := none, n := 200, op := AOp.load false 1 (Opd.t 1) }, { dst := some 9, guard := none, n := 201, op := AOp.nilck (Opd.t 8) }, { dst := some 10, guard := none, n := 202, op := AOp.fieldA 3 (Opd.t 9) }, { dst := some 2, guard := none, n := 203, op := AOp.mov (Opd.t 10) }]
def oK29_0 : List AOper := [{ dst := some 4, guard := none, n := 0, op := AOp.mov (Opd.c (PV.d (D.int (IntKind.u32) 0))) }]
def oK29_1 : List AOper := [{ dst := some 9, guard := none, n := 100, op := AOp.alloc 185 259 z29 }, { dst := some 10, guard := none, n := 101, op := AOp.call 144 [Opd.t 9] }, { dst := some 5, guard := none, n := 102, op := AOp.mov (Opd.t 10) }]
def oK29_2 : List AOper := [{ dst := some 11, guard := none, n := 200, op := AOp.mov (Opd.t 0) }, { dst := some 12, guard := none, n := 201, op := AOp.un (UnOp.xor) (Opd.t 11) }, { dst := some 6, guard := none, n := 202, op := AOp.mov (Opd.t 12) }]
def oK29_3 : List AOper := [{ dst := some 13, guard := none, n := 300, op := AOp.mov (Opd.t 1) }, { dst := some 14, guard := none, n := 301, op := AOp.len (Opd.t 13) }, { dst := some 15, guard := none, n := 302, op := AOp.mov (Opd.c (PV.d (D.int (IntKind.i64) 0))) }]
def oK29_4 : List AOper := [{ dst := some 16, guard := none, n := 400, op := AOp.bin (BinOp.lss) (BT.int) (Opd.t 15) (Opd.t 14) }]
def oK29_5 : List AOper := [{ dst := some 17, guard := none, n := 500, op := AOp.idxA 1 (Opd.t 13) (Opd.t 15) }, { dst := some 18, guard := none, n := 501, op := AOp.load false 1 (Opd.t 17) }, { dst := some 8, guard := none, n := 502, op := AOp.mov (Opd.t 18) }]
def oK29_6 : List AOper := [{ dst := some 19, guard := none, n := 600, op := AOp.mov (Opd.t 5) }, { dst := some 20, guard := none, n := 601, op := AOp.mov (Opd.t 6) }, { dst := some 21, guard := none, n := 602, op := AOp.convI (IntKind.u8) (Opd.t 20) }, { dst := some 22, guard := none, n := 603, op := AOp.mov (Opd.t 8) }, { dst := some 23, guard := none, n := 604, op := AOp.bin (BinOp.xor) (BT.int) (Opd.t 21) (Opd.t 22) }, { dst := some 24, guard := none, n := 605, op := AOp.nilck (Opd.t 19) }, { dst := some 25, guard := none, n := 606, op := AOp.idxAr 1 256 (Opd.t 24) (Opd.t 23) }, { dst := some 26, guard := none, n := 607, op := AOp.load false 1 (Opd.t 25) }, { dst := some 27, guard := none, n := 608, op := AOp.mov (Opd.t 6) }, { dst := some 28, guard := none, n := 609, op := AOp.bin (BinOp.shr) (BT.int) (Opd.t 27) (Opd.c (PV.d (D.int (IntKind.u64) 8))) }, { dst := some 29, guard := none, n := 610, op := AOp.bin (BinOp.xor) (BT.int) (Opd.t 26) (Opd.t 28) }, { dst := some 6, guard := none, n := 611, op := AOp.mov (Opd.t 29) }]
def oK29_7 : List AOper := [{ dst := some 30, guard := none, n := 700, op := AOp.bin (BinOp.add) (BT.int) (Opd.t 15) (Opd.c (PV.d (D.int (IntKind.i64) 1))) }, { dst := some 15, guard := none, n := 701, op := AOp.mov (Opd.t 30) }]
def oK29_8 : List AOper := [{ dst := some 31, guard := none, n := 800, op := AOp.mov (Opd.t 6) }, { dst := some 32, guard := none, n := 801, op := AOp.un (UnOp.xor) (Opd.t 31) }, { dst := some 4, guard := none, n := 802, op := AOp.mov (Opd.t 32) }]
def cK55 : AC := AC.seq (AC.reg oK55_0) (AC.seq (AC.reg oK55_1) (AC.seq (AC.reg oK55_2) (AC.ret)))
def bK29d : AC := (AC.seq (AC.block 1 (AC.seq (AC.reg oK29_5) (AC.reg oK29_6))) (AC.reg oK29_7))
def bK29c : AC := (AC.seq (AC.cond (Opd.t 16) (AC.skip) (AC.exit 0)) bK29d)
def bK29 : AC := (AC.seq (AC.reg oK29_4) bK29c)
def eK29 : AC := AC.seq (AC.reg oK29_8) AC.ret
def cK29 : AC := AC.seq (AC.reg oK29_0) (AC.seq (AC.reg oK29_1) (AC.seq (AC.reg oK29_2) (AC.seq (AC.seq (AC.reg oK29_3) (AC.block 0 (AC.loop bK29))) (AC.seq (AC.reg oK29_8) (AC.ret)))))
theorem fnK55 : fnA Try.prog 144 = some (11, [.t 2], cK55) := by kernel_rfl
theorem fnK29 : fnA Try.prog 131 = some (33, [.t 4], cK29) := by kernel_rfl
/-- The table of a new maker. -/
theorem table55 : EvG Try.prog 144 [.ptr (.up (.s 0)) 0] [(.up (.s 0), zeroT)] (.ptr (.up (.s 0)) 3) [(.up (.s 0), doneT)] := by
  refine EvG_go fnK55 (Nat.le_of_ble_eq_true rfl) ?_
  suffices h : Ok (some () >>= fun _ => some ()) fun _ => go Try.prog 11 (Fnl [.t 2] (.ptr (.up (.s 0)) 3) [(.up (.s 0), doneT)]) [.c cK55] .norm (initSt [.ptr (.up (.s 0)) 0] [(.up (.s 0), zeroT)]) from h () rfl
  refine Av 11 [.o false (oK55_1.drop 4), .c (.seq (.reg oK55_2) .ret)] ⟨[(6, .clo (.func 149) [] [.ptr (.s 15) 0]), (5, .ptr (.up (.s 0)) 0), (1, .ptr (.s 15) 0)], [(.up (.s 0), zeroT), (.s 15, [.ptr (.up (.s 0)) 0])]⟩ ?_
  refine L_callG (enR := fun _ => .tup []) (bx' := fun _ => [(.up (.s 0), doneT), (.up (.s 1), [.ptr (.up (.s 0)) 0])]) (ps := [.ptr (.up (.s 0)) 0, .clo (.func 149) [] [.ptr (.up (.s 1)) 0]]) (bx := [(.up (.s 0), zeroT), (.up (.s 1), [.ptr (.up (.s 0)) 0])]) [(.up (.s 0), .up (.s 0)), (.up (.s 1), .s 15)] [] (fun _ _ => do66) trivial rfl rfl (fun _ => rfl) (fun _ => rfl) (fun _ => by kernel_rfl) (fun _ => by kernel_rfl) (fun _ => ?_)
  refine Avk 9 [] .ret ⟨[(2, .ptr (.up (.s 0)) 3)], [(.up (.s 0), doneT)]⟩ ?_
  exact L_ret (enR := fun _ => .ptr (.up (.s 0)) 3) (bx' := fun _ => [(.up (.s 0), doneT)])

/-- A byte's part of a sum, by the table. -/
def crcIx (c x : Int) : Int := bXor .u8 (IntKind.u8.wrap c) x
def crcStep (c x : Int) : Int := bXor .u32 (at' tabL (crcIx c x)) (sShr .u32 c 8)
def crcNot (c : Int) : Int := bXor .u32 (IntKind.u32.max) c
def moreT (s : Int) (b : List Int) : Int := crcNot (b.foldl crcStep (crcNot s))
def M_crc_More (s : Int) (b : List Int) : Option Int := if b.length < 4611686018427387904 then some (moreT s b) else none
def en_crc_More (v : Int) : PV := nW v
theorem crcIx_lt (c x : Int) : 0 ≤ crcIx c x ∧ crcIx c x < ((256 : Nat) : Int) := by
  unfold crcIx bXor
  have := u8_ge (BitVec.ofInt IntKind.u8.bits (IntKind.u8.wrap c) ^^^ BitVec.ofInt IntKind.u8.bits x).toNat
  omega
def stM (b : List Int) (i : Nat) (c : Int) : St := ⟨[(15, nI i), (14, nI (b.length : Int)), (13, lY b), (6, nW c), (5, .ptr (.s 1615) 3)], [(.s 1615, doneT)]⟩
theorem loop29 (b : List Int) (hb : b.length < 4611686018427387904) : ∀ (k i : Nat) (c : Int), i + k = b.length → Ok (some (crcNot ((b.drop i).foldl crcStep c))) fun v => go Try.prog 33 (Fnl [.t 4] (en_crc_More v) []) [.l bK29, .b 0, .c eK29] .norm (stM b i c)
  | 0, i, c, h => by
    refine Av 5 [.c bK29c, .l bK29, .b 0, .c eK29] ⟨[(16, bB (decide ((i : Int) < (b.length : Int)))), (15, nI i), (14, nI (b.length : Int)), (13, lY b), (6, nW c), (5, .ptr (.s 1615) 3)], [(.s 1615, doneT)]⟩ ?_
    rw [show decide ((i : Int) < (b.length : Int)) = false by simp; omega, List.drop_eq_nil_of_le (by omega), List.foldl_nil]
    refine Avk 13 [] .ret ⟨[(4, nW (crcNot c))], []⟩ ?_
    exact L_ret (enR := en_crc_More) (bx' := fun _ => [])
  | k + 1, i, c, h => by
    refine Av 5 [.c bK29c, .l bK29, .b 0, .c eK29] ⟨[(16, bB (decide ((i : Int) < (b.length : Int)))), (15, nI i), (14, nI (b.length : Int)), (13, lY b), (6, nW c), (5, .ptr (.s 1615) 3)], [(.s 1615, doneT)]⟩ ?_
    have hi : i < b.length := by omega
    have hd : b.drop i = at' b (i : Int) :: b.drop (i + 1) := by rw [List.drop_eq_getElem_cons hi]; simp [at', hi]
    rw [show decide ((i : Int) < (b.length : Int)) = true by simp; omega, hd, List.foldl_cons]
    refine Av 7 [.o false oK29_5, .c (.reg oK29_6), .b 1, .c (.reg oK29_7), .l bK29, .b 0, .c eK29] (stM b i c) ?_
    refine L_pos (p := 0 ≤ (i : Int) ∧ (i : Int) < (b.length : Int)) (by omega) ?_
    refine L_idxD (enc := D.int .u8) (l := b) (iv := (i : Int)) trivial rfl rfl (fun _ => rfl) (fun _ => ?_)
    generalize at' b (i : Int) = x
    refine Av 10 [.o false (oK29_6.drop 6), .b 1, .c (.reg oK29_7), .l bK29, .b 0, .c eK29] ⟨[(24, .ptr (.s 1615) 3), (23, nY (crcIx c x)), (15, nI i), (14, nI (b.length : Int)), (13, lY b), (6, nW c), (5, .ptr (.s 1615) 3)], [(.s 1615, doneT)]⟩ ?_
    have hx := crcIx_lt c x
    refine L_pos hx ?_
    refine L_rd (c := 0 ≤ crcIx c x ∧ crcIx c x < ((256 : Nat) : Int)) (v := .ptr (.s 1615) (3 + (crcIx c x).toNat * 1)) trivial rfl (fun _ => ?_)
    refine L_ldA (l := tabL) (k := .s 1615) (a := 1) (b := 0) (iv := crcIx c x) trivial rfl rfl hx.1 hx.2 ?_
    refine Av 10 [.l bK29, .b 0, .c eK29] ⟨[(15, nI (IntKind.i64.wrap ((i : Int) + 1))), (14, nI (b.length : Int)), (13, lY b), (6, nW (crcStep c x)), (5, .ptr (.s 1615) 3)], [(.s 1615, doneT)]⟩ ?_
    rw [i64_s (by omega)]
    exact loop29 b hb k (i + 1) (crcStep c x) (by omega)
/-- (crc.More) a sum that goes on. -/
theorem ok_crc_More (a0 : Int) (a1 : List Int) : ∀ v, M_crc_More a0 a1 = some v → EvF Try.prog 131 [.int .u32 a0, .lst (List.map (D.int .u8) a1)] (en_crc_More v) := by
  intro v hv
  unfold M_crc_More at hv
  split at hv
  case isFalse => cases hv
  rename_i hb
  refine EvF_go fnK29 (Nat.le_of_ble_eq_true rfl) ?_
  suffices h : Ok (some () >>= fun _ => some (moreT a0 a1)) fun v => go Try.prog 33 (Fnl [.t 4] (en_crc_More v) []) [.c cK29] .norm (initSt (List.map PV.d [.int .u32 a0, .lst (List.map (D.int .u8) a1)]) []) from h v hv
  refine Av 7 [.o false (oK29_1.drop 1), .c (.seq (.reg oK29_2) (.seq (.seq (.reg oK29_3) (.block 0 (.loop bK29))) eK29))] ⟨[(9, .ptr (.s 1615) 0), (1, lY a1), (0, nW a0)], [(.s 1615, zeroT)]⟩ ?_
  refine L_callG (enR := fun _ => .ptr (.up (.s 0)) 3) (bx' := fun _ => [(.up (.s 0), doneT)]) (ps := [.ptr (.up (.s 0)) 0]) (bx := [(.up (.s 0), zeroT)]) [(.up (.s 0), .s 1615)] [] (fun _ _ => table55) trivial rfl rfl (fun _ => rfl) (fun _ => rfl) (fun _ => by kernel_rfl) (fun _ => by kernel_rfl) (fun _ => ?_)
  refine Av 12 [.o false (oK29_3.drop 1), .c (.block 0 (.loop bK29)), .c eK29] ⟨[(13, lY a1), (6, nW (crcNot a0)), (5, .ptr (.s 1615) 3)], [(.s 1615, doneT)]⟩ ?_
  refine L_len (enc := D.int .u8) (l := a1) trivial rfl ?_
  refine Av 4 [.l bK29, .b 0, .c eK29] (stM a1 0 (crcNot a0)) ?_
  exact loop29 a1 hb a1.length 0 (crcNot a0) (by omega)
end Go.Proofs.Ytelobmiooldoaaa.Abs
