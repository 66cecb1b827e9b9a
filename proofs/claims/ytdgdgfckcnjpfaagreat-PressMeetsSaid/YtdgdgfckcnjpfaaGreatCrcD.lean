/- The table, and sums: walks. -/
import Derived.Test.YtdgdgfckcnjpfaaGreatCrcC
import Derived.Test.YtdgdgfckcnjpfaaGreatPB
namespace Go.Proofs.YtdgdgfckcnjpfaaGreat.Abs
open Go Go.RowKit Crc
set_option maxRecDepth 100000
set_option linter.unusedVariables false
open Z
theorem zAb3 {β:Type} {m:Option β} {Φ:β→Prop} {p:Prop} [Decidable p] (hp:p) (h:Ok (if p then m else none) Φ):Ok m Φ:=by rwa [if_pos hp] at h
theorem zAdR {P:Program} {N:Nat} {β:Type} {m:Option β} {R:β→Kd→St→Prop} {ks:List Fr} {st:St} {l:List Int} {k:Tg} {a b iv:Int} {q:Bool} {dst:Option Nat} {g:Option (Nat×Bool)} {n:Nat} {x:Opd} {r:List zAi} (hg:gok g st)
  (hx:(gst g st).val x=some (.ptr k (3+iv.toNat*1))) (hb:(gst g st).box k=some (mkC a b l)) (h0:0≤iv) (h1:iv<(l.length:Int))
  (next:Ok m fun b=>go P N (R b) (.o q r::ks) .norm ((gst g st).putO dst (nW (at' l iv)))) (hM:k.isM=false:=by rfl):
  Ok m fun b=>go P N (R b) (.o q (⟨dst,g,n, .load false 1 x⟩::r)::ks) .norm st:=by
 refine next.mono fun z hz=>zA3 hg (zHK (v:=nW (at' l iv)) (c:=3+iv.toNat*1<(mkC a b l).length) ?_ ?_ hz)
 ·simp only [rop,hx,hb]
  have:(mkC a b l).getD (3+iv.toNat*1) .unk=nW (at' l iv):=by
   have h2:iv.toNat<l.length:=by omega
   rw [Nat.mul_one,Nat.add_comm]
   simp [mkC,at',h2]
  rw [this,hM];rfl
 ·simp [mkC];omega
def z29:List D:= .int .u32 0:: .int .i32 0::List.replicate 257 (.int .u32 0)
def zPR:List PV:=mkC 0 0 (List.replicate 256 0)
def zHt:List PV:=mkC 1 0 tabL
def zAdc:List zAi:=[{ dst:=some 1,guard:=none,n:=0,op:=AOp.box 189 (Opd.t 0) },{ dst:=some 2,guard:=none,n:=1,op:=AOp.mov (Opd.c (PV.d (D.nilptr))) }]
def zAax:List zAi:=[{ dst:=some 3,guard:=none,n:=100,op:=AOp.load false 1 (Opd.t 1) },{ dst:=some 4,guard:=none,n:=101,op:=AOp.nilck (Opd.t 3) },{ dst:=some 5,guard:=none,n:=102,op:=AOp.fieldA 0 (Opd.t 4) },{ dst:=some 6,guard:=none,n:=103,op:=AOp.mkfn (Fn.func 209) [] [Opd.t 1] },{ dst:=some 7,guard:=none,n:=104,op:=AOp.call 208 [Opd.t 5,Opd.t 6] }]
def zZH:List zAi:=[{ dst:=some 8,guard:=none,n:=200,op:=AOp.load false 1 (Opd.t 1) },{ dst:=some 9,guard:=none,n:=201,op:=AOp.nilck (Opd.t 8) },{ dst:=some 10,guard:=none,n:=202,op:=AOp.fieldA 3 (Opd.t 9) },{ dst:=some 2,guard:=none,n:=203,op:=AOp.mov (Opd.t 10) }]
def zAdl:List zAi:=[{ dst:=some 4,guard:=none,n:=0,op:=AOp.mov (Opd.c (PV.d (D.int (IntKind.u32) 0))) }]
def zAag:List zAi:=[{ dst:=some 9,guard:=none,n:=100,op:=AOp.alloc 203 259 z29 },{ dst:=some 10,guard:=none,n:=101,op:=AOp.call 195 [Opd.t 9] },{ dst:=some 5,guard:=none,n:=102,op:=AOp.mov (Opd.t 10) }]
def zAaq:List zAi:=[{ dst:=some 11,guard:=none,n:=200,op:=AOp.mov (Opd.t 0) },{ dst:=some 12,guard:=none,n:=201,op:=AOp.un (UnOp.xor) (Opd.t 11) },{ dst:=some 6,guard:=none,n:=202,op:=AOp.mov (Opd.t 12) }]
def zWM:List zAi:=[{ dst:=some 13,guard:=none,n:=300,op:=AOp.mov (Opd.t 1) },{ dst:=some 14,guard:=none,n:=301,op:=AOp.len (Opd.t 13) },{ dst:=some 15,guard:=none,n:=302,op:=AOp.mov (Opd.c (PV.d (D.int (IntKind.i64) 0))) }]
def zAdu:List zAi:=[{ dst:=some 16,guard:=none,n:=400,op:=AOp.bin (BinOp.lss) (BT.int) (Opd.t 15) (Opd.t 14) }]
def zZT:List zAi:=[{ dst:=some 17,guard:=none,n:=500,op:=AOp.idxA 1 (Opd.t 13) (Opd.t 15) },{ dst:=some 18,guard:=none,n:=501,op:=AOp.load false 1 (Opd.t 17) },{ dst:=some 8,guard:=none,n:=502,op:=AOp.mov (Opd.t 18) }]
def zVT:List zAi:=[{ dst:=some 19,guard:=none,n:=600,op:=AOp.mov (Opd.t 5) },{ dst:=some 20,guard:=none,n:=601,op:=AOp.mov (Opd.t 6) },{ dst:=some 21,guard:=none,n:=602,op:=AOp.convI (IntKind.u8) (Opd.t 20) },{ dst:=some 22,guard:=none,n:=603,op:=AOp.mov (Opd.t 8) },{ dst:=some 23,guard:=none,n:=604,op:=AOp.bin (BinOp.xor) (BT.int) (Opd.t 21) (Opd.t 22) },{ dst:=some 24,guard:=none,n:=605,op:=AOp.nilck (Opd.t 19) },{ dst:=some 25,guard:=none,n:=606,op:=AOp.idxAr 1 256 (Opd.t 24) (Opd.t 23) },{ dst:=some 26,guard:=none,n:=607,op:=AOp.load false 1 (Opd.t 25) },{ dst:=some 27,guard:=none,n:=608,op:=AOp.mov (Opd.t 6) },{ dst:=some 28,guard:=none,n:=609,op:=AOp.bin (BinOp.shr) (BT.int) (Opd.t 27) (Opd.c (PV.d (D.int (IntKind.u64) 8))) },{ dst:=some 29,guard:=none,n:=610,op:=AOp.bin (BinOp.xor) (BT.int) (Opd.t 26) (Opd.t 28) },{ dst:=some 6,guard:=none,n:=611,op:=AOp.mov (Opd.t 29) }]
def zVD:List zAi:=[{ dst:=some 30,guard:=none,n:=700,op:=AOp.bin (BinOp.add) (BT.int) (Opd.t 15) (Opd.c (PV.d (D.int (IntKind.i64) 1))) },{ dst:=some 15,guard:=none,n:=701,op:=AOp.mov (Opd.t 30) }]
def zZ8:List zAi:=[{ dst:=some 31,guard:=none,n:=800,op:=AOp.mov (Opd.t 6) },{ dst:=some 32,guard:=none,n:=801,op:=AOp.un (UnOp.xor) (Opd.t 31) },{ dst:=some 4,guard:=none,n:=802,op:=AOp.mov (Opd.t 32) }]
def cK55:AC:=AC.seq (AC.reg zAdc) (AC.seq (AC.reg zAax) (AC.seq (AC.reg zZH) (AC.ret)))
def zAd2:AC:=(AC.seq (AC.block 1 (AC.seq (AC.reg zZT) (AC.reg zVT))) (AC.reg zVD))
def zZm:AC:=(AC.seq (AC.cond (Opd.t 16) (AC.skip) (AC.exit 0)) zAd2)
def bK29:AC:=(AC.seq (AC.reg zAdu) zZm)
def eK29:AC:=AC.seq (AC.reg zZ8) AC.ret
def cK29:AC:=AC.seq (AC.reg zAdl) (AC.seq (AC.reg zAag) (AC.seq (AC.reg zAaq) (AC.seq (AC.seq (AC.reg zWM) (AC.block 0 (AC.loop bK29))) (AC.seq (AC.reg zZ8) (AC.ret)))))
theorem zAdO:fnA Tryz.prog 195=some (11,[.t 2],cK55):=by kernel_rfl
theorem zAdY:fnA Tryz.prog 166=some (33,[.t 4],cK29):=by kernel_rfl
theorem zAcr:EvG Tryz.prog 195 [.ptr (.up (.s 0)) 0] [(.up (.s 0),zPR)] (.ptr (.up (.s 0)) 3) [(.up (.s 0),zHt)]:=by
 refine zRZ zAdO (Nat.le_of_ble_eq_true rfl) ?_
 suffices h:Ok (some ()>>=fun _=>some ()) fun _=>go Tryz.prog 11 (Fnl [.t 2] (.ptr (.up (.s 0)) 3) [(.up (.s 0),zHt)]) [.c cK55] .norm (zDP [.ptr (.up (.s 0)) 0] [(.up (.s 0),zPR)]) from h () rfl
 refine Av 11 [.o false (zAax.drop 4), .c (.seq (.reg zZH) .ret)] ⟨[(6, .clo (.func 209) [] [.ptr (.s 15) 0]),(5, .ptr (.up (.s 0)) 0),(1, .ptr (.s 15) 0)],[(.up (.s 0),zPR),(.s 15,[.ptr (.up (.s 0)) 0])]⟩ ?_
 refine zS4 (enR:=fun _=> .tup []) (bx':=fun _=>[(.up (.s 0),zHt),(.up (.s 1),[.ptr (.up (.s 0)) 0])]) (ps:=[.ptr (.up (.s 0)) 0, .clo (.func 209) [] [.ptr (.up (.s 1)) 0]]) (bx:=[(.up (.s 0),zPR),(.up (.s 1),[.ptr (.up (.s 0)) 0])]) [(.up (.s 0), .up (.s 0)),(.up (.s 1), .s 15)] [] (fun _ _=>do66) trivial rfl rfl (fun _=>rfl) (fun _=>rfl) (fun _=>by kernel_rfl) (fun _=>by kernel_rfl) (fun _=> ?_)
 refine Avk 9 [] .ret ⟨[(2, .ptr (.up (.s 0)) 3)],[(.up (.s 0),zHt)]⟩ ?_
 exact zZg (enR:=fun _=> .ptr (.up (.s 0)) 3) (bx':=fun _=>[(.up (.s 0),zHt)])
def zH4 (c x:Int):Int:=bXor .u8 (IntKind.u8.wrap c) x
def zI8 (c x:Int):Int:=bXor .u32 (at' tabL (zH4 c x)) (sShr .u32 c 8)
def zIj (c:Int):Int:=bXor .u32 (IntKind.u32.max) c
def zVi (s:Int) (b:List Int):Int:=zIj (b.foldl zI8 (zIj s))
def zGT (s:Int) (b:List Int):Option Int:=if b.length<4611686018427387904 then some (zVi s b) else none
def zGj (v:Int):PV:=nW v
theorem zAbs (c x:Int):0≤zH4 c x∧zH4 c x<((256:Nat):Int):=by
 unfold zH4 bXor
 have:=zVf (BitVec.ofInt IntKind.u8.bits (IntKind.u8.wrap c) ^^^ BitVec.ofInt IntKind.u8.bits x).toNat
 omega
def stM (b:List Int) (i:Nat) (c:Int):St:=⟨[(15,nI i),(14,nI (b.length:Int)),(13,lY b),(6,nW c),(5, .ptr (.s 1615) 3)],[(.s 1615,zHt)]⟩
theorem zZz (b:List Int) (hb:b.length<4611686018427387904):∀(k i:Nat) (c:Int),i+k=b.length→Ok (some (zIj ((b.drop i).foldl zI8 c))) fun v=>go Tryz.prog 33 (Fnl [.t 4] (zGj v) []) [.l bK29, .b 0, .c eK29] .norm (stM b i c)
 | 0,i,c,h=>by
  refine Av 5 [.c zZm, .l bK29, .b 0, .c eK29] ⟨[(16,bB (decide ((i:Int)<(b.length:Int)))),(15,nI i),(14,nI (b.length:Int)),(13,lY b),(6,nW c),(5, .ptr (.s 1615) 3)],[(.s 1615,zHt)]⟩ ?_
  rw [show decide ((i:Int)<(b.length:Int))=false by simp;omega,List.drop_eq_nil_of_le (by omega),List.foldl_nil]
  refine Avk 13 [] .ret ⟨[(4,nW (zIj c))],[]⟩ ?_
  exact zZg (enR:=zGj) (bx':=fun _=>[])
 | k+1,i,c,h=>by
  refine Av 5 [.c zZm, .l bK29, .b 0, .c eK29] ⟨[(16,bB (decide ((i:Int)<(b.length:Int)))),(15,nI i),(14,nI (b.length:Int)),(13,lY b),(6,nW c),(5, .ptr (.s 1615) 3)],[(.s 1615,zHt)]⟩ ?_
  have hi:i<b.length:=by omega
  have hd:b.drop i=at' b (i:Int)::b.drop (i+1):=by rw [List.drop_eq_getElem_cons hi];simp [at',hi]
  rw [show decide ((i:Int)<(b.length:Int))=true by simp;omega,hd,List.foldl_cons]
  refine Av 7 [.o false zZT, .c (.reg zVT), .b 1, .c (.reg zVD), .l bK29, .b 0, .c eK29] (stM b i c) ?_
  refine zAb3 (p:=0≤(i:Int)∧(i:Int)<(b.length:Int)) (by omega) ?_
  refine L_idxD (enc:=D.int .u8) (l:=b) (iv:=(i:Int)) trivial rfl rfl (fun _=>rfl) (fun _=> ?_)
  generalize at' b (i:Int)=x
  refine Av 10 [.o false (zVT.drop 6), .b 1, .c (.reg zVD), .l bK29, .b 0, .c eK29] ⟨[(24, .ptr (.s 1615) 3),(23,nY (zH4 c x)),(15,nI i),(14,nI (b.length:Int)),(13,lY b),(6,nW c),(5, .ptr (.s 1615) 3)],[(.s 1615,zHt)]⟩ ?_
  have hx:=zAbs c x
  refine zAb3 hx ?_
  refine L_rd (c:=0≤zH4 c x∧zH4 c x<((256:Nat):Int)) (v:= .ptr (.s 1615) (3+(zH4 c x).toNat*1)) trivial rfl (fun _=> ?_)
  refine zAdR (l:=tabL) (k:= .s 1615) (a:=1) (b:=0) (iv:=zH4 c x) trivial rfl rfl hx.1 hx.2 ?_
  refine Av 10 [.l bK29, .b 0, .c eK29] ⟨[(15,nI (IntKind.i64.wrap ((i:Int)+1))),(14,nI (b.length:Int)),(13,lY b),(6,nW (zI8 c x)),(5, .ptr (.s 1615) 3)],[(.s 1615,zHt)]⟩ ?_
  rw [zA6 (by omega)]
  exact zZz b hb k (i+1) (zI8 c x) (by omega)
theorem zXq (a0:Int) (a1:List Int):∀v,zGT a0 a1=some v→EvF Tryz.prog 166 [.int .u32 a0, .lst (List.map (D.int .u8) a1)] (zGj v):=by
 intro v hv
 unfold zGT at hv
 split at hv
 case isFalse=>cases hv
 rename_i hb
 refine zAdB zAdY (Nat.le_of_ble_eq_true rfl) ?_
 suffices h:Ok (some ()>>=fun _=>some (zVi a0 a1)) fun v=>go Tryz.prog 33 (Fnl [.t 4] (zGj v) []) [.c cK29] .norm (zDP (List.map PV.d [.int .u32 a0, .lst (List.map (D.int .u8) a1)]) []) from h v hv
 refine Av 7 [.o false (zAag.drop 1), .c (.seq (.reg zAaq) (.seq (.seq (.reg zWM) (.block 0 (.loop bK29))) eK29))] ⟨[(9, .ptr (.s 1615) 0),(1,lY a1),(0,nW a0)],[(.s 1615,zPR)]⟩ ?_
 refine zS4 (enR:=fun _=> .ptr (.up (.s 0)) 3) (bx':=fun _=>[(.up (.s 0),zHt)]) (ps:=[.ptr (.up (.s 0)) 0]) (bx:=[(.up (.s 0),zPR)]) [(.up (.s 0), .s 1615)] [] (fun _ _=>zAcr) trivial rfl rfl (fun _=>rfl) (fun _=>rfl) (fun _=>by kernel_rfl) (fun _=>by kernel_rfl) (fun _=> ?_)
 refine Av 12 [.o false (zWM.drop 1), .c (.block 0 (.loop bK29)), .c eK29] ⟨[(13,lY a1),(6,nW (zIj a0)),(5, .ptr (.s 1615) 3)],[(.s 1615,zHt)]⟩ ?_
 refine L_len (enc:=D.int .u8) (l:=a1) trivial rfl ?_
 refine Av 4 [.l bK29, .b 0, .c eK29] (stM a1 0 (zIj a0)) ?_
 exact zZz a1 hb a1.length 0 (zIj a0) (by omega)
end Go.Proofs.YtdgdgfckcnjpfaaGreat.Abs
