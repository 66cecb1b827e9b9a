/- Walks of functions, printed by a program. Conditions: none. -/
import Derived.Test.YtdgdgfckcnjpfaaGreatProg
import Derived.Test.YtdgdgfckcnjpfaaGreatZW
namespace Go.Proofs.YtdgdgfckcnjpfaaGreat.Abs
open Go Go.RowKit
set_option linter.unusedVariables false
set_option maxRecDepth 100000
open Z
noncomputable abbrev zEU:Fe:= .of Tryz.prog 41 zAd
def zLn (a0:List Bool) (a1:List Bool) (x0:Int):St:=⟨[(13,nI x0),(12,nI (a0.length:Int)),(0,lB a0),(1,lB a1)],[]⟩
def zKZ (a0:List Bool) (a1:List Bool) (x:Unit):St:=⟨[],[]⟩
theorem zKm (a0:List Bool) (a1:List Bool):∀(x0:Int),Ok (zB2 a0 a1 x0) (LR zEU (.exit 0) (zKZ a0 a1) 41 0 (zLn a0 a1 x0)):=by
 refine zB2.partial_correctness a0 a1 _ ?_
 intro f IH x0
 exact Tr.lpR (F:=zEU) (X:=Int)
  (.ite 6 14 (x0<(a0.length:Int))
   (.idx 13 eB a0 x0<| .idx 3 eB a1 x0<| .iteN 3 24 ((at' a0 x0)=(at' a1 x0))
   (.ret 9 (.inl false))
   (.again 7 (IntKind.i64.wrap (x0+1))))
   (.ret 4 (.inr ()))) _ fun x r=>IH x r
theorem zMa (a0:List Bool) (a1:List Bool):HS 41 (zDt a0 a1) [.lst (List.map D.bool a0), .lst (List.map D.bool a1)] zAd:=Tr.fn (F:=zEU)
 (.len 8 eB a0<| .len 1 eB a1<| .iteN 2 10 ((a0.length:Int)=(a1.length:Int))
  (.ret 7 false)
  (.len 6 eB a0<| .loopR 4 id ⟨_,_,_,_,_,zKm a0 a1 0⟩ fun j1=> .ret 6 true))
noncomputable abbrev zNq:Fe:= .of Tryz.prog 15 zAd
theorem zNb (a0:zAc) (a1:zAc):HS 15 (zDB a0 a1) [.agg [.int .i64 a0.F_Scheme, .int .i64 a0.F_Dim, .lst (List.map (D.int .i64) a0.F_L), .lst (List.map (D.int .i64) a0.F_V), .int .i64 a0.F_Scale, .int .i64 a0.F_Wide, .lst (List.map (D.int .u64) a0.F_Lev), .lst (List.map D.bool a0.F_Neg)], .agg [.int .i64 a1.F_Scheme, .int .i64 a1.F_Dim, .lst (List.map (D.int .i64) a1.F_L), .lst (List.map (D.int .i64) a1.F_V), .int .i64 a1.F_Scale, .int .i64 a1.F_Wide, .lst (List.map (D.int .u64) a1.F_Lev), .lst (List.map D.bool a1.F_Neg)]] zAd:=Tr.fn (F:=zNq)
 (.join 14 6 (γ:=Bool) ⟨fun x=>[(16,bB x)],[3,2],fun _=>[],[.s 31, .s 15]⟩
  (.ite 0 10 (a0.F_Scheme=a1.F_Scheme)
  (.ret 7 (a0.F_Dim==a1.F_Dim))
  (.ret 7 false))
  fun j1=> .join 1 6 (γ:=Bool) ⟨fun x=>[(23,bB x)],[3,2],fun _=>[],[.s 31, .s 15]⟩
  (.iteB 0 17 (j1)
  (.call 4 (zOU a0.F_L a1.F_L) zAf fun r2=> .ret 2 r2)
  (.ret 7 false))
  fun j3=> .join 1 6 (γ:=Bool) ⟨fun x=>[(30,bB x)],[3,2],fun _=>[],[.s 31, .s 15]⟩
  (.iteB 0 24 (j3)
  (.call 4 (zGv a0.F_V a1.F_V) zAf fun r4=> .ret 2 r4)
  (.ret 7 false))
  fun j5=> .join 1 6 (γ:=Bool) ⟨fun x=>[(37,bB x)],[3,2],fun _=>[],[.s 31, .s 15]⟩
  (.iteB 0 31 (j5)
  (.ret 7 (a0.F_Scale==a1.F_Scale))
  (.ret 7 false))
  fun j6=> .join 1 6 (γ:=Bool) ⟨fun x=>[(44,bB x)],[3,2],fun _=>[],[.s 31, .s 15]⟩
  (.iteB 0 38 (j6)
  (.ret 7 (a0.F_Wide==a1.F_Wide))
  (.ret 7 false))
  fun j7=> .join 1 6 (γ:=Bool) ⟨fun x=>[(51,bB x)],[3,2],fun _=>[],[.s 31, .s 15]⟩
  (.iteB 0 45 (j7)
  (.call 4 (zK8 a0.F_Lev a1.F_Lev) zAf fun r8=> .ret 2 r8)
  (.ret 7 false))
  fun j9=> .join 1 6 (γ:=Bool) ⟨fun x=>[(58,bB x)],[],fun _=>[],[]⟩
  (.iteB 0 52 (j9)
  (.call 4 (zMa a0.F_Neg a1.F_Neg) zAf fun r10=> .ret 2 r10)
  (.ret 7 false))
  fun j11=> .ret 3 j11)
noncomputable abbrev zUK:Fe:= .of Tryz.prog 61 zAl
theorem zNy (a0:zAE):HS 61 (zDL a0) [.agg [.int .i64 a0.F_Kind, .int .i64 a0.F_From, .int .i64 a0.F_Step, .int .i64 a0.F_S.F_Scheme, .int .i64 a0.F_S.F_Dim, .lst (List.map (D.int .i64) a0.F_S.F_L), .lst (List.map (D.int .i64) a0.F_S.F_V), .int .i64 a0.F_S.F_Scale, .int .i64 a0.F_S.F_Wide, .lst (List.map (D.int .u64) a0.F_S.F_Lev), .lst (List.map D.bool a0.F_S.F_Neg)]] zAl:=Tr.fn (F:=zUK)
 (.join 11 4 (γ:=Bool) ⟨fun x=>[(11,bB x)],[1],fun _=>[],[.s 15]⟩
  (.ite 0 7 (a0.F_From≥0)
  (.ret 5 (decide (a0.F_From<64)))
  (.ret 5 false))
  fun j1=> .join 1 4 (γ:=Bool) ⟨fun x=>[(16,bB x)],[1],fun _=>[],[.s 15]⟩
  (.iteB 0 12 (j1)
  (.ret 5 (decide (a0.F_Step≥0)))
  (.ret 5 false))
  fun j2=> .join 1 4 (γ:=Bool) ⟨fun x=>[(21,bB x)],[1],fun _=>[],[.s 15]⟩
  (.iteB 0 17 (j2)
  (.ret 5 (decide (a0.F_Step≤1073741824)))
  (.ret 5 false))
  fun j3=> .iteB 7 23 (j3)
  (.ite 4 27 (a0.F_Kind=1)
  (.call 2 (zDv a0.F_S) zAf fun r4=> .iteB 2 32 (r4)
  (.ret 19 0)
  (.ite 4 36 (a0.F_Kind=2)
  (.call 3 (zKv a0.F_S (⟨0,0,[],[],0,0,[],[]⟩:zAc)) zAf fun r5=> .iteB 4 43 (r5)
  (.ret 7 0)
  (.ret 7 1))
  (.ret 15 1)))
  (.ite 9 36 (a0.F_Kind=2)
  (.call 3 (zKv a0.F_S (⟨0,0,[],[],0,0,[],[]⟩:zAc)) zAf fun r6=> .iteB 4 43 (r6)
  (.ret 7 0)
  (.ret 7 1))
  (.ret 15 1)))
  (.ret 28 1))
noncomputable def zZs (a0:Int) (a1:List Int):Sg Tryz.prog Int:=⟨166,zGT a0 a1,[.int .u32 a0, .lst (List.map (D.int .u8) a1)],zGj⟩
theorem zXa (a0:Int) (a1:List Int):(zZs a0 a1).Holds:=zXq a0 a1
theorem zXp:∀v,(zGj v).noLst:=fun _=>trivial
def zN6 (v:Int):PV:=nW v
noncomputable abbrev zZv:Fe:= .of Tryz.prog 120 zN6
theorem zYX:∀v,(zN6 v).noLst:=fun _=>trivial
theorem zZe (a0:List Int):HS 120 (zMK a0) [.lst (List.map (D.int .u8) a0)] zN6:=Tr.fn (F:=zZv)
 (.call 7 (zXa 0 a0) zXp fun r1=> .ret 3 r1)
noncomputable abbrev zOg:Fe:= .of Tryz.prog 63 zAJ
def zUW (x0:Int) (x1:Int) (x2:List Int):St:=⟨[(6,nI x0),(5,nW x1),(4,sY (.h 0) x2)],[]⟩
def zUq (x:(List Int)):St:=⟨[(4,sY (.h 1) x)],[]⟩
theorem zTt:∀(x0:Int) (x1:Int) (x2:List Int),Ok (zCh x0 x1 x2) (LN zOg (.exit 0) zUq 63 0 (zUW x0 x1 x2)):=by
 refine zCh.partial_correctness _ ?_
 intro f IH x0 x1 x2
 exact Tr.lpN (F:=zOg) (X:=Int×Int×(List Int))
  (.ite 7 15 (x0<4)
   (.app 9 eY 1 x2 [IntKind.u8.wrap x1]<| .let_ (x2++[IntKind.u8.wrap x1]:List Int) fun y3=> .again 11 (IntKind.i64.wrap (x0+1),sShr .u32 x1 8,y3))
   (.ret 4 x2)) _ fun x r=>IH x.1 x.2.1 x.2.2 r
theorem zMW (a0:List Int):HS 63 (zEB a0) [.lst (List.map (D.int .u8) a0)] zAJ:=Tr.fn (F:=zOg)
 (.len 9 eY a0<| .ite 2 9 ((a0.length:Int)>65532)
  (.ret 8 ([],3))
  (.call 5 (zCR a0) zAw fun r1=> .call 6 (zZe a0) zYX fun r2=> .loop 5 ⟨_,_,_,_,_,zTt 0 r2 r1⟩ fun j5=> .ret 8 (j5,0)))
noncomputable abbrev zUX:Fe:= .of Tryz.prog 31 zAJ
theorem zTl (a0:zAE):HS 31 (zHg a0) [.agg [.int .i64 a0.F_Kind, .int .i64 a0.F_From, .int .i64 a0.F_Step, .int .i64 a0.F_S.F_Scheme, .int .i64 a0.F_S.F_Dim, .lst (List.map (D.int .i64) a0.F_S.F_L), .lst (List.map (D.int .i64) a0.F_S.F_V), .int .i64 a0.F_S.F_Scale, .int .i64 a0.F_S.F_Wide, .lst (List.map (D.int .u64) a0.F_S.F_Lev), .lst (List.map D.bool a0.F_S.F_Neg)]] zAJ:=Tr.fn (F:=zUX)
 (.call 10 (zNy a0) zAo fun r1=> .iteN 7 11 (r1=0)
  (.ret 9 ([],r1))
  (.call 15 (zFJ [1,IntKind.u8.wrap a0.F_Kind] [IntKind.u64.wrap a0.F_From,IntKind.u64.wrap a0.F_Step]) zAw fun r2=> .ite 9 27 (a0.F_Kind=1)
  (.call 5 (zUZ a0.F_S) zBL fun r3=> .iteN 12 35 (r3.2=0)
  (.ret 10 ([],r3.2))
  (.app 5 eY 1 r2 r3.1<| .call 5 (zMW (r2++r3.1)) zBL fun r4=> .ret 6 (r4.1,r4.2)))
  (.call 5 (zMW r2) zBL fun r5=> .ret 6 (r5.1,r5.2))))
noncomputable abbrev zEb:Fe:= .of Tryz.prog 121 zAd
def zJW (a0:List Int) (a1:List Int) (x0:Int):St:=⟨[(13,nI x0),(12,nI (a0.length:Int)),(0,lY a0),(1,lY a1)],[]⟩
def zJQ (a0:List Int) (a1:List Int) (x:Unit):St:=⟨[],[]⟩
theorem zIX (a0:List Int) (a1:List Int):∀(x0:Int),Ok (zBn a0 a1 x0) (LR zEb (.exit 0) (zJQ a0 a1) 121 0 (zJW a0 a1 x0)):=by
 refine zBn.partial_correctness a0 a1 _ ?_
 intro f IH x0
 exact Tr.lpR (F:=zEb) (X:=Int)
  (.ite 6 14 (x0<(a0.length:Int))
   (.idx 13 eY a0 x0<| .idx 3 eY a1 x0<| .iteN 3 24 ((at' a0 x0)=(at' a1 x0))
   (.ret 9 (.inl false))
   (.again 7 (IntKind.i64.wrap (x0+1))))
   (.ret 4 (.inr ()))) _ fun x r=>IH x r
theorem zKS (a0:List Int) (a1:List Int):HS 121 (zC1 a0 a1) [.lst (List.map (D.int .u8) a0), .lst (List.map (D.int .u8) a1)] zAd:=Tr.fn (F:=zEb)
 (.len 8 eY a0<| .len 1 eY a1<| .iteN 2 10 ((a0.length:Int)=(a1.length:Int))
  (.ret 7 false)
  (.len 6 eY a0<| .loopR 4 id ⟨_,_,_,_,_,zIX a0 a1 0⟩ fun j1=> .ret 6 true))
noncomputable abbrev zZb:Fe:= .of Tryz.prog 64 zAJ
theorem zXy (a0:List Int):HS 64 (zIi a0) [.lst (List.map (D.int .u8) a0)] zAJ:=Tr.fn (F:=zZb)
 (.len 8 eY a0<| .len 8 eY a0<| .ite 3 10 ((a0.length:Int)>65536)
  (.ret 9 ([],3))
  (.ite 7 14 ((IntKind.i64.wrap ((a0.length:Int)-4))<0)
  (.ret 9 ([],5))
  (.cut 8 eY a0 none (some (IntKind.i64.wrap ((a0.length:Int)-4)))<| .let_ (cut' a0 none (some (IntKind.i64.wrap ((a0.length:Int)-4))):List Int) fun y1=> .call 0 (zMW y1) zBL fun r3=> .join 11 5 (γ:=Bool) ⟨fun x=>[(31,bB x)],[4,0],fun _=>[],[]⟩
  (.iteN 0 26 (r3.2=0)
  (.ret 6 true)
  (.call 2 (zKS r3.1 a0) zAf fun r4=> .ret 3 (!r4)))
  fun j5=> .iteB 1 31 (j5)
  (.ret 8 ([],7))
  (.cut 6 eY a0 none (some (IntKind.i64.wrap ((a0.length:Int)-4)))<| .let_ (cut' a0 none (some (IntKind.i64.wrap ((a0.length:Int)-4))):List Int) fun y6=> .call 0 (zCR y6) zAw fun r8=> .ret 4 (r8,0)))))
def zF6 (v:(List Int)×(List Int)×Int×Bool):PV:=lY v.1
def zF1 (v:(List Int)×(List Int)×Int×Bool):List (Tg×List PV):=[(.up (.s 0),[lY v.2.1,nI v.2.2.1,bB v.2.2.2])]
noncomputable abbrev zKY:Fe:= .of Tryz.prog 122 zF6 zF1
theorem zDJ (a0:zAe) (a1:Int):HG 122 (zA9 a0 a1) [.ptr (.up (.s 0)) 0,nI a1] [(.up (.s 0),[lY a0.F_text.F_b,nI a0.F_text.F_at,bB a0.F_bad])] zF6 zF1:=Tr.fnG (F:=zKY)
 (.iteB 12 9 (a0.F_bad)
  (.mk 27 eY 1 0 a1 a1<| .ret 4 (List.replicate (Int.toNat a1) 0,a0.F_text.F_b,a0.F_text.F_at,true))
  (.len 6 eY a0.F_text.F_b<| .ite 9 24 (a1>(IntKind.i64.wrap ((a0.F_text.F_b.length:Int)-a0.F_text.F_at)))
  (.mk 11 eY 1 0 a1 a1<| .ret 4 (List.replicate (Int.toNat a1) 0,a0.F_text.F_b,a0.F_text.F_at,true))
  (.cut 35 eY a0.F_text.F_b (some (IntKind.i64.wrap ((IntKind.i64.wrap (a0.F_text.F_at+a1))-a1))) (some (IntKind.i64.wrap (a0.F_text.F_at+a1)))<| .ret 3 (cut' a0.F_text.F_b (some (IntKind.i64.wrap ((IntKind.i64.wrap (a0.F_text.F_at+a1))-a1))) (some (IntKind.i64.wrap (a0.F_text.F_at+a1))),a0.F_text.F_b,IntKind.i64.wrap (a0.F_text.F_at+a1),a0.F_bad))))
def zFA (v:Int×(List Int)×Int×Bool):PV:=nI v.1
def zFF (v:Int×(List Int)×Int×Bool):List (Tg×List PV):=[(.up (.s 0),[lY v.2.1,nI v.2.2.1,bB v.2.2.2])]
noncomputable abbrev zKl:Fe:= .of Tryz.prog 66 zFA zFF
theorem zCr (a0:zAe):HG 66 (zAB a0) [.ptr (.up (.s 0)) 0] [(.up (.s 0),[lY a0.F_text.F_b,nI a0.F_text.F_at,bB a0.F_bad])] zFA zFF:=Tr.fnG (F:=zKl)
 (.callG 7 [(.up (.s 0), .up (.s 0))] [] (zDJ a0 1) fun r1=> .idx 0 eY r1.1 0<| .ret 5 (IntKind.i64.wrap (at' r1.1 0),r1.2.1,r1.2.2.1,r1.2.2.2))
def zGb (v:(List Int)×Int×Bool):PV:= .tup []
def zF7 (v:(List Int)×Int×Bool):List (Tg×List PV):=[(.up (.s 0),[lY v.1,nI v.2.1,bB v.2.2])]
noncomputable abbrev zLc:Fe:= .of Tryz.prog 65 zGb zF7
theorem zBD (a0:zAe) (a1:Bool):HG 65 (zAT a0 a1) [.ptr (.up (.s 0)) 0,bB a1] [(.up (.s 0),[lY a0.F_text.F_b,nI a0.F_text.F_at,bB a0.F_bad])] zGb zF7:=Tr.fnG (F:=zLc)
 (.join 7 3 (γ:=Bool) ⟨fun x=>[(12,bB x)],[4],fun _=>[],[.up (.s 0)]⟩
  (.iteB 0 9 (a0.F_bad)
  (.ret 4 true)
  (.ret 4 (!a1)))
  fun j1=> .ret 4 (a0.F_text.F_b,a0.F_text.F_at,j1))
def zOi (v:Int×Int×Int):PV:= .tup [nU v.1,nI v.2.1,nI v.2.2]
noncomputable abbrev zPf:Fe:= .of Tryz.prog 123 zOi
def zVL (a1:Int) (y1:List Int) (x0:Int) (x1:Int):St:=⟨[(19,nI x0),(18,nI (y1.length:Int)),(17,lY y1),(4,nU x1),(1,nI a1)],[]⟩
def zWg (a1:Int) (y1:List Int) (x:Unit):St:=⟨[],[]⟩
theorem zUU (a1:Int) (y1:List Int):∀(x0:Int) (x1:Int),Ok (zEh a1 y1 x0 x1) (LR zPf (.exit 0) (zWg a1 y1) 123 0 (zVL a1 y1 x0 x1)):=by
 refine zEh.partial_correctness a1 y1 _ ?_
 intro f IH x0 x1
 exact Tr.lpR (F:=zPf) (X:=Int×Int)
  (.ite 6 20 (x0<(y1.length:Int))
   (.idx 7 eY y1 x0<| .join 18 3 (γ:=Bool) ⟨fun x=>[(32,bB x)],[9,8,7,19,18,17,4,1],fun _=>[],[]⟩
   (.ite 0 29 (x0=9)
   (.ret 4 (decide ((at' y1 x0)>1)))
   (.ret 4 false))
   fun j3=> .join 2 0 (γ:=Bool) ⟨fun x=>[(26,bB x)],[9,8,7,19,18,17,4,1],fun _=>[],[]⟩
   (.iteB 0 26 (j3)
   (.ret 2 true)
   (.join 4 3 (γ:=Bool) ⟨fun x=>[(37,bB x)],[9,8,7,19,18,17,4,1],fun _=>[],[]⟩
   (.ite 0 34 ((at' y1 x0)<128)
   (.ret 4 ((at' y1 x0)==0))
   (.ret 4 false))
   fun j4=> .join 1 3 (γ:=Bool) ⟨fun x=>[(41,bB x)],[9,8,7,19,18,17,4,1],fun _=>[],[]⟩
   (.iteB 0 38 (j4)
   (.ret 4 (decide (x0>0)))
   (.ret 4 false))
   fun j5=> .ret 2 j5))
   fun j6=> .iteB 0 26 (j6)
   (.ret 13 (.inl (0,0,6)))
   (.rd 11 (0≤IntKind.i64.wrap (7*x0)) (nU (sShl .u64 (IntKind.u64.wrap (bAnd .u8 (at' y1 x0) 127)) (IntKind.i64.wrap (7*x0))))<| .let_ (bOr .u64 x1 (sShl .u64 (IntKind.u64.wrap (bAnd .u8 (at' y1 x0) 127)) (IntKind.i64.wrap (7*x0))):Int) fun y7=> .ite 7 50 ((at' y1 x0)<128)
   (.ret 16 (.inl (y7,IntKind.i64.wrap ((IntKind.i64.wrap (a1+x0))+1),0)))
   (.again 7 (IntKind.i64.wrap (x0+1),y7))))
   (.ret 4 (.inr ()))) _ fun x r=>IH x.1 x.2 r
theorem zOe:∀v,(zOi v).noLst:=fun _=>⟨trivial,trivial,trivial,trivial⟩
theorem zOf (a0:List Int) (a1:Int):HS 123 (zHz a0 a1) [.lst (List.map (D.int .u8) a0), .int .i64 a1] zOi:=Tr.fn (F:=zPf)
 (.ite 12 11 (a1<0)
  (.ret 9 (0,0,1))
  (.len 8 eY a0<| .cut 1 eY a0 (some (if (a0.length:Int)<a1 then (a0.length:Int) else a1)) none<| .let_ (cut' a0 (some (if (a0.length:Int)<a1 then (a0.length:Int) else a1)) none:List Int) fun y1=> .len 0 eY y1<| .loopR 4 id ⟨_,_,_,_,_,zUU a1 y1 0 0⟩ fun j9=> .ret 8 (0,0,5)))
def zFo (v:Int×(List Int)×Int×Bool):PV:=nU v.1
def zFg (v:Int×(List Int)×Int×Bool):List (Tg×List PV):=[(.up (.s 0),[lY v.2.1,nI v.2.2.1,bB v.2.2.2])]
noncomputable abbrev zJR:Fe:= .of Tryz.prog 67 zFo zFg
theorem zBw (a0:zAe) (a1:Int):HG 67 (zAx a0 a1) [.ptr (.up (.s 0)) 0,nU a1] [(.up (.s 0),[lY a0.F_text.F_b,nI a0.F_text.F_at,bB a0.F_bad])] zFo zFg:=Tr.fnG (F:=zJR)
 (.call 16 (zOf a0.F_text.F_b a0.F_text.F_at) zOe fun r1=> .join 16 3 (γ:=Bool) ⟨fun x=>[(30,bB x)],[6,5,0,1],fun _=>[],[.up (.s 0)]⟩
  (.iteB 0 27 (a0.F_bad)
  (.ret 4 true)
  (.ret 4 (r1.2.2 !=0)))
  fun j2=> .join 1 4 (γ:=Bool) ⟨fun x=>[(35,bB x)],[6,5,0],fun _=>[],[.up (.s 0)]⟩
  (.iteB 0 31 (j2)
  (.ret 5 true)
  (.ret 5 (decide (r1.1>a1))))
  fun j3=> .iteB 1 35 (j3)
  (.ret 14 (0,a0.F_text.F_b,a0.F_text.F_at,true))
  (.ret 17 (r1.1,a0.F_text.F_b,r1.2.1,a0.F_bad)))
noncomputable abbrev zAaV:Fe:= .of Tryz.prog 167 zAl
theorem zZj (a0:Int):HS 167 (zMl a0) [.int .u64 a0] zAl:=Tr.fn (F:=zAaV)
 (.ret 17 (bXor .i64 (IntKind.i64.wrap (sShr .u64 a0 1)) (IntKind.i64.wrap (0-(IntKind.i64.wrap (bAnd .u64 a0 1))))))
def zFn (v:(List Int)×(List Int)×Int×Bool):PV:=sI (.s 0) v.1
def zFr (v:(List Int)×(List Int)×Int×Bool):List (Tg×List PV):=[(.up (.s 0),[lY v.2.1,nI v.2.2.1,bB v.2.2.2])]
noncomputable abbrev zDz:Fe:= .of Tryz.prog 124 zFn zFr
def zIa (a1:Int) (x0:List Int) (x1:List Int) (x2:Int) (x3:Bool):St:=⟨[(5,sI (.h 0) x0),(0, .ptr (.up (.s 0)) 0),(1,nI a1)],[(.up (.s 0),[lY x1,nI x2,bB x3])]⟩
def zH9 (a1:Int) (x:(List Int)×(List Int)×Int×Bool):St:=⟨[(5,sI (.h 1) x.1)],[(.up (.s 0),[lY x.2.1,nI x.2.2.1,bB x.2.2.2])]⟩
theorem zHI (a1:Int):∀(x0:List Int) (x1:List Int) (x2:Int) (x3:Bool),Ok (zAW a1 x0 x1 x2 x3) (LN zDz (.exit 0) (zH9 a1) 124 0 (zIa a1 x0 x1 x2 x3)):=by
 refine zAW.partial_correctness a1 _ ?_
 intro f IH x0 x1 x2 x3
 exact Tr.lpN (F:=zDz) (X:=(List Int)×(List Int)×Int×Bool)
  (.join 10 5 (γ:=Bool) ⟨fun x=>[(18,bB x)],[5,0,1],fun _=>[],[.up (.s 0)]⟩
   (.iteX 0 13 (x3)
   (.len 1 eI x0<| .ret 4 (decide ((x0.length:Int)<a1)))
   (.ret 6 false))
   fun j3=> .iteB 1 18 (j3)
   (.callG 6 [(.up (.s 0), .up (.s 0))] [] (zBw (⟨(⟨x1,x2⟩:zAh),x3⟩:zAe) 18446744073709551615) fun r4=> .call 0 (zZj r4.1) zAo fun r5=> .app 1 eI 8 x0 [r5]<| .again 3 (x0++[r5],r4.2.1,r4.2.2.1,r4.2.2.2))
   (.ret 4 (x0,x1,x2,x3))) _ fun x r=>IH x.1 x.2.1 x.2.2.1 x.2.2.2 r
theorem zFq (a0:zAe) (a1:Int):HG 124 (zBR a0 a1) [.ptr (.up (.s 0)) 0,nI a1] [(.up (.s 0),[lY a0.F_text.F_b,nI a0.F_text.F_at,bB a0.F_bad])] zFn zFr:=Tr.fnG (F:=zDz)
 (.mk 7 eI 8 0 0 a1<| .let_ (List.replicate (Int.toNat 0) 0:List Int) fun y1=> .loop 5 ⟨_,_,_,_,_,zHI a1 y1 a0.F_text.F_b a0.F_text.F_at a0.F_bad⟩ fun j6=> .ret 7 (j6.1,j6.2.1,j6.2.2.1,j6.2.2.2))
def zLP (v:(List Int)×Int×Int):PV:= .tup [sI (.s 0) v.1,nI v.2.1,nI v.2.2]
noncomputable abbrev zMV:Fe:= .of Tryz.prog 168 zLP
def zTv (a0:Int) (a1:List Int) (r2:Int×Int×Int) (x0:Int) (x1:Int) (x2:List Int) (x3:Int) (x4:Int):St:=⟨[(13,nU x0),(12,nI x1),(11,sI (.h 0) x2),(10,nI x3),(2,nI x4),(9,nU r2.1),(0,nI a0),(1,lY a1)],[]⟩
def zTe (a0:Int) (a1:List Int) (r2:Int×Int×Int) (x:Int×Int×(List Int)):St:=⟨[(10,nI x.1),(2,nI x.2.1),(11,sI (.h 1) x.2.2)],[]⟩
theorem zRS (a0:Int) (a1:List Int) (r2:Int×Int×Int):∀(x0:Int) (x1:Int) (x2:List Int) (x3:Int) (x4:Int),Ok (zCj a0 a1 r2 x0 x1 x2 x3 x4) (LN zMV (.exit 0) (zTe a0 a1 r2) 168 0 (zTv a0 a1 r2 x0 x1 x2 x3 x4)):=by
 refine zCj.partial_correctness a0 a1 r2 _ ?_
 intro f IH x0 x1 x2 x3 x4
 exact Tr.lpN (F:=zMV) (X:=Int×Int×(List Int)×Int×Int)
  (.join 7 4 (γ:=Bool) ⟨fun x=>[(39,bB x)],[13,12,11,10,2,9,0,1],fun _=>[],[]⟩
   (.ite 0 35 (x3=0)
   (.ret 5 (decide (x0<r2.1)))
   (.ret 5 false))
   fun j5=> .iteB 1 39 (j5)
   (.call 13 (zOf a1 x4) zOe fun r6=> .iteN 13 50 (r6.2.2=0)
   (.ret 6 (r6.2.2,r6.2.1,x2))
   (.ite 13 57 (r6.1≥(IntKind.u64.wrap (IntKind.i64.wrap ((IntKind.i64.wrap (a0-1))-x1))))
   (.ret 10 (6,r6.2.1,x2))
   (.let_ (IntKind.i64.wrap (x1+(IntKind.i64.wrap (1+(IntKind.i64.wrap r6.1)))):Int) fun y7=> .app 15 eI 8 x2 [IntKind.i64.wrap (x1+(IntKind.i64.wrap (1+(IntKind.i64.wrap r6.1))))]<| .let_ (x2++[IntKind.i64.wrap (x1+(IntKind.i64.wrap (1+(IntKind.i64.wrap r6.1))))]:List Int) fun y9=> .again 8 (IntKind.u64.wrap (x0+1),y7,y9,r6.2.2,r6.2.1))))
   (.ret 4 (x3,x4,x2))) _ fun x r=>IH x.1 x.2.1 x.2.2.1 x.2.2.2.1 x.2.2.2.2 r
theorem zWu:∀v,(zLP v).noLst:=fun _=>⟨(zAv fun _=>trivial),trivial,trivial,trivial⟩
theorem zVt (a0:Int) (a1:List Int) (a2:Int):HS 168 (zJF a0 a1 a2) [.int .i64 a0, .lst (List.map (D.int .u8) a1), .int .i64 a2] zLP:=Tr.fn (F:=zMV)
 (.call 10 (zLt a0) zAf fun r1=> .iteX 2 17 (r1)
  (.ret 9 ([],0,1))
  (.call 6 (zOf a1 a2) zOe fun r2=> .join 14 5 (γ:=Bool) ⟨fun x=>[(32,bB x)],[10,2,9,0,1],fun _=>[],[]⟩
  (.ite 0 27 (r2.2.2=0)
  (.ret 6 (decide (r2.1>(IntKind.u64.wrap a0))))
  (.ret 6 false))
  fun j3=> .join 1 0 (γ:=Int) ⟨fun x=>[(10,nI x)],[2,9,0,1],fun _=>[],[]⟩
  (.iteB 0 32 (j3)
  (.ret 4 6)
  (.ret 2 r2.2.2))
  fun j4=> .loop 15 ⟨_,_,_,_,_,zRS a0 a1 r2 0 (-1) [] j4 r2.2.1⟩ fun j11=> .iteN 7 68 (j11.1=0)
  (.ret 10 ([],0,j11.1))
  (.ret 11 (j11.2.2,j11.2.1,0))))
def zFm (v:(List Int)×(List Int)×Int×Bool):PV:=sI (.s 0) v.1
def zFd (v:(List Int)×(List Int)×Int×Bool):List (Tg×List PV):=[(.up (.s 0),[lY v.2.1,nI v.2.2.1,bB v.2.2.2])]
noncomputable abbrev zKe:Fe:= .of Tryz.prog 125 zFm zFd
theorem zJa (a0:zAe) (a1:Int):HG 125 (zCt a0 a1) [.ptr (.up (.s 0)) 0,nI a1] [(.up (.s 0),[lY a0.F_text.F_b,nI a0.F_text.F_at,bB a0.F_bad])] zFm zFd:=Tr.fnG (F:=zKe)
 (.iteB 12 11 (a0.F_bad)
  (.ret 7 ([],a0.F_text.F_b,a0.F_text.F_at,a0.F_bad))
  (.call 15 (zVt a1 a0.F_text.F_b a0.F_text.F_at) zWu fun r1=> .iteN 14 29 (r1.2.2=0)
  (.ret 14 ([],a0.F_text.F_b,a0.F_text.F_at,true))
  (.ret 17 (r1.1,a0.F_text.F_b,r1.2.1,a0.F_bad))))
def zAH (v:(List Int)×Int):PV:= .tup [sU (.s 0) v.1,nI v.2]
noncomputable abbrev zAP:Fe:= .of Tryz.prog 169 zAH
def zIC (a0:Int) (a2:List Int) (a3:Int) (y4:List Int) (x0:Int) (x0_:Int) (x1_:List Int):St:=⟨[(60,nI x0_),(59,nI a0),(14,nI x0),(56,nI x0),(55,nI (y4.length:Int)),(13,sU (.h 1) x1_),(0,nI a0),(2,lY a2),(3, .d (.clo (.func 196) [] [.cp [.int .i64 a3] 0]))],[]⟩
def zIr (a0:Int) (a2:List Int) (a3:Int) (y4:List Int) (x0:Int) (x:(List Int)):St:=⟨[(56,nI x0),(55,nI (y4.length:Int)),(13,sU (.h 2) x),(0,nI a0),(2,lY a2),(3, .d (.clo (.func 196) [] [.cp [.int .i64 a3] 0]))],[]⟩
theorem zH6 (a0:Int) (a2:List Int) (a3:Int) (y4:List Int) (x0:Int):∀(x0_:Int) (x1_:List Int),Ok (zA1 a0 a2 a3 y4 x0 x0_ x1_) (LN zAP (.exit 3) (zIr a0 a2 a3 y4 x0) 169 1 (zIC a0 a2 a3 y4 x0 x0_ x1_)):=by
 refine zA1.partial_correctness a0 a2 a3 y4 x0 _ ?_
 intro f IH x0_ x1_
 exact Tr.lpN (F:=zAP) (X:=Int×(List Int))
  (.ite 6 61 (x0_<a0)
   (.call 14 (zGP x0 x0_ a3) zAo fun r6=> .idx 7 eU x1_ x0<| .idx 5 eY a2 (sShr .i64 r6 3)<| .rd 4 (0≤IntKind.i64.wrap (7-(bAnd .i64 r6 7))) (nY (sShr .u8 (at' a2 (sShr .i64 r6 3)) (IntKind.i64.wrap (7-(bAnd .i64 r6 7)))))<| .idx 3 eU x1_ x0<| .sto 0 [69,67,13] eU x1_ x0 (bOr .u64 (sShl .u64 (at' x1_ x0) 1) (IntKind.u64.wrap (bAnd .u8 (sShr .u8 (at' a2 (sShr .i64 r6 3)) (IntKind.i64.wrap (7-(bAnd .i64 r6 7)))) 1)))<| .let_ (x1_.set (Int.toNat x0) (bOr .u64 (sShl .u64 (at' x1_ x0) 1) (IntKind.u64.wrap (bAnd .u8 (sShr .u8 (at' a2 (sShr .i64 r6 3)) (IntKind.i64.wrap (7-(bAnd .i64 r6 7)))) 1))):List Int) fun y7=> .again 6 (IntKind.i64.wrap (x0_+1),y7))
   (.ret 4 x1_)) _ fun x r=>IH x.1 x.2 r
def zIn (a0:Int) (a2:List Int) (a3:Int) (y4:List Int) (x0:Int) (x1:List Int):St:=⟨[(56,nI x0),(55,nI (y4.length:Int)),(13,sU (.h 0) x1),(0,nI a0),(2,lY a2),(3, .d (.clo (.func 196) [] [.cp [.int .i64 a3] 0]))],[]⟩
def zIv (a0:Int) (a2:List Int) (a3:Int) (y4:List Int) (x:(List Int)):St:=⟨[(13,sU (.h 1) x)],[]⟩
theorem zHL (a0:Int) (a2:List Int) (a3:Int) (y4:List Int):∀(x0:Int) (x1:List Int),Ok (zA2 a0 a2 a3 y4 x0 x1) (LN zAP (.exit 1) (zIv a0 a2 a3 y4) 169 0 (zIn a0 a2 a3 y4 x0 x1)):=by
 refine zA2.partial_correctness a0 a2 a3 y4 _ ?_
 intro f IH x0 x1
 exact Tr.lpN (F:=zAP) (X:=Int×(List Int))
  (.ite 6 57 (x0<(y4.length:Int))
   (.loop 16 ⟨_,_,_,_,_,zH6 a0 a2 a3 y4 x0 0 x1⟩ fun j9=> .again 6 (IntKind.i64.wrap (x0+1),j9))
   (.ret 4 x1)) _ fun x r=>IH x.1 x.2 r
def zIt (a0:Int) (a2:List Int) (a3:Int) (y11:List Int) (x0:Int) (x0_:Int) (x1_:List Int):St:=⟨[(60,nI x0_),(59,nI a0),(14,nI x0),(56,nI x0),(55,nI (y11.length:Int)),(13,sU (.h 1) x1_),(0,nI a0),(2,lY a2),(3, .d (.clo (.func 196) [] [.cp [.int .i64 a3] 0]))],[]⟩
def zIw (a0:Int) (a2:List Int) (a3:Int) (y11:List Int) (x0:Int) (x:(List Int)):St:=⟨[(56,nI x0),(55,nI (y11.length:Int)),(13,sU (.h 2) x),(0,nI a0),(2,lY a2),(3, .d (.clo (.func 196) [] [.cp [.int .i64 a3] 0]))],[]⟩
theorem zH0 (a0:Int) (a2:List Int) (a3:Int) (y11:List Int) (x0:Int):∀(x0_:Int) (x1_:List Int),Ok (zA5 a0 a2 a3 y11 x0 x0_ x1_) (LN zAP (.exit 3) (zIw a0 a2 a3 y11 x0) 169 1 (zIt a0 a2 a3 y11 x0 x0_ x1_)):=by
 refine zA5.partial_correctness a0 a2 a3 y11 x0 _ ?_
 intro f IH x0_ x1_
 exact Tr.lpN (F:=zAP) (X:=Int×(List Int))
  (.ite 6 61 (x0_<a0)
   (.call 14 (zGP x0 x0_ a3) zAo fun r13=> .idx 7 eU x1_ x0<| .idx 5 eY a2 (sShr .i64 r13 3)<| .rd 4 (0≤IntKind.i64.wrap (7-(bAnd .i64 r13 7))) (nY (sShr .u8 (at' a2 (sShr .i64 r13 3)) (IntKind.i64.wrap (7-(bAnd .i64 r13 7)))))<| .idx 3 eU x1_ x0<| .sto 0 [69,67,13] eU x1_ x0 (bOr .u64 (sShl .u64 (at' x1_ x0) 1) (IntKind.u64.wrap (bAnd .u8 (sShr .u8 (at' a2 (sShr .i64 r13 3)) (IntKind.i64.wrap (7-(bAnd .i64 r13 7)))) 1)))<| .let_ (x1_.set (Int.toNat x0) (bOr .u64 (sShl .u64 (at' x1_ x0) 1) (IntKind.u64.wrap (bAnd .u8 (sShr .u8 (at' a2 (sShr .i64 r13 3)) (IntKind.i64.wrap (7-(bAnd .i64 r13 7)))) 1))):List Int) fun y14=> .again 6 (IntKind.i64.wrap (x0_+1),y14))
   (.ret 4 x1_)) _ fun x r=>IH x.1 x.2 r
def zIA (a0:Int) (a2:List Int) (a3:Int) (y11:List Int) (x0:Int) (x1:List Int):St:=⟨[(56,nI x0),(55,nI (y11.length:Int)),(13,sU (.h 0) x1),(0,nI a0),(2,lY a2),(3, .d (.clo (.func 196) [] [.cp [.int .i64 a3] 0]))],[]⟩
def zIp (a0:Int) (a2:List Int) (a3:Int) (y11:List Int) (x:(List Int)):St:=⟨[(13,sU (.h 1) x)],[]⟩
theorem zH3 (a0:Int) (a2:List Int) (a3:Int) (y11:List Int):∀(x0:Int) (x1:List Int),Ok (zA4 a0 a2 a3 y11 x0 x1) (LN zAP (.exit 1) (zIp a0 a2 a3 y11) 169 0 (zIA a0 a2 a3 y11 x0 x1)):=by
 refine zA4.partial_correctness a0 a2 a3 y11 _ ?_
 intro f IH x0 x1
 exact Tr.lpN (F:=zAP) (X:=Int×(List Int))
  (.ite 6 57 (x0<(y11.length:Int))
   (.loop 16 ⟨_,_,_,_,_,zH0 a0 a2 a3 y11 x0 0 x1⟩ fun j16=> .again 6 (IntKind.i64.wrap (x0+1),j16))
   (.ret 4 x1)) _ fun x r=>IH x.1 x.2 r
theorem zCs:∀v,(zAH v).noLst:=fun _=>⟨(zAv fun _=>trivial),trivial,trivial⟩
theorem zJ9 (a0:Int) (a1:Int) (a2:List Int) (a3:Int):HS 169 (zCF a0 a1 a2 a3) [.int .i64 a0, .int .i64 a1, .lst (List.map (D.int .u8) a2), .clo (.func 196) [] [.cp [.int .i64 a3] 0]] zAH:=Tr.fn (F:=zAP)
 (.call 9 (zFv a0 a1) zBl fun r1=> .iteN 14 23 (r1.2=0)
  (.ret 10 ([],r1.2))
  (.len 4 eY a2<| .iteN 4 27 ((a2.length:Int)=r1.1)
  (.ret 9 ([],4))
  (.let_ (IntKind.i64.wrap ((IntKind.i64.wrap (8*r1.1))-(IntKind.i64.wrap (a0*a1))):Int) fun y2=> .ite 19 40 (y2>0)
  (.idx 3 eY a2 (IntKind.i64.wrap (r1.1-1))<| .rd 2 (0≤y2) (nY (sShl .u8 1 y2))<| .iteN 5 51 ((bAnd .u8 (at' a2 (IntKind.i64.wrap (r1.1-1))) (IntKind.u8.wrap ((sShl .u8 1 y2)-1)))=0)
  (.ret 8 ([],6))
  (.mk 5 eU 8 0 a1 a1<| .let_ (List.replicate (Int.toNat a1) 0:List Int) fun y4=> .len 6 eU y4<| .loop 4 ⟨_,_,_,_,_,zHL a0 a2 a3 y4 0 y4⟩ fun j10=> .ret 8 (j10,0)))
  (.mk 17 eU 8 0 a1 a1<| .let_ (List.replicate (Int.toNat a1) 0:List Int) fun y11=> .len 6 eU y11<| .loop 4 ⟨_,_,_,_,_,zH3 a0 a2 a3 y11 0 y11⟩ fun j17=> .ret 8 (j17,0)))))
noncomputable abbrev zSA:Fe:= .of Tryz.prog 127 zAH
theorem zQ0 (a0:Int) (a1:Int) (a2:List Int):HS 127 (zIc a0 a1 a2) [.int .i64 a0, .int .i64 a1, .lst (List.map (D.int .u8) a2)] zAH:=Tr.fn (F:=zSA)
 (.callZ 11 (zNM a1) fun r1=> .call 0 (zJ9 a0 a1 a2 r1) zCs fun r2=> .ret 6 (r2.1,r2.2))
noncomputable abbrev zAS:Fe:= .of Tryz.prog 169 zAH
def zI2 (a0:Int) (a2:List Int) (a3:Int) (y4:List Int) (x0:Int) (x0_:Int) (x1_:List Int):St:=⟨[(60,nI x0_),(59,nI a0),(14,nI x0),(56,nI x0),(55,nI (y4.length:Int)),(13,sU (.h 1) x1_),(0,nI a0),(2,lY a2),(3, .d (.clo (.func 222) [] [.cp [.int .i64 a3] 0]))],[]⟩
def zIS (a0:Int) (a2:List Int) (a3:Int) (y4:List Int) (x0:Int) (x:(List Int)):St:=⟨[(56,nI x0),(55,nI (y4.length:Int)),(13,sU (.h 2) x),(0,nI a0),(2,lY a2),(3, .d (.clo (.func 222) [] [.cp [.int .i64 a3] 0]))],[]⟩
theorem zIu (a0:Int) (a2:List Int) (a3:Int) (y4:List Int) (x0:Int):∀(x0_:Int) (x1_:List Int),Ok (zBc a0 a2 a3 y4 x0 x0_ x1_) (LN zAS (.exit 3) (zIS a0 a2 a3 y4 x0) 169 1 (zI2 a0 a2 a3 y4 x0 x0_ x1_)):=by
 refine zBc.partial_correctness a0 a2 a3 y4 x0 _ ?_
 intro f IH x0_ x1_
 exact Tr.lpN (F:=zAS) (X:=Int×(List Int))
  (.ite 6 61 (x0_<a0)
   (.call 14 (zG7 x0 x0_ a3) zAo fun r6=> .idx 7 eU x1_ x0<| .idx 5 eY a2 (sShr .i64 r6 3)<| .rd 4 (0≤IntKind.i64.wrap (7-(bAnd .i64 r6 7))) (nY (sShr .u8 (at' a2 (sShr .i64 r6 3)) (IntKind.i64.wrap (7-(bAnd .i64 r6 7)))))<| .idx 3 eU x1_ x0<| .sto 0 [69,67,13] eU x1_ x0 (bOr .u64 (sShl .u64 (at' x1_ x0) 1) (IntKind.u64.wrap (bAnd .u8 (sShr .u8 (at' a2 (sShr .i64 r6 3)) (IntKind.i64.wrap (7-(bAnd .i64 r6 7)))) 1)))<| .let_ (x1_.set (Int.toNat x0) (bOr .u64 (sShl .u64 (at' x1_ x0) 1) (IntKind.u64.wrap (bAnd .u8 (sShr .u8 (at' a2 (sShr .i64 r6 3)) (IntKind.i64.wrap (7-(bAnd .i64 r6 7)))) 1))):List Int) fun y7=> .again 6 (IntKind.i64.wrap (x0_+1),y7))
   (.ret 4 x1_)) _ fun x r=>IH x.1 x.2 r
def zJb (a0:Int) (a2:List Int) (a3:Int) (y4:List Int) (x0:Int) (x1:List Int):St:=⟨[(56,nI x0),(55,nI (y4.length:Int)),(13,sU (.h 0) x1),(0,nI a0),(2,lY a2),(3, .d (.clo (.func 222) [] [.cp [.int .i64 a3] 0]))],[]⟩
def zJe (a0:Int) (a2:List Int) (a3:Int) (y4:List Int) (x:(List Int)):St:=⟨[(13,sU (.h 1) x)],[]⟩
theorem zIq (a0:Int) (a2:List Int) (a3:Int) (y4:List Int):∀(x0:Int) (x1:List Int),Ok (zBb a0 a2 a3 y4 x0 x1) (LN zAS (.exit 1) (zJe a0 a2 a3 y4) 169 0 (zJb a0 a2 a3 y4 x0 x1)):=by
 refine zBb.partial_correctness a0 a2 a3 y4 _ ?_
 intro f IH x0 x1
 exact Tr.lpN (F:=zAS) (X:=Int×(List Int))
  (.ite 6 57 (x0<(y4.length:Int))
   (.loop 16 ⟨_,_,_,_,_,zIu a0 a2 a3 y4 x0 0 x1⟩ fun j9=> .again 6 (IntKind.i64.wrap (x0+1),j9))
   (.ret 4 x1)) _ fun x r=>IH x.1 x.2 r
def zIQ (a0:Int) (a2:List Int) (a3:Int) (y11:List Int) (x0:Int) (x0_:Int) (x1_:List Int):St:=⟨[(60,nI x0_),(59,nI a0),(14,nI x0),(56,nI x0),(55,nI (y11.length:Int)),(13,sU (.h 1) x1_),(0,nI a0),(2,lY a2),(3, .d (.clo (.func 222) [] [.cp [.int .i64 a3] 0]))],[]⟩
def zIJ (a0:Int) (a2:List Int) (a3:Int) (y11:List Int) (x0:Int) (x:(List Int)):St:=⟨[(56,nI x0),(55,nI (y11.length:Int)),(13,sU (.h 2) x),(0,nI a0),(2,lY a2),(3, .d (.clo (.func 222) [] [.cp [.int .i64 a3] 0]))],[]⟩
theorem zIm (a0:Int) (a2:List Int) (a3:Int) (y11:List Int) (x0:Int):∀(x0_:Int) (x1_:List Int),Ok (zBf a0 a2 a3 y11 x0 x0_ x1_) (LN zAS (.exit 3) (zIJ a0 a2 a3 y11 x0) 169 1 (zIQ a0 a2 a3 y11 x0 x0_ x1_)):=by
 refine zBf.partial_correctness a0 a2 a3 y11 x0 _ ?_
 intro f IH x0_ x1_
 exact Tr.lpN (F:=zAS) (X:=Int×(List Int))
  (.ite 6 61 (x0_<a0)
   (.call 14 (zG7 x0 x0_ a3) zAo fun r13=> .idx 7 eU x1_ x0<| .idx 5 eY a2 (sShr .i64 r13 3)<| .rd 4 (0≤IntKind.i64.wrap (7-(bAnd .i64 r13 7))) (nY (sShr .u8 (at' a2 (sShr .i64 r13 3)) (IntKind.i64.wrap (7-(bAnd .i64 r13 7)))))<| .idx 3 eU x1_ x0<| .sto 0 [69,67,13] eU x1_ x0 (bOr .u64 (sShl .u64 (at' x1_ x0) 1) (IntKind.u64.wrap (bAnd .u8 (sShr .u8 (at' a2 (sShr .i64 r13 3)) (IntKind.i64.wrap (7-(bAnd .i64 r13 7)))) 1)))<| .let_ (x1_.set (Int.toNat x0) (bOr .u64 (sShl .u64 (at' x1_ x0) 1) (IntKind.u64.wrap (bAnd .u8 (sShr .u8 (at' a2 (sShr .i64 r13 3)) (IntKind.i64.wrap (7-(bAnd .i64 r13 7)))) 1))):List Int) fun y14=> .again 6 (IntKind.i64.wrap (x0_+1),y14))
   (.ret 4 x1_)) _ fun x r=>IH x.1 x.2 r
def zJd (a0:Int) (a2:List Int) (a3:Int) (y11:List Int) (x0:Int) (x1:List Int):St:=⟨[(56,nI x0),(55,nI (y11.length:Int)),(13,sU (.h 0) x1),(0,nI a0),(2,lY a2),(3, .d (.clo (.func 222) [] [.cp [.int .i64 a3] 0]))],[]⟩
def zIM (a0:Int) (a2:List Int) (a3:Int) (y11:List Int) (x:(List Int)):St:=⟨[(13,sU (.h 1) x)],[]⟩
theorem zIx (a0:Int) (a2:List Int) (a3:Int) (y11:List Int):∀(x0:Int) (x1:List Int),Ok (zBe a0 a2 a3 y11 x0 x1) (LN zAS (.exit 1) (zIM a0 a2 a3 y11) 169 0 (zJd a0 a2 a3 y11 x0 x1)):=by
 refine zBe.partial_correctness a0 a2 a3 y11 _ ?_
 intro f IH x0 x1
 exact Tr.lpN (F:=zAS) (X:=Int×(List Int))
  (.ite 6 57 (x0<(y11.length:Int))
   (.loop 16 ⟨_,_,_,_,_,zIm a0 a2 a3 y11 x0 0 x1⟩ fun j16=> .again 6 (IntKind.i64.wrap (x0+1),j16))
   (.ret 4 x1)) _ fun x r=>IH x.1 x.2 r
theorem zKy (a0:Int) (a1:Int) (a2:List Int) (a3:Int):HS 169 (zCT a0 a1 a2 a3) [.int .i64 a0, .int .i64 a1, .lst (List.map (D.int .u8) a2), .clo (.func 222) [] [.cp [.int .i64 a3] 0]] zAH:=Tr.fn (F:=zAS)
 (.call 9 (zFv a0 a1) zBl fun r1=> .iteN 14 23 (r1.2=0)
  (.ret 10 ([],r1.2))
  (.len 4 eY a2<| .iteN 4 27 ((a2.length:Int)=r1.1)
  (.ret 9 ([],4))
  (.let_ (IntKind.i64.wrap ((IntKind.i64.wrap (8*r1.1))-(IntKind.i64.wrap (a0*a1))):Int) fun y2=> .ite 19 40 (y2>0)
  (.idx 3 eY a2 (IntKind.i64.wrap (r1.1-1))<| .rd 2 (0≤y2) (nY (sShl .u8 1 y2))<| .iteN 5 51 ((bAnd .u8 (at' a2 (IntKind.i64.wrap (r1.1-1))) (IntKind.u8.wrap ((sShl .u8 1 y2)-1)))=0)
  (.ret 8 ([],6))
  (.mk 5 eU 8 0 a1 a1<| .let_ (List.replicate (Int.toNat a1) 0:List Int) fun y4=> .len 6 eU y4<| .loop 4 ⟨_,_,_,_,_,zIq a0 a2 a3 y4 0 y4⟩ fun j10=> .ret 8 (j10,0)))
  (.mk 17 eU 8 0 a1 a1<| .let_ (List.replicate (Int.toNat a1) 0:List Int) fun y11=> .len 6 eU y11<| .loop 4 ⟨_,_,_,_,_,zIx a0 a2 a3 y11 0 y11⟩ fun j17=> .ret 8 (j17,0)))))
noncomputable abbrev zTn:Fe:= .of Tryz.prog 197 zAH
theorem zRP (a0:Int) (a1:Int) (a2:List Int):HS 197 (zJq a0 a1 a2) [.int .i64 a0, .int .i64 a1, .lst (List.map (D.int .u8) a2)] zAH:=Tr.fn (F:=zTn)
 (.callZ 11 (zOI a0) fun r1=> .call 0 (zKy a0 a1 a2 r1) zCs fun r2=> .ret 6 (r2.1,r2.2))
def zKI (v:(List Bool)×Int):PV:= .tup [sB (.s 0) v.1,nI v.2]
noncomputable abbrev zLM:Fe:= .of Tryz.prog 171 zKI
def zSo (r1:(List Int)×Int) (x0:Int) (x1:List Bool):St:=⟨[(25,nI x0),(24,nI (r1.1.length:Int)),(23,sU (.s 1632) r1.1),(8,sB (.h 0) x1)],[]⟩
def zSv (r1:(List Int)×Int) (x:(List Bool)):St:=⟨[(8,sB (.h 1) x)],[]⟩
theorem zQX (r1:(List Int)×Int):∀(x0:Int) (x1:List Bool),Ok (zDc r1 x0 x1) (LN zLM (.exit 0) (zSv r1) 171 0 (zSo r1 x0 x1)):=by
 refine zDc.partial_correctness r1 _ ?_
 intro f IH x0 x1
 exact Tr.lpN (F:=zLM) (X:=Int×(List Bool))
  (.ite 6 26 (x0<(r1.1.length:Int))
   (.idx 7 eU r1.1 x0<| .idx 9 eB x1 x0<| .sto 0 [8] eB x1 x0 ((at' r1.1 x0)==1)<| .let_ (x1.set (Int.toNat x0) ((at' r1.1 x0)==1):List Bool) fun y4=> .again 6 (IntKind.i64.wrap (x0+1),y4))
   (.ret 4 x1)) _ fun x r=>IH x.1 x.2 r
theorem zUv:∀v,(zKI v).noLst:=fun _=>⟨(zAv fun _=>trivial),trivial,trivial⟩
theorem zUO (a0:Int) (a1:List Int):HS 171 (zHV a0 a1) [.int .i64 a0, .lst (List.map (D.int .u8) a1)] zKI:=Tr.fn (F:=zLM)
 (.call 9 (zRP 1 a0 a1) zCs fun r1=> .iteN 12 18 (r1.2=0)
  (.ret 9 ([],r1.2))
  (.len 5 eU r1.1<| .mk 0 eB 1 false (r1.1.length:Int) (r1.1.length:Int)<| .let_ (List.replicate (Int.toNat (r1.1.length:Int)) false:List Bool) fun y2=> .len 6 eU r1.1<| .loop 4 ⟨_,_,_,_,_,zQX r1 0 y2⟩ fun j6=> .ret 8 (j6,0)))
def zFD (v:(List Bool)×(List Int)×Int×Bool):PV:=sB (.s 0) v.1
def zFC (v:(List Bool)×(List Int)×Int×Bool):List (Tg×List PV):=[(.up (.s 0),[lY v.2.1,nI v.2.2.1,bB v.2.2.2])]
noncomputable abbrev zKr:Fe:= .of Tryz.prog 128 zFD zFC
theorem zFE (a0:zAe) (a1:Int):HG 128 (zBW a0 a1) [.ptr (.up (.s 0)) 0,nI a1] [(.up (.s 0),[lY a0.F_text.F_b,nI a0.F_text.F_at,bB a0.F_bad])] zFD zFC:=Tr.fnG (F:=zKr)
 (.callG 11 [(.up (.s 0), .up (.s 0))] [] (zDJ a0 (IntKind.i64.wrap (Int.tdiv (IntKind.i64.wrap (a1+7)) 8))) fun r1=> .call 0 (zUO a1 r1.1) zUv fun r2=> .callG 11 [(.up (.s 0), .up (.s 0))] [] (zBD (⟨(⟨r1.2.1,r1.2.2.1⟩:zAh),r1.2.2.2⟩:zAe) (r2.2==0)) fun r3=> .ret 7 (r2.1,r3.1,r3.2.1,r3.2.2))
def zF8 (v:Int×Int×(List Int)×(List Int)×Int×Int×(List Int)×(List Bool)×(List Int)×Int×Bool):PV:= .d (.agg [.int .i64 v.1, .int .i64 v.2.1, .lst (List.map (D.int .i64) v.2.2.1), .lst (List.map (D.int .i64) v.2.2.2.1), .int .i64 v.2.2.2.2.1, .int .i64 v.2.2.2.2.2.1, .lst (List.map (D.int .u64) v.2.2.2.2.2.2.1), .lst (List.map D.bool v.2.2.2.2.2.2.2.1)])
def zF2 (v:Int×Int×(List Int)×(List Int)×Int×Int×(List Int)×(List Bool)×(List Int)×Int×Bool):List (Tg×List PV):=[(.up (.s 0),[lY v.2.2.2.2.2.2.2.2.1,nI v.2.2.2.2.2.2.2.2.2.1,bB v.2.2.2.2.2.2.2.2.2.2])]
noncomputable abbrev zK0:Fe:= .of Tryz.prog 68 zF8 zF2
theorem zKE (a0:zAe):HG 68 (zCP a0) [.ptr (.up (.s 0)) 0] [(.up (.s 0),[lY a0.F_text.F_b,nI a0.F_text.F_at,bB a0.F_bad])] zF8 zF2:=Tr.fnG (F:=zK0)
 (.callG 7 [(.up (.s 0), .up (.s 0))] [] (zCr a0) fun r1=> .callG 6 [(.up (.s 0), .up (.s 0))] [] (zBw (⟨(⟨r1.2.1,r1.2.2.1⟩:zAh),r1.2.2.2⟩:zAe) 4096) fun r2=> .callG 10 [(.up (.s 0), .up (.s 0))] [] (zBD (⟨(⟨r2.2.1,r2.2.2.1⟩:zAh),r2.2.2.2⟩:zAe) (decide ((IntKind.i64.wrap r2.1)>0))) fun r3=> .iteB 9 20 (r3.2.2)
  (.ret 8 (r1.1,IntKind.i64.wrap r2.1,[],[],0,0,[],[],r3.1,r3.2.1,r3.2.2))
  (.ite 14 27 (r1.1=0)
  (.callG 5 [(.up (.s 0), .up (.s 0))] [] (zFq (⟨(⟨r3.1,r3.2.1⟩:zAh),r3.2.2⟩:zAe) (IntKind.i64.wrap r2.1)) fun r4=> .ret 10 (r1.1,IntKind.i64.wrap r2.1,[],r4.1,0,0,[],[],r4.2.1,r4.2.2.1,r4.2.2.2))
  (.ite 6 34 (r1.1=1)
  (.callG 6 [(.up (.s 0), .up (.s 0))] [] (zJa (⟨(⟨r3.1,r3.2.1⟩:zAh),r3.2.2⟩:zAe) (IntKind.i64.wrap r2.1)) fun r5=> .len 7 eI r5.1<| .callG 0 [(.up (.s 0), .up (.s 0))] [] (zFq (⟨(⟨r5.2.1,r5.2.2.1⟩:zAh),r5.2.2.2⟩:zAe) (r5.1.length:Int)) fun r6=> .ret 10 (r1.1,IntKind.i64.wrap r2.1,r5.1,r6.1,0,0,[],[],r6.2.1,r6.2.2.1,r6.2.2.2))
  (.ite 6 47 (r1.1=2)
  (.callG 4 [(.up (.s 0), .up (.s 0))] [] (zBw (⟨(⟨r3.1,r3.2.1⟩:zAh),r3.2.2⟩:zAe) 9223372036854775807) fun r7=> .callG 7 [(.up (.s 0), .up (.s 0))] [] (zCr (⟨(⟨r7.2.1,r7.2.2.1⟩:zAh),r7.2.2.2⟩:zAe)) fun r8=> .join 10 4 (γ:=Bool) ⟨fun x=>[(64,bB x)],[56,2,0],fun _=>[],[.s 15, .up (.s 0)]⟩
  (.ite 0 60 (r8.1>0)
  (.ret 5 (decide (r8.1≤8)))
  (.ret 5 false))
  fun j9=> .callG 0 [(.up (.s 0), .up (.s 0))] [] (zBD (⟨(⟨r8.2.1,r8.2.2.1⟩:zAh),r8.2.2.2⟩:zAe) j9) fun r10=> .iteB 9 69 (r10.2.2)
  (.ret 10 (r1.1,IntKind.i64.wrap r2.1,[],[],IntKind.i64.wrap r7.1,r8.1,[],[],r10.1,r10.2.1,r10.2.2))
  (.call 8 (zFv r8.1 (IntKind.i64.wrap r2.1)) zBl fun r11=> .callG 11 [(.up (.s 0), .up (.s 0))] [] (zBD (⟨(⟨r10.1,r10.2.1⟩:zAh),r10.2.2⟩:zAe) (r11.2==0)) fun r12=> .callG 9 [(.up (.s 0), .up (.s 0))] [] (zDJ (⟨(⟨r12.1,r12.2.1⟩:zAh),r12.2.2⟩:zAe) r11.1) fun r13=> .hold 1 []<| .call 0 (zQ0 r8.1 (IntKind.i64.wrap r2.1) r13.1) zCs fun r14=> .hold 6 []<| .callG 8 [(.up (.s 0), .up (.s 0))] [] (zBD (⟨(⟨r13.2.1,r13.2.2.1⟩:zAh),r13.2.2.2⟩:zAe) (r14.2==0)) fun r15=> .callG 5 [(.up (.s 0), .up (.s 0))] [] (zFE (⟨(⟨r15.1,r15.2.1⟩:zAh),r15.2.2⟩:zAe) (IntKind.i64.wrap r2.1)) fun r16=> .ret 10 (r1.1,IntKind.i64.wrap r2.1,[],[],IntKind.i64.wrap r7.1,r8.1,r14.1,r16.1,r16.2.1,r16.2.2.1,r16.2.2.2)))
  (.ite 6 104 (r1.1=3)
  (.callG 4 [(.up (.s 0), .up (.s 0))] [] (zBw (⟨(⟨r3.1,r3.2.1⟩:zAh),r3.2.2⟩:zAe) 9223372036854775807) fun r17=> .callG 8 [(.up (.s 0), .up (.s 0))] [] (zFE (⟨(⟨r17.2.1,r17.2.2.1⟩:zAh),r17.2.2.2⟩:zAe) (IntKind.i64.wrap r2.1)) fun r18=> .ret 10 (r1.1,IntKind.i64.wrap r2.1,[],[],IntKind.i64.wrap r17.1,0,[],r18.1,r18.2.1,r18.2.2.1,r18.2.2.2))
  (.ret 14 (r1.1,IntKind.i64.wrap r2.1,[],[],0,0,[],[],r3.1,r3.2.1,true)))))))
def zOP (v:Int×Int×Int×Int×Int×(List Int)×(List Int)×Int×Int×(List Int)×(List Bool)×Int):PV:= .tup [.d (.agg [.int .i64 v.1, .int .i64 v.2.1, .int .i64 v.2.2.1, .int .i64 v.2.2.2.1, .int .i64 v.2.2.2.2.1, .lst (List.map (D.int .i64) v.2.2.2.2.2.1), .lst (List.map (D.int .i64) v.2.2.2.2.2.2.1), .int .i64 v.2.2.2.2.2.2.2.1, .int .i64 v.2.2.2.2.2.2.2.2.1, .lst (List.map (D.int .u64) v.2.2.2.2.2.2.2.2.2.1), .lst (List.map D.bool v.2.2.2.2.2.2.2.2.2.2.1)]),nI v.2.2.2.2.2.2.2.2.2.2.2]
noncomputable abbrev zVs:Fe:= .of Tryz.prog 32 zOP
theorem zUm (a0:List Int):HS 32 (zIe a0) [.lst (List.map (D.int .u8) a0)] zOP:=Tr.fn (F:=zVs)
 (.call 8 (zXy a0) zBL fun r1=> .iteN 12 12 (r1.2=0)
  (.ret 10 (0,0,0,0,0,[],[],0,0,[],[],r1.2))
  (.callG 14 [(.up (.s 0), .s 6463)] [.s 1616] (zCr (⟨(⟨r1.1,0⟩:zAh),false⟩:zAe)) fun r2=> .callG 1 [(.up (.s 0), .s 6463)] [] (zBD (⟨(⟨r2.2.1,r2.2.2.1⟩:zAh),r2.2.2.2⟩:zAe) (r2.1==1)) fun r3=> .callG 4 [(.up (.s 0), .s 6463)] [] (zCr (⟨(⟨r3.1,r3.2.1⟩:zAh),r3.2.2⟩:zAe)) fun r4=> .callG 6 [(.up (.s 0), .s 6463)] [] (zBw (⟨(⟨r4.2.1,r4.2.2.1⟩:zAh),r4.2.2.2⟩:zAe) 63) fun r5=> .callG 7 [(.up (.s 0), .s 6463)] [] (zBw (⟨(⟨r5.2.1,r5.2.2.1⟩:zAh),r5.2.2.2⟩:zAe) 1073741824) fun r6=> .join 11 6 (γ:=Bool) ⟨fun x=>[(44,bB x)],[5,2],fun _=>[],[.s 15, .s 6463]⟩
  (.ite 0 38 (r4.1=1)
  (.ret 7 (!r6.2.2.2))
  (.ret 7 false))
  fun j7=> .join 1 0 (γ:=Int×Int×(List Int)×(List Int)×Int×Int×(List Int)×(List Bool)×(List Int)×Int×Bool) ⟨fun _=>[],[5,2],fun x=>[(.s 15,[nI r4.1,nI (IntKind.i64.wrap r5.1),nI (IntKind.i64.wrap r6.1),nI x.1,nI x.2.1,lI x.2.2.1,lI x.2.2.2.1,nI x.2.2.2.2.1,nI x.2.2.2.2.2.1,lU x.2.2.2.2.2.2.1,lB x.2.2.2.2.2.2.2.1]),(.s 6463,[lY x.2.2.2.2.2.2.2.2.1,nI x.2.2.2.2.2.2.2.2.2.1,bB x.2.2.2.2.2.2.2.2.2.2])],[]⟩
  (.iteB 0 44 (j7)
  (.callG 3 [(.up (.s 0), .s 6463)] [] (zKE (⟨(⟨r6.2.1,r6.2.2.1⟩:zAh),r6.2.2.2⟩:zAe)) fun r8=> .ret 3 (r8.1,r8.2.1,r8.2.2.1,r8.2.2.2.1,r8.2.2.2.2.1,r8.2.2.2.2.2.1,r8.2.2.2.2.2.2.1,r8.2.2.2.2.2.2.2.1,r8.2.2.2.2.2.2.2.2.1,r8.2.2.2.2.2.2.2.2.2.1,r8.2.2.2.2.2.2.2.2.2.2))
  (.ret 2 (0,0,[],[],0,0,[],[],r6.2.1,r6.2.2.1,r6.2.2.2)))
  fun j9=> .iteB 8 52 (j9.2.2.2.2.2.2.2.2.2.2)
  (.ret 28 (0,0,0,0,0,[],[],0,0,[],[],6))
  (.len 10 eY j9.2.2.2.2.2.2.2.2.1<| .ite 3 66 (j9.2.2.2.2.2.2.2.2.2.1<(j9.2.2.2.2.2.2.2.2.1.length:Int))
  (.ret 14 (0,0,0,0,0,[],[],0,0,[],[],6))
  (.call 1 (zNy (⟨r4.1,IntKind.i64.wrap r5.1,IntKind.i64.wrap r6.1,(⟨j9.1,j9.2.1,j9.2.2.1,j9.2.2.2.1,j9.2.2.2.2.1,j9.2.2.2.2.2.1,j9.2.2.2.2.2.2.1,j9.2.2.2.2.2.2.2.1⟩:zAc)⟩:zAE)) zAo fun r10=> .iteN 3 70 (r10=0)
  (.ret 9 (0,0,0,0,0,[],[],0,0,[],[],6))
  (.ret 9 (r4.1,IntKind.i64.wrap r5.1,IntKind.i64.wrap r6.1,j9.1,j9.2.1,j9.2.2.1,j9.2.2.2.1,j9.2.2.2.2.1,j9.2.2.2.2.2.1,j9.2.2.2.2.2.2.1,j9.2.2.2.2.2.2.2.1,0))))))
noncomputable abbrev zZp:Fe:= .of Tryz.prog 22 zAd
theorem zXg (a0:List Int) (a1:List Int):HS 22 (zLe a0 a1) [.lst (List.map (D.int .i64) a0), .lst (List.map (D.int .i64) a1)] zAd:=Tr.fn (F:=zZp)
 (.call 8 (zCu a0 a1) zAf fun r1=> .ret 3 r1)
noncomputable abbrev zMj:Fe:= .of Tryz.prog 8 zAd
theorem zLF (a0:zAk) (a1:List Int) (a2:Int) (a3:List Int):HS 8 (zEt a0 a1 a2 a3) [.agg [.int .i64 a0.F_Scheme, .int .i64 a0.F_K, .int .i64 a0.F_Wide], .lst (List.map (D.int .i64) a1), .int .u64 a2, .lst (List.map (D.int .i64) a3)] zAd:=Tr.fn (F:=zMj)
 (.call 7 zOZ zAf fun r1=> .iteX 8 24 (r1)
  (.ret 7 false)
  (.call 8 (zP7 a3 [a1]) zAf fun r2=> .iteX 2 29 (r2)
  (.ret 8 r1)
  (.call 8 (zNe a0 a1 a2 a3) zNG fun r3=> .iteN 13 40 (r3.2.2.2.2.2.2.2.2=0)
  (.join 5 4 (γ:=Bool) ⟨fun x=>[(46,bB x)],[],fun _=>[],[]⟩
  (.iteB 0 42 (r1)
  (.ret 5 (r3.2.1==0))
  (.ret 5 false))
  fun j4=> .ret 4 j4)
  (.call 5 (zMu (⟨r3.1,r3.2.1,r3.2.2.1,r3.2.2.2.1,r3.2.2.2.2.1,r3.2.2.2.2.2.1,r3.2.2.2.2.2.2.1,r3.2.2.2.2.2.2.2.1⟩:zAc)) zAs fun r5=> .call 10 (zOG a1 (⟨r3.1,r3.2.1,r3.2.2.1,r3.2.2.2.1,r3.2.2.2.2.1,r3.2.2.2.2.2.1,r3.2.2.2.2.2.2.1,r3.2.2.2.2.2.2.2.1⟩:zAc)) zAs fun r6=> .call 10 (zRV r5.1 r6.1) zAs fun r7=> .call 10 (zTl (⟨1,0,0,(⟨r3.1,r3.2.1,r3.2.2.1,r3.2.2.2.1,r3.2.2.2.2.1,r3.2.2.2.2.2.1,r3.2.2.2.2.2.2.1,r3.2.2.2.2.2.2.2.1⟩:zAc)⟩:zAE)) zBL fun r8=> .callZ 9 (zUm r8.1) fun r9=> .call 13 (zSP a0 a1 (⟨r3.1,r3.2.1,r3.2.2.1,r3.2.2.2.1,r3.2.2.2.2.1,r3.2.2.2.2.2.1,r3.2.2.2.2.2.2.1,r3.2.2.2.2.2.2.2.1⟩:zAc)) zAf fun r10=> .join 2 3 (γ:=Bool) ⟨fun x=>[(83,bB x)],[21,20,19,17,16,15,10,9,1],fun _=>[],[.s 20895, .s 9743]⟩
  (.iteX 0 80 (r10)
  (.ret 4 true)
  (.ret 4 (r5.2 !=0)))
  fun j11=> .join 1 3 (γ:=Bool) ⟨fun x=>[(87,bB x)],[21,20,17,16,15,10,9,1],fun _=>[],[.s 20895, .s 9743]⟩
  (.iteB 0 84 (j11)
  (.ret 4 true)
  (.ret 4 (r8.2 !=0)))
  fun j12=> .join 1 3 (γ:=Bool) ⟨fun x=>[(91,bB x)],[20,17,16,15,10,9,1],fun _=>[],[.s 20895, .s 9743]⟩
  (.iteB 0 88 (j12)
  (.ret 4 true)
  (.ret 4 (r9.2.2.2.2.2.2.2.2.2.2.2 !=0)))
  fun j13=> .join 1 6 (γ:=Bool) ⟨fun x=>[(98,bB x)],[17,16,15,9,1],fun _=>[],[]⟩
  (.iteB 0 92 (j13)
  (.ret 7 true)
  (.call 3 (zNb (⟨r9.2.2.2.1,r9.2.2.2.2.1,r9.2.2.2.2.2.1,r9.2.2.2.2.2.2.1,r9.2.2.2.2.2.2.2.1,r9.2.2.2.2.2.2.2.2.1,r9.2.2.2.2.2.2.2.2.2.1,r9.2.2.2.2.2.2.2.2.2.2.1⟩:zAc) (⟨r3.1,r3.2.1,r3.2.2.1,r3.2.2.2.1,r3.2.2.2.2.1,r3.2.2.2.2.2.1,r3.2.2.2.2.2.2.1,r3.2.2.2.2.2.2.2.1⟩:zAc)) zAf fun r14=> .ret 3 (!r14)))
  fun j15=> .iteB 1 98 (j15)
  (.ret 7 false)
  (.iteN 8 100 (r6.2=0)
  (.join 5 3 (γ:=Bool) ⟨fun x=>[(105,bB x)],[],fun _=>[],[]⟩
  (.iteB 0 102 (r1)
  (.ret 4 (r6.2==2))
  (.ret 4 false))
  fun j16=> .ret 4 j16)
  (.join 6 3 (γ:=Bool) ⟨fun x=>[(110,bB x)],[16,1],fun _=>[],[]⟩
  (.iteB 0 107 (r1)
  (.ret 4 (r7.2==0))
  (.ret 4 false))
  fun j17=> .join 1 4 (γ:=Bool) ⟨fun x=>[(115,bB x)],[],fun _=>[],[]⟩
  (.iteB 0 111 (j17)
  (.call 2 (zXg r7.1 a1) zAf fun r18=> .ret 2 r18)
  (.ret 5 false))
  fun j19=> .ret 3 j19))))))
end Go.Proofs.YtdgdgfckcnjpfaaGreat.Abs
