/- Walks of functions, printed by a program. Conditions: none. -/
import Derived.Test.YtdgdgfckcnjpfaaGreatProg
import Derived.Test.YtdgdgfckcnjpfaaGreatAbsG8
import Derived.Test.YtdgdgfckcnjpfaaGreatZM
namespace Go.Proofs.YtdgdgfckcnjpfaaGreat.Abs
open Go Go.RowKit
set_option linter.unusedVariables false
set_option maxRecDepth 100000
open Z
def zAk.e:Enc zAk:=⟨zAk.en,3,fun _=>rfl⟩
def zAc.e:Enc zAc:=⟨zAc.en,8,fun _=>rfl⟩
def zAa.e:Enc zAa:=⟨zAa.en,2,fun _=>rfl⟩
def zAu.e:Enc zAu:=⟨zAu.en,2,fun _=>rfl⟩
def zAE.e:Enc zAE:=⟨zAE.en,11,fun _=>rfl⟩
def zAh.e:Enc zAh:=⟨zAh.en,2,fun _=>rfl⟩
def zAe.e:Enc zAe:=⟨zAe.en,3,fun _=>rfl⟩
abbrev HS {ρ:Type} (n:Nat) (m:Option ρ) (ds:List D) (en:ρ→PV):Prop:=Sg.Holds (P:=Tryz.prog) ⟨n,m,ds,en⟩
abbrev HG {ρ:Type} (n:Nat) (m:Option ρ) (ps:List PV) (bx:List (Tg×List PV)) (en:ρ→PV) (bx':ρ→List (Tg×List PV)):Prop:=SgG.Holds (P:=Tryz.prog) ⟨n,m,ps,bx,en,bx'⟩
def zAl (v:Int):PV:=nI v
noncomputable abbrev zYR:Fe:= .of Tryz.prog 57 zAl
theorem zAo:∀v,(zAl v).noLst:=fun _=>trivial
theorem zQy (a0:List Int) (a1:List Int):HS 57 (zIl a0 a1) [.lst (List.map (D.int .i64) a0), .lst (List.map (D.int .i64) a1)] zAl:=Tr.fn (F:=zYR)
 (.len 9 eI a0<| .len 1 eI a1<| .ite 4 5 ((if (a1.length:Int)>(a0.length:Int) then (a1.length:Int) else (a0.length:Int))>4096)
  (.ret 8 3)
  (.len 4 eI a0<| .len 1 eI a1<| .iteN 3 12 ((a0.length:Int)=(a1.length:Int))
  (.ret 8 4)
  (.ret 8 0)))
def zAD (v:Int×Int):PV:= .tup [nI v.1,nI v.2]
noncomputable abbrev zZA:Fe:= .of Tryz.prog 60 zAD
theorem zBl:∀v,(zAD v).noLst:=fun _=>⟨trivial,trivial,trivial⟩
theorem zSa (a0:Int) (a1:Int):HS 60 (zJP a0 a1) [.int .i64 a0, .int .i64 a1] zAD:=Tr.fn (F:=zZA)
 (.ite 24 17 ((bAnd .i64 (bXor .i64 a0 (IntKind.i64.wrap (a0+a1))) (bXor .i64 a1 (IntKind.i64.wrap (a0+a1))))<0)
  (.ret 8 (0,2))
  (.ret 9 (IntKind.i64.wrap (a0+a1),0)))
noncomputable abbrev zSG:Fe:= .of Tryz.prog 59 zAD
theorem zRk (a0:Int) (a1:List Int) (a2:List Int):HS 59 (zEN a0 a1 a2) [.int .i64 a0, .cp [.lst (List.map (D.int .i64) a1)] 0, .cp [.lst (List.map (D.int .i64) a2)] 0] zAD:=Tr.fn (F:=zSG)
 (.idx 9 eI a1 a0<| .idx 3 eI a2 a0<| .call 1 (zSa (at' a1 a0) (at' a2 a0)) zBl fun r1=> .ret 6 (r1.1,r1.2))
def zAj (v:(List Int)×Int):PV:= .tup [sI (.s 0) v.1,nI v.2]
noncomputable abbrev zFL:Fe:= .of Tryz.prog 58 zAj
def zL7 (a1:List Int) (a2:List Int) (y1:List Int) (x0:Int) (x1:List Int):St:=⟨[(13,nI x0),(12,nI (y1.length:Int)),(6,sI (.h 0) x1),(1, .d (.clo (.func 59) [] [.cp [.lst (List.map (D.int .i64) a1)] 0, .cp [.lst (List.map (D.int .i64) a2)] 0]))],[]⟩
def zL9 (a1:List Int) (a2:List Int) (y1:List Int) (x:(List Int)):St:=⟨[(6,sI (.h 1) x)],[]⟩
theorem zLJ (a1:List Int) (a2:List Int) (y1:List Int):∀(x0:Int) (x1:List Int),Ok (zBB a1 a2 y1 x0 x1) (LR zFL (.exit 0) (zL9 a1 a2 y1) 58 0 (zL7 a1 a2 y1 x0 x1)):=by
 refine zBB.partial_correctness a1 a2 y1 _ ?_
 intro f IH x0 x1
 exact Tr.lpR (F:=zFL) (X:=Int×(List Int))
  (.ite 6 14 (x0<(y1.length:Int))
   (.call 19 (zRk x0 a1 a2) zBl fun r3=> .idx 3 eI x1 x0<| .sto 0 [6] eI x1 x0 r3.1<| .let_ (x1.set (Int.toNat x0) r3.1:List Int) fun y4=> .iteN 7 26 (r3.2=0)
   (.ret 11 (.inl ([],r3.2)))
   (.again 7 (IntKind.i64.wrap (x0+1),y4)))
   (.ret 4 (.inr x1))) _ fun x r=>IH x.1 x.2 r
theorem zAs:∀v,(zAj v).noLst:=fun _=>⟨(zAv fun _=>trivial),trivial,trivial⟩
theorem zNd (a0:Int) (a1:List Int) (a2:List Int):HS 58 (zFR a0 a1 a2) [.int .i64 a0, .clo (.func 59) [] [.cp [.lst (List.map (D.int .i64) a1)] 0, .cp [.lst (List.map (D.int .i64) a2)] 0]] zAj:=Tr.fn (F:=zFL)
 (.mk 8 eI 8 0 a0 a0<| .let_ (List.replicate (Int.toNat a0) 0:List Int) fun y1=> .len 6 eI y1<| .loopR 4 id ⟨_,_,_,_,_,zLJ a1 a2 y1 0 y1⟩ fun j6=> .ret 8 (j6,0))
noncomputable abbrev zAad:Fe:= .of Tryz.prog 30 zAj
theorem zRV (a0:List Int) (a1:List Int):HS 30 (zKb a0 a1) [.lst (List.map (D.int .i64) a0), .lst (List.map (D.int .i64) a1)] zAj:=Tr.fn (F:=zAad)
 (.call 12 (zQy a0 a1) zAo fun r1=> .iteN 7 11 (r1=0)
  (.ret 9 ([],r1))
  (.len 5 eI a0<| .call 1 (zNd (a0.length:Int) a0 a1) zAs fun r2=> .ret 6 (r2.1,r2.2)))
noncomputable abbrev zXb:Fe:= .of Tryz.prog 33 zAl
theorem zLQ (a0:List Int):HS 33 (zGh a0) [.lst (List.map (D.int .i64) a0)] zAl:=Tr.fn (F:=zXb)
 (.len 8 eI a0<| .ite 2 5 ((a0.length:Int)>4096)
  (.ret 7 3)
  (.ret 7 0))
def zOH (v:Unit):PV:= .ptr (.s 14) 0
def zON (v:Unit):List (Tg×List PV):=[(.s 14,[.d (.int .i64 0), .d (.agg [.clo (.func 69) [] [], .clo (.func 70) [] [], .clo (.func 71) [] [], .clo (.func 73) [] []]), .d (.int .i64 1), .d (.agg [.clo (.func 74) [] [], .clo (.func 75) [] [], .clo (.func 77) [] [], .clo (.func 79) [] []]), .d (.int .i64 2), .d (.agg [.clo (.func 81) [] [], .clo (.func 82) [] [], .clo (.func 84) [] [], .clo (.func 85) [] []]), .d (.int .i64 3), .d (.agg [.clo (.func 69) [] [], .clo (.func 87) [] [], .clo (.func 89) [] [], .clo (.func 90) [] []])])]
noncomputable abbrev zWr:Fe:= .of Tryz.prog 34 zOH zON
theorem zGc:HG 34 zDd [] [] zOH zON:=Tr.fnG (F:=zWr)
 (.ret 19 ())
def zAd (v:Bool):PV:=bB v
noncomputable abbrev zWv:Fe:= .of Tryz.prog 69 zAd
theorem zAf:∀v,(zAd v).noLst:=fun _=>trivial
theorem zHj (a0:zAk) (a1:Int):HS 69 (zGF a0 a1) [.agg [.int .i64 a0.F_Scheme, .int .i64 a0.F_K, .int .i64 a0.F_Wide], .int .i64 a1] zAd:=Tr.fn (F:=zWv)
 (.join 11 4 (γ:=Bool) ⟨fun x=>[(12,bB x)],[],fun _=>[],[]⟩
  (.ite 0 8 (a0.F_K=0)
  (.ret 5 (a0.F_Wide==0))
  (.ret 5 false))
  fun j1=> .ret 3 j1)
noncomputable abbrev zTf:Fe:= .of Tryz.prog 74 zAd
theorem zMv (a0:zAk) (a1:Int):HS 74 (zI6 a0 a1) [.agg [.int .i64 a0.F_Scheme, .int .i64 a0.F_K, .int .i64 a0.F_Wide], .int .i64 a1] zAd:=Tr.fn (F:=zTf)
 (.join 11 5 (γ:=Bool) ⟨fun x=>[(13,bB x)],[2],fun _=>[],[.s 15]⟩
  (.ite 0 8 (a0.F_K≥0)
  (.ret 6 (decide (a0.F_K≤a1)))
  (.ret 6 false))
  fun j1=> .join 1 4 (γ:=Bool) ⟨fun x=>[(18,bB x)],[],fun _=>[],[]⟩
  (.iteB 0 14 (j1)
  (.ret 5 (a0.F_Wide==0))
  (.ret 5 false))
  fun j2=> .ret 3 j2)
noncomputable abbrev zSW:Fe:= .of Tryz.prog 81 zAd
theorem zMH (a0:zAk) (a1:Int):HS 81 (zJr a0 a1) [.agg [.int .i64 a0.F_Scheme, .int .i64 a0.F_K, .int .i64 a0.F_Wide], .int .i64 a1] zAd:=Tr.fn (F:=zSW)
 (.join 11 4 (γ:=Bool) ⟨fun x=>[(12,bB x)],[2],fun _=>[],[.s 15]⟩
  (.ite 0 8 (a0.F_K=0)
  (.ret 5 (decide (a0.F_Wide>0)))
  (.ret 5 false))
  fun j1=> .join 1 4 (γ:=Bool) ⟨fun x=>[(17,bB x)],[],fun _=>[],[]⟩
  (.iteB 0 13 (j1)
  (.ret 5 (decide (a0.F_Wide≤8)))
  (.ret 5 false))
  fun j2=> .ret 3 j2)
noncomputable abbrev zUY:Fe:= .of Tryz.prog 17 zAl
theorem zNN (a0:zAk) (a1:Int):HS 17 (zF0 a0 a1) [.agg [.int .i64 a0.F_Scheme, .int .i64 a0.F_K, .int .i64 a0.F_Wide], .int .i64 a1] zAl:=Tr.fn (F:=zUY)
 (.draws 6 (.callG 2 [] [] zGc fun r1=> .hold 1 []<| .hold 6 []<| .cas 0 12 (a0.F_Scheme=(0:Int)) (.d (.agg [.clo (.func 69) [] [], .clo (.func 70) [] [], .clo (.func 71) [] [], .clo (.func 73) [] []])) (.d (lookD a0.F_Scheme [(1, .agg [.clo (.func 74) [] [], .clo (.func 75) [] [], .clo (.func 77) [] [], .clo (.func 79) [] []]),(2, .agg [.clo (.func 81) [] [], .clo (.func 82) [] [], .clo (.func 84) [] [], .clo (.func 85) [] []]),(3, .agg [.clo (.func 69) [] [], .clo (.func 87) [] [], .clo (.func 89) [] [], .clo (.func 90) [] []])] (.agg [.nilfn, .nilfn, .nilfn, .nilfn]))) (.d (lookD a0.F_Scheme [(0, .agg [.clo (.func 69) [] [], .clo (.func 70) [] [], .clo (.func 71) [] [], .clo (.func 73) [] []]),(1, .agg [.clo (.func 74) [] [], .clo (.func 75) [] [], .clo (.func 77) [] [], .clo (.func 79) [] []]),(2, .agg [.clo (.func 81) [] [], .clo (.func 82) [] [], .clo (.func 84) [] [], .clo (.func 85) [] []]),(3, .agg [.clo (.func 69) [] [], .clo (.func 87) [] [], .clo (.func 89) [] [], .clo (.func 90) [] []])] (.agg [.nilfn, .nilfn, .nilfn, .nilfn]))) zB5 zB6
  (.hold 2 []<| .join 9 3 (γ:=Bool) ⟨fun x=>[(19,bB x)],[5,2,1],fun _=>[],[.s 1727, .s 15]⟩
  (.iteX 0 16 ((hasK a0.F_Scheme [0,1,2,3]))
  (.ret 4 true)
  (.ret 4 (decide (a1<1))))
  fun j2=> .join 1 3 (γ:=Bool) ⟨fun x=>[(23,bB x)],[5,2,1],fun _=>[],[.s 1727, .s 15]⟩
  (.iteB 0 20 (j2)
  (.ret 4 true)
  (.ret 4 (decide (a1>4096))))
  fun j3=> .join 1 7 (γ:=Bool) ⟨fun x=>[(31,bB x)],[],fun _=>[],[]⟩
  (.iteB 0 24 (j3)
  (.ret 8 true)
  (.call 4 (zHj a0 a1) zAf fun r4=> .ret 3 (!r4)))
  fun j5=> .iteB 1 31 (j5)
  (.ret 7 1)
  (.ret 7 0))
  (.cas 0 12 (a0.F_Scheme=(1:Int)) (.d (.agg [.clo (.func 74) [] [], .clo (.func 75) [] [], .clo (.func 77) [] [], .clo (.func 79) [] []])) (.d (lookD a0.F_Scheme [(2, .agg [.clo (.func 81) [] [], .clo (.func 82) [] [], .clo (.func 84) [] [], .clo (.func 85) [] []]),(3, .agg [.clo (.func 69) [] [], .clo (.func 87) [] [], .clo (.func 89) [] [], .clo (.func 90) [] []])] (.agg [.nilfn, .nilfn, .nilfn, .nilfn]))) (.d (lookD a0.F_Scheme [(1, .agg [.clo (.func 74) [] [], .clo (.func 75) [] [], .clo (.func 77) [] [], .clo (.func 79) [] []]),(2, .agg [.clo (.func 81) [] [], .clo (.func 82) [] [], .clo (.func 84) [] [], .clo (.func 85) [] []]),(3, .agg [.clo (.func 69) [] [], .clo (.func 87) [] [], .clo (.func 89) [] [], .clo (.func 90) [] []])] (.agg [.nilfn, .nilfn, .nilfn, .nilfn]))) zB5 zB6
  (.hold 2 []<| .join 9 3 (γ:=Bool) ⟨fun x=>[(19,bB x)],[5,2,1],fun _=>[],[.s 1727, .s 15]⟩
  (.iteX 0 16 ((hasK a0.F_Scheme [0,1,2,3]))
  (.ret 4 true)
  (.ret 4 (decide (a1<1))))
  fun j6=> .join 1 3 (γ:=Bool) ⟨fun x=>[(23,bB x)],[5,2,1],fun _=>[],[.s 1727, .s 15]⟩
  (.iteB 0 20 (j6)
  (.ret 4 true)
  (.ret 4 (decide (a1>4096))))
  fun j7=> .join 1 7 (γ:=Bool) ⟨fun x=>[(31,bB x)],[],fun _=>[],[]⟩
  (.iteB 0 24 (j7)
  (.ret 8 true)
  (.call 4 (zMv a0 a1) zAf fun r8=> .ret 3 (!r8)))
  fun j9=> .iteB 1 31 (j9)
  (.ret 7 1)
  (.ret 7 0))
  (.cas 0 12 (a0.F_Scheme=(2:Int)) (.d (.agg [.clo (.func 81) [] [], .clo (.func 82) [] [], .clo (.func 84) [] [], .clo (.func 85) [] []])) (.d (lookD a0.F_Scheme [(3, .agg [.clo (.func 69) [] [], .clo (.func 87) [] [], .clo (.func 89) [] [], .clo (.func 90) [] []])] (.agg [.nilfn, .nilfn, .nilfn, .nilfn]))) (.d (lookD a0.F_Scheme [(2, .agg [.clo (.func 81) [] [], .clo (.func 82) [] [], .clo (.func 84) [] [], .clo (.func 85) [] []]),(3, .agg [.clo (.func 69) [] [], .clo (.func 87) [] [], .clo (.func 89) [] [], .clo (.func 90) [] []])] (.agg [.nilfn, .nilfn, .nilfn, .nilfn]))) zB5 zB6
  (.hold 2 []<| .join 9 3 (γ:=Bool) ⟨fun x=>[(19,bB x)],[5,2,1],fun _=>[],[.s 1727, .s 15]⟩
  (.iteX 0 16 ((hasK a0.F_Scheme [0,1,2,3]))
  (.ret 4 true)
  (.ret 4 (decide (a1<1))))
  fun j10=> .join 1 3 (γ:=Bool) ⟨fun x=>[(23,bB x)],[5,2,1],fun _=>[],[.s 1727, .s 15]⟩
  (.iteB 0 20 (j10)
  (.ret 4 true)
  (.ret 4 (decide (a1>4096))))
  fun j11=> .join 1 7 (γ:=Bool) ⟨fun x=>[(31,bB x)],[],fun _=>[],[]⟩
  (.iteB 0 24 (j11)
  (.ret 8 true)
  (.call 4 (zMH a0 a1) zAf fun r12=> .ret 3 (!r12)))
  fun j13=> .iteB 1 31 (j13)
  (.ret 7 1)
  (.ret 7 0))
  (.cas 0 12 (a0.F_Scheme=(3:Int)) (.d (.agg [.clo (.func 69) [] [], .clo (.func 87) [] [], .clo (.func 89) [] [], .clo (.func 90) [] []])) (.d (lookD a0.F_Scheme [] (.agg [.nilfn, .nilfn, .nilfn, .nilfn]))) (.d (lookD a0.F_Scheme [(3, .agg [.clo (.func 69) [] [], .clo (.func 87) [] [], .clo (.func 89) [] [], .clo (.func 90) [] []])] (.agg [.nilfn, .nilfn, .nilfn, .nilfn]))) zB5 zB6
  (.hold 2 []<| .join 9 3 (γ:=Bool) ⟨fun x=>[(19,bB x)],[5,2,1],fun _=>[],[.s 1727, .s 15]⟩
  (.iteX 0 16 ((hasK a0.F_Scheme [0,1,2,3]))
  (.ret 4 true)
  (.ret 4 (decide (a1<1))))
  fun j14=> .join 1 3 (γ:=Bool) ⟨fun x=>[(23,bB x)],[5,2,1],fun _=>[],[.s 1727, .s 15]⟩
  (.iteB 0 20 (j14)
  (.ret 4 true)
  (.ret 4 (decide (a1>4096))))
  fun j15=> .join 1 7 (γ:=Bool) ⟨fun x=>[(31,bB x)],[],fun _=>[],[]⟩
  (.iteB 0 24 (j15)
  (.ret 8 true)
  (.call 4 (zHj a0 a1) zAf fun r16=> .ret 3 (!r16)))
  fun j17=> .iteB 1 31 (j17)
  (.ret 7 1)
  (.ret 7 0))
  (.hold 2 []<| .join 9 3 (γ:=Bool) ⟨fun x=>[(19,bB x)],[5,2,1],fun _=>[],[.s 1727, .s 15]⟩
  (.iteX 0 16 ((hasK a0.F_Scheme [0,1,2,3]))
  (.ret 4 true)
  (.ret 4 (decide (a1<1))))
  fun j18=> .join 1 3 (γ:=Bool) ⟨fun x=>[(23,bB x)],[5,2,1],fun _=>[],[.s 1727, .s 15]⟩
  (.iteB 0 20 (j18)
  (.ret 4 true)
  (.ret 4 (decide (a1>4096))))
  fun j19=> .join 1 7 (γ:=Unit) ⟨fun x=>[(31,bB true)],[],fun _=>[],[]⟩
  (.iteB 0 24 (j19)
  (.ret 8 ())
  (.halt))
  fun j20=> .ret 8 1))))) (.hold 4 []<| .callG 0 [] [] zGc fun r1=> .hold 1 []<| .cas 4 12 (a0.F_Scheme=(0:Int)) (.d (.agg [.clo (.func 69) [] [], .clo (.func 70) [] [], .clo (.func 71) [] [], .clo (.func 73) [] []])) (.d (lookD a0.F_Scheme [(1, .agg [.clo (.func 74) [] [], .clo (.func 75) [] [], .clo (.func 77) [] [], .clo (.func 79) [] []]),(2, .agg [.clo (.func 81) [] [], .clo (.func 82) [] [], .clo (.func 84) [] [], .clo (.func 85) [] []]),(3, .agg [.clo (.func 69) [] [], .clo (.func 87) [] [], .clo (.func 89) [] [], .clo (.func 90) [] []])] (.agg [.nilfn, .nilfn, .nilfn, .nilfn]))) (.d (lookD a0.F_Scheme [(0, .agg [.clo (.func 69) [] [], .clo (.func 70) [] [], .clo (.func 71) [] [], .clo (.func 73) [] []]),(1, .agg [.clo (.func 74) [] [], .clo (.func 75) [] [], .clo (.func 77) [] [], .clo (.func 79) [] []]),(2, .agg [.clo (.func 81) [] [], .clo (.func 82) [] [], .clo (.func 84) [] [], .clo (.func 85) [] []]),(3, .agg [.clo (.func 69) [] [], .clo (.func 87) [] [], .clo (.func 89) [] [], .clo (.func 90) [] []])] (.agg [.nilfn, .nilfn, .nilfn, .nilfn]))) zB5 zB6
  (.hold 2 []<| .join 9 3 (γ:=Bool) ⟨fun x=>[(19,bB x)],[5,2,1],fun _=>[],[.s 1727, .s 15]⟩
  (.iteX 0 16 ((hasK a0.F_Scheme [0,1,2,3]))
  (.ret 4 true)
  (.ret 4 (decide (a1<1))))
  fun j2=> .join 1 3 (γ:=Bool) ⟨fun x=>[(23,bB x)],[5,2,1],fun _=>[],[.s 1727, .s 15]⟩
  (.iteB 0 20 (j2)
  (.ret 4 true)
  (.ret 4 (decide (a1>4096))))
  fun j3=> .join 1 7 (γ:=Bool) ⟨fun x=>[(31,bB x)],[],fun _=>[],[]⟩
  (.iteB 0 24 (j3)
  (.ret 8 true)
  (.call 4 (zHj a0 a1) zAf fun r4=> .ret 3 (!r4)))
  fun j5=> .iteB 1 31 (j5)
  (.ret 7 1)
  (.ret 7 0))
  (.cas 0 12 (a0.F_Scheme=(1:Int)) (.d (.agg [.clo (.func 74) [] [], .clo (.func 75) [] [], .clo (.func 77) [] [], .clo (.func 79) [] []])) (.d (lookD a0.F_Scheme [(2, .agg [.clo (.func 81) [] [], .clo (.func 82) [] [], .clo (.func 84) [] [], .clo (.func 85) [] []]),(3, .agg [.clo (.func 69) [] [], .clo (.func 87) [] [], .clo (.func 89) [] [], .clo (.func 90) [] []])] (.agg [.nilfn, .nilfn, .nilfn, .nilfn]))) (.d (lookD a0.F_Scheme [(1, .agg [.clo (.func 74) [] [], .clo (.func 75) [] [], .clo (.func 77) [] [], .clo (.func 79) [] []]),(2, .agg [.clo (.func 81) [] [], .clo (.func 82) [] [], .clo (.func 84) [] [], .clo (.func 85) [] []]),(3, .agg [.clo (.func 69) [] [], .clo (.func 87) [] [], .clo (.func 89) [] [], .clo (.func 90) [] []])] (.agg [.nilfn, .nilfn, .nilfn, .nilfn]))) zB5 zB6
  (.hold 2 []<| .join 9 3 (γ:=Bool) ⟨fun x=>[(19,bB x)],[5,2,1],fun _=>[],[.s 1727, .s 15]⟩
  (.iteX 0 16 ((hasK a0.F_Scheme [0,1,2,3]))
  (.ret 4 true)
  (.ret 4 (decide (a1<1))))
  fun j6=> .join 1 3 (γ:=Bool) ⟨fun x=>[(23,bB x)],[5,2,1],fun _=>[],[.s 1727, .s 15]⟩
  (.iteB 0 20 (j6)
  (.ret 4 true)
  (.ret 4 (decide (a1>4096))))
  fun j7=> .join 1 7 (γ:=Bool) ⟨fun x=>[(31,bB x)],[],fun _=>[],[]⟩
  (.iteB 0 24 (j7)
  (.ret 8 true)
  (.call 4 (zMv a0 a1) zAf fun r8=> .ret 3 (!r8)))
  fun j9=> .iteB 1 31 (j9)
  (.ret 7 1)
  (.ret 7 0))
  (.cas 0 12 (a0.F_Scheme=(2:Int)) (.d (.agg [.clo (.func 81) [] [], .clo (.func 82) [] [], .clo (.func 84) [] [], .clo (.func 85) [] []])) (.d (lookD a0.F_Scheme [(3, .agg [.clo (.func 69) [] [], .clo (.func 87) [] [], .clo (.func 89) [] [], .clo (.func 90) [] []])] (.agg [.nilfn, .nilfn, .nilfn, .nilfn]))) (.d (lookD a0.F_Scheme [(2, .agg [.clo (.func 81) [] [], .clo (.func 82) [] [], .clo (.func 84) [] [], .clo (.func 85) [] []]),(3, .agg [.clo (.func 69) [] [], .clo (.func 87) [] [], .clo (.func 89) [] [], .clo (.func 90) [] []])] (.agg [.nilfn, .nilfn, .nilfn, .nilfn]))) zB5 zB6
  (.hold 2 []<| .join 9 3 (γ:=Bool) ⟨fun x=>[(19,bB x)],[5,2,1],fun _=>[],[.s 1727, .s 15]⟩
  (.iteX 0 16 ((hasK a0.F_Scheme [0,1,2,3]))
  (.ret 4 true)
  (.ret 4 (decide (a1<1))))
  fun j10=> .join 1 3 (γ:=Bool) ⟨fun x=>[(23,bB x)],[5,2,1],fun _=>[],[.s 1727, .s 15]⟩
  (.iteB 0 20 (j10)
  (.ret 4 true)
  (.ret 4 (decide (a1>4096))))
  fun j11=> .join 1 7 (γ:=Bool) ⟨fun x=>[(31,bB x)],[],fun _=>[],[]⟩
  (.iteB 0 24 (j11)
  (.ret 8 true)
  (.call 4 (zMH a0 a1) zAf fun r12=> .ret 3 (!r12)))
  fun j13=> .iteB 1 31 (j13)
  (.ret 7 1)
  (.ret 7 0))
  (.cas 0 12 (a0.F_Scheme=(3:Int)) (.d (.agg [.clo (.func 69) [] [], .clo (.func 87) [] [], .clo (.func 89) [] [], .clo (.func 90) [] []])) (.d (lookD a0.F_Scheme [] (.agg [.nilfn, .nilfn, .nilfn, .nilfn]))) (.d (lookD a0.F_Scheme [(3, .agg [.clo (.func 69) [] [], .clo (.func 87) [] [], .clo (.func 89) [] [], .clo (.func 90) [] []])] (.agg [.nilfn, .nilfn, .nilfn, .nilfn]))) zB5 zB6
  (.hold 2 []<| .join 9 3 (γ:=Bool) ⟨fun x=>[(19,bB x)],[5,2,1],fun _=>[],[.s 1727, .s 15]⟩
  (.iteX 0 16 ((hasK a0.F_Scheme [0,1,2,3]))
  (.ret 4 true)
  (.ret 4 (decide (a1<1))))
  fun j14=> .join 1 3 (γ:=Bool) ⟨fun x=>[(23,bB x)],[5,2,1],fun _=>[],[.s 1727, .s 15]⟩
  (.iteB 0 20 (j14)
  (.ret 4 true)
  (.ret 4 (decide (a1>4096))))
  fun j15=> .join 1 7 (γ:=Bool) ⟨fun x=>[(31,bB x)],[],fun _=>[],[]⟩
  (.iteB 0 24 (j15)
  (.ret 8 true)
  (.call 4 (zHj a0 a1) zAf fun r16=> .ret 3 (!r16)))
  fun j17=> .iteB 1 31 (j17)
  (.ret 7 1)
  (.ret 7 0))
  (.hold 2 []<| .join 9 3 (γ:=Bool) ⟨fun x=>[(19,bB x)],[5,2,1],fun _=>[],[.s 1727, .s 15]⟩
  (.iteX 0 16 ((hasK a0.F_Scheme [0,1,2,3]))
  (.ret 4 true)
  (.ret 4 (decide (a1<1))))
  fun j18=> .join 1 3 (γ:=Bool) ⟨fun x=>[(23,bB x)],[5,2,1],fun _=>[],[.s 1727, .s 15]⟩
  (.iteB 0 20 (j18)
  (.ret 4 true)
  (.ret 4 (decide (a1>4096))))
  fun j19=> .join 1 7 (γ:=Unit) ⟨fun x=>[(31,bB true)],[],fun _=>[],[]⟩
  (.iteB 0 24 (j19)
  (.ret 8 ())
  (.halt))
  fun j20=> .ret 8 1))))))
def zAF (v:(List Int)):PV:=sI (.s 0) v
noncomputable abbrev zKB:Fe:= .of Tryz.prog 72 zAF
theorem zBS:∀v,(zAF v).noLst:=fun _=>(zAv fun _=>trivial)
theorem zFB (a0 : List Int) : HS 72 (zBX a0) [.lst (List.map (D.int .i64) a0)] zAF := Tr.fn (F := zKB)
 (.nilq 8 eI.f a0
  (    if room 8 ([] ++ a0).length then
       some ([] ++ a0)
     else none)
  (    some [])
  (fun h => by (try obtain rfl := List.eq_nil_of_length_eq_zero h); first | rfl | (simp [h]; done))
  (.app 7 eI 8 [] a0 <| .ret 3 ([] ++ a0))
  (.ret 8 []))
def zIP (v:Int×Int×(List Int)×Int×Int×Int):PV:= .tup [.agg [nI v.1,nI v.2.1, .nils,sI (.s 0) v.2.2.1,nI v.2.2.2.1,nI v.2.2.2.2.1, .nils, .nils],nI v.2.2.2.2.2]
noncomputable abbrev zUE:Fe:= .of Tryz.prog 70 zIP
theorem zTd:∀v,(zIP v).noLst:=fun _=>⟨⟨trivial,trivial,trivial,(zAv fun _=>trivial),trivial,trivial,trivial,trivial,trivial⟩,trivial,trivial⟩
theorem zTo (a0:zAk) (a1:List Int) (a2:Int) (a3:List Int):HS 70 (zKL a0 a1 a2 a3) [.agg [.int .i64 a0.F_Scheme, .int .i64 a0.F_K, .int .i64 a0.F_Wide], .lst (List.map (D.int .i64) a1), .int .u64 a2, .lst (List.map (D.int .i64) a3)] zIP:=Tr.fn (F:=zUE)
 (.len 9 eI a1<| .call 1 (zFB a1) zBS fun r1=> .ret 5 (0,(a1.length:Int),r1,0,0,0))
def zBy (v:Int):PV:=nU v
noncomputable abbrev zXu:Fe:= .of Tryz.prog 198 zBy
theorem zDy:∀v,(zBy v).noLst:=fun _=>trivial
theorem zVk (a0:Int):HS 198 (zJH a0) [.int .i64 a0] zBy:=Tr.fn (F:=zXu)
 (.ite 10 4 (a0<0)
  (.ret 10 (IntKind.u64.wrap (0-(IntKind.u64.wrap a0))))
  (.ret 9 (IntKind.u64.wrap a0)))
def zLU (v:(List zAa)):PV:= .sl (.s 0) 2 0 (List.map zAa.en v)
noncomputable abbrev zML:Fe:= .of Tryz.prog 172 zLU
def zTB (a0:List Int) (x0:Int) (x1:List zAa):St:=⟨[(11,nI x0),(10,nI (a0.length:Int)),(9,lI a0),(3, .sl (.h 0) 2 0 (List.map zAa.en x1))],[]⟩
def zTL (a0:List Int) (x:(List zAa)):St:=⟨[(3, .sl (.h 1) 2 0 (List.map zAa.en x))],[]⟩
theorem zSL (a0:List Int):∀(x0:Int) (x1:List zAa),Ok (zDl a0 x0 x1) (LN zML (.exit 0) (zTL a0) 172 0 (zTB a0 x0 x1)):=by
 refine zDl.partial_correctness a0 _ ?_
 intro f IH x0 x1
 exact Tr.lpN (F:=zML) (X:=Int×(List zAa))
  (.ite 6 12 (x0<(a0.length:Int))
   (.idx 7 eI a0 x0<| .call 9 (zVk (at' a0 x0)) zDy fun r3=> .idx 1 zAa.e x1 x0<| .sto 0 [3] zAa.e x1 x0 (⟨x0,r3⟩:zAa)<| .let_ (x1.set (Int.toNat x0) (⟨x0,r3⟩:zAa):List zAa) fun y4=> .again 6 (IntKind.i64.wrap (x0+1),y4))
   (.ret 4 x1)) _ fun x r=>IH x.1 x.2 r
theorem zWE:∀v,(zLU v).noLst:=fun _=>(zAv fun _=>⟨trivial,trivial,trivial⟩)
theorem zWp (a0:List Int):HS 172 (zJB a0) [.lst (List.map (D.int .i64) a0)] zLU:=Tr.fn (F:=zML)
 (.len 7 eI a0<| .mk 0 zAa.e 16 (⟨0,0⟩:zAa) (a0.length:Int) (a0.length:Int)<| .let_ (List.replicate (Int.toNat (a0.length:Int)) (⟨0,0⟩:zAa):List zAa) fun y1=> .len 6 eI a0<| .loop 4 ⟨_,_,_,_,_,zSL a0 0 y1⟩ fun j6=> .ret 7 j6)
def zDR (v:(List zAa)):PV:= .tup []
def zDQ (v:(List zAa)):List (Tg×List PV):=[(.up (.s 0),[.sl (.s 0) 2 0 (List.map zAa.en v)])]
noncomputable abbrev zLV:Fe:= .of Tryz.prog 274 zDR zDQ
theorem zK5:∀v,(zDR v).noLst:=fun _=>trivial
theorem zKq:∀v,zCM (zDQ v):=fun _=>⟨⟨(zAv fun _=>⟨trivial,trivial,trivial⟩),trivial⟩,trivial⟩
theorem zKV (a0:List zAa) (a1:Int) (a2:Int):HG 274 (zD3 a0 a1 a2) [.ptr (.up (.s 0)) 0, .d (.ifc 174 (.agg [.int .i64 a1, .int .u64 a2]))] [(.up (.s 0),[.sl (.h 0) 2 0 (List.map zAa.en a0)])] zDR zDQ:=Tr.fnG (F:=zLV)
 (.hold 9 []<| .app 0 zAa.e 16 a0 [(⟨a1,a2⟩:zAa)]<| .hold 1 []<| .ret 4 (a0++[(⟨a1,a2⟩:zAa)]))
noncomputable abbrev zNf:Fe:= .of Tryz.prog 174 zAl
theorem zEX (a0:List zAa):HS 174 (zBs a0) [.lst (List.map zAa.en a0)] zAl:=Tr.fn (F:=zNf)
 (.len 7 zAa.e a0<| .ret 3 (a0.length:Int))
noncomputable abbrev zPw:Fe:= .of Tryz.prog 280 zAd
theorem zIE (a0:Int):HS 280 (zDA a0) [.int .u64 a0] zAd:=Tr.fn (F:=zPw)
 (.ret 12 (a0 !=a0))
noncomputable abbrev zOm:Fe:= .of Tryz.prog 278 zAl
theorem zNh (a0:Int) (a1:Int):HS 278 (zDS a0 a1) [.int .u64 a0, .int .u64 a1] zAl:=Tr.fn (F:=zOm)
 (.call 7 (zIE a0) zAf fun r1=> .call 5 (zIE a1) zAf fun r2=> .iteB 7 11 (r1)
  (.iteB 6 12 (r2)
  (.ret 8 0)
  (.ret 8 (-1)))
  (.iteB 7 13 (r2)
  (.ret 7 1)
  (.ite 9 16 (a0<a1)
  (.ret 7 (-1))
  (.ite 9 19 (a0>a1)
  (.ret 7 1)
  (.ret 7 0)))))
noncomputable abbrev zRC:Fe:= .of Tryz.prog 230 zAd
theorem zLB (a0:Int):HS 230 (zEJ a0) [.int .i64 a0] zAd:=Tr.fn (F:=zRC)
 (.ret 12 (a0 !=a0))
noncomputable abbrev zQd:Fe:= .of Tryz.prog 279 zAl
theorem zPr (a0:Int) (a1:Int):HS 279 (zE7 a0 a1) [.int .i64 a0, .int .i64 a1] zAl:=Tr.fn (F:=zQd)
 (.call 7 (zLB a0) zAf fun r1=> .call 5 (zLB a1) zAf fun r2=> .iteB 7 11 (r1)
  (.iteB 6 12 (r2)
  (.ret 8 0)
  (.ret 8 (-1)))
  (.iteB 7 13 (r2)
  (.ret 7 1)
  (.ite 9 16 (a0<a1)
  (.ret 7 (-1))
  (.ite 9 19 (a0>a1)
  (.ret 7 1)
  (.ret 7 0)))))
noncomputable abbrev zLY:Fe:= .of Tryz.prog 277 zAl
def zR2 (a0:List Int) (x0:Int):St:=⟨[(8,nI x0),(7,nI (a0.length:Int)),(6,lI a0),(3,nI 0)],[]⟩
def zR7 (a0:List Int) (x:Unit):St:=⟨[(3,nI 0)],[]⟩
theorem zRi (a0:List Int):∀(x0:Int),Ok (zC7 a0 x0) (LR zLY (.exit 0) (zR7 a0) 277 0 (zR2 a0 x0)):=by
 refine zC7.partial_correctness a0 _ ?_
 intro f IH x0
 exact Tr.lpR (F:=zLY) (X:=Int)
  (.ite 6 9 (x0<(a0.length:Int))
   (.idx 6 eI a0 x0<| .iteN 9 14 ((at' a0 x0)=0)
   (.ret 10 (.inl (at' a0 x0)))
   (.again 7 (IntKind.i64.wrap (x0+1))))
   (.ret 4 (.inr ()))) _ fun x r=>IH x r
theorem zUA (a0:List Int):HS 277 (zH5 a0) [.lst (List.map (D.int .i64) a0)] zAl:=Tr.fn (F:=zLY)
 (.len 12 eI a0<| .loopR 4 id ⟨_,_,_,_,_,zRi a0 0⟩ fun j1=> .ret 7 0)
noncomputable abbrev zLD:Fe:= .of Tryz.prog 276 zAl
theorem zK6 (a0:zAa) (a1:zAa):HS 276 (zC3 a0 a1) [.agg [.int .i64 a0.F_place, .int .u64 a0.F_size], .agg [.int .i64 a1.F_place, .int .u64 a1.F_size]] zAl:=Tr.fn (F:=zLD)
 (.call 16 (zNh a1.F_size a0.F_size) zAo fun r1=> .hold 1 []<| .call 0 (zPr a0.F_place a1.F_place) zAo fun r2=> .call 1 (zUA [r1,r2]) zAo fun r3=> .ret 4 r3)
noncomputable abbrev zM8:Fe:= .of Tryz.prog 272 zAd
theorem zDj (a0:List zAa) (a1:Int) (a2:Int):HS 272 (zBv a0 a1 a2) [.lst (List.map zAa.en a0), .int .i64 a1, .int .i64 a2] zAd:=Tr.fn (F:=zM8)
 (.idx 8 zAa.e a0 a1<| .idx 3 zAa.e a0 a2<| .call 1 (zK6 (at' a0 a1) (at' a0 a2)) zAo fun r1=> .ret 4 (decide (r1>0)))
def zDT (v:(List zAa)):PV:= .tup []
def zDW (v:(List zAa)):List (Tg×List PV):=[(.up (.s 0),[.sl (.s 0) 2 0 (List.map zAa.en v)])]
noncomputable abbrev zLS:Fe:= .of Tryz.prog 275 zDT zDW
theorem zCO:∀v,(zDT v).noLst:=fun _=>trivial
theorem zCD:∀v,zCM (zDW v):=fun _=>⟨⟨(zAv fun _=>⟨trivial,trivial,trivial⟩),trivial⟩,trivial⟩
theorem zCV (a0:List zAa) (a1:Int) (a2:Int):HG 275 (zBo a0 a1 a2) [.sl (.h 0) 2 0 (List.map zAa.en a0),nI a1,nI a2] [(.up (.s 0),[.sl (.h 0) 2 0 (List.map zAa.en a0)])] zDT zDW:=Tr.fnG (F:=zLS)
 (.idx 7 zAa.e a0 a2<| .idx 3 zAa.e a0 a1<| .idx 1 zAa.e a0 a1<| .sto 0 [14,10,8,6,0] zAa.e a0 a1 (at' a0 a2)<| .hold 1 []<| .idx 0 zAa.e (a0.set (Int.toNat a1) (at' a0 a2)) a2<| .sto 0 [14,10,8,6,0] zAa.e (a0.set (Int.toNat a1) (at' a0 a2)) a2 (at' a0 a1)<| .ret 2 ((a0.set (Int.toNat a1) (at' a0 a2)).set (Int.toNat a2) (at' a0 a1)))
def zE4 (v:(List zAa)):PV:= .tup []
def zE5 (v:(List zAa)):List (Tg×List PV):=[(.up (.s 0),[.sl (.s 0) 2 0 (List.map zAa.en v)])]
noncomputable abbrev zFl:Fe:= .of Tryz.prog 199 zE4 zE5
def zLA (x0:Int) (x1:List zAa):St:=⟨[(0, .ifc 169 (.ptr (.up (.s 0)) 0)),(1,nI x0)],[(.up (.s 0),[.sl (.h 1) 2 0 (List.map zAa.en x1)])]⟩
def zLX (x:(List zAa)):St:=⟨[],[(.up (.s 0),[.sl (.h 2) 2 0 (List.map zAa.en x)])]⟩
theorem zKO:∀(x0:Int) (x1:List zAa),Ok (zBx x0 x1) (LN zFl (.exit 0) zLX 199 0 (zLA x0 x1)):=by
 refine zBx.partial_correctness _ ?_
 intro f IH x0 x1
 exact Tr.lpN (F:=zFl) (X:=Int×(List zAa))
  (.join 16 6 (γ:=Bool) ⟨fun x=>[(17,bB x)],[4,0,1],fun _=>[],[.up (.s 0)]⟩
   (.ite 0 11 ((IntKind.i64.wrap (Int.tdiv (IntKind.i64.wrap (x0-1)) 2))=x0)
   (.ret 7 true)
   (.call 3 (zDj x1 x0 (IntKind.i64.wrap (Int.tdiv (IntKind.i64.wrap (x0-1)) 2))) zAf fun r1=> .ret 3 (!r1)))
   fun j2=> .iteB 1 17 (j2)
   (.ret 5 x1)
   (.callB 7 [(.h 0, .h 1),(.up (.s 0), .up (.s 0))] (zCV x1 (IntKind.i64.wrap (Int.tdiv (IntKind.i64.wrap (x0-1)) 2)) x0) zCO zCD fun r3=> .again 6 (IntKind.i64.wrap (Int.tdiv (IntKind.i64.wrap (x0-1)) 2),r3))) _ fun x r=>IH x.1 x.2 r
theorem zM7:∀v,(zE4 v).noLst:=fun _=>trivial
theorem zMk:∀v,zCM (zE5 v):=fun _=>⟨⟨(zAv fun _=>⟨trivial,trivial,trivial⟩),trivial⟩,trivial⟩
theorem zM9 (a0:List zAa) (a1:Int):HG 199 (zFz a0 a1) [.ifc 169 (.ptr (.up (.s 0)) 0),nI a1] [(.up (.s 0),[.sl (.h 0) 2 0 (List.map zAa.en a0)])] zE4 zE5:=Tr.fnG (F:=zFl)
 (.loop 2 ⟨_,_,_,_,_,zKO a1 a0⟩ fun j4=> .ret 1 j4)
def zDK (v:(List zAa)):PV:= .tup []
def zDI (v:(List zAa)):List (Tg×List PV):=[(.up (.s 0),[.sl (.s 0) 2 0 (List.map zAa.en v)])]
noncomputable abbrev zKX:Fe:= .of Tryz.prog 173 zDK zDI
theorem zKp:∀v,(zDK v).noLst:=fun _=>trivial
theorem zKd:∀v,zCM (zDI v):=fun _=>⟨⟨(zAv fun _=>⟨trivial,trivial,trivial⟩),trivial⟩,trivial⟩
theorem zKw (a0:List zAa) (a1:Int) (a2:Int):HG 173 (zB4 a0 a1 a2) [.ifc 169 (.ptr (.up (.s 0)) 0), .d (.ifc 174 (.agg [.int .i64 a1, .int .u64 a2]))] [(.up (.s 0),[.sl (.h 0) 2 0 (List.map zAa.en a0)])] zDK zDI:=Tr.fnG (F:=zKX)
 (.callB 4 [(.up (.s 0), .up (.s 0)),(.h 0, .h 0)] (zKV a0 a1 a2) zK5 zKq fun r1=> .call 4 (zEX r1) zAo fun r2=> .callB 1 [(.up (.s 0), .up (.s 0)),(.h 0, .s 32)] (zM9 r1 (IntKind.i64.wrap (r2-1))) zM7 zMk fun r3=> .ret 1 r3)
def zD7 (v:Bool×(List zAa)):PV:=bB v.1
def zEd (v:Bool×(List zAa)):List (Tg×List PV):=[(.up (.s 0),[.sl (.s 0) 2 0 (List.map zAa.en v.2)])]
noncomputable abbrev zEq:Fe:= .of Tryz.prog 200 zD7 zEd
def zKM (a1:Int) (a2:Int) (x0:Int) (x1:List zAa):St:=⟨[(7,nI x0),(0, .ifc 169 (.ptr (.up (.s 0)) 0)),(1,nI a1),(2,nI a2)],[(.up (.s 0),[.sl (.h 1) 2 0 (List.map zAa.en x1)])]⟩
def zKk (a1:Int) (a2:Int) (x:Int×(List zAa)):St:=⟨[(7,nI x.1),(1,nI a1)],[(.up (.s 0),[.sl (.h 2) 2 0 (List.map zAa.en x.2)])]⟩
theorem zKh (a1:Int) (a2:Int):∀(x0:Int) (x1:List zAa),Ok (zAN a1 a2 x0 x1) (LN zEq (.exit 0) (zKk a1 a2) 200 0 (zKM a1 a2 x0 x1)):=by
 refine zAN.partial_correctness a1 a2 _ ?_
 intro f IH x0 x1
 exact Tr.lpN (F:=zEq) (X:=Int×(List zAa))
  (.join 16 3 (γ:=Bool) ⟨fun x=>[(21,bB x)],[8,7,0,1,2],fun _=>[],[.up (.s 0)]⟩
   (.ite 0 18 ((IntKind.i64.wrap ((IntKind.i64.wrap (2*x0))+1))≥a2)
   (.ret 4 true)
   (.ret 4 (decide ((IntKind.i64.wrap ((IntKind.i64.wrap (2*x0))+1))<0))))
   fun j1=> .iteB 1 21 (j1)
   (.ret 5 (x0,x1))
   (.let_ (IntKind.i64.wrap ((IntKind.i64.wrap ((IntKind.i64.wrap (2*x0))+1))+1):Int) fun y2=> .join 20 5 (γ:=Bool) ⟨fun x=>[(33,bB x)],[10,9,7,0,1,2],fun _=>[],[.up (.s 0)]⟩
   (.ite 0 28 (y2<a2)
   (.call 3 (zDj x1 y2 (IntKind.i64.wrap ((IntKind.i64.wrap (2*x0))+1))) zAf fun r4=> .ret 2 r4)
   (.ret 6 false))
   fun j5=> .iteB 1 33 (j5)
   (.call 11 (zDj x1 y2 x0) zAf fun r6=> .iteX 2 39 (r6)
   (.ret 5 (x0,x1))
   (.callB 7 [(.h 0, .h 1),(.up (.s 0), .up (.s 0))] (zCV x1 x0 y2) zCO zCD fun r7=> .again 6 (y2,r7)))
   (.call 8 (zDj x1 (IntKind.i64.wrap ((IntKind.i64.wrap (2*x0))+1)) x0) zAf fun r8=> .iteX 2 39 (r8)
   (.ret 5 (x0,x1))
   (.callB 7 [(.h 0, .h 1),(.up (.s 0), .up (.s 0))] (zCV x1 x0 (IntKind.i64.wrap ((IntKind.i64.wrap (2*x0))+1))) zCO zCD fun r9=> .again 6 (IntKind.i64.wrap ((IntKind.i64.wrap (2*x0))+1),r9))))) _ fun x r=>IH x.1 x.2 r
theorem zLx:∀v,(zD7 v).noLst:=fun _=>trivial
theorem zLk:∀v,zCM (zEd v):=fun _=>⟨⟨(zAv fun _=>⟨trivial,trivial,trivial⟩),trivial⟩,trivial⟩
theorem zL2 (a0:List zAa) (a1:Int) (a2:Int):HG 200 (zEr a0 a1 a2) [.ifc 169 (.ptr (.up (.s 0)) 0),nI a1,nI a2] [(.up (.s 0),[.sl (.h 0) 2 0 (List.map zAa.en a0)])] zD7 zEd:=Tr.fnG (F:=zEq)
 (.loop 12 ⟨_,_,_,_,_,zKh a1 a2 a1 a0⟩ fun j10=> .ret 9 (decide (j10.1>a1),j10.2))
def zE1 (v:Int×Int×(List zAa)):PV:= .d (.ifc 174 (.agg [.int .i64 v.1, .int .u64 v.2.1]))
def zEY (v:Int×Int×(List zAa)):List (Tg×List PV):=[(.up (.s 0),[.sl (.s 0) 2 0 (List.map zAa.en v.2.2)])]
noncomputable abbrev zNg:Fe:= .of Tryz.prog 273 zE1 zEY
theorem zMQ:∀v,(zE1 v).noLst:=fun _=>⟨trivial,trivial,trivial⟩
theorem zL8:∀v,zCM (zEY v):=fun _=>⟨⟨(zAv fun _=>⟨trivial,trivial,trivial⟩),trivial⟩,trivial⟩
theorem zMU (a0:List zAa):HG 273 (zFx a0) [.ptr (.up (.s 0)) 0] [(.up (.s 0),[.sl (.h 0) 2 0 (List.map zAa.en a0)])] zE1 zEY:=Tr.fnG (F:=zNg)
 (.len 16 zAa.e a0<| .cut 1 zAa.e a0 none (some (IntKind.i64.wrap ((a0.length:Int)-1)))<| .let_ (cut' a0 none (some (IntKind.i64.wrap ((a0.length:Int)-1))):List zAa) fun y1=> .len 7 zAa.e a0<| .idx 1 zAa.e a0 (IntKind.i64.wrap ((a0.length:Int)-1))<| .ret 5 ((at' a0 (IntKind.i64.wrap ((a0.length:Int)-1))).F_place,(at' a0 (IntKind.i64.wrap ((a0.length:Int)-1))).F_size,y1))
def zEu (v:Int×Int×(List zAa)):PV:= .d (.ifc 174 (.agg [.int .i64 v.1, .int .u64 v.2.1]))
def zEo (v:Int×Int×(List zAa)):List (Tg×List PV):=[(.up (.s 0),[.sl (.s 0) 2 0 (List.map zAa.en v.2.2)])]
noncomputable abbrev zNa:Fe:= .of Tryz.prog 175 zEu zEo
theorem zL4:∀v,(zEu v).noLst:=fun _=>⟨trivial,trivial,trivial⟩
theorem zLN:∀v,zCM (zEo v):=fun _=>⟨⟨(zAv fun _=>⟨trivial,trivial,trivial⟩),trivial⟩,trivial⟩
theorem zMh (a0:List zAa):HG 175 (zCy a0) [.ifc 169 (.ptr (.up (.s 0)) 0)] [(.up (.s 0),[.sl (.h 0) 2 0 (List.map zAa.en a0)])] zEu zEo:=Tr.fnG (F:=zNa)
 (.call 7 (zEX a0) zAo fun r1=> .callB 7 [(.h 0, .h 0),(.up (.s 0), .up (.s 0))] (zCV a0 0 (IntKind.i64.wrap (r1-1))) zCO zCD fun r2=> .callB 5 [(.up (.s 0), .up (.s 0)),(.h 0, .s 3232)] (zL2 r2 0 (IntKind.i64.wrap (r1-1))) zLx zLk fun r3=> .callB 4 [(.up (.s 0), .up (.s 0)),(.h 0, .s 4832)] (zMU r3.2) zMQ zL8 fun r4=> .ret 3 (r4.1,r4.2.1,r4.2.2))
noncomputable abbrev zKx:Fe:= .of Tryz.prog 176 zAF
def zRh (a0:List zAa) (x0:Int) (x1:List Int):St:=⟨[(11,nI x0),(10,nI (a0.length:Int)),(9, .d (.lst (List.map zAa.en a0))),(3,sI (.h 0) x1)],[]⟩
def zRe (a0:List zAa) (x:(List Int)):St:=⟨[(3,sI (.h 1) x)],[]⟩
theorem zQe (a0:List zAa):∀(x0:Int) (x1:List Int),Ok (zCH a0 x0 x1) (LN zKx (.exit 0) (zRe a0) 176 0 (zRh a0 x0 x1)):=by
 refine zCH.partial_correctness a0 _ ?_
 intro f IH x0 x1
 exact Tr.lpN (F:=zKx) (X:=Int×(List Int))
  (.ite 6 12 (x0<(a0.length:Int))
   (.idx 6 zAa.e a0 x0<| .app 9 eI 8 x1 [(at' a0 x0).F_place]<| .let_ (x1++[(at' a0 x0).F_place]:List Int) fun y3=> .again 7 (IntKind.i64.wrap (x0+1),y3))
   (.ret 4 x1)) _ fun x r=>IH x.1 x.2 r
theorem zTh (a0:List zAa):HS 176 (zHi a0) [.lst (List.map zAa.en a0)] zAF:=Tr.fn (F:=zKx)
 (.len 7 zAa.e a0<| .mk 0 eI 8 0 0 (a0.length:Int)<| .let_ (List.replicate (Int.toNat 0) 0:List Int) fun y1=> .len 6 zAa.e a0<| .loop 4 ⟨_,_,_,_,_,zQe a0 0 y1⟩ fun j5=> .ret 7 j5)
noncomputable abbrev zM5:Fe:= .of Tryz.prog 129 zAj
def zS3 (a0:Int) (r2:(List zAa)) (x0:Int) (x1:List zAa):St:=⟨[(28,nI x0),(27,nI (r2.length:Int)),(26, .sl (.s 9616) 2 0 (List.map zAa.en r2)),(6, .ptr (.s 8031) 0),(0,nI a0)],[(.s 8031,[.sl (.h 0) 2 0 (List.map zAa.en x1)])]⟩
def zTN (a0:Int) (r2:(List zAa)) (x:(List zAa)):St:=⟨[(6, .ptr (.s 8031) 0)],[(.s 8031,[.sl (.h 1) 2 0 (List.map zAa.en x)])]⟩
theorem zR1 (a0:Int) (r2:(List zAa)):∀(x0:Int) (x1:List zAa),Ok (zCJ a0 r2 x0 x1) (LN zM5 (.exit 1) (zTN a0 r2) 129 0 (zS3 a0 r2 x0 x1)):=by
 refine zCJ.partial_correctness a0 r2 _ ?_
 intro f IH x0 x1
 exact Tr.lpN (F:=zM5) (X:=Int×(List zAa))
  (.ite 6 29 (x0<(r2.length:Int))
   (.idx 6 zAa.e r2 x0<| .callB 10 [(.up (.s 0), .s 8031),(.h 0, .h 0)] (zKw x1 ((at' r2 x0).F_place) ((at' r2 x0).F_size)) zKp zKd fun r3=> .call 6 (zEX r3) zAo fun r4=> .ite 3 42 (r4>a0)
   (.callB 4 [(.up (.s 0), .s 8031),(.h 0, .s 14464)] (zMh r3) zL4 zLN fun r5=> .again 6 (IntKind.i64.wrap (x0+1),r5.2.2))
   (.again 7 (IntKind.i64.wrap (x0+1),r3)))
   (.ret 4 x1)) _ fun x r=>IH x.1 x.2 r
theorem zVX (a0:Int) (a1:List Int):HS 129 (zJJ a0 a1) [.int .i64 a0, .lst (List.map (D.int .i64) a1)] zAj:=Tr.fn (F:=zM5)
 (.len 10 eI a1<| .ite 3 10 ((a1.length:Int)>4096)
  (.ret 9 ([],3))
  (.join 6 5 (γ:=Bool) ⟨fun x=>[(22,bB x)],[0,1],fun _=>[],[]⟩
  (.ite 0 17 (a0<0)
  (.ret 6 true)
  (.len 2 eI a1<| .ret 3 (decide (a0>(a1.length:Int)))))
  fun j1=> .iteB 2 14 (j1)
  (.ret 9 ([],1))
  (.call 13 (zWp a1) zWE fun r2=> .len 0 zAa.e r2<| .loop 4 ⟨_,_,_,_,_,zR1 a0 r2 0 []⟩ fun j6=> .call 6 (zTh j6) zBS fun r7=> .srt 5 [51,9] (zPa r7) fun r8=> .ret 8 (r8,0))))
noncomputable abbrev zKC:Fe:= .of Tryz.prog 178 zAd
def zQO (a0:List Int) (x0:Int):St:=⟨[(3,nI x0),(0,lI a0)],[]⟩
def zQK (a0:List Int) (x:Unit):St:=⟨[],[]⟩
theorem zQf (a0:List Int):∀(x0:Int),Ok (zCd a0 x0) (LR zKC (.exit 0) (zQK a0) 178 0 (zQO a0 x0)):=by
 refine zCd.partial_correctness a0 _ ?_
 intro f IH x0
 exact Tr.lpR (F:=zKC) (X:=Int)
  (.len 6 eI a0<| .ite 2 7 (x0<(a0.length:Int))
   (.idx 9 eI a0 (IntKind.i64.wrap (x0-1))<| .idx 3 eI a0 x0<| .ite 3 19 ((at' a0 (IntKind.i64.wrap (x0-1)))≥(at' a0 x0))
   (.ret 9 (.inl false))
   (.again 8 (IntKind.i64.wrap (x0+1))))
   (.ret 4 (.inr ()))) _ fun x r=>IH x r
theorem zNt (a0:List Int):HS 178 (zEw a0) [.lst (List.map (D.int .i64) a0)] zAd:=Tr.fn (F:=zKC)
 (.loopR 11 id ⟨_,_,_,_,_,zQf a0 1⟩ fun j1=> .ret 6 true)
noncomputable abbrev zPB:Fe:= .of Tryz.prog 180 zAd
theorem zOS (a0:Int) (a1:List Int):HS 180 (zEL a0 a1) [.int .i64 a0, .cp [.lst (List.map (D.int .i64) a1)] 0] zAd:=Tr.fn (F:=zPB)
 (.join 9 5 (γ:=Bool) ⟨fun x=>[(11,bB x)],[],fun _=>[],[]⟩
  (.ite 0 6 (a0<0)
  (.ret 6 true)
  (.len 2 eI a1<| .ret 3 (decide (a0≥(a1.length:Int)))))
  fun j1=> .ret 3 j1)
noncomputable abbrev zBO:Fe:= .of Tryz.prog 203 zAl
def zE3 (a0:List Int) (a1:List Int) (x0:Int):St:=⟨[(8,nI x0),(7,nI (a0.length:Int)),(0,lI a0),(1, .d (.clo (.func 180) [] [.cp [.lst (List.map (D.int .i64) a1)] 0]))],[]⟩
def zET (a0:List Int) (a1:List Int) (x:Unit):St:=⟨[],[]⟩
theorem zEO (a0:List Int) (a1:List Int):∀(x0:Int),Ok (zAt a0 a1 x0) (LR zBO (.exit 0) (zET a0 a1) 203 0 (zE3 a0 a1 x0)):=by
 refine zAt.partial_correctness a0 a1 _ ?_
 intro f IH x0
 exact Tr.lpR (F:=zBO) (X:=Int)
  (.ite 6 9 (x0<(a0.length:Int))
   (.idx 14 eI a0 x0<| .call 1 (zOS (at' a0 x0) a1) zAf fun r1=> .iteB 1 16 (r1)
   (.ret 10 (.inl x0))
   (.again 7 (IntKind.i64.wrap (x0+1))))
   (.ret 4 (.inr ()))) _ fun x r=>IH x r
theorem zFh (a0:List Int) (a1:List Int):HS 203 (zBN a0 a1) [.lst (List.map (D.int .i64) a0), .clo (.func 180) [] [.cp [.lst (List.map (D.int .i64) a1)] 0]] zAl:=Tr.fn (F:=zBO)
 (.len 8 eI a0<| .loopR 4 id ⟨_,_,_,_,_,zEO a0 a1 0⟩ fun j2=> .ret 6 (-1))
noncomputable abbrev zE6:Fe:= .of Tryz.prog 179 zAd
theorem zEG (a0:List Int) (a1:List Int):HS 179 (zBj a0 a1) [.lst (List.map (D.int .i64) a0), .clo (.func 180) [] [.cp [.lst (List.map (D.int .i64) a1)] 0]] zAd:=Tr.fn (F:=zE6)
 (.call 8 (zFh a0 a1) zAo fun r1=> .ret 4 (decide (r1≥0)))
noncomputable abbrev zJh:Fe:= .of Tryz.prog 130 zAj
def zQg (a0:List Int) (a1:List Int) (x0:Int) (x1:List Int):St:=⟨[(22,nI x0),(21,nI (a0.length:Int)),(20,lI a0),(6,sI (.h 0) x1),(3, .ptr (.s 15) 0)],[(.s 15,[lI a1])]⟩
def zQc (a0:List Int) (a1:List Int) (x:(List Int)):St:=⟨[(6,sI (.h 1) x)],[]⟩
theorem zPF (a0:List Int) (a1:List Int):∀(x0:Int) (x1:List Int),Ok (zCp a0 a1 x0 x1) (LN zJh (.exit 0) (zQc a0 a1) 130 0 (zQg a0 a1 x0 x1)):=by
 refine zCp.partial_correctness a0 a1 _ ?_
 intro f IH x0 x1
 exact Tr.lpN (F:=zJh) (X:=Int×(List Int))
  (.ite 6 23 (x0<(a0.length:Int))
   (.idx 6 eI a0 x0<| .idx 7 eI a1 (at' a0 x0)<| .app 2 eI 8 x1 [at' a1 (at' a0 x0)]<| .let_ (x1++[at' a1 (at' a0 x0)]:List Int) fun y6=> .again 7 (IntKind.i64.wrap (x0+1),y6))
   (.ret 4 x1)) _ fun x r=>IH x.1 x.2 r
theorem zRw (a0:List Int) (a1:List Int):HS 130 (zGS a0 a1) [.lst (List.map (D.int .i64) a0), .lst (List.map (D.int .i64) a1)] zAj:=Tr.fn (F:=zJh)
 (.call 10 (zNt a0) zAf fun r1=> .join 2 4 (γ:=Bool) ⟨fun x=>[(16,bB x)],[3,0],fun _=>[],[.s 15]⟩
  (.iteX 0 12 (r1)
  (.ret 5 true)
  (.call 2 (zEG a0 a1) zAf fun r2=> .ret 2 r2))
  fun j3=> .iteB 1 16 (j3)
  (.ret 8 ([],1))
  (.len 5 eI a0<| .mk 0 eI 8 0 0 (a0.length:Int)<| .let_ (List.replicate (Int.toNat 0) 0:List Int) fun y4=> .len 6 eI a0<| .loop 4 ⟨_,_,_,_,_,zPF a0 a1 0 y4⟩ fun j8=> .ret 8 (j8,0)))
def zGa (v:Int×Int×(List Int)×(List Int)×Int×Int×Int):PV:= .tup [.agg [nI v.1,nI v.2.1,sI (.s 0) v.2.2.1,sI (.s 1) v.2.2.2.1,nI v.2.2.2.2.1,nI v.2.2.2.2.2.1, .nils, .nils],nI v.2.2.2.2.2.2]
noncomputable abbrev zWG:Fe:= .of Tryz.prog 76 zGa
theorem zKD:∀v,(zGa v).noLst:=fun _=>⟨⟨trivial,trivial,(zAv fun _=>trivial),(zAv fun _=>trivial),trivial,trivial,trivial,trivial,trivial⟩,trivial,trivial⟩
theorem zOJ (a0:Int) (a1:List Int):HS 76 (zGL a0 a1) [.int .i64 a0, .lst (List.map (D.int .i64) a1)] zGa:=Tr.fn (F:=zWG)
 (.len 9 eI a1<| .ite 2 11 ((a1.length:Int)=0)
  (.ret 9 (0,0,[],[],0,0,1))
  (.call 6 (zVX a0 a1) zAs fun r1=> .iteN 12 20 (r1.2=0)
  (.ret 10 (0,0,[],[],0,0,r1.2))
  (.call 6 (zRw r1.1 a1) zAs fun r2=> .iteN 12 30 (r2.2=0)
  (.ret 10 (0,0,[],[],0,0,r2.2))
  (.len 5 eI a1<| .ret 7 (1,(a1.length:Int),r1.1,r2.1,0,0,0)))))
noncomputable abbrev zTO:Fe:= .of Tryz.prog 75 zGa
theorem zSO (a0:zAk) (a1:List Int) (a2:Int) (a3:List Int):HS 75 (zJi a0 a1 a2 a3) [.agg [.int .i64 a0.F_Scheme, .int .i64 a0.F_K, .int .i64 a0.F_Wide], .lst (List.map (D.int .i64) a1), .int .u64 a2, .lst (List.map (D.int .i64) a3)] zGa:=Tr.fn (F:=zTO)
 (.call 11 (zOJ a0.F_K a1) zKD fun r1=> .ret 6 (r1.1,r1.2.1,r1.2.2.1,r1.2.2.2.1,r1.2.2.2.2.1,r1.2.2.2.2.2.1,r1.2.2.2.2.2.2))
def zFe (v:Int×Int):PV:= .tup [nU v.1,nI v.2]
noncomputable abbrev zUV:Fe:= .of Tryz.prog 133 zFe
theorem zGW:∀v,(zFe v).noLst:=fun _=>⟨trivial,trivial,trivial⟩
theorem zIY (a0:Int):HS 133 (zEv a0) [.int .i64 a0] zFe:=Tr.fn (F:=zUV)
 (.join 11 3 (γ:=Bool) ⟨fun x=>[(9,bB x)],[0],fun _=>[],[]⟩
  (.ite 0 6 (a0<1)
  (.ret 4 true)
  (.ret 4 (decide (a0>8))))
  fun j1=> .iteB 1 9 (j1)
  (.ret 8 (0,1))
  (.rd 5 (0≤a0) (nU (sShl .u64 1 a0))<| .ret 5 (IntKind.u64.wrap ((sShl .u64 1 a0)-1),0)))
noncomputable abbrev zAap:Fe:= .of Tryz.prog 103 zAD
theorem zSl (a0:Int) (a1:Int):HS 103 (zJS a0 a1) [.int .i64 a0, .int .i64 a1] zAD:=Tr.fn (F:=zAap)
 (.ite 24 17 ((bAnd .i64 (bXor .i64 a0 a1) (bXor .i64 a0 (IntKind.i64.wrap (a0-a1))))<0)
  (.ret 8 (0,2))
  (.ret 9 (IntKind.i64.wrap (a0-a1),0)))
noncomputable abbrev zZO:Fe:= .of Tryz.prog 104 zAD
theorem zYz (a0:Int):HS 104 (zOX a0) [.int .i64 a0] zAD:=Tr.fn (F:=zZO)
 (.call 8 (zSl 0 a0) zBl fun r1=> .ret 6 (r1.1,r1.2))
noncomputable abbrev zZM:Fe:= .of Tryz.prog 46 zAD
theorem zRQ (a0:Int):HS 46 (zKa a0) [.int .i64 a0] zAD:=Tr.fn (F:=zZM)
 (.ite 11 5 (a0≥0)
  (.ret 9 (a0,0))
  (.call 5 (zYz a0) zBl fun r1=> .ret 6 (r1.1,r1.2)))
noncomputable abbrev zNZ:Fe:= .of Tryz.prog 134 zAD
def zUS (a0:List Int) (x0:Int) (x1:Int):St:=⟨[(16,nI x0),(15,nI (a0.length:Int)),(14,lI a0),(2,nI x1)],[]⟩
def zUI (a0:List Int) (x:Int):St:=⟨[(2,nI x)],[]⟩
theorem zS6 (a0:List Int):∀(x0:Int) (x1:Int),Ok (zDE a0 x0 x1) (LR zNZ (.exit 0) (zUI a0) 134 0 (zUS a0 x0 x1)):=by
 refine zDE.partial_correctness a0 _ ?_
 intro f IH x0 x1
 exact Tr.lpR (F:=zNZ) (X:=Int×Int)
  (.ite 6 17 (x0<(a0.length:Int))
   (.idx 6 eI a0 x0<| .call 6 (zRQ (at' a0 x0)) zBl fun r2=> .iteN 12 26 (r2.2=0)
   (.ret 12 (.inl (0,r2.2)))
   (.again 13 (IntKind.i64.wrap (x0+1),if r2.1>x1 then r2.1 else x1)))
   (.ret 4 (.inr x1))) _ fun x r=>IH x.1 x.2 r
theorem zQw (a0:List Int):HS 134 (zHU a0) [.lst (List.map (D.int .i64) a0)] zAD:=Tr.fn (F:=zNZ)
 (.call 9 (zLQ a0) zAo fun r1=> .iteN 7 12 (r1=0)
  (.ret 9 (0,r1))
  (.len 6 eI a0<| .loopR 4 id ⟨_,_,_,_,_,zS6 a0 0 0⟩ fun j3=> .ret 8 (j3,0)))
noncomputable abbrev zVK:Fe:= .of Tryz.prog 182 zBy
theorem zOD (a0:Int):HS 182 (zGJ a0) [.int .i64 a0] zBy:=Tr.fn (F:=zVK)
 (.ite 10 4 (a0<0)
  (.ret 10 (IntKind.u64.wrap (0-(IntKind.u64.wrap a0))))
  (.ret 9 (IntKind.u64.wrap a0)))
def zDu (v:Int×Int):PV:= .tup [nU v.1,nU v.2]
noncomputable abbrev zQa:Fe:= .of Tryz.prog 183 zDu
theorem zEM:∀v,(zDu v).noLst:=fun _=>⟨trivial,trivial,trivial⟩
theorem zJ2 (a0:Int) (a1:Int):HS 183 (zDf a0 a1) [.int .u64 a0, .int .u64 a1] zDu:=Tr.fn (F:=zQa)
 (.ret 87 (IntKind.u64.wrap ((IntKind.u64.wrap ((IntKind.u64.wrap ((sShr .u64 a0 32)*(sShr .u64 a1 32)))+(sShr .u64 (IntKind.u64.wrap ((IntKind.u64.wrap ((sShr .u64 a0 32)*(bAnd .u64 a1 4294967295)))+(sShr .u64 (IntKind.u64.wrap ((bAnd .u64 a0 4294967295)*(bAnd .u64 a1 4294967295))) 32))) 32)))+(sShr .u64 (IntKind.u64.wrap ((bAnd .u64 (IntKind.u64.wrap ((IntKind.u64.wrap ((sShr .u64 a0 32)*(bAnd .u64 a1 4294967295)))+(sShr .u64 (IntKind.u64.wrap ((bAnd .u64 a0 4294967295)*(bAnd .u64 a1 4294967295))) 32))) 4294967295)+(IntKind.u64.wrap ((bAnd .u64 a0 4294967295)*(sShr .u64 a1 32))))) 32)),IntKind.u64.wrap (a0*a1)))
noncomputable abbrev zQh:Fe:= .of Tryz.prog 190 zAl
theorem zJ8 (a0:Int):HS 190 (zDO a0) [.int .u64 a0] zAl:=Tr.fn (F:=zQh)
 (.join 10 0 (γ:=Int×Int) ⟨fun x=>[(2,nI x.1),(0,nU x.2)],[],fun _=>[],[]⟩
  (.ite 0 4 (a0≥4294967296)
  (.ret 10 (32,sShr .u64 a0 32))
  (.ret 2 (0,a0)))
  fun j1=> .join 6 0 (γ:=Int×Int) ⟨fun x=>[(2,nI x.1),(0,nU x.2)],[],fun _=>[],[]⟩
  (.ite 0 8 (j1.2≥65536)
  (.ret 12 (IntKind.i64.wrap (j1.1+16),sShr .u64 j1.2 16))
  (.ret 2 (j1.1,j1.2)))
  fun j2=> .ite 6 14 (j2.2≥256)
  (.rd 17 (0≤(IntKind.u8.wrap (sShr .u64 j2.2 8))∧(IntKind.u8.wrap (sShr .u64 j2.2 8))<((ByteArray.mk #[0,1,2,2,3,3,3,3,4,4,4,4,4,4,4,4,5,5,5,5,5,5,5,5,5,5,5,5,5,5,5,5,6,6,6,6,6,6,6,6,6,6,6,6,6,6,6,6,6,6,6,6,6,6,6,6,6,6,6,6,6,6,6,6,7,7,7,7,7,7,7,7,7,7,7,7,7,7,7,7,7,7,7,7,7,7,7,7,7,7,7,7,7,7,7,7,7,7,7,7,7,7,7,7,7,7,7,7,7,7,7,7,7,7,7,7,7,7,7,7,7,7,7,7,7,7,7,7,8,8,8,8,8,8,8,8,8,8,8,8,8,8,8,8,8,8,8,8,8,8,8,8,8,8,8,8,8,8,8,8,8,8,8,8,8,8,8,8,8,8,8,8,8,8,8,8,8,8,8,8,8,8,8,8,8,8,8,8,8,8,8,8,8,8,8,8,8,8,8,8,8,8,8,8,8,8,8,8,8,8,8,8,8,8,8,8,8,8,8,8,8,8,8,8,8,8,8,8,8,8,8,8,8,8,8,8,8,8,8,8,8,8,8,8,8,8,8,8,8,8,8,8,8,8,8,8]).size:Int)) (nY (((ByteArray.mk #[0,1,2,2,3,3,3,3,4,4,4,4,4,4,4,4,5,5,5,5,5,5,5,5,5,5,5,5,5,5,5,5,6,6,6,6,6,6,6,6,6,6,6,6,6,6,6,6,6,6,6,6,6,6,6,6,6,6,6,6,6,6,6,6,7,7,7,7,7,7,7,7,7,7,7,7,7,7,7,7,7,7,7,7,7,7,7,7,7,7,7,7,7,7,7,7,7,7,7,7,7,7,7,7,7,7,7,7,7,7,7,7,7,7,7,7,7,7,7,7,7,7,7,7,7,7,7,7,8,8,8,8,8,8,8,8,8,8,8,8,8,8,8,8,8,8,8,8,8,8,8,8,8,8,8,8,8,8,8,8,8,8,8,8,8,8,8,8,8,8,8,8,8,8,8,8,8,8,8,8,8,8,8,8,8,8,8,8,8,8,8,8,8,8,8,8,8,8,8,8,8,8,8,8,8,8,8,8,8,8,8,8,8,8,8,8,8,8,8,8,8,8,8,8,8,8,8,8,8,8,8,8,8,8,8,8,8,8,8,8,8,8,8,8,8,8,8,8,8,8,8,8,8,8,8,8]).data.getD (Int.toNat (IntKind.u8.wrap (sShr .u64 j2.2 8))) 0).toNat:Int))<| .ret 5 (IntKind.i64.wrap ((IntKind.i64.wrap (j2.1+8))+(IntKind.i64.wrap (((ByteArray.mk #[0,1,2,2,3,3,3,3,4,4,4,4,4,4,4,4,5,5,5,5,5,5,5,5,5,5,5,5,5,5,5,5,6,6,6,6,6,6,6,6,6,6,6,6,6,6,6,6,6,6,6,6,6,6,6,6,6,6,6,6,6,6,6,6,7,7,7,7,7,7,7,7,7,7,7,7,7,7,7,7,7,7,7,7,7,7,7,7,7,7,7,7,7,7,7,7,7,7,7,7,7,7,7,7,7,7,7,7,7,7,7,7,7,7,7,7,7,7,7,7,7,7,7,7,7,7,7,7,8,8,8,8,8,8,8,8,8,8,8,8,8,8,8,8,8,8,8,8,8,8,8,8,8,8,8,8,8,8,8,8,8,8,8,8,8,8,8,8,8,8,8,8,8,8,8,8,8,8,8,8,8,8,8,8,8,8,8,8,8,8,8,8,8,8,8,8,8,8,8,8,8,8,8,8,8,8,8,8,8,8,8,8,8,8,8,8,8,8,8,8,8,8,8,8,8,8,8,8,8,8,8,8,8,8,8,8,8,8,8,8,8,8,8,8,8,8,8,8,8,8,8,8,8,8,8,8]).data.getD (Int.toNat (IntKind.u8.wrap (sShr .u64 j2.2 8))) 0).toNat:Int)))))
  (.rd 7 (0≤(IntKind.u8.wrap j2.2)∧(IntKind.u8.wrap j2.2)<((ByteArray.mk #[0,1,2,2,3,3,3,3,4,4,4,4,4,4,4,4,5,5,5,5,5,5,5,5,5,5,5,5,5,5,5,5,6,6,6,6,6,6,6,6,6,6,6,6,6,6,6,6,6,6,6,6,6,6,6,6,6,6,6,6,6,6,6,6,7,7,7,7,7,7,7,7,7,7,7,7,7,7,7,7,7,7,7,7,7,7,7,7,7,7,7,7,7,7,7,7,7,7,7,7,7,7,7,7,7,7,7,7,7,7,7,7,7,7,7,7,7,7,7,7,7,7,7,7,7,7,7,7,8,8,8,8,8,8,8,8,8,8,8,8,8,8,8,8,8,8,8,8,8,8,8,8,8,8,8,8,8,8,8,8,8,8,8,8,8,8,8,8,8,8,8,8,8,8,8,8,8,8,8,8,8,8,8,8,8,8,8,8,8,8,8,8,8,8,8,8,8,8,8,8,8,8,8,8,8,8,8,8,8,8,8,8,8,8,8,8,8,8,8,8,8,8,8,8,8,8,8,8,8,8,8,8,8,8,8,8,8,8,8,8,8,8,8,8,8,8,8,8,8,8,8,8,8,8,8,8]).size:Int)) (nY (((ByteArray.mk #[0,1,2,2,3,3,3,3,4,4,4,4,4,4,4,4,5,5,5,5,5,5,5,5,5,5,5,5,5,5,5,5,6,6,6,6,6,6,6,6,6,6,6,6,6,6,6,6,6,6,6,6,6,6,6,6,6,6,6,6,6,6,6,6,7,7,7,7,7,7,7,7,7,7,7,7,7,7,7,7,7,7,7,7,7,7,7,7,7,7,7,7,7,7,7,7,7,7,7,7,7,7,7,7,7,7,7,7,7,7,7,7,7,7,7,7,7,7,7,7,7,7,7,7,7,7,7,7,8,8,8,8,8,8,8,8,8,8,8,8,8,8,8,8,8,8,8,8,8,8,8,8,8,8,8,8,8,8,8,8,8,8,8,8,8,8,8,8,8,8,8,8,8,8,8,8,8,8,8,8,8,8,8,8,8,8,8,8,8,8,8,8,8,8,8,8,8,8,8,8,8,8,8,8,8,8,8,8,8,8,8,8,8,8,8,8,8,8,8,8,8,8,8,8,8,8,8,8,8,8,8,8,8,8,8,8,8,8,8,8,8,8,8,8,8,8,8,8,8,8,8,8,8,8,8,8]).data.getD (Int.toNat (IntKind.u8.wrap j2.2)) 0).toNat:Int))<| .ret 5 (IntKind.i64.wrap (j2.1+(IntKind.i64.wrap (((ByteArray.mk #[0,1,2,2,3,3,3,3,4,4,4,4,4,4,4,4,5,5,5,5,5,5,5,5,5,5,5,5,5,5,5,5,6,6,6,6,6,6,6,6,6,6,6,6,6,6,6,6,6,6,6,6,6,6,6,6,6,6,6,6,6,6,6,6,7,7,7,7,7,7,7,7,7,7,7,7,7,7,7,7,7,7,7,7,7,7,7,7,7,7,7,7,7,7,7,7,7,7,7,7,7,7,7,7,7,7,7,7,7,7,7,7,7,7,7,7,7,7,7,7,7,7,7,7,7,7,7,7,8,8,8,8,8,8,8,8,8,8,8,8,8,8,8,8,8,8,8,8,8,8,8,8,8,8,8,8,8,8,8,8,8,8,8,8,8,8,8,8,8,8,8,8,8,8,8,8,8,8,8,8,8,8,8,8,8,8,8,8,8,8,8,8,8,8,8,8,8,8,8,8,8,8,8,8,8,8,8,8,8,8,8,8,8,8,8,8,8,8,8,8,8,8,8,8,8,8,8,8,8,8,8,8,8,8,8,8,8,8,8,8,8,8,8,8,8,8,8,8,8,8,8,8,8,8,8,8]).data.getD (Int.toNat (IntKind.u8.wrap j2.2)) 0).toNat:Int))))))
noncomputable abbrev zKs:Fe:= .of Tryz.prog 204 zAl
theorem zKc (a0:Int):HS 204 (zCB a0) [.int .u64 a0] zAl:=Tr.fn (F:=zKs)
 (.call 7 (zJ8 a0) zAo fun r1=> .ret 4 (IntKind.i64.wrap (64-r1)))
noncomputable abbrev zDN:Fe:= .of Tryz.prog 184 zDu
def zOp (a1:Int) (a2:Int) (r3:Int) (y4:Int) (x0:Int) (x1:Int):St:=⟨[(16,nU x0),(15,nU x1),(14,nU (bAnd .u64 (sShl .u64 a1 (IntKind.u64.wrap r3)) 4294967295)),(13,nU (sShr .u64 (sShl .u64 a1 (IntKind.u64.wrap r3)) 32)),(11,nU y4),(10,nU (bAnd .u64 (sShl .u64 a2 (IntKind.u64.wrap r3)) 4294967295)),(9,nU (sShr .u64 (sShl .u64 a2 (IntKind.u64.wrap r3)) 32)),(2,nU (sShl .u64 a2 (IntKind.u64.wrap r3))),(8,nU (IntKind.u64.wrap r3))],[]⟩
def zOc (a1:Int) (a2:Int) (r3:Int) (y4:Int) (x:Int):St:=⟨[(15,nU x),(14,nU (bAnd .u64 (sShl .u64 a1 (IntKind.u64.wrap r3)) 4294967295)),(13,nU (sShr .u64 (sShl .u64 a1 (IntKind.u64.wrap r3)) 32)),(11,nU y4),(10,nU (bAnd .u64 (sShl .u64 a2 (IntKind.u64.wrap r3)) 4294967295)),(9,nU (sShr .u64 (sShl .u64 a2 (IntKind.u64.wrap r3)) 32)),(2,nU (sShl .u64 a2 (IntKind.u64.wrap r3))),(8,nU (IntKind.u64.wrap r3))],[]⟩
theorem zNo (a1:Int) (a2:Int) (r3:Int) (y4:Int):∀(x0:Int) (x1:Int),Ok (zBU a1 a2 r3 y4 x0 x1) (LN zDN (.exit 0) (zOc a1 a2 r3 y4) 184 0 (zOp a1 a2 r3 y4 x0 x1)):=by
 refine zBU.partial_correctness a1 a2 r3 y4 _ ?_
 intro f IH x0 x1
 exact Tr.lpN (F:=zDN) (X:=Int×Int)
  (.join 7 9 (γ:=Bool) ⟨fun x=>[(78,bB x)],[16,15,14,13,11,10,9,2,8],fun _=>[],[]⟩
   (.ite 0 69 (x1≥4294967296)
   (.ret 10 true)
   (.ret 10 (decide ((IntKind.u64.wrap (x1*(bAnd .u64 (sShl .u64 a2 (IntKind.u64.wrap r3)) 4294967295)))>(IntKind.u64.wrap ((IntKind.u64.wrap (4294967296*x0))+(sShr .u64 (sShl .u64 a1 (IntKind.u64.wrap r3)) 32)))))))
   fun j10=> .iteB 1 78 (j10)
   (.let_ (IntKind.u64.wrap (x0+(sShr .u64 (sShl .u64 a2 (IntKind.u64.wrap r3)) 32)):Int) fun y11=> .ite 21 85 (y11≥4294967296)
   (.ret 4 (IntKind.u64.wrap (x1-1)))
   (.again 3 (y11,IntKind.u64.wrap (x1-1))))
   (.ret 4 x1)) _ fun x r=>IH x.1 x.2 r
def zOx (a1:Int) (a2:Int) (r3:Int) (j13:Int) (y14:Int) (x0:Int) (x1:Int):St:=⟨[(16,nU x0),(18,nU x1),(17,nU y14),(15,nU j13),(14,nU (bAnd .u64 (sShl .u64 a1 (IntKind.u64.wrap r3)) 4294967295)),(10,nU (bAnd .u64 (sShl .u64 a2 (IntKind.u64.wrap r3)) 4294967295)),(9,nU (sShr .u64 (sShl .u64 a2 (IntKind.u64.wrap r3)) 32)),(2,nU (sShl .u64 a2 (IntKind.u64.wrap r3))),(8,nU (IntKind.u64.wrap r3))],[]⟩
def zOu (a1:Int) (a2:Int) (r3:Int) (j13:Int) (y14:Int) (x:Int):St:=⟨[(18,nU x),(17,nU y14),(15,nU j13),(14,nU (bAnd .u64 (sShl .u64 a1 (IntKind.u64.wrap r3)) 4294967295)),(2,nU (sShl .u64 a2 (IntKind.u64.wrap r3))),(8,nU (IntKind.u64.wrap r3))],[]⟩
theorem zNj (a1:Int) (a2:Int) (r3:Int) (j13:Int) (y14:Int):∀(x0:Int) (x1:Int),Ok (zBT a1 a2 r3 j13 y14 x0 x1) (LN zDN (.exit 2) (zOu a1 a2 r3 j13 y14) 184 1 (zOx a1 a2 r3 j13 y14 x0 x1)):=by
 refine zBT.partial_correctness a1 a2 r3 j13 y14 _ ?_
 intro f IH x0 x1
 exact Tr.lpN (F:=zDN) (X:=Int×Int)
  (.join 7 9 (γ:=Bool) ⟨fun x=>[(113,bB x)],[16,18,17,15,14,10,9,2,8],fun _=>[],[]⟩
   (.ite 0 104 (x1≥4294967296)
   (.ret 10 true)
   (.ret 10 (decide ((IntKind.u64.wrap (x1*(bAnd .u64 (sShl .u64 a2 (IntKind.u64.wrap r3)) 4294967295)))>(IntKind.u64.wrap ((IntKind.u64.wrap (4294967296*x0))+(bAnd .u64 (sShl .u64 a1 (IntKind.u64.wrap r3)) 4294967295)))))))
   fun j20=> .iteB 1 113 (j20)
   (.let_ (IntKind.u64.wrap (x0+(sShr .u64 (sShl .u64 a2 (IntKind.u64.wrap r3)) 32)):Int) fun y21=> .ite 21 120 (y21≥4294967296)
   (.ret 4 (IntKind.u64.wrap (x1-1)))
   (.again 3 (y21,IntKind.u64.wrap (x1-1))))
   (.ret 4 x1)) _ fun x r=>IH x.1 x.2 r
theorem zJ0 (a0:Int) (a1:Int) (a2:Int):HS 184 (zDg a0 a1 a2) [.int .u64 a0, .int .u64 a1, .int .u64 a2] zDu:=Tr.fn (F:=zDN)
 (.join 11 0 (γ:=Unit) ⟨fun _=>[],[0,1,2],fun _=>[],[]⟩
  (.ite 0 20 (a2=0)
  (.halt)
  (.ret 2 ()))
  fun j1=> .join 7 0 (γ:=Unit) ⟨fun _=>[],[0,1,2],fun _=>[],[]⟩
  (.ite 0 24 (a2≤a0)
  (.halt)
  (.ret 2 ()))
  fun j2=> .ite 6 27 (a0=0)
  (.rd 5 (a2≠0) (nU (IntKind.u64.wrap (Int.tdiv a1 a2)))<| .rd 2 (a2≠0) (nU (Int.tmod a1 a2))<| .ret 5 (IntKind.u64.wrap (Int.tdiv a1 a2),Int.tmod a1 a2))
  (.call 5 (zKc a2) zAo fun r3=> .rd 7 (0≤IntKind.u64.wrap r3) (nU (sShl .u64 a2 (IntKind.u64.wrap r3)))<| .rd 18 (0≤IntKind.u64.wrap r3) (nU (sShl .u64 a0 (IntKind.u64.wrap r3)))<| .rd 3 (0≤IntKind.u64.wrap (64-(IntKind.u64.wrap r3))) (nU (sShr .u64 a1 (IntKind.u64.wrap (64-(IntKind.u64.wrap r3)))))<| .let_ (bOr .u64 (sShl .u64 a0 (IntKind.u64.wrap r3)) (sShr .u64 a1 (IntKind.u64.wrap (64-(IntKind.u64.wrap r3)))):Int) fun y4=> .rd 7 (0≤IntKind.u64.wrap r3) (nU (sShl .u64 a1 (IntKind.u64.wrap r3)))<| .rd 18 (sShr .u64 (sShl .u64 a2 (IntKind.u64.wrap r3)) 32≠0) (nU (IntKind.u64.wrap (Int.tdiv y4 (sShr .u64 (sShl .u64 a2 (IntKind.u64.wrap r3)) 32))))<| .let_ (IntKind.u64.wrap (Int.tdiv y4 (sShr .u64 (sShl .u64 a2 (IntKind.u64.wrap r3)) 32)):Int) fun y6=> .let_ (IntKind.u64.wrap (y4-(IntKind.u64.wrap (y6*(sShr .u64 (sShl .u64 a2 (IntKind.u64.wrap r3)) 32)))):Int) fun y8=> .loop 14 ⟨_,_,_,_,_,zNo a1 a2 r3 y4 y8 y6⟩ fun j13=> .let_ (IntKind.u64.wrap ((IntKind.u64.wrap ((IntKind.u64.wrap (y4*4294967296))+(sShr .u64 (sShl .u64 a1 (IntKind.u64.wrap r3)) 32)))-(IntKind.u64.wrap (j13*(sShl .u64 a2 (IntKind.u64.wrap r3))))):Int) fun y14=> .rd 17 (sShr .u64 (sShl .u64 a2 (IntKind.u64.wrap r3)) 32≠0) (nU (IntKind.u64.wrap (Int.tdiv y14 (sShr .u64 (sShl .u64 a2 (IntKind.u64.wrap r3)) 32))))<| .let_ (IntKind.u64.wrap (Int.tdiv y14 (sShr .u64 (sShl .u64 a2 (IntKind.u64.wrap r3)) 32)):Int) fun y16=> .let_ (IntKind.u64.wrap (y14-(IntKind.u64.wrap (y16*(sShr .u64 (sShl .u64 a2 (IntKind.u64.wrap r3)) 32)))):Int) fun y18=> .loop 14 ⟨_,_,_,_,_,zNj a1 a2 r3 j13 y14 y18 y16⟩ fun j23=> .let_ (IntKind.u64.wrap ((IntKind.u64.wrap (j13*4294967296))+j23):Int) fun y24=> .let_ (IntKind.u64.wrap ((IntKind.u64.wrap ((IntKind.u64.wrap (y14*4294967296))+(bAnd .u64 (sShl .u64 a1 (IntKind.u64.wrap r3)) 4294967295)))-(IntKind.u64.wrap (j23*(sShl .u64 a2 (IntKind.u64.wrap r3))))):Int) fun y26=> .rd 16 (0≤IntKind.u64.wrap r3) (nU (sShr .u64 y26 (IntKind.u64.wrap r3)))<| .ret 4 (y24,sShr .u64 y26 (IntKind.u64.wrap r3))))
def zJm (v:Int×Int×Int):PV:= .tup [nU v.1,nU v.2.1,nI v.2.2]
noncomputable abbrev zU2:Fe:= .of Tryz.prog 135 zJm
theorem zNp:∀v,(zJm v).noLst:=fun _=>⟨trivial,trivial,trivial,trivial⟩
theorem zNC (a0:Int) (a1:Int) (a2:Int):HS 135 (zF9 a0 a1 a2) [.int .i64 a0, .int .i64 a1, .int .i64 a2] zJm:=Tr.fn (F:=zU2)
 (.call 9 (zIY a2) zGW fun r1=> .join 13 3 (γ:=Bool) ⟨fun x=>[(26,bB x)],[9,0,1],fun _=>[],[]⟩
  (.iteN 0 23 (r1.2=0)
  (.ret 4 true)
  (.ret 4 (decide (a1<0))))
  fun j2=> .join 1 6 (γ:=Bool) ⟨fun x=>[(33,bB x)],[9,0,1],fun _=>[],[]⟩
  (.iteB 0 27 (j2)
  (.ret 7 true)
  (.call 1 (zOD a0) zDy fun r3=> .ret 5 (decide (r3>(IntKind.u64.wrap a1)))))
  fun j4=> .iteB 2 20 (j4)
  (.ret 10 (0,0,1))
  (.ite 7 34 (a1=0)
  (.ret 10 (0,0,0))
  (.call 6 (zOD a0) zDy fun r5=> .call 1 (zJ2 r5 r1.1) zEM fun r6=> .call 12 (zJ0 r6.1 r6.2 (IntKind.u64.wrap a1)) zEM fun r7=> .ret 15 (r7.1,r7.2,0))))
noncomputable abbrev zMZ:Fe:= .of Tryz.prog 137 zAF
theorem zL3 (a0 : List Int) : HS 137 (zCx a0) [.lst (List.map (D.int .i64) a0)] zAF := Tr.fn (F := zMZ)
 (.nilq 8 eI.f a0
  (    if room 8 ([] ++ a0).length then
       some ([] ++ a0)
     else none)
  (    some [])
  (fun h => by (try obtain rfl := List.eq_nil_of_length_eq_zero h); first | rfl | (simp [h]; done))
  (.app 7 eI 8 [] a0 <| .ret 3 ([] ++ a0))
  (.ret 8 []))
noncomputable abbrev zMN:Fe:= .of Tryz.prog 231 zBy
theorem zL5 (a0:Int) (a1:Int):HS 231 (zEZ a0 a1) [.int .u64 a0, .int .i64 a1] zBy:=Tr.fn (F:=zMN)
 (.ret 22 (bXor .u64 (IntKind.u64.wrap ((bXor .u64 a0 (IntKind.u64.wrap a1))*11400714819323198485)) (sShr .u64 (IntKind.u64.wrap ((bXor .u64 a0 (IntKind.u64.wrap a1))*11400714819323198485)) 29)))
noncomputable abbrev zMT:Fe:= .of Tryz.prog 220 zBy
def zTI (a1:List Int) (x0:Int) (x1:Int):St:=⟨[(11,nI x0),(10,nI (a1.length:Int)),(9,lI a1),(5,nU x1)],[]⟩
def zSR (a1:List Int) (x:Int):St:=⟨[(5,nU x)],[]⟩
theorem zSz (a1:List Int):∀(x0:Int) (x1:Int),Ok (zDk a1 x0 x1) (LN zMT (.exit 0) (zSR a1) 220 0 (zTI a1 x0 x1)):=by
 refine zDk.partial_correctness a1 _ ?_
 intro f IH x0 x1
 exact Tr.lpN (F:=zMT) (X:=Int×Int)
  (.ite 6 12 (x0<(a1.length:Int))
   (.idx 6 eI a1 x0<| .call 6 (zL5 x1 (at' a1 x0)) zDy fun r1=> .again 7 (IntKind.i64.wrap (x0+1),r1))
   (.ret 4 x1)) _ fun x r=>IH x.1 x.2 r
theorem zW3 (a0:Int) (a1:List Int):HS 220 (zMP a0 a1) [.int .u64 a0, .lst (List.map (D.int .i64) a1)] zBy:=Tr.fn (F:=zMT)
 (.len 13 eI a1<| .loop 4 ⟨_,_,_,_,_,zSz a1 0 a0⟩ fun j2=> .ret 7 j2)
noncomputable abbrev zNk:Fe:= .of Tryz.prog 221 zBy
theorem zM6 (a0:Int):HS 221 (zHE a0) [.int .u64 a0] zBy:=Tr.fn (F:=zNk)
 (.ret 19 (bXor .u64 (IntKind.u64.wrap (a0*13787848793156543929)) (sShr .u64 (IntKind.u64.wrap (a0*13787848793156543929)) 32)))
noncomputable abbrev zZW:Fe:= .of Tryz.prog 205 zBy
theorem zYH (a0:Int) (a1:List Int):HS 205 (zMo a0 a1) [.int .u64 a0, .lst (List.map (D.int .i64) a1)] zBy:=Tr.fn (F:=zZW)
 (.call 8 (zW3 a0 a1) zDy fun r1=> .call 0 (zM6 r1) zDy fun r2=> .ret 3 r2)
noncomputable abbrev zV5:Fe:= .of Tryz.prog 185 zFe
theorem zUB (a0:Int) (a1:Int) (a2:List Int):HS 185 (zLL a0 a1 a2) [.int .u64 a0, .int .u64 a1, .lst (List.map (D.int .i64) a2)] zFe:=Tr.fn (F:=zV5)
 (.ite 11 9 (a0=0)
  (.ret 8 (0,1))
  (.call 6 (zYH a1 a2) zDy fun r1=> .rd 1 (a0≠0) (nU (Int.tmod r1 a0))<| .ret 4 (Int.tmod r1 a0,0)))
def zI3 (v:Bool×Int):PV:= .tup [bB v.1,nI v.2]
noncomputable abbrev zUy:Fe:= .of Tryz.prog 136 zI3
theorem zTA:∀v,(zI3 v).noLst:=fun _=>⟨trivial,trivial,trivial⟩
theorem zTi (a0:Int) (a1:Int) (a2:Int) (a3:List Int):HS 136 (zFX a0 a1 a2 a3) [.int .u64 a0, .int .u64 a1, .int .u64 a2, .lst (List.map (D.int .i64) a3)] zI3:=Tr.fn (F:=zUy)
 (.ite 12 14 (a0>a1)
  (.ret 8 (false,1))
  (.call 7 (zUB a1 a2 a3) zGW fun r1=> .join 11 4 (γ:=Bool) ⟨fun x=>[(28,bB x)],[11],fun _=>[],[]⟩
  (.ite 0 24 (r1.2=0)
  (.ret 5 (decide (r1.1<a0)))
  (.ret 5 false))
  fun j2=> .ret 5 (j2,r1.2)))
def zFp (v:Int×Int×Int×Int×(List Int)×(List Bool)×Int):PV:= .tup [.agg [nI v.1,nI v.2.1, .nils, .nils,nI v.2.2.1,nI v.2.2.2.1,sU (.s 0) v.2.2.2.2.1,sB (.s 1) v.2.2.2.2.2.1],nI v.2.2.2.2.2.2]
noncomputable abbrev zKG:Fe:= .of Tryz.prog 83 zFp
def zQV (a0:List Int) (a1:Int) (a2:Int) (a3:List Int) (r3:Int×Int) (x0:Int) (x1:List Int) (x2:List Bool):St:=⟨[(57,nI x0),(56,nI (a0.length:Int)),(55,lI a0),(14, .ptr (.s 11391) 0),(12,nI r3.1),(8, .ptr (.s 15) 0),(1,nI a1),(2,nU a2),(3,lI a3)],[(.s 11391,[nI 2,nI (a0.length:Int), .nils, .nils,nI r3.1,nI a1,sU (.h 0) x1,sB (.h 1) x2]),(.s 15,[nI 0,nI 0, .nils, .nils,nI 0,nI 0, .nils, .nils])]⟩
def zRa (a0:List Int) (a1:Int) (a2:Int) (a3:List Int) (r3:Int×Int) (x:(List Int)×(List Bool)):St:=⟨[(14, .ptr (.s 11391) 0),(8, .ptr (.s 15) 0)],[(.s 11391,[nI 2,nI (a0.length:Int), .nils, .nils,nI r3.1,nI a1,sU (.h 2) x.1,sB (.h 3) x.2]),(.s 15,[nI 0,nI 0, .nils, .nils,nI 0,nI 0, .nils, .nils])]⟩
theorem zQb (a0:List Int) (a1:Int) (a2:Int) (a3:List Int) (r3:Int×Int):∀(x0:Int) (x1:List Int) (x2:List Bool),Ok (zCI a0 a1 a2 a3 r3 x0 x1 x2) (LR zKG (.exit 0) (zRa a0 a1 a2 a3 r3) 83 0 (zQV a0 a1 a2 a3 r3 x0 x1 x2)):=by
 refine zCI.partial_correctness a0 a1 a2 a3 r3 _ ?_
 intro f IH x0 x1 x2
 exact Tr.lpR (F:=zKG) (X:=Int×(List Int)×(List Bool))
  (.ite 6 58 (x0<(a0.length:Int))
   (.idx 7 eI a0 x0<| .call 9 (zNC (at' a0 x0) r3.1 a1) zNp fun r9=> .iteN 14 71 (r9.2.2=0)
   (.ret 13 (.inl (0,0,0,0,[],[],r9.2.2)))
   (.joinR 8 0 (γ:=Int) ⟨fun x=>[(17,nU x)],[16,15,57,56,55,14,12,8,1,2,3],fun _=>[],[.s 11391, .s 15]⟩ .inl
   (.ite 0 75 (r9.2.1>0)
   (.call 8 (zL3 a3) zBS fun r10=> .app 2 eI 8 r10 [x0]<| .call 0 (zTi r9.2.1 (IntKind.u64.wrap r3.1) a2 (r10++[x0])) zTA fun r11=> .iteN 12 90 (r11.2=0)
   (.ret 10 (.inl (0,0,0,0,[],[],r11.2)))
   (.iteB 6 93 (r11.1)
   (.ret 6 (.inr (IntKind.u64.wrap (r9.1+1))))
   (.ret 2 (.inr r9.1))))
   (.ret 2 (.inr r9.1)))
   fun j12=> .idx 10 eU x1 x0<| .sto 0 [97] eU x1 x0 j12<| .hold 1 []<| .idx 0 eB x2 x0<| .sto 0 [100] eB x2 x0 (decide ((at' a0 x0)<0))<| .let_ (x1.set (Int.toNat x0) j12:List Int) fun y13=> .let_ (x2.set (Int.toNat x0) (decide ((at' a0 x0)<0)):List Bool) fun y15=> .again 7 (IntKind.i64.wrap (x0+1),y13,y15)))
   (.ret 4 (.inr (x1,x2)))) _ fun x r=>IH x.1 x.2.1 x.2.2 r
theorem zNL:∀v,(zFp v).noLst:=fun _=>⟨⟨trivial,trivial,trivial,trivial,trivial,trivial,(zAv fun _=>trivial),(zAv fun _=>trivial),trivial⟩,trivial,trivial⟩
theorem zTD (a0 : List Int) (a1 : Int) (a2 : Int) (a3 : List Int) : HS 83 (zHp a0 a1 a2 a3) [.lst (List.map (D.int .i64) a0), .int .i64 a1, .int .u64 a2, .lst (List.map (D.int .i64) a3)] zFp := Tr.fn (F := zKG)
 (.call 9 (zIY a1) zGW fun r1 => .join 11 4 (γ := Bool) ⟨fun x => [(33, bB x)], [8, 0, 1, 2, 3], fun _ => [], [.s 15]⟩
  (.iteN 0 29 (r1.2 = 0)
  (.ret 5 true)
  (.len 1 eI a0 <| .ret 3 ((a0.length : Int) == 0)))
  fun j2 => .iteB 1 33 (j2)
  (.ret 9 (0, 0, 0, 0, [], [], 1))
  (.call 5 (zQw a0) zBl fun r3 => .iteN 12 41 (r3.2 = 0)
  (.ret 10 (0, 0, 0, 0, [], [], r3.2))
  (.join 3 0 (γ := Unit) ⟨fun x => [(14, .ptr (.s 11391) 0)], [12, 8, 0, 1, 2, 3], fun x => [(.s 11391, [nI 2, nI (a0.length : Int), .nils, .nils, nI r3.1, nI a1, sU (.s 11311) (List.replicate (Int.toNat (a0.length : Int)) 0), sB (.s 11359) (List.replicate (Int.toNat (a0.length : Int)) false)])], [.s 15]⟩
  (.drawsL 0
  (.alt
  (    if 0 ≤ (a0.length : Int) ∧ (a0.length : Int) ≤ (a0.length : Int) ∧ (a0.length : Int) ≤ 140737488355328 ∧ (a0.length : Int) * ((8 : Nat) : Int) ≤ 140737488355328 then
       if 0 ≤ (a0.length : Int) ∧ (a0.length : Int) ≤ (a0.length : Int) ∧ (a0.length : Int) ≤ 140737488355328 ∧ (a0.length : Int) * ((1 : Nat) : Int) ≤ 140737488355328 then
         some ()
       else none
     else none)
  (    if 0 ≤ (a0.length : Int) ∧ (a0.length : Int) ≤ (a0.length : Int) ∧ (a0.length : Int) ≤ 140737488355328 ∧ (a0.length : Int) * ((8 : Nat) : Int) ≤ 140737488355328 then
       if 0 ≤ (a0.length : Int) ∧ (a0.length : Int) ≤ (a0.length : Int) ∧ (a0.length : Int) ≤ 140737488355328 ∧ (a0.length : Int) * ((1 : Nat) : Int) ≤ 140737488355328 then
         some ()
       else none
     else none)
  rfl
  (.len 1 eI a0 <| .len 3 eI a0 <| .len 1 eI a0 <| .mk 0 eU 8 0 (a0.length : Int) (a0.length : Int) <| .hold 1 [.c, .len eI.f a0, .c, .c, .c, .len eI.f a0] <| .mk 0 eB 1 false (a0.length : Int) (a0.length : Int) <| .hold 1 [.c, .len eI.f a0, .c, .c] <| .hold 3 [.c, .len eI.f a0, .c, .c, .c] <| .ret 3 ())
  (.alt
  (    if 0 ≤ (a0.length : Int) ∧ (a0.length : Int) ≤ (a0.length : Int) ∧ (a0.length : Int) ≤ 140737488355328 ∧ (a0.length : Int) * ((8 : Nat) : Int) ≤ 140737488355328 then
       if 0 ≤ (a0.length : Int) ∧ (a0.length : Int) ≤ (a0.length : Int) ∧ (a0.length : Int) ≤ 140737488355328 ∧ (a0.length : Int) * ((1 : Nat) : Int) ≤ 140737488355328 then
         some ()
       else none
     else none)
  (    if 0 ≤ (a0.length : Int) ∧ (a0.length : Int) ≤ (a0.length : Int) ∧ (a0.length : Int) ≤ 140737488355328 ∧ (a0.length : Int) * ((8 : Nat) : Int) ≤ 140737488355328 then
       if 0 ≤ (a0.length : Int) ∧ (a0.length : Int) ≤ (a0.length : Int) ∧ (a0.length : Int) ≤ 140737488355328 ∧ (a0.length : Int) * ((1 : Nat) : Int) ≤ 140737488355328 then
         some ()
       else none
     else none)
  rfl
  (.len 1 eI a0 <| .len 3 eI a0 <| .len 1 eI a0 <| .mk 0 eU 8 0 (a0.length : Int) (a0.length : Int) <| .hold 1 [.c, .len eI.f a0, .c, .c, .c, .len eI.f a0] <| .hold 2 [.c, .len eI.f a0, .c, .c, .c, .len eI.f a0] <| .mk 0 eB 1 false (a0.length : Int) (a0.length : Int) <| .hold 1 [.c, .len eI.f a0, .c, .c] <| .ret 4 ())
  (.alt
  (    if 0 ≤ (a0.length : Int) ∧ (a0.length : Int) ≤ (a0.length : Int) ∧ (a0.length : Int) ≤ 140737488355328 ∧ (a0.length : Int) * ((8 : Nat) : Int) ≤ 140737488355328 then
       if 0 ≤ (a0.length : Int) ∧ (a0.length : Int) ≤ (a0.length : Int) ∧ (a0.length : Int) ≤ 140737488355328 ∧ (a0.length : Int) * ((1 : Nat) : Int) ≤ 140737488355328 then
         some ()
       else none
     else none)
  (    if 0 ≤ (a0.length : Int) ∧ (a0.length : Int) ≤ (a0.length : Int) ∧ (a0.length : Int) ≤ 140737488355328 ∧ (a0.length : Int) * ((1 : Nat) : Int) ≤ 140737488355328 then
       if 0 ≤ (a0.length : Int) ∧ (a0.length : Int) ≤ (a0.length : Int) ∧ (a0.length : Int) ≤ 140737488355328 ∧ (a0.length : Int) * ((8 : Nat) : Int) ≤ 140737488355328 then
         some ()
       else none
     else none)
  (by (repeat' split) <;> first | rfl | contradiction | (simp_all; done) | omega)
  (.len 1 eI a0 <| .len 3 eI a0 <| .len 1 eI a0 <| .mk 0 eB 1 false (a0.length : Int) (a0.length : Int) <| .hold 1 [.c, .len eI.f a0, .c, .c, .c, .len eI.f a0] <| .mk 0 eU 8 0 (a0.length : Int) (a0.length : Int) <| .hold 1 [.c, .len eI.f a0, .c, .c] <| .hold 3 [.c, .len eI.f a0, .c, .c, .c] <| .ret 3 ())
  (.alt
  (    if 0 ≤ (a0.length : Int) ∧ (a0.length : Int) ≤ (a0.length : Int) ∧ (a0.length : Int) ≤ 140737488355328 ∧ (a0.length : Int) * ((8 : Nat) : Int) ≤ 140737488355328 then
       if 0 ≤ (a0.length : Int) ∧ (a0.length : Int) ≤ (a0.length : Int) ∧ (a0.length : Int) ≤ 140737488355328 ∧ (a0.length : Int) * ((1 : Nat) : Int) ≤ 140737488355328 then
         some ()
       else none
     else none)
  (    if 0 ≤ (a0.length : Int) ∧ (a0.length : Int) ≤ (a0.length : Int) ∧ (a0.length : Int) ≤ 140737488355328 ∧ (a0.length : Int) * ((1 : Nat) : Int) ≤ 140737488355328 then
       if 0 ≤ (a0.length : Int) ∧ (a0.length : Int) ≤ (a0.length : Int) ∧ (a0.length : Int) ≤ 140737488355328 ∧ (a0.length : Int) * ((8 : Nat) : Int) ≤ 140737488355328 then
         some ()
       else none
     else none)
  (by (repeat' split) <;> first | rfl | contradiction | (simp_all; done) | omega)
  (.len 1 eI a0 <| .len 3 eI a0 <| .len 1 eI a0 <| .mk 0 eB 1 false (a0.length : Int) (a0.length : Int) <| .hold 1 [.c, .len eI.f a0, .c, .c, .c, .len eI.f a0] <| .hold 2 [.c, .len eI.f a0, .c, .c, .c, .len eI.f a0] <| .mk 0 eU 8 0 (a0.length : Int) (a0.length : Int) <| .hold 1 [.c, .len eI.f a0, .c, .c] <| .ret 4 ())
  (.alt
  (    if 0 ≤ (a0.length : Int) ∧ (a0.length : Int) ≤ (a0.length : Int) ∧ (a0.length : Int) ≤ 140737488355328 ∧ (a0.length : Int) * ((8 : Nat) : Int) ≤ 140737488355328 then
       if 0 ≤ (a0.length : Int) ∧ (a0.length : Int) ≤ (a0.length : Int) ∧ (a0.length : Int) ≤ 140737488355328 ∧ (a0.length : Int) * ((1 : Nat) : Int) ≤ 140737488355328 then
         some ()
       else none
     else none)
  (    if 0 ≤ (a0.length : Int) ∧ (a0.length : Int) ≤ (a0.length : Int) ∧ (a0.length : Int) ≤ 140737488355328 ∧ (a0.length : Int) * ((8 : Nat) : Int) ≤ 140737488355328 then
       if 0 ≤ (a0.length : Int) ∧ (a0.length : Int) ≤ (a0.length : Int) ∧ (a0.length : Int) ≤ 140737488355328 ∧ (a0.length : Int) * ((1 : Nat) : Int) ≤ 140737488355328 then
         some ()
       else none
     else none)
  rfl
  (.len 1 eI a0 <| .len 3 eI a0 <| .len 1 eI a0 <| .hold 2 [.c, .len eI.f a0, .c, .c, .c, .len eI.f a0, .c, .len eI.f a0] <| .mk 0 eU 8 0 (a0.length : Int) (a0.length : Int) <| .hold 1 [.c, .len eI.f a0, .c, .c, .c, .len eI.f a0] <| .mk 0 eB 1 false (a0.length : Int) (a0.length : Int) <| .hold 1 [.c, .len eI.f a0, .c, .c] <| .ret 4 ())
  (.alt
  (    if 0 ≤ (a0.length : Int) ∧ (a0.length : Int) ≤ (a0.length : Int) ∧ (a0.length : Int) ≤ 140737488355328 ∧ (a0.length : Int) * ((8 : Nat) : Int) ≤ 140737488355328 then
       if 0 ≤ (a0.length : Int) ∧ (a0.length : Int) ≤ (a0.length : Int) ∧ (a0.length : Int) ≤ 140737488355328 ∧ (a0.length : Int) * ((1 : Nat) : Int) ≤ 140737488355328 then
         some ()
       else none
     else none)
  (    if 0 ≤ (a0.length : Int) ∧ (a0.length : Int) ≤ (a0.length : Int) ∧ (a0.length : Int) ≤ 140737488355328 ∧ (a0.length : Int) * ((1 : Nat) : Int) ≤ 140737488355328 then
       if 0 ≤ (a0.length : Int) ∧ (a0.length : Int) ≤ (a0.length : Int) ∧ (a0.length : Int) ≤ 140737488355328 ∧ (a0.length : Int) * ((8 : Nat) : Int) ≤ 140737488355328 then
         some ()
       else none
     else none)
  (by (repeat' split) <;> first | rfl | contradiction | (simp_all; done) | omega)
  (.len 1 eI a0 <| .len 3 eI a0 <| .len 1 eI a0 <| .hold 2 [.c, .len eI.f a0, .c, .c, .c, .len eI.f a0, .c, .len eI.f a0] <| .mk 0 eB 1 false (a0.length : Int) (a0.length : Int) <| .hold 1 [.c, .len eI.f a0, .c, .c, .c, .len eI.f a0] <| .mk 0 eU 8 0 (a0.length : Int) (a0.length : Int) <| .hold 1 [.c, .len eI.f a0, .c, .c] <| .ret 4 ())
  (.altE
  (    if 0 ≤ (a0.length : Int) ∧ (a0.length : Int) ≤ (a0.length : Int) ∧ (a0.length : Int) ≤ 140737488355328 ∧ (a0.length : Int) * ((8 : Nat) : Int) ≤ 140737488355328 then
       if 0 ≤ (a0.length : Int) ∧ (a0.length : Int) ≤ (a0.length : Int) ∧ (a0.length : Int) ≤ 140737488355328 ∧ (a0.length : Int) * ((1 : Nat) : Int) ≤ 140737488355328 then
         some ()
       else none
     else none)))))))))
  fun j4 => .let_ (List.replicate (Int.toNat (a0.length : Int)) 0 : List Int) fun y5 => .let_ (List.replicate (Int.toNat (a0.length : Int)) false : List Bool) fun y7 => .len 4 eI a0 <| .loopR 4 id ⟨_, _, _, _, _, zQb a0 a1 a2 a3 r3 0 y5 y7⟩ fun j17 => .ret 8 (2, (a0.length : Int), r3.1, a1, j17.1, j17.2, 0))))
noncomputable abbrev zTp:Fe:= .of Tryz.prog 82 zFp
theorem zRs (a0:zAk) (a1:List Int) (a2:Int) (a3:List Int):HS 82 (zIH a0 a1 a2 a3) [.agg [.int .i64 a0.F_Scheme, .int .i64 a0.F_K, .int .i64 a0.F_Wide], .lst (List.map (D.int .i64) a1), .int .u64 a2, .lst (List.map (D.int .i64) a3)] zFp:=Tr.fn (F:=zTp)
 (.call 13 (zTD a1 a0.F_Wide a2 a3) zNL fun r1=> .ret 6 (r1.1,r1.2.1,r1.2.2.1,r1.2.2.2.1,r1.2.2.2.2.1,r1.2.2.2.2.2.1,r1.2.2.2.2.2.2))
noncomputable abbrev zS9:Fe:= .of Tryz.prog 45 zAD
theorem zSi (a0:Int) (a1:List Int):HS 45 (zIO a0 a1) [.int .i64 a0, .cp [.lst (List.map (D.int .i64) a1)] 0] zAD:=Tr.fn (F:=zS9)
 (.idx 9 eI a1 a0<| .call 1 (zRQ (at' a1 a0)) zBl fun r1=> .ret 6 (r1.1,r1.2))
noncomputable abbrev zE0:Fe:= .of Tryz.prog 44 zAD
def zLd (a0:Int) (a1:List Int) (x0:Int) (x1:Int):St:=⟨[(10,nI x0),(9,nI a0),(4,nI x1),(1, .d (.clo (.func 45) [] [.cp [.lst (List.map (D.int .i64) a1)] 0]))],[]⟩
def zKP (a0:Int) (a1:List Int) (x:Int):St:=⟨[(4,nI x)],[]⟩
theorem zKt (a0:Int) (a1:List Int):∀(x0:Int) (x1:Int),Ok (zA8 a0 a1 x0 x1) (LR zE0 (.exit 0) (zKP a0 a1) 44 0 (zLd a0 a1 x0 x1)):=by
 refine zA8.partial_correctness a0 a1 _ ?_
 intro f IH x0 x1
 exact Tr.lpR (F:=zE0) (X:=Int×Int)
  (.ite 6 11 (x0<a0)
   (.call 13 (zSi x0 a1) zBl fun r1=> .ite 12 20 (r1.2=0)
   (.call 4 (zSa x1 r1.1) zBl fun r2=> .iteN 11 28 (r2.2=0)
   (.ret 11 (.inl (0,r2.2)))
   (.again 7 (IntKind.i64.wrap (x0+1),r2.1)))
   (.iteN 7 28 (r1.2=0)
   (.ret 11 (.inl (0,r1.2)))
   (.again 7 (IntKind.i64.wrap (x0+1),x1))))
   (.ret 4 (.inr x1))) _ fun x r=>IH x.1 x.2 r
theorem zMg (a0:Int) (a1:List Int):HS 44 (zE2 a0 a1) [.int .i64 a0, .clo (.func 45) [] [.cp [.lst (List.map (D.int .i64) a1)] 0]] zAD:=Tr.fn (F:=zE0)
 (.loopR 13 id ⟨_,_,_,_,_,zKt a0 a1 0 0⟩ fun j3=> .ret 8 (j3,0))
noncomputable abbrev zYx:Fe:= .of Tryz.prog 21 zAD
theorem zXc (a0:List Int):HS 21 (zK4 a0) [.lst (List.map (D.int .i64) a0)] zAD:=Tr.fn (F:=zYx)
 (.call 10 (zLQ a0) zAo fun r1=> .iteN 7 8 (r1=0)
  (.ret 9 (0,r1))
  (.len 5 eI a0<| .call 1 (zMg (a0.length:Int) a0) zBl fun r2=> .ret 6 (r2.1,r2.2)))
noncomputable abbrev zXe:Fe:= .of Tryz.prog 140 zAD
theorem zVE (a0:List Int):HS 140 (zJI a0) [.lst (List.map (D.int .i64) a0)] zAD:=Tr.fn (F:=zXe)
 (.len 9 eI a0<| .ite 2 8 ((a0.length:Int)=0)
  (.ret 8 (0,1))
  (.call 5 (zXc a0) zBl fun r1=> .len 10 eI a0<| .rd 0 ((a0.length:Int)≠0) (nI (IntKind.i64.wrap (Int.tdiv r1.1 (a0.length:Int))))<| .ret 5 (IntKind.i64.wrap (Int.tdiv r1.1 (a0.length:Int)),r1.2)))
noncomputable abbrev zTc:Fe:= .of Tryz.prog 142 zAd
theorem zRq (a0:Int):HS 142 (zJo a0) [.int .i64 a0] zAd:=Tr.fn (F:=zTc)
 (.ret 11 (decide (a0<0)))
def zCb (v:(List Bool)):PV:=sB (.s 0) v
noncomputable abbrev zCm:Fe:= .of Tryz.prog 141 zCb
def zGn (a0:List Int) (x0:Int) (x1:List Bool):St:=⟨[(13,nI x0),(12,nI (a0.length:Int)),(11,lI a0),(5,sB (.h 0) x1),(1, .d (.clo (.func 142) [] []))],[]⟩
def zGm (a0:List Int) (x:(List Bool)):St:=⟨[(5,sB (.h 1) x)],[]⟩
theorem zFZ (a0:List Int):∀(x0:Int) (x1:List Bool),Ok (zAz a0 x0 x1) (LN zCm (.exit 0) (zGm a0) 141 0 (zGn a0 x0 x1)):=by
 refine zAz.partial_correctness a0 _ ?_
 intro f IH x0 x1
 exact Tr.lpN (F:=zCm) (X:=Int×(List Bool))
  (.ite 6 14 (x0<(a0.length:Int))
   (.idx 6 eI a0 x0<| .call 7 (zRq (at' a0 x0)) zAf fun r3=> .app 1 eB 1 x1 [r3]<| .again 7 (IntKind.i64.wrap (x0+1),x1++[r3]))
   (.ret 4 x1)) _ fun x r=>IH x.1 x.2 r
theorem zGy:∀v,(zCb v).noLst:=fun _=>(zAv fun _=>trivial)
theorem zGO (a0:List Int):HS 141 (zCk a0) [.lst (List.map (D.int .i64) a0), .clo (.func 142) [] []] zCb:=Tr.fn (F:=zCm)
 (.len 7 eI a0<| .mk 0 eB 1 false 0 (a0.length:Int)<| .let_ (List.replicate (Int.toNat 0) false:List Bool) fun y1=> .len 6 eI a0<| .loop 4 ⟨_,_,_,_,_,zFZ a0 0 y1⟩ fun j4=> .ret 7 j4)
def zFW (v:Int×Int×Int×Int×(List Bool)×Int):PV:= .tup [.agg [nI v.1,nI v.2.1, .nils, .nils,nI v.2.2.1,nI v.2.2.2.1, .nils,sB (.s 0) v.2.2.2.2.1],nI v.2.2.2.2.2]
noncomputable abbrev zWi:Fe:= .of Tryz.prog 88 zFW
theorem zKu:∀v,(zFW v).noLst:=fun _=>⟨⟨trivial,trivial,trivial,trivial,trivial,trivial,trivial,(zAv fun _=>trivial),trivial⟩,trivial,trivial⟩
theorem zOM (a0:List Int):HS 88 (zGM a0) [.lst (List.map (D.int .i64) a0)] zFW:=Tr.fn (F:=zWi)
 (.call 8 (zVE a0) zBl fun r1=> .iteN 12 12 (r1.2=0)
  (.ret 10 (0,0,0,0,[],r1.2))
  (.len 5 eI a0<| .call 2 (zGO a0) zGy fun r2=> .ret 5 (3,(a0.length:Int),r1.1,0,r2,0)))
noncomputable abbrev zRO:Fe:= .of Tryz.prog 87 zFW
theorem zQ7 (a0:zAk) (a1:List Int) (a2:Int) (a3:List Int):HS 87 (zIf a0 a1 a2 a3) [.agg [.int .i64 a0.F_Scheme, .int .i64 a0.F_K, .int .i64 a0.F_Wide], .lst (List.map (D.int .i64) a1), .int .u64 a2, .lst (List.map (D.int .i64) a3)] zFW:=Tr.fn (F:=zRO)
 (.call 9 (zOM a1) zKu fun r1=> .ret 6 (r1.1,r1.2.1,r1.2.2.1,r1.2.2.2.1,r1.2.2.2.2.1,r1.2.2.2.2.2))
def zJk (v:Int×Int×(List Int)×(List Int)×Int×Int×(List Int)×(List Bool)×Int):PV:= .tup [.agg [nI v.1,nI v.2.1,sI (.s 0) v.2.2.1,sI (.s 1) v.2.2.2.1,nI v.2.2.2.2.1,nI v.2.2.2.2.2.1,sU (.s 2) v.2.2.2.2.2.2.1,sB (.s 3) v.2.2.2.2.2.2.2.1],nI v.2.2.2.2.2.2.2.2]
noncomputable abbrev zU3:Fe:= .of Tryz.prog 11 zJk
theorem zNG:∀v,(zJk v).noLst:=fun _=>⟨⟨trivial,trivial,(zAv fun _=>trivial),(zAv fun _=>trivial),trivial,trivial,(zAv fun _=>trivial),(zAv fun _=>trivial),trivial⟩,trivial,trivial⟩
theorem zNe (a0:zAk) (a1:List Int) (a2:Int) (a3:List Int):HS 11 (zF3 a0 a1 a2 a3) [.agg [.int .i64 a0.F_Scheme, .int .i64 a0.F_K, .int .i64 a0.F_Wide], .lst (List.map (D.int .i64) a1), .int .u64 a2, .lst (List.map (D.int .i64) a3)] zJk:=Tr.fn (F:=zU3)
 (.call 9 (zLQ a1) zAo fun r1=> .join 8 0 (γ:=Int) ⟨fun x=>[(10,nI x)],[8,4,1,2,3],fun _=>[],[.s 31, .s 15]⟩
  (.ite 0 14 (r1=0)
  (.len 4 eI a1<| .call 0 (zNN a0 (a1.length:Int)) zAo fun r2=> .ret 2 r2)
  (.ret 2 r1))
  fun j3=> .iteN 6 20 (j3=0)
  (.ret 10 (0,0,[],[],0,0,[],[],j3))
  (.callG 10 [] [] zGc fun r4=> .hold 1 []<| .cas 1 26 (a0.F_Scheme=(0:Int)) (.d (.agg [.clo (.func 69) [] [], .clo (.func 70) [] [], .clo (.func 71) [] [], .clo (.func 73) [] []])) (.d (lookD a0.F_Scheme [(1, .agg [.clo (.func 74) [] [], .clo (.func 75) [] [], .clo (.func 77) [] [], .clo (.func 79) [] []]),(2, .agg [.clo (.func 81) [] [], .clo (.func 82) [] [], .clo (.func 84) [] [], .clo (.func 85) [] []]),(3, .agg [.clo (.func 69) [] [], .clo (.func 87) [] [], .clo (.func 89) [] [], .clo (.func 90) [] []])] (.agg [.nilfn, .nilfn, .nilfn, .nilfn]))) (.d (lookD a0.F_Scheme [(0, .agg [.clo (.func 69) [] [], .clo (.func 70) [] [], .clo (.func 71) [] [], .clo (.func 73) [] []]),(1, .agg [.clo (.func 74) [] [], .clo (.func 75) [] [], .clo (.func 77) [] [], .clo (.func 79) [] []]),(2, .agg [.clo (.func 81) [] [], .clo (.func 82) [] [], .clo (.func 84) [] [], .clo (.func 85) [] []]),(3, .agg [.clo (.func 69) [] [], .clo (.func 87) [] [], .clo (.func 89) [] [], .clo (.func 90) [] []])] (.agg [.nilfn, .nilfn, .nilfn, .nilfn]))) zB5 zB6
  (.call 1 (zTo a0 a1 a2 a3) zTd fun r5=> .ret 7 (r5.1,r5.2.1,[],r5.2.2.1,r5.2.2.2.1,r5.2.2.2.2.1,[],[],r5.2.2.2.2.2))
  (.cas 0 26 (a0.F_Scheme=(1:Int)) (.d (.agg [.clo (.func 74) [] [], .clo (.func 75) [] [], .clo (.func 77) [] [], .clo (.func 79) [] []])) (.d (lookD a0.F_Scheme [(2, .agg [.clo (.func 81) [] [], .clo (.func 82) [] [], .clo (.func 84) [] [], .clo (.func 85) [] []]),(3, .agg [.clo (.func 69) [] [], .clo (.func 87) [] [], .clo (.func 89) [] [], .clo (.func 90) [] []])] (.agg [.nilfn, .nilfn, .nilfn, .nilfn]))) (.d (lookD a0.F_Scheme [(1, .agg [.clo (.func 74) [] [], .clo (.func 75) [] [], .clo (.func 77) [] [], .clo (.func 79) [] []]),(2, .agg [.clo (.func 81) [] [], .clo (.func 82) [] [], .clo (.func 84) [] [], .clo (.func 85) [] []]),(3, .agg [.clo (.func 69) [] [], .clo (.func 87) [] [], .clo (.func 89) [] [], .clo (.func 90) [] []])] (.agg [.nilfn, .nilfn, .nilfn, .nilfn]))) zB5 zB6
  (.call 1 (zSO a0 a1 a2 a3) zKD fun r6=> .ret 7 (r6.1,r6.2.1,r6.2.2.1,r6.2.2.2.1,r6.2.2.2.2.1,r6.2.2.2.2.2.1,[],[],r6.2.2.2.2.2.2))
  (.cas 0 26 (a0.F_Scheme=(2:Int)) (.d (.agg [.clo (.func 81) [] [], .clo (.func 82) [] [], .clo (.func 84) [] [], .clo (.func 85) [] []])) (.d (lookD a0.F_Scheme [(3, .agg [.clo (.func 69) [] [], .clo (.func 87) [] [], .clo (.func 89) [] [], .clo (.func 90) [] []])] (.agg [.nilfn, .nilfn, .nilfn, .nilfn]))) (.d (lookD a0.F_Scheme [(2, .agg [.clo (.func 81) [] [], .clo (.func 82) [] [], .clo (.func 84) [] [], .clo (.func 85) [] []]),(3, .agg [.clo (.func 69) [] [], .clo (.func 87) [] [], .clo (.func 89) [] [], .clo (.func 90) [] []])] (.agg [.nilfn, .nilfn, .nilfn, .nilfn]))) zB5 zB6
  (.call 1 (zRs a0 a1 a2 a3) zNL fun r7=> .ret 7 (r7.1,r7.2.1,[],[],r7.2.2.1,r7.2.2.2.1,r7.2.2.2.2.1,r7.2.2.2.2.2.1,r7.2.2.2.2.2.2))
  (.cas 0 26 (a0.F_Scheme=(3:Int)) (.d (.agg [.clo (.func 69) [] [], .clo (.func 87) [] [], .clo (.func 89) [] [], .clo (.func 90) [] []])) (.d (lookD a0.F_Scheme [] (.agg [.nilfn, .nilfn, .nilfn, .nilfn]))) (.d (lookD a0.F_Scheme [(3, .agg [.clo (.func 69) [] [], .clo (.func 87) [] [], .clo (.func 89) [] [], .clo (.func 90) [] []])] (.agg [.nilfn, .nilfn, .nilfn, .nilfn]))) zB5 zB6
  (.call 1 (zQ7 a0 a1 a2 a3) zKu fun r8=> .ret 7 (r8.1,r8.2.1,[],[],r8.2.2.1,r8.2.2.2.1,[],r8.2.2.2.2.1,r8.2.2.2.2.2))
  (.halt))))))
noncomputable abbrev zSt:Fe:= .of Tryz.prog 181 zAd
theorem zLt (a0:Int):HS 181 (zED a0) [.int .i64 a0] zAd:=Tr.fn (F:=zSt)
 (.join 9 3 (γ:=Bool) ⟨fun x=>[(8,bB x)],[],fun _=>[],[]⟩
  (.ite 0 5 (a0>0)
  (.ret 4 (decide (a0≤4096)))
  (.ret 4 false))
  fun j1=> .ret 3 j1)
noncomputable abbrev zU1:Fe:= .of Tryz.prog 131 zAl
theorem zI9 (a0:Int) (a1:List Int):HS 131 (zEy a0 a1) [.int .i64 a0, .lst (List.map (D.int .i64) a1)] zAl:=Tr.fn (F:=zU1)
 (.len 7 eI a1<| .call 6 (zLt a0) zAf fun r1=> .join 2 4 (γ:=Bool) ⟨fun x=>[(15,bB x)],[5,0,1],fun _=>[],[]⟩
  (.iteX 0 11 (r1)
  (.ret 5 true)
  (.call 1 (zNt a1) zAf fun r2=> .ret 3 (!r2)))
  fun j3=> .iteB 1 16 (j3)
  (.ret 26 1)
  (.ite 3 19 ((a1.length:Int)>0)
  (.idx 1 eI a1 0<| .ite 3 24 ((at' a1 0)<0)
  (.ret 18 1)
  (.idx 3 eI a1 (IntKind.i64.wrap ((a1.length:Int)-1))<| .ite 7 34 ((at' a1 (IntKind.i64.wrap ((a1.length:Int)-1)))≥a0)
  (.ret 7 1)
  (.ret 7 0)))
  (.ret 23 0)))
noncomputable abbrev zUn:Fe:= .of Tryz.prog 154 zAl
theorem zS1 (a0:Int):HS 154 (zHn a0) [.int .u64 a0] zAl:=Tr.fn (F:=zUn)
 (.call 7 (zJ8 a0) zAo fun r1=> .ret 3 r1)
noncomputable abbrev zQM:Fe:= .of Tryz.prog 153 zAd
theorem zQm (a0:Int) (a1:Int) (a2:Int) (a3:List Int) (a4:List Int) (a5:Int) (a6:Int) (a7:List Int) (a8:List Bool):HS 153 (zHx a0 a1 a2 a3 a4 a5 a6 a7 a8) [.int .u64 a0, .cp [.int .i64 a1, .int .i64 a2, .lst (List.map (D.int .i64) a3), .lst (List.map (D.int .i64) a4), .int .i64 a5, .int .i64 a6, .lst (List.map (D.int .u64) a7), .lst (List.map D.bool a8)] 0] zAd:=Tr.fn (F:=zQM)
 (.call 9 (zS1 a0) zAo fun r1=> .hold 1 []<| .ret 5 (decide (r1>a6)))
noncomputable abbrev zBF:Fe:= .of Tryz.prog 189 zAl
def zEe (a0:List Int) (a1:Int) (a2:Int) (a3:List Int) (a4:List Int) (a5:Int) (a6:Int) (a7:List Int) (a8:List Bool) (x0:Int):St:=⟨[(8,nI x0),(7,nI (a0.length:Int)),(0,lU a0),(1, .d (.clo (.func 153) [] [.cp [.int .i64 a1, .int .i64 a2, .lst (List.map (D.int .i64) a3), .lst (List.map (D.int .i64) a4), .int .i64 a5, .int .i64 a6, .lst (List.map (D.int .u64) a7), .lst (List.map D.bool a8)] 0]))],[]⟩
def zEf (a0:List Int) (a1:Int) (a2:Int) (a3:List Int) (a4:List Int) (a5:Int) (a6:Int) (a7:List Int) (a8:List Bool) (x:Unit):St:=⟨[],[]⟩
theorem zD0 (a0:List Int) (a1:Int) (a2:Int) (a3:List Int) (a4:List Int) (a5:Int) (a6:Int) (a7:List Int) (a8:List Bool):∀(x0:Int),Ok (zAp a0 a1 a2 a3 a4 a5 a6 a7 a8 x0) (LR zBF (.exit 0) (zEf a0 a1 a2 a3 a4 a5 a6 a7 a8) 189 0 (zEe a0 a1 a2 a3 a4 a5 a6 a7 a8 x0)):=by
 refine zAp.partial_correctness a0 a1 a2 a3 a4 a5 a6 a7 a8 _ ?_
 intro f IH x0
 exact Tr.lpR (F:=zBF) (X:=Int)
  (.ite 6 9 (x0<(a0.length:Int))
   (.idx 14 eU a0 x0<| .call 1 (zQm (at' a0 x0) a1 a2 a3 a4 a5 a6 a7 a8) zAf fun r1=> .iteB 1 16 (r1)
   (.ret 10 (.inl x0))
   (.again 7 (IntKind.i64.wrap (x0+1))))
   (.ret 4 (.inr ()))) _ fun x r=>IH x r
theorem zEs (a0:List Int) (a1:Int) (a2:Int) (a3:List Int) (a4:List Int) (a5:Int) (a6:Int) (a7:List Int) (a8:List Bool):HS 189 (zBE a0 a1 a2 a3 a4 a5 a6 a7 a8) [.lst (List.map (D.int .u64) a0), .clo (.func 153) [] [.cp [.int .i64 a1, .int .i64 a2, .lst (List.map (D.int .i64) a3), .lst (List.map (D.int .i64) a4), .int .i64 a5, .int .i64 a6, .lst (List.map (D.int .u64) a7), .lst (List.map D.bool a8)] 0]] zAl:=Tr.fn (F:=zBF)
 (.len 8 eU a0<| .loopR 4 id ⟨_,_,_,_,_,zD0 a0 a1 a2 a3 a4 a5 a6 a7 a8 0⟩ fun j2=> .ret 6 (-1))
noncomputable abbrev zD8:Fe:= .of Tryz.prog 152 zAd
theorem zDZ (a0:List Int) (a1:Int) (a2:Int) (a3:List Int) (a4:List Int) (a5:Int) (a6:Int) (a7:List Int) (a8:List Bool):HS 152 (zAY a0 a1 a2 a3 a4 a5 a6 a7 a8) [.lst (List.map (D.int .u64) a0), .clo (.func 153) [] [.cp [.int .i64 a1, .int .i64 a2, .lst (List.map (D.int .i64) a3), .lst (List.map (D.int .i64) a4), .int .i64 a5, .int .i64 a6, .lst (List.map (D.int .u64) a7), .lst (List.map D.bool a8)] 0]] zAd:=Tr.fn (F:=zD8)
 (.call 8 (zEs a0 a1 a2 a3 a4 a5 a6 a7 a8) zAo fun r1=> .ret 4 (decide (r1≥0)))
def zOL (v:Int×Int×(List Int)×(List Int)×Int×Int×(List Int)×(List Bool)×Bool):PV:= .tup [.d (.agg [.int .i64 v.1, .int .i64 v.2.1, .lst (List.map (D.int .i64) v.2.2.1), .lst (List.map (D.int .i64) v.2.2.2.1), .int .i64 v.2.2.2.2.1, .int .i64 v.2.2.2.2.2.1, .lst (List.map (D.int .u64) v.2.2.2.2.2.2.1), .lst (List.map D.bool v.2.2.2.2.2.2.2.1)]),bB v.2.2.2.2.2.2.2.2]
noncomputable abbrev zVN:Fe:= .of Tryz.prog 100 zOL
theorem zUM (a0:zAc):HS 100 (zHY a0) [.agg [.int .i64 a0.F_Scheme, .int .i64 a0.F_Dim, .lst (List.map (D.int .i64) a0.F_L), .lst (List.map (D.int .i64) a0.F_V), .int .i64 a0.F_Scale, .int .i64 a0.F_Wide, .lst (List.map (D.int .u64) a0.F_Lev), .lst (List.map D.bool a0.F_Neg)]] zOL:=Tr.fn (F:=zVN)
 (.join 25 4 (γ:=Bool) ⟨fun x=>[(16,bB x)],[4,2,1],fun _=>[],[.s 1631, .s 31, .s 15]⟩
  (.ite 0 12 (a0.F_Dim>0)
  (.ret 5 (decide (a0.F_Dim≤4096)))
  (.ret 5 false))
  fun j1=> .ite 26 19 (a0.F_Scheme=0)
  (.join 10 7 (γ:=Bool) ⟨fun x=>[(35,bB x)],[4,2],fun _=>[],[.s 1631, .s 31]⟩
  (.iteB 0 28 (j1)
  (.len 2 eI a0.F_V<| .ret 5 ((a0.F_V.length:Int)==a0.F_Dim))
  (.ret 8 false))
  fun j2=> .ret 24 (0,0,a0.F_L,[],a0.F_Scale,a0.F_Wide,a0.F_Lev,a0.F_Neg,j2))
  (.ite 8 21 (a0.F_Scheme=1)
  (.join 12 7 (γ:=Bool) ⟨fun x=>[(45,bB x)],[4,2,1],fun _=>[],[.s 1631, .s 31, .s 15]⟩
  (.iteB 0 38 (j1)
  (.call 4 (zI9 a0.F_Dim a0.F_L) zAo fun r3=> .ret 3 (r3==0))
  (.ret 8 false))
  fun j4=> .join 1 8 (γ:=Bool) ⟨fun x=>[(54,bB x)],[4,2],fun _=>[],[.s 1631, .s 31]⟩
  (.iteB 0 46 (j4)
  (.len 2 eI a0.F_L<| .len 2 eI a0.F_V<| .ret 3 ((a0.F_L.length:Int)==(a0.F_V.length:Int)))
  (.ret 9 false))
  fun j5=> .ret 24 (0,0,[],[],a0.F_Scale,a0.F_Wide,a0.F_Lev,a0.F_Neg,j5))
  (.ite 8 23 (a0.F_Scheme=2)
  (.join 13 4 (γ:=Bool) ⟨fun x=>[(62,bB x)],[4,2,1],fun _=>[],[.s 1631, .s 31, .s 15]⟩
  (.iteB 0 58 (j1)
  (.ret 5 (decide (a0.F_Wide>0)))
  (.ret 5 false))
  fun j6=> .join 1 4 (γ:=Bool) ⟨fun x=>[(67,bB x)],[4,2,1],fun _=>[],[.s 1631, .s 31, .s 15]⟩
  (.iteB 0 63 (j6)
  (.ret 5 (decide (a0.F_Wide≤8)))
  (.ret 5 false))
  fun j7=> .join 1 7 (γ:=Bool) ⟨fun x=>[(75,bB x)],[4,2,1],fun _=>[],[.s 1631, .s 31, .s 15]⟩
  (.iteB 0 68 (j7)
  (.len 2 eU a0.F_Lev<| .ret 5 ((a0.F_Lev.length:Int)==a0.F_Dim))
  (.ret 8 false))
  fun j8=> .join 1 6 (γ:=Bool) ⟨fun x=>[(82,bB x)],[4,2,1],fun _=>[],[.s 1631, .s 31, .s 15]⟩
  (.iteB 0 76 (j8)
  (.call 3 (zDZ a0.F_Lev a0.F_Scheme a0.F_Dim a0.F_L a0.F_V a0.F_Scale a0.F_Wide a0.F_Lev a0.F_Neg) zAf fun r9=> .ret 3 (!r9))
  (.ret 7 false))
  fun j10=> .join 14 4 (γ:=Bool) ⟨fun x=>[(90,bB x)],[4,2,1],fun _=>[],[.s 1631, .s 31, .s 15]⟩
  (.iteB 0 86 (j10)
  (.ret 5 (decide (a0.F_Scale≥0)))
  (.ret 5 false))
  fun j11=> .join 1 7 (γ:=Bool) ⟨fun x=>[(98,bB x)],[4,2],fun _=>[],[.s 1631, .s 31]⟩
  (.iteB 0 91 (j11)
  (.len 2 eB a0.F_Neg<| .ret 5 ((a0.F_Neg.length:Int)==a0.F_Dim))
  (.ret 8 false))
  fun j12=> .ret 20 (0,0,a0.F_L,a0.F_V,0,0,[],[],j12))
  (.ite 7 25 (a0.F_Scheme=3)
  (.join 15 4 (γ:=Bool) ⟨fun x=>[(90,bB x)],[4,2,1],fun _=>[],[.s 1631, .s 31, .s 15]⟩
  (.iteB 0 86 (j1)
  (.ret 5 (decide (a0.F_Scale≥0)))
  (.ret 5 false))
  fun j13=> .join 1 7 (γ:=Bool) ⟨fun x=>[(98,bB x)],[4,2],fun _=>[],[.s 1631, .s 31]⟩
  (.iteB 0 91 (j13)
  (.len 2 eB a0.F_Neg<| .ret 5 ((a0.F_Neg.length:Int)==a0.F_Dim))
  (.ret 8 false))
  fun j14=> .ret 20 (0,0,a0.F_L,a0.F_V,0,a0.F_Wide,a0.F_Lev,[],j14))
  (.ret 26 (0,0,a0.F_L,a0.F_V,a0.F_Scale,a0.F_Wide,a0.F_Lev,a0.F_Neg,false))))))
noncomputable abbrev zER:Fe:= .of Tryz.prog 132 zAd
def zLf (a0:List Int) (a1:List Int) (x0:Int):St:=⟨[(13,nI x0),(12,nI (a0.length:Int)),(0,lI a0),(1,lI a1)],[]⟩
def zK2 (a0:List Int) (a1:List Int) (x:Unit):St:=⟨[],[]⟩
theorem zKH (a0:List Int) (a1:List Int):∀(x0:Int),Ok (zBa a0 a1 x0) (LR zER (.exit 0) (zK2 a0 a1) 132 0 (zLf a0 a1 x0)):=by
 refine zBa.partial_correctness a0 a1 _ ?_
 intro f IH x0
 exact Tr.lpR (F:=zER) (X:=Int)
  (.ite 6 14 (x0<(a0.length:Int))
   (.idx 13 eI a0 x0<| .idx 3 eI a1 x0<| .iteN 3 24 ((at' a0 x0)=(at' a1 x0))
   (.ret 9 (.inl false))
   (.again 7 (IntKind.i64.wrap (x0+1))))
   (.ret 4 (.inr ()))) _ fun x r=>IH x r
theorem zG4 (a0:List Int) (a1:List Int):HS 132 (zBJ a0 a1) [.lst (List.map (D.int .i64) a0), .lst (List.map (D.int .i64) a1)] zAd:=Tr.fn (F:=zER)
 (.len 8 eI a0<| .len 1 eI a1<| .iteN 2 10 ((a0.length:Int)=(a1.length:Int))
  (.ret 7 false)
  (.len 6 eI a0<| .loopR 4 id ⟨_,_,_,_,_,zKH a0 a1 0⟩ fun j1=> .ret 6 true))
noncomputable abbrev zDH:Fe:= .of Tryz.prog 47 zAd
def zIo (a0:List Int) (a1:List Int) (x0:Int):St:=⟨[(13,nI x0),(12,nI (a0.length:Int)),(0,lI a0),(1,lI a1)],[]⟩
def zIy (a0:List Int) (a1:List Int) (x:Unit):St:=⟨[],[]⟩
theorem zHS (a0:List Int) (a1:List Int):∀(x0:Int),Ok (zAL a0 a1 x0) (LR zDH (.exit 0) (zIy a0 a1) 47 0 (zIo a0 a1 x0)):=by
 refine zAL.partial_correctness a0 a1 _ ?_
 intro f IH x0
 exact Tr.lpR (F:=zDH) (X:=Int)
  (.ite 6 14 (x0<(a0.length:Int))
   (.idx 13 eI a0 x0<| .idx 3 eI a1 x0<| .iteN 3 24 ((at' a0 x0)=(at' a1 x0))
   (.ret 9 (.inl false))
   (.again 7 (IntKind.i64.wrap (x0+1))))
   (.ret 4 (.inr ()))) _ fun x r=>IH x r
theorem zCu (a0:List Int) (a1:List Int):HS 47 (zAO a0 a1) [.lst (List.map (D.int .i64) a0), .lst (List.map (D.int .i64) a1)] zAd:=Tr.fn (F:=zDH)
 (.len 8 eI a0<| .len 1 eI a1<| .iteN 2 10 ((a0.length:Int)=(a1.length:Int))
  (.ret 7 false)
  (.len 6 eI a0<| .loopR 4 id ⟨_,_,_,_,_,zHS a0 a1 0⟩ fun j1=> .ret 6 true))
noncomputable abbrev zDm:Fe:= .of Tryz.prog 155 zAd
def zHJ (a0:List Int) (a1:List Int) (x0:Int):St:=⟨[(13,nI x0),(12,nI (a0.length:Int)),(0,lU a0),(1,lU a1)],[]⟩
def zHH (a0:List Int) (a1:List Int) (x:Unit):St:=⟨[],[]⟩
theorem zHu (a0:List Int) (a1:List Int):∀(x0:Int),Ok (zAU a0 a1 x0) (LR zDm (.exit 0) (zHH a0 a1) 155 0 (zHJ a0 a1 x0)):=by
 refine zAU.partial_correctness a0 a1 _ ?_
 intro f IH x0
 exact Tr.lpR (F:=zDm) (X:=Int)
  (.ite 6 14 (x0<(a0.length:Int))
   (.idx 13 eU a0 x0<| .idx 3 eU a1 x0<| .iteN 3 24 ((at' a0 x0)=(at' a1 x0))
   (.ret 9 (.inl false))
   (.again 7 (IntKind.i64.wrap (x0+1))))
   (.ret 4 (.inr ()))) _ fun x r=>IH x r
theorem zIB (a0:List Int) (a1:List Int):HS 155 (zCn a0 a1) [.lst (List.map (D.int .u64) a0), .lst (List.map (D.int .u64) a1)] zAd:=Tr.fn (F:=zDm)
 (.len 8 eU a0<| .len 1 eU a1<| .iteN 2 10 ((a0.length:Int)=(a1.length:Int))
  (.ret 7 false)
  (.len 6 eU a0<| .loopR 4 id ⟨_,_,_,_,_,zHu a0 a1 0⟩ fun j1=> .ret 6 true))
noncomputable abbrev zD4:Fe:= .of Tryz.prog 145 zAd
def zJL (a0:List Bool) (a1:List Bool) (x0:Int):St:=⟨[(13,nI x0),(12,nI (a0.length:Int)),(0,lB a0),(1,lB a1)],[]⟩
def zJ7 (a0:List Bool) (a1:List Bool) (x:Unit):St:=⟨[],[]⟩
theorem zJn (a0:List Bool) (a1:List Bool):∀(x0:Int),Ok (zBp a0 a1 x0) (LR zD4 (.exit 0) (zJ7 a0 a1) 145 0 (zJL a0 a1 x0)):=by
 refine zBp.partial_correctness a0 a1 _ ?_
 intro f IH x0
 exact Tr.lpR (F:=zD4) (X:=Int)
  (.ite 6 14 (x0<(a0.length:Int))
   (.idx 13 eB a0 x0<| .idx 3 eB a1 x0<| .iteN 3 24 ((at' a0 x0)=(at' a1 x0))
   (.ret 9 (.inl false))
   (.again 7 (IntKind.i64.wrap (x0+1))))
   (.ret 4 (.inr ()))) _ fun x r=>IH x r
theorem zGo (a0:List Bool) (a1:List Bool):HS 145 (zCe a0 a1) [.lst (List.map D.bool a0), .lst (List.map D.bool a1)] zAd:=Tr.fn (F:=zD4)
 (.len 8 eB a0<| .len 1 eB a1<| .iteN 2 10 ((a0.length:Int)=(a1.length:Int))
  (.ret 7 false)
  (.len 6 eB a0<| .loopR 4 id ⟨_,_,_,_,_,zJn a0 a1 0⟩ fun j1=> .ret 6 true))
noncomputable abbrev zVn:Fe:= .of Tryz.prog 101 zAd
theorem zKv (a0:zAc) (a1:zAc):HS 101 (zFu a0 a1) [.agg [.int .i64 a0.F_Scheme, .int .i64 a0.F_Dim, .lst (List.map (D.int .i64) a0.F_L), .lst (List.map (D.int .i64) a0.F_V), .int .i64 a0.F_Scale, .int .i64 a0.F_Wide, .lst (List.map (D.int .u64) a0.F_Lev), .lst (List.map D.bool a0.F_Neg)], .agg [.int .i64 a1.F_Scheme, .int .i64 a1.F_Dim, .lst (List.map (D.int .i64) a1.F_L), .lst (List.map (D.int .i64) a1.F_V), .int .i64 a1.F_Scale, .int .i64 a1.F_Wide, .lst (List.map (D.int .u64) a1.F_Lev), .lst (List.map D.bool a1.F_Neg)]] zAd:=Tr.fn (F:=zVn)
 (.join 28 6 (γ:=Bool) ⟨fun x=>[(30,bB x)],[3,2],fun _=>[],[.s 31, .s 15]⟩
  (.iteP 0 24 (show (([a0.F_Scheme,a0.F_Dim,a0.F_Scale,a0.F_Wide]:List Int)==[a1.F_Scheme,a1.F_Dim,a1.F_Scale,a1.F_Wide])=decide (([a0.F_Scheme,a0.F_Dim,a0.F_Scale,a0.F_Wide]:List Int)=[a1.F_Scheme,a1.F_Dim,a1.F_Scale,a1.F_Wide]) from decL)
  (.call 4 (zG4 a0.F_L a1.F_L) zAf fun r1=> .ret 2 r1)
  (.ret 7 false))
  fun j2=> .join 1 6 (γ:=Bool) ⟨fun x=>[(37,bB x)],[3,2],fun _=>[],[.s 31, .s 15]⟩
  (.iteB 0 31 (j2)
  (.call 4 (zCu a0.F_V a1.F_V) zAf fun r3=> .ret 2 r3)
  (.ret 7 false))
  fun j4=> .join 1 6 (γ:=Bool) ⟨fun x=>[(44,bB x)],[3,2],fun _=>[],[.s 31, .s 15]⟩
  (.iteB 0 38 (j4)
  (.call 4 (zIB a0.F_Lev a1.F_Lev) zAf fun r5=> .ret 2 r5)
  (.ret 7 false))
  fun j6=> .join 1 6 (γ:=Bool) ⟨fun x=>[(51,bB x)],[],fun _=>[],[]⟩
  (.iteB 0 45 (j6)
  (.call 4 (zGo a0.F_Neg a1.F_Neg) zAf fun r7=> .ret 2 r7)
  (.ret 7 false))
  fun j8=> .ret 3 j8)
noncomputable abbrev zXh:Fe:= .of Tryz.prog 42 zAd
theorem zDv (a0:zAc):HS 42 (zCz a0) [.agg [.int .i64 a0.F_Scheme, .int .i64 a0.F_Dim, .lst (List.map (D.int .i64) a0.F_L), .lst (List.map (D.int .i64) a0.F_V), .int .i64 a0.F_Scale, .int .i64 a0.F_Wide, .lst (List.map (D.int .u64) a0.F_Lev), .lst (List.map D.bool a0.F_Neg)]] zAd:=Tr.fn (F:=zXh)
 (.callZ 8 (zUM a0) fun r1=> .join 11 4 (γ:=Bool) ⟨fun x=>[(15,bB x)],[],fun _=>[],[]⟩
  (.iteB 0 11 (r1.2.2.2.2.2.2.2.2)
  (.call 2 (zKv (⟨r1.1,r1.2.1,r1.2.2.1,r1.2.2.2.1,r1.2.2.2.2.1,r1.2.2.2.2.2.1,r1.2.2.2.2.2.2.1,r1.2.2.2.2.2.2.2.1⟩:zAc) (⟨0,0,[],[],0,0,[],[]⟩:zAc)) zAf fun r2=> .ret 2 r2)
  (.ret 5 false))
  fun j3=> .ret 3 j3)
noncomputable abbrev zTC:Fe:= .of Tryz.prog 71 zAj
theorem zSw (a0:zAc):HS 71 (zIT a0) [.agg [.int .i64 a0.F_Scheme, .int .i64 a0.F_Dim, .lst (List.map (D.int .i64) a0.F_L), .lst (List.map (D.int .i64) a0.F_V), .int .i64 a0.F_Scale, .int .i64 a0.F_Wide, .lst (List.map (D.int .u64) a0.F_Lev), .lst (List.map D.bool a0.F_Neg)]] zAj:=Tr.fn (F:=zTC)
 (.call 10 (zFB a0.F_V) zBS fun r1=> .ret 4 (r1,0))
noncomputable abbrev zJl:Fe:= .of Tryz.prog 78 zAj
def zQo (a1:List Int) (a2:List Int) (x0:Int) (x1:List Int):St:=⟨[(29,nI x0),(28,nI (a1.length:Int)),(27,lI a1),(9,sI (.h 0) x1),(2,lI a2)],[]⟩
def zQp (a1:List Int) (a2:List Int) (x:(List Int)):St:=⟨[(9,sI (.h 1) x)],[]⟩
theorem zPk (a1:List Int) (a2:List Int):∀(x0:Int) (x1:List Int),Ok (zCq a1 a2 x0 x1) (LN zJl (.exit 1) (zQp a1 a2) 78 0 (zQo a1 a2 x0 x1)):=by
 refine zCq.partial_correctness a1 a2 _ ?_
 intro f IH x0 x1
 exact Tr.lpN (F:=zJl) (X:=Int×(List Int))
  (.ite 6 30 (x0<(a1.length:Int))
   (.idx 7 eI a1 x0<| .idx 9 eI a2 x0<| .idx 1 eI x1 (at' a1 x0)<| .sto 0 [9] eI x1 (at' a1 x0) (at' a2 x0)<| .let_ (x1.set (Int.toNat (at' a1 x0)) (at' a2 x0):List Int) fun y4=> .again 6 (IntKind.i64.wrap (x0+1),y4))
   (.ret 4 x1)) _ fun x r=>IH x.1 x.2 r
theorem zSE (a0:Int) (a1:List Int) (a2:List Int):HS 78 (zGU a0 a1 a2) [.int .i64 a0, .lst (List.map (D.int .i64) a1), .lst (List.map (D.int .i64) a2)] zAj:=Tr.fn (F:=zJl)
 (.call 10 (zI9 a0 a1) zAo fun r1=> .iteN 9 15 (r1=0)
  (.ret 10 ([],r1))
  (.len 4 eI a1<| .len 1 eI a2<| .iteN 3 19 ((a1.length:Int)=(a2.length:Int))
  (.ret 9 ([],4))
  (.mk 6 eI 8 0 a0 a0<| .let_ (List.replicate (Int.toNat a0) 0:List Int) fun y2=> .len 6 eI a1<| .loop 4 ⟨_,_,_,_,_,zPk a1 a2 0 y2⟩ fun j6=> .ret 8 (j6,0))))
noncomputable abbrev zSS:Fe:= .of Tryz.prog 77 zAj
theorem zRA (a0:zAc):HS 77 (zIN a0) [.agg [.int .i64 a0.F_Scheme, .int .i64 a0.F_Dim, .lst (List.map (D.int .i64) a0.F_L), .lst (List.map (D.int .i64) a0.F_V), .int .i64 a0.F_Scale, .int .i64 a0.F_Wide, .lst (List.map (D.int .u64) a0.F_Lev), .lst (List.map D.bool a0.F_Neg)]] zAj:=Tr.fn (F:=zSS)
 (.call 14 (zSE a0.F_Dim a0.F_L a0.F_V) zAs fun r1=> .ret 6 (r1.1,r1.2))
noncomputable abbrev zUR:Fe:= .of Tryz.prog 138 zAD
theorem zTy (a0:Int) (a1:Int) (a2:Int):HS 138 (zHs a0 a1 a2) [.int .u64 a0, .int .i64 a1, .int .i64 a2] zAD:=Tr.fn (F:=zUR)
 (.call 8 (zIY a2) zGW fun r1=> .join 12 3 (γ:=Bool) ⟨fun x=>[(24,bB x)],[8,0,1],fun _=>[],[]⟩
  (.iteN 0 21 (r1.2=0)
  (.ret 4 true)
  (.ret 4 (decide (a1<0))))
  fun j2=> .join 1 4 (γ:=Bool) ⟨fun x=>[(29,bB x)],[8,0,1],fun _=>[],[]⟩
  (.iteB 0 25 (j2)
  (.ret 5 true)
  (.ret 5 (decide (a0>r1.1))))
  fun j3=> .iteB 1 29 (j3)
  (.ret 8 (0,1))
  (.call 7 (zJ2 (IntKind.u64.wrap a1) a0) zEM fun r4=> .call 11 (zJ0 r4.1 r4.2 r1.1) zEM fun r5=> .ret 14 (IntKind.i64.wrap r5.1,0)))
noncomputable abbrev zII:Fe:= .of Tryz.prog 84 zAj
def zQl (a0:zAc) (x0:Int) (x1:List Int):St:=⟨[(23,nI x0),(22,nI (a0.F_Lev.length:Int)),(21,lU a0.F_Lev),(4,sI (.h 0) x1),(1, .ptr (.s 15) 0)],[(.s 15,[nI a0.F_Scheme,nI a0.F_Dim,lI a0.F_L,lI a0.F_V,nI a0.F_Scale,nI a0.F_Wide,lU a0.F_Lev,lB a0.F_Neg])]⟩
def zQn (a0:zAc) (x:(List Int)):St:=⟨[(4,sI (.h 1) x)],[]⟩
theorem zPl (a0:zAc):∀(x0:Int) (x1:List Int),Ok (zBY a0 x0 x1) (LR zII (.exit 0) (zQn a0) 84 0 (zQl a0 x0 x1)):=by
 refine zBY.partial_correctness a0 _ ?_
 intro f IH x0 x1
 exact Tr.lpR (F:=zII) (X:=Int×(List Int))
  (.ite 6 24 (x0<(a0.F_Lev.length:Int))
   (.idx 7 eU a0.F_Lev x0<| .call 11 (zTy (at' a0.F_Lev x0) a0.F_Scale a0.F_Wide) zBl fun r5=> .iteN 12 38 (r5.2=0)
   (.ret 12 (.inl ([],r5.2)))
   (.idx 7 eI x1 x0<| .sto 0 [4] eI x1 x0 r5.1<| .let_ (x1.set (Int.toNat x0) r5.1:List Int) fun y6=> .idx 6 eB a0.F_Neg x0<| .iteB 2 48 (at' a0.F_Neg x0)
   (.idx 6 eI y6 x0<| .sto 0 [4] eI y6 x0 (IntKind.i64.wrap (0-r5.1))<| .let_ (y6.set (Int.toNat x0) (IntKind.i64.wrap (0-r5.1)):List Int) fun y8=> .again 6 (IntKind.i64.wrap (x0+1),y8))
   (.again 7 (IntKind.i64.wrap (x0+1),y6))))
   (.ret 4 (.inr x1))) _ fun x r=>IH x.1 x.2 r
theorem zRU (a0:zAc):HS 84 (zIL a0) [.agg [.int .i64 a0.F_Scheme, .int .i64 a0.F_Dim, .lst (List.map (D.int .i64) a0.F_L), .lst (List.map (D.int .i64) a0.F_V), .int .i64 a0.F_Scale, .int .i64 a0.F_Wide, .lst (List.map (D.int .u64) a0.F_Lev), .lst (List.map D.bool a0.F_Neg)]] zAj:=Tr.fn (F:=zII)
 (.call 10 (zDv a0) zAf fun r1=> .join 2 4 (γ:=Bool) ⟨fun x=>[(16,bB x)],[1],fun _=>[],[.s 15]⟩
  (.iteX 0 12 (r1)
  (.ret 5 true)
  (.ret 5 (a0.F_Scheme !=2)))
  fun j2=> .iteB 1 16 (j2)
  (.ret 8 ([],1))
  (.mk 6 eI 8 0 a0.F_Dim a0.F_Dim<| .let_ (List.replicate (Int.toNat a0.F_Dim) 0:List Int) fun y3=> .len 7 eU a0.F_Lev<| .loopR 4 id ⟨_,_,_,_,_,zPl a0 0 y3⟩ fun j10=> .ret 8 (j10,0)))
noncomputable abbrev zQk:Fe:= .of Tryz.prog 144 zAl
theorem zO5 (a0:Bool) (a1:Int) (a2:Int) (a3:List Int) (a4:List Int) (a5:Int) (a6:Int) (a7:List Int) (a8:List Bool):HS 144 (zE8 a0 a1 a2 a3 a4 a5 a6 a7 a8) [.bool a0, .cp [.int .i64 a1, .int .i64 a2, .lst (List.map (D.int .i64) a3), .lst (List.map (D.int .i64) a4), .int .i64 a5, .int .i64 a6, .lst (List.map (D.int .u64) a7), .lst (List.map D.bool a8)] 0] zAl:=Tr.fn (F:=zQk)
 (.iteB 9 4 (a0)
  (.ret 10 (IntKind.i64.wrap (0-a5)))
  (.ret 9 a5))
noncomputable abbrev zCc:Fe:= .of Tryz.prog 143 zAF
def zF5 (a0:List Bool) (a1:Int) (a2:Int) (a3:List Int) (a4:List Int) (a5:Int) (a6:Int) (a7:List Int) (a8:List Bool) (x0:Int) (x1:List Int):St:=⟨[(13,nI x0),(12,nI (a0.length:Int)),(11,lB a0),(5,sI (.h 0) x1),(1, .d (.clo (.func 144) [] [.cp [.int .i64 a1, .int .i64 a2, .lst (List.map (D.int .i64) a3), .lst (List.map (D.int .i64) a4), .int .i64 a5, .int .i64 a6, .lst (List.map (D.int .u64) a7), .lst (List.map D.bool a8)] 0]))],[]⟩
def zFY (a0:List Bool) (a1:Int) (a2:Int) (a3:List Int) (a4:List Int) (a5:Int) (a6:Int) (a7:List Int) (a8:List Bool) (x:(List Int)):St:=⟨[(5,sI (.h 1) x)],[]⟩
theorem zFQ (a0:List Bool) (a1:Int) (a2:Int) (a3:List Int) (a4:List Int) (a5:Int) (a6:Int) (a7:List Int) (a8:List Bool):∀(x0:Int) (x1:List Int),Ok (zAy a0 a1 a2 a3 a4 a5 a6 a7 a8 x0 x1) (LN zCc (.exit 0) (zFY a0 a1 a2 a3 a4 a5 a6 a7 a8) 143 0 (zF5 a0 a1 a2 a3 a4 a5 a6 a7 a8 x0 x1)):=by
 refine zAy.partial_correctness a0 a1 a2 a3 a4 a5 a6 a7 a8 _ ?_
 intro f IH x0 x1
 exact Tr.lpN (F:=zCc) (X:=Int×(List Int))
  (.ite 6 14 (x0<(a0.length:Int))
   (.idx 6 eB a0 x0<| .call 7 (zO5 (at' a0 x0) a1 a2 a3 a4 a5 a6 a7 a8) zAo fun r3=> .app 1 eI 8 x1 [r3]<| .again 7 (IntKind.i64.wrap (x0+1),x1++[r3]))
   (.ret 4 x1)) _ fun x r=>IH x.1 x.2 r
theorem zGu (a0:List Bool) (a1:Int) (a2:Int) (a3:List Int) (a4:List Int) (a5:Int) (a6:Int) (a7:List Int) (a8:List Bool):HS 143 (zCf a0 a1 a2 a3 a4 a5 a6 a7 a8) [.lst (List.map D.bool a0), .clo (.func 144) [] [.cp [.int .i64 a1, .int .i64 a2, .lst (List.map (D.int .i64) a3), .lst (List.map (D.int .i64) a4), .int .i64 a5, .int .i64 a6, .lst (List.map (D.int .u64) a7), .lst (List.map D.bool a8)] 0]] zAF:=Tr.fn (F:=zCc)
 (.len 7 eB a0<| .mk 0 eI 8 0 0 (a0.length:Int)<| .let_ (List.replicate (Int.toNat 0) 0:List Int) fun y1=> .len 6 eB a0<| .loop 4 ⟨_,_,_,_,_,zFQ a0 a1 a2 a3 a4 a5 a6 a7 a8 0 y1⟩ fun j4=> .ret 7 j4)
noncomputable abbrev zUs:Fe:= .of Tryz.prog 89 zAj
theorem zTz (a0:zAc):HS 89 (zKJ a0) [.agg [.int .i64 a0.F_Scheme, .int .i64 a0.F_Dim, .lst (List.map (D.int .i64) a0.F_L), .lst (List.map (D.int .i64) a0.F_V), .int .i64 a0.F_Scale, .int .i64 a0.F_Wide, .lst (List.map (D.int .u64) a0.F_Lev), .lst (List.map D.bool a0.F_Neg)]] zAj:=Tr.fn (F:=zUs)
 (.call 10 (zDv a0) zAf fun r1=> .join 2 4 (γ:=Bool) ⟨fun x=>[(11,bB x)],[1],fun _=>[],[.s 15]⟩
  (.iteX 0 7 (r1)
  (.ret 5 true)
  (.ret 5 (a0.F_Scheme !=3)))
  fun j2=> .iteB 1 11 (j2)
  (.ret 8 ([],1))
  (.call 7 (zGu a0.F_Neg a0.F_Scheme a0.F_Dim a0.F_L a0.F_V a0.F_Scale a0.F_Wide a0.F_Lev a0.F_Neg) zBS fun r3=> .ret 4 (r3,0)))
noncomputable abbrev zTF:Fe:= .of Tryz.prog 19 zAj
theorem zMu (a0:zAc):HS 19 (zFi a0) [.agg [.int .i64 a0.F_Scheme, .int .i64 a0.F_Dim, .lst (List.map (D.int .i64) a0.F_L), .lst (List.map (D.int .i64) a0.F_V), .int .i64 a0.F_Scale, .int .i64 a0.F_Wide, .lst (List.map (D.int .u64) a0.F_Lev), .lst (List.map D.bool a0.F_Neg)]] zAj:=Tr.fn (F:=zTF)
 (.call 10 (zDv a0) zAf fun r1=> .iteX 2 6 (r1)
  (.ret 8 ([],1))
  (.callG 7 [] [] zGc fun r2=> .hold 1 []<| .cas 1 10 (a0.F_Scheme=(0:Int)) (.d (.agg [.clo (.func 69) [] [], .clo (.func 70) [] [], .clo (.func 71) [] [], .clo (.func 73) [] []])) (.d (lookD a0.F_Scheme [(1, .agg [.clo (.func 74) [] [], .clo (.func 75) [] [], .clo (.func 77) [] [], .clo (.func 79) [] []]),(2, .agg [.clo (.func 81) [] [], .clo (.func 82) [] [], .clo (.func 84) [] [], .clo (.func 85) [] []]),(3, .agg [.clo (.func 69) [] [], .clo (.func 87) [] [], .clo (.func 89) [] [], .clo (.func 90) [] []])] (.agg [.nilfn, .nilfn, .nilfn, .nilfn]))) (.d (lookD a0.F_Scheme [(0, .agg [.clo (.func 69) [] [], .clo (.func 70) [] [], .clo (.func 71) [] [], .clo (.func 73) [] []]),(1, .agg [.clo (.func 74) [] [], .clo (.func 75) [] [], .clo (.func 77) [] [], .clo (.func 79) [] []]),(2, .agg [.clo (.func 81) [] [], .clo (.func 82) [] [], .clo (.func 84) [] [], .clo (.func 85) [] []]),(3, .agg [.clo (.func 69) [] [], .clo (.func 87) [] [], .clo (.func 89) [] [], .clo (.func 90) [] []])] (.agg [.nilfn, .nilfn, .nilfn, .nilfn]))) zB5 zB6
  (.call 1 (zSw a0) zAs fun r3=> .ret 7 (r3.1,r3.2))
  (.cas 0 10 (a0.F_Scheme=(1:Int)) (.d (.agg [.clo (.func 74) [] [], .clo (.func 75) [] [], .clo (.func 77) [] [], .clo (.func 79) [] []])) (.d (lookD a0.F_Scheme [(2, .agg [.clo (.func 81) [] [], .clo (.func 82) [] [], .clo (.func 84) [] [], .clo (.func 85) [] []]),(3, .agg [.clo (.func 69) [] [], .clo (.func 87) [] [], .clo (.func 89) [] [], .clo (.func 90) [] []])] (.agg [.nilfn, .nilfn, .nilfn, .nilfn]))) (.d (lookD a0.F_Scheme [(1, .agg [.clo (.func 74) [] [], .clo (.func 75) [] [], .clo (.func 77) [] [], .clo (.func 79) [] []]),(2, .agg [.clo (.func 81) [] [], .clo (.func 82) [] [], .clo (.func 84) [] [], .clo (.func 85) [] []]),(3, .agg [.clo (.func 69) [] [], .clo (.func 87) [] [], .clo (.func 89) [] [], .clo (.func 90) [] []])] (.agg [.nilfn, .nilfn, .nilfn, .nilfn]))) zB5 zB6
  (.call 1 (zRA a0) zAs fun r4=> .ret 7 (r4.1,r4.2))
  (.cas 0 10 (a0.F_Scheme=(2:Int)) (.d (.agg [.clo (.func 81) [] [], .clo (.func 82) [] [], .clo (.func 84) [] [], .clo (.func 85) [] []])) (.d (lookD a0.F_Scheme [(3, .agg [.clo (.func 69) [] [], .clo (.func 87) [] [], .clo (.func 89) [] [], .clo (.func 90) [] []])] (.agg [.nilfn, .nilfn, .nilfn, .nilfn]))) (.d (lookD a0.F_Scheme [(2, .agg [.clo (.func 81) [] [], .clo (.func 82) [] [], .clo (.func 84) [] [], .clo (.func 85) [] []]),(3, .agg [.clo (.func 69) [] [], .clo (.func 87) [] [], .clo (.func 89) [] [], .clo (.func 90) [] []])] (.agg [.nilfn, .nilfn, .nilfn, .nilfn]))) zB5 zB6
  (.call 1 (zRU a0) zAs fun r5=> .ret 7 (r5.1,r5.2))
  (.cas 0 10 (a0.F_Scheme=(3:Int)) (.d (.agg [.clo (.func 69) [] [], .clo (.func 87) [] [], .clo (.func 89) [] [], .clo (.func 90) [] []])) (.d (lookD a0.F_Scheme [] (.agg [.nilfn, .nilfn, .nilfn, .nilfn]))) (.d (lookD a0.F_Scheme [(3, .agg [.clo (.func 69) [] [], .clo (.func 87) [] [], .clo (.func 89) [] [], .clo (.func 90) [] []])] (.agg [.nilfn, .nilfn, .nilfn, .nilfn]))) zB5 zB6
  (.call 1 (zTz a0) zAs fun r6=> .ret 7 (r6.1,r6.2))
  (.halt))))))
noncomputable abbrev zSe:Fe:= .of Tryz.prog 102 zAD
theorem zQ3 (a0:Int) (a1:List Int) (a2:List Int):HS 102 (zEF a0 a1 a2) [.int .i64 a0, .cp [.lst (List.map (D.int .i64) a1)] 0, .cp [.lst (List.map (D.int .i64) a2)] 0] zAD:=Tr.fn (F:=zSe)
 (.idx 9 eI a1 a0<| .idx 3 eI a2 a0<| .call 1 (zSl (at' a1 a0) (at' a2 a0)) zBl fun r1=> .ret 6 (r1.1,r1.2))
noncomputable abbrev zFI:Fe:= .of Tryz.prog 58 zAj
def zMe (a1:List Int) (a2:List Int) (y1:List Int) (x0:Int) (x1:List Int):St:=⟨[(13,nI x0),(12,nI (y1.length:Int)),(6,sI (.h 0) x1),(1, .d (.clo (.func 102) [] [.cp [.lst (List.map (D.int .i64) a1)] 0, .cp [.lst (List.map (D.int .i64) a2)] 0]))],[]⟩
def zMc (a1:List Int) (a2:List Int) (y1:List Int) (x:(List Int)):St:=⟨[(6,sI (.h 1) x)],[]⟩
theorem zLW (a1:List Int) (a2:List Int) (y1:List Int):∀(x0:Int) (x1:List Int),Ok (zBC a1 a2 y1 x0 x1) (LR zFI (.exit 0) (zMc a1 a2 y1) 58 0 (zMe a1 a2 y1 x0 x1)):=by
 refine zBC.partial_correctness a1 a2 y1 _ ?_
 intro f IH x0 x1
 exact Tr.lpR (F:=zFI) (X:=Int×(List Int))
  (.ite 6 14 (x0<(y1.length:Int))
   (.call 19 (zQ3 x0 a1 a2) zBl fun r3=> .idx 3 eI x1 x0<| .sto 0 [6] eI x1 x0 r3.1<| .let_ (x1.set (Int.toNat x0) r3.1:List Int) fun y4=> .iteN 7 26 (r3.2=0)
   (.ret 11 (.inl ([],r3.2)))
   (.again 7 (IntKind.i64.wrap (x0+1),y4)))
   (.ret 4 (.inr x1))) _ fun x r=>IH x.1 x.2 r
theorem zNm (a0:Int) (a1:List Int) (a2:List Int):HS 58 (zFG a0 a1 a2) [.int .i64 a0, .clo (.func 102) [] [.cp [.lst (List.map (D.int .i64) a1)] 0, .cp [.lst (List.map (D.int .i64) a2)] 0]] zAj:=Tr.fn (F:=zFI)
 (.mk 8 eI 8 0 a0 a0<| .let_ (List.replicate (Int.toNat a0) 0:List Int) fun y1=> .len 6 eI y1<| .loopR 4 id ⟨_,_,_,_,_,zLW a1 a2 y1 0 y1⟩ fun j6=> .ret 8 (j6,0))
noncomputable abbrev zAaU:Fe:= .of Tryz.prog 43 zAj
theorem zYY (a0:List Int) (a1:List Int):HS 43 (zMD a0 a1) [.lst (List.map (D.int .i64) a0), .lst (List.map (D.int .i64) a1)] zAj:=Tr.fn (F:=zAaU)
 (.call 12 (zQy a0 a1) zAo fun r1=> .iteN 7 11 (r1=0)
  (.ret 9 ([],r1))
  (.len 5 eI a0<| .call 1 (zNm (a0.length:Int) a0 a1) zAs fun r2=> .ret 6 (r2.1,r2.2)))
noncomputable abbrev zVr:Fe:= .of Tryz.prog 20 zAj
theorem zOG (a0:List Int) (a1:zAc):HS 20 (zGK a0 a1) [.lst (List.map (D.int .i64) a0), .agg [.int .i64 a1.F_Scheme, .int .i64 a1.F_Dim, .lst (List.map (D.int .i64) a1.F_L), .lst (List.map (D.int .i64) a1.F_V), .int .i64 a1.F_Scale, .int .i64 a1.F_Wide, .lst (List.map (D.int .u64) a1.F_Lev), .lst (List.map D.bool a1.F_Neg)]] zAj:=Tr.fn (F:=zVr)
 (.call 9 (zMu a1) zAs fun r1=> .iteN 12 14 (r1.2=0)
  (.ret 9 ([],r1.2))
  (.call 6 (zYY a0 r1.1) zAs fun r2=> .ret 6 (r2.1,r2.2)))
def zNI (v:Int×Int×(List Int)×(List Int)×Int×Int×(List Int)×(List Bool)×(List Int)×Int):PV:= .tup [.d (.agg [.int .i64 v.1, .int .i64 v.2.1, .lst (List.map (D.int .i64) v.2.2.1), .lst (List.map (D.int .i64) v.2.2.2.1), .int .i64 v.2.2.2.2.1, .int .i64 v.2.2.2.2.2.1, .lst (List.map (D.int .u64) v.2.2.2.2.2.2.1), .lst (List.map D.bool v.2.2.2.2.2.2.2.1)]),sI (.s 0) v.2.2.2.2.2.2.2.2.1,nI v.2.2.2.2.2.2.2.2.2]
noncomputable abbrev zUw:Fe:= .of Tryz.prog 13 zNI
theorem zTj (a0:zAk) (a1:List Int) (a2:List Int) (a3:Int) (a4:List Int):HS 13 (zHk a0 a1 a2 a3 a4) [.agg [.int .i64 a0.F_Scheme, .int .i64 a0.F_K, .int .i64 a0.F_Wide], .lst (List.map (D.int .i64) a1), .lst (List.map (D.int .i64) a2), .int .u64 a3, .lst (List.map (D.int .i64) a4)] zNI:=Tr.fn (F:=zUw)
 (.call 11 (zRV a1 a2) zAs fun r1=> .join 12 0 (γ:=Int×Int×Int×(List Int)×(List Int)×Int×Int×(List Int)×(List Bool)) ⟨fun x=>[(12,nI x.1)],[13,11,10],fun x=>[(.s 31,[nI x.2.1,nI x.2.2.1,sI (.h 0) x.2.2.2.1,sI (.h 1) x.2.2.2.2.1,nI x.2.2.2.2.2.1,nI x.2.2.2.2.2.2.1,sU (.h 2) x.2.2.2.2.2.2.2.1,sB (.h 3) x.2.2.2.2.2.2.2.2])],[]⟩
  (.ite 0 21 (r1.2=0)
  (.call 6 (zNe a0 r1.1 a3 a4) zNG fun r2=> .ret 6 (r2.2.2.2.2.2.2.2.2,r2.1,r2.2.1,r2.2.2.1,r2.2.2.2.1,r2.2.2.2.2.1,r2.2.2.2.2.2.1,r2.2.2.2.2.2.2.1,r2.2.2.2.2.2.2.2.1))
  (.ret 2 (r1.2,0,0,[],[],0,0,[],[])))
  fun j3=> .ite 6 31 (j3.1=0)
  (.call 4 (zOG r1.1 (⟨j3.2.1,j3.2.2.1,j3.2.2.2.1,j3.2.2.2.2.1,j3.2.2.2.2.2.1,j3.2.2.2.2.2.2.1,j3.2.2.2.2.2.2.2.1,j3.2.2.2.2.2.2.2.2⟩:zAc)) zAs fun r4=> .iteN 12 39 (r4.2=0)
  (.ret 11 (0,0,[],[],0,0,[],[],[],r4.2))
  (.ret 11 (j3.2.1,j3.2.2.1,j3.2.2.2.1,j3.2.2.2.2.1,j3.2.2.2.2.2.1,j3.2.2.2.2.2.2.1,j3.2.2.2.2.2.2.2.1,j3.2.2.2.2.2.2.2.2,r4.1,0)))
  (.iteN 8 39 (j3.1=0)
  (.ret 11 (0,0,[],[],0,0,[],[],[],j3.1))
  (.ret 11 (j3.2.1,j3.2.2.1,j3.2.2.2.1,j3.2.2.2.2.1,j3.2.2.2.2.2.1,j3.2.2.2.2.2.2.1,j3.2.2.2.2.2.2.2.1,j3.2.2.2.2.2.2.2.2,[],0))))
noncomputable abbrev zG6:Fe:= .of Tryz.prog 16 zAd
def zNY (a0:List Int) (a1:List Int) (x0:Int):St:=⟨[(13,nI x0),(12,nI (a0.length:Int)),(0,lI a0),(1,lI a1)],[]⟩
def zNT (a0:List Int) (a1:List Int) (x:Unit):St:=⟨[],[]⟩
theorem zNv (a0:List Int) (a1:List Int):∀(x0:Int),Ok (zDa a0 a1 x0) (LR zG6 (.exit 0) (zNT a0 a1) 16 0 (zNY a0 a1 x0)):=by
 refine zDa.partial_correctness a0 a1 _ ?_
 intro f IH x0
 exact Tr.lpR (F:=zG6) (X:=Int)
  (.ite 6 14 (x0<(a0.length:Int))
   (.idx 13 eI a0 x0<| .idx 3 eI a1 x0<| .iteN 3 24 ((at' a0 x0)=(at' a1 x0))
   (.ret 9 (.inl false))
   (.again 7 (IntKind.i64.wrap (x0+1))))
   (.ret 4 (.inr ()))) _ fun x r=>IH x r
theorem zGv (a0:List Int) (a1:List Int):HS 16 (zDh a0 a1) [.lst (List.map (D.int .i64) a0), .lst (List.map (D.int .i64) a1)] zAd:=Tr.fn (F:=zG6)
 (.len 8 eI a0<| .len 1 eI a1<| .iteN 2 10 ((a0.length:Int)=(a1.length:Int))
  (.ret 7 false)
  (.len 6 eI a0<| .loopR 4 id ⟨_,_,_,_,_,zNv a0 a1 0⟩ fun j1=> .ret 6 true))
noncomputable abbrev zQj:Fe:= .of Tryz.prog 9 zAd
theorem zOZ:HS 9 zE9 [] zAd:=Tr.fn (F:=zQj)
 (.callZ 9 (zTj (⟨1,1,0⟩:zAk) [3,-5] [0,0] 1 []) fun r1=> .join 14 5 (γ:=Bool) ⟨fun x=>[(19,bB x)],[2,1],fun _=>[],[.s 1743]⟩
  (.ite 0 14 (r1.2.2.2.2.2.2.2.2.2=0)
  (.len 2 eI r1.2.2.1<| .ret 3 ((r1.2.2.1.length:Int)==1))
  (.ret 6 false))
  fun j2=> .join 1 6 (γ:=Bool) ⟨fun x=>[(26,bB x)],[2,1],fun _=>[],[.s 1743]⟩
  (.iteB 0 20 (j2)
  (.idx 2 eI r1.2.2.1 0<| .ret 4 ((at' r1.2.2.1 0)==1))
  (.ret 7 false))
  fun j3=> .join 1 5 (γ:=Bool) ⟨fun x=>[(32,bB x)],[2],fun _=>[],[]⟩
  (.iteB 0 27 (j3)
  (.call 3 (zGv r1.2.2.2.1 [-5]) zAf fun r4=> .ret 2 r4)
  (.ret 6 false))
  fun j5=> .join 1 4 (γ:=Bool) ⟨fun x=>[(37,bB x)],[],fun _=>[],[]⟩
  (.iteB 0 33 (j5)
  (.call 2 (zGv r1.2.2.2.2.2.2.2.2.1 [3,0]) zAf fun r6=> .ret 2 r6)
  (.ret 5 false))
  fun j7=> .ret 3 j7)
noncomputable abbrev zHv:Fe:= .of Tryz.prog 10 zAd
def zOR (a0:List Int) (a1:List (List Int)) (x0:Int):St:=⟨[(9,nI x0),(8,nI (a1.length:Int)),(7, .d (.lst (List.map (enL (D.int .i64)) a1))),(0,lI a0),(1, .d (.lst (List.map (enL (D.int .i64)) a1)))],[]⟩
def zOT (a0:List Int) (a1:List (List Int)) (x:Unit):St:=⟨[(0,lI a0),(1, .d (.lst (List.map (enL (D.int .i64)) a1)))],[]⟩
theorem zN8 (a0:List Int) (a1:List (List Int)):∀(x0:Int),Ok (zB0 a0 a1 x0) (LR zHv (.exit 0) (zOT a0 a1) 10 0 (zOR a0 a1 x0)):=by
 refine zB0.partial_correctness a0 a1 _ ?_
 intro f IH x0
 exact Tr.lpR (F:=zHv) (X:=Int)
  (.ite 6 10 (x0<(a1.length:Int))
   (.idx 6 (eL eI) a1 x0<| .len 6 eI (at' a1 x0)<| .join 2 4 (γ:=Bool) ⟨fun x=>[(20,bB x)],[6,9,8,7,0,1],fun _=>[],[]⟩
   (.ite 0 16 (((at' a1 x0).length:Int)>200)
   (.len 1 eI (at' a1 x0)<| .ret 3 (decide (((at' a1 x0).length:Int)≤4096)))
   (.ret 5 false))
   fun j1=> .join 1 4 (γ:=Bool) ⟨fun x=>[(25,bB x)],[9,8,7,0,1],fun _=>[],[]⟩
   (.iteB 0 21 (j1)
   (.ret 5 true)
   (.len 1 eI (at' a1 x0)<| .ret 3 (decide (((at' a1 x0).length:Int)>5000))))
   fun j2=> .iteB 1 25 (j2)
   (.ret 9 (.inl false))
   (.again 7 (IntKind.i64.wrap (x0+1))))
   (.ret 4 (.inr ()))) _ fun x r=>IH x r
theorem zP7 (a0:List Int) (a1:List (List Int)):HS 10 (zFM a0 a1) [.lst (List.map (D.int .i64) a0), .lst (List.map (enL (D.int .i64)) a1)] zAd:=Tr.fn (F:=zHv)
 (.len 8 (eL eI) a1<| .loopR 4 id ⟨_,_,_,_,_,zN8 a0 a1 0⟩ fun j3=> .len 4 eI a0<| .join 2 4 (γ:=Bool) ⟨fun x=>[(34,bB x)],[],fun _=>[],[]⟩
  (.ite 0 30 ((a0.length:Int)≤50)
  (.len 1 (eL eI) a1<| .ret 3 (decide ((a1.length:Int)≤30)))
  (.ret 5 false))
  fun j4=> .ret 3 j4)
def zBu (v:(List Int)):PV:=sY (.s 0) v
noncomputable abbrev zLu:Fe:= .of Tryz.prog 118 zBu
theorem zAw:∀v,(zBu v).noLst:=fun _=>(zAv fun _=>trivial)
theorem zCR (a0 : List Int) : HS 118 (zAZ a0) [.lst (List.map (D.int .u8) a0)] zBu := Tr.fn (F := zLu)
 (.nilq 8 eY.f a0
  (    if room 1 ([] ++ a0).length then
       some ([] ++ a0)
     else none)
  (    some [])
  (fun h => by (try obtain rfl := List.eq_nil_of_length_eq_zero h); first | rfl | (simp [h]; done))
  (.app 7 eY 1 [] a0 <| .ret 3 ([] ++ a0))
  (.ret 8 []))
def zOk (v:(List Int)):PV:=sY (.s 0) v
def zOn (v:(List Int)):List (Tg×List PV):=[]
noncomputable abbrev zPz:Fe:= .of Tryz.prog 119 zOk zOn
def zVW (x0:List Int) (x1:Int):St:=⟨[(0,sY (.h 1) x0),(1,nU x1)],[]⟩
def zVA (x:(List Int)×Int):St:=⟨[(0,sY (.h 2) x.1),(1,nU x.2)],[]⟩
theorem zUF:∀(x0:List Int) (x1:Int),Ok (zDx x0 x1) (LN zPz (.exit 0) zVA 119 0 (zVW x0 x1)):=by
 refine zDx.partial_correctness _ ?_
 intro f IH x0 x1
 exact Tr.lpN (F:=zPz) (X:=(List Int)×Int)
  (.ite 7 6 (x1>127)
   (.app 10 eY 1 x0 [bOr .u8 (IntKind.u8.wrap x1) 128]<| .let_ (x0++[bOr .u8 (IntKind.u8.wrap x1) 128]:List Int) fun y1=> .again 8 (y1,sShr .u64 x1 7))
   (.ret 4 (x0,x1))) _ fun x r=>IH x.1 x.2 r
theorem zR3:∀v,(zOk v).noLst:=fun _=>(zAv fun _=>trivial)
theorem zQH:∀v,zCM (zOn v):=fun _=>trivial
theorem zRL (a0:List Int) (a1:Int):HG 119 (zJT a0 a1) [sY (.h 0) a0,nU a1] [] zOk zOn:=Tr.fnG (F:=zPz)
 (.loop 7 ⟨_,_,_,_,_,zUF a0 a1⟩ fun j3=> .app 7 eY 1 j3.1 [IntKind.u8.wrap j3.2]<| .ret 3 (j3.1++[IntKind.u8.wrap j3.2]))
noncomputable abbrev zPI:Fe:= .of Tryz.prog 62 zBu
def zW5 (a1:List Int) (x0:Int) (x1:List Int):St:=⟨[(11,nI x0),(10,nI (a1.length:Int)),(9,lU a1),(0,sY (.h 0) x1)],[]⟩
def zVV (a1:List Int) (x:(List Int)):St:=⟨[(0,sY (.h 1) x)],[]⟩
theorem zUu (a1:List Int):∀(x0:Int) (x1:List Int),Ok (zD2 a1 x0 x1) (LN zPI (.exit 0) (zVV a1) 62 0 (zW5 a1 x0 x1)):=by
 refine zD2.partial_correctness a1 _ ?_
 intro f IH x0 x1
 exact Tr.lpN (F:=zPI) (X:=Int×(List Int))
  (.ite 6 12 (x0<(a1.length:Int))
   (.idx 6 eU a1 x0<| .callB 6 [(.h 0, .h 0)] (zRL x1 (at' a1 x0)) zR3 zQH fun r2=> .again 7 (IntKind.i64.wrap (x0+1),r2))
   (.ret 4 x1)) _ fun x r=>IH x.1 x.2 r
theorem zFJ (a0:List Int) (a1:List Int):HS 62 (zEI a0 a1) [.lst (List.map (D.int .u8) a0), .lst (List.map (D.int .u64) a1)] zBu:=Tr.fn (F:=zPI)
 (.call 7 (zCR a0) zAw fun r1=> .len 6 eU a1<| .loop 4 ⟨_,_,_,_,_,zUu a1 0 r1⟩ fun j3=> .ret 7 j3)
noncomputable abbrev zAaB:Fe:= .of Tryz.prog 191 zBy
theorem zZr (a0:Int):HS 191 (zMC a0) [.int .i64 a0] zBy:=Tr.fn (F:=zAaB)
 (.ret 16 (bXor .u64 (IntKind.u64.wrap (sShl .i64 a0 1)) (IntKind.u64.wrap (sShr .i64 a0 63))))
noncomputable abbrev zLO:Fe:= .of Tryz.prog 157 zBu
def zSu (a1:List Int) (x0:Int) (x1:List Int):St:=⟨[(11,nI x0),(10,nI (a1.length:Int)),(9,lI a1),(0,sY (.h 0) x1)],[]⟩
def zRD (a1:List Int) (x:(List Int)):St:=⟨[(0,sY (.h 1) x)],[]⟩
theorem zQL (a1:List Int):∀(x0:Int) (x1:List Int),Ok (zCv a1 x0 x1) (LN zLO (.exit 0) (zRD a1) 157 0 (zSu a1 x0 x1)):=by
 refine zCv.partial_correctness a1 _ ?_
 intro f IH x0 x1
 exact Tr.lpN (F:=zLO) (X:=Int×(List Int))
  (.ite 6 12 (x0<(a1.length:Int))
   (.idx 6 eI a1 x0<| .call 6 (zZr (at' a1 x0)) zDy fun r2=> .callB 0 [(.h 0, .h 0)] (zRL x1 r2) zR3 zQH fun r3=> .again 7 (IntKind.i64.wrap (x0+1),r3))
   (.ret 4 x1)) _ fun x r=>IH x.1 x.2 r
theorem zUH (a0:List Int) (a1:List Int):HS 157 (zHZ a0 a1) [.lst (List.map (D.int .u8) a0), .lst (List.map (D.int .i64) a1)] zBu:=Tr.fn (F:=zLO)
 (.call 7 (zCR a0) zAw fun r1=> .len 6 eI a1<| .loop 4 ⟨_,_,_,_,_,zQL a1 0 r1⟩ fun j4=> .ret 7 j4)
def zGw (v:(List Int)×Int):PV:= .tup []
def zGB (v:(List Int)×Int):List (Tg×List PV):=[(.up (.s 0),[sY (.s 0) v.1,nI v.2])]
noncomputable abbrev zL6:Fe:= .of Tryz.prog 109 zGw zGB
theorem zGD (a0:zAu) (a1:zAc):HG 109 (zCo a0 a1) [.ptr (.up (.s 0)) 0, .d (.agg [.int .i64 a1.F_Scheme, .int .i64 a1.F_Dim, .lst (List.map (D.int .i64) a1.F_L), .lst (List.map (D.int .i64) a1.F_V), .int .i64 a1.F_Scale, .int .i64 a1.F_Wide, .lst (List.map (D.int .u64) a1.F_Lev), .lst (List.map D.bool a1.F_Neg)])] [(.up (.s 0),[lY a0.F_b,nI a0.F_e])] zGw zGB:=Tr.fnG (F:=zL6)
 (.call 12 (zUH a0.F_b a1.F_V) zAw fun r1=> .hold 1 []<| .ret 5 (r1,a0.F_e))
def zAJ (v:(List Int)×Int):PV:= .tup [sY (.s 0) v.1,nI v.2]
noncomputable abbrev zMR:Fe:= .of Tryz.prog 159 zAJ
def zTk (a1:List Int) (x0:Int) (x1:Int) (x2:List Int):St:=⟨[(29,nI x0),(28,nI (a1.length:Int)),(27,lI a1),(8,nI x1),(7,sU (.h 0) x2)],[]⟩
def zSX (a1:List Int) (x:(List Int)):St:=⟨[(7,sU (.h 1) x)],[]⟩
theorem zSc (a1:List Int):∀(x0:Int) (x1:Int) (x2:List Int),Ok (zDn a1 x0 x1 x2) (LN zMR (.exit 0) (zSX a1) 159 0 (zTk a1 x0 x1 x2)):=by
 refine zDn.partial_correctness a1 _ ?_
 intro f IH x0 x1 x2
 exact Tr.lpN (F:=zMR) (X:=Int×Int×(List Int))
  (.ite 6 30 (x0<(a1.length:Int))
   (.idx 6 eI a1 x0<| .app 12 eU 8 x2 [IntKind.u64.wrap (IntKind.i64.wrap ((IntKind.i64.wrap ((at' a1 x0)-x1))-1))]<| .let_ (x2++[IntKind.u64.wrap (IntKind.i64.wrap ((IntKind.i64.wrap ((at' a1 x0)-x1))-1))]:List Int) fun y6=> .again 11 (IntKind.i64.wrap (x0+1),at' a1 x0,y6))
   (.ret 4 x2)) _ fun x r=>IH x.1 x.2.1 x.2.2 r
theorem zBL:∀v,(zAJ v).noLst:=fun _=>⟨(zAv fun _=>trivial),trivial,trivial⟩
theorem zWx (a0:Int) (a1:List Int):HS 159 (zJK a0 a1) [.int .i64 a0, .lst (List.map (D.int .i64) a1)] zAJ:=Tr.fn (F:=zMR)
 (.call 10 (zI9 a0 a1) zAo fun r1=> .iteN 7 15 (r1=0)
  (.ret 9 ([],r1))
  (.len 5 eI a1<| .mk 1 eU 8 0 0 (IntKind.i64.wrap ((a1.length:Int)+1))<| .let_ (List.replicate (Int.toNat 0) 0:List Int) fun y2=> .len 6 eI a1<| .app 2 eU 8 y2 [IntKind.u64.wrap (a1.length:Int)]<| .let_ (y2++[IntKind.u64.wrap (a1.length:Int)]:List Int) fun y4=> .len 10 eI a1<| .loop 4 ⟨_,_,_,_,_,zSc a1 0 (-1) y4⟩ fun j8=> .call 4 (zFJ [] j8) zAw fun r9=> .ret 4 (r9,0)))
def zD9 (v:(List Int)×Int):PV:= .tup []
def zD6 (v:(List Int)×Int):List (Tg×List PV):=[(.up (.s 0),[sY (.s 0) v.1,nI v.2])]
noncomputable abbrev zMd:Fe:= .of Tryz.prog 158 zD9 zD6
theorem zC2:∀v,(zD9 v).noLst:=fun _=>trivial
theorem zCS:∀v,zCM (zD6 v):=fun _=>⟨⟨(zAv fun _=>trivial),trivial,trivial⟩,trivial⟩
theorem zC0 (a0:zAu) (a1:List Int) (a2:Int):HG 158 (zBA a0 a1 a2) [.ptr (.up (.s 0)) 0,lY a1,nI a2] [(.up (.s 0),[sY (.h 0) a0.F_b,nI a0.F_e])] zD9 zD6:=Tr.fnG (F:=zMd)
 (.app 8 eY 1 a0.F_b a1<| .iteN 9 16 (a2=0)
  (.ret 8 (a0.F_b++a1,a2))
  (.ret 2 (a0.F_b++a1,a0.F_e)))
def zEW (v:(List Int)×Int):PV:= .tup []
def zEQ (v:(List Int)×Int):List (Tg×List PV):=[(.up (.s 0),[sY (.s 0) v.1,nI v.2])]
noncomputable abbrev zNs:Fe:= .of Tryz.prog 110 zEW zEQ
theorem zMY:∀v,(zEW v).noLst:=fun _=>trivial
theorem zMi:∀v,zCM (zEQ v):=fun _=>⟨⟨(zAv fun _=>trivial),trivial,trivial⟩,trivial⟩
theorem zM3 (a0:zAu) (a1:zAc):HG 110 (zFs a0 a1) [.ptr (.up (.s 0)) 0, .d (.agg [.int .i64 a1.F_Scheme, .int .i64 a1.F_Dim, .lst (List.map (D.int .i64) a1.F_L), .lst (List.map (D.int .i64) a1.F_V), .int .i64 a1.F_Scale, .int .i64 a1.F_Wide, .lst (List.map (D.int .u64) a1.F_Lev), .lst (List.map D.bool a1.F_Neg)])] [(.up (.s 0),[sY (.h 0) a0.F_b,nI a0.F_e])] zEW zEQ:=Tr.fnG (F:=zNs)
 (.call 11 (zWx a1.F_Dim a1.F_L) zBL fun r1=> .callB 2 [(.up (.s 0), .up (.s 0)),(.h 0, .h 0)] (zC0 a0 r1.1 r1.2) zC2 zCS fun r2=> .callG 4 [(.up (.s 0), .up (.s 0))] [.s 1728] (zGD (⟨r2.1,r2.2⟩:zAu) a1) fun r3=> .ret 1 (r3.1,r3.2))
def zNE (v:Int):PV:= .d (.clo (.func 196) [] [.cp [.int .i64 v] 0])
noncomputable abbrev zUr:Fe:= .of Tryz.prog 170 zNE
theorem zNM (a0:Int):HS 170 (zFV a0) [.int .i64 a0] zNE:=Tr.fn (F:=zUr)
 (.box 11 (.s 15) [.int .i64 a0]<| .ret 0 a0)
noncomputable abbrev zUo:Fe:= .of Tryz.prog 126 zAD
theorem zFv (a0:Int) (a1:Int):HS 126 (zDi a0 a1) [.int .i64 a0, .int .i64 a1] zAD:=Tr.fn (F:=zUo)
 (.join 12 3 (γ:=Bool) ⟨fun x=>[(12,bB x)],[0,1],fun _=>[],[]⟩
  (.ite 0 9 (a0<0)
  (.ret 4 true)
  (.ret 4 (decide (a0>32))))
  fun j1=> .join 1 3 (γ:=Bool) ⟨fun x=>[(16,bB x)],[0,1],fun _=>[],[]⟩
  (.iteB 0 13 (j1)
  (.ret 4 true)
  (.ret 4 (decide (a1<0))))
  fun j2=> .iteB 2 6 (j2)
  (.ret 9 (0,1))
  (.ite 7 17 (a1>4096)
  (.ret 9 (0,3))
  (.ret 14 (sShr .i64 (IntKind.i64.wrap ((IntKind.i64.wrap (a0*a1))+7)) 3,0))))
noncomputable abbrev zSs:Fe:= .of Tryz.prog 206 zAd
theorem zRj (a0:Int) (a1:Int):HS 206 (zHT a0 a1) [.int .u64 a0, .cp [.int .i64 a1] 0] zAd:=Tr.fn (F:=zSs)
 (.rd 8 (0≤a1) (nU (sShr .u64 a0 a1))<| .ret 4 ((sShr .u64 a0 a1) !=0))
noncomputable abbrev zBI:Fe:= .of Tryz.prog 189 zAl
def zEn (a0:List Int) (a1:Int) (x0:Int):St:=⟨[(8,nI x0),(7,nI (a0.length:Int)),(0,lU a0),(1, .d (.clo (.func 206) [] [.cp [.int .i64 a1] 0]))],[]⟩
def zEl (a0:List Int) (a1:Int) (x:Unit):St:=⟨[],[]⟩
theorem zD5 (a0:List Int) (a1:Int):∀(x0:Int),Ok (zAq a0 a1 x0) (LR zBI (.exit 0) (zEl a0 a1) 189 0 (zEn a0 a1 x0)):=by
 refine zAq.partial_correctness a0 a1 _ ?_
 intro f IH x0
 exact Tr.lpR (F:=zBI) (X:=Int)
  (.ite 6 9 (x0<(a0.length:Int))
   (.idx 14 eU a0 x0<| .call 1 (zRj (at' a0 x0) a1) zAf fun r1=> .iteB 1 16 (r1)
   (.ret 10 (.inl x0))
   (.again 7 (IntKind.i64.wrap (x0+1))))
   (.ret 4 (.inr ()))) _ fun x r=>IH x r
theorem zEC (a0:List Int) (a1:Int):HS 189 (zBH a0 a1) [.lst (List.map (D.int .u64) a0), .clo (.func 206) [] [.cp [.int .i64 a1] 0]] zAl:=Tr.fn (F:=zBI)
 (.len 8 eU a0<| .loopR 4 id ⟨_,_,_,_,_,zD5 a0 a1 0⟩ fun j2=> .ret 6 (-1))
noncomputable abbrev zEm:Fe:= .of Tryz.prog 152 zAd
theorem zB8 (a0:List Int) (a1:Int):HS 152 (zAC a0 a1) [.lst (List.map (D.int .u64) a0), .clo (.func 206) [] [.cp [.int .i64 a1] 0]] zAd:=Tr.fn (F:=zEm)
 (.call 8 (zEC a0 a1) zAo fun r1=> .ret 4 (decide (r1≥0)))
noncomputable abbrev zP8:Fe:= .of Tryz.prog 196 zAl
theorem zGP (a0:Int) (a1:Int) (a2:Int):HS 196 (zBz a0 a1 a2) [.int .i64 a0, .int .i64 a1, .cp [.int .i64 a2] 0] zAl:=Tr.fn (F:=zP8)
 (.ret 14 (IntKind.i64.wrap ((IntKind.i64.wrap (a1*a2))+a0)))
noncomputable abbrev zB3:Fe:= .of Tryz.prog 192 zAJ
def zIG (a0:Int) (a1:List Int) (a2:Int) (x0:Int) (x0_:Int) (x1_:List Int):St:=⟨[(38,nI x0_),(37,nI a0),(12,nU (at' a1 x0)),(11,nI x0),(32,nI x0),(31,nI (a1.length:Int)),(30,lU a1),(10,sY (.h 1) x1_),(3, .ptr (.s 15) 0),(2, .d (.clo (.func 196) [] [.cp [.int .i64 a2] 0]))],[(.s 15,[nI a0])]⟩
def zIU (a0:Int) (a1:List Int) (a2:Int) (x0:Int) (x:(List Int)):St:=⟨[(32,nI x0),(31,nI (a1.length:Int)),(30,lU a1),(10,sY (.h 2) x),(3, .ptr (.s 15) 0),(2, .d (.clo (.func 196) [] [.cp [.int .i64 a2] 0]))],[(.s 15,[nI a0])]⟩
theorem zIs (a0:Int) (a1:List Int) (a2:Int) (x0:Int):∀(x0_:Int) (x1_:List Int),Ok (zBd a0 a1 a2 x0 x0_ x1_) (LN zB3 (.exit 2) (zIU a0 a1 a2 x0) 192 1 (zIG a0 a1 a2 x0 x0_ x1_)):=by
 refine zBd.partial_correctness a0 a1 a2 x0 _ ?_
 intro f IH x0_ x1_
 exact Tr.lpN (F:=zB3) (X:=Int×(List Int))
  (.ite 6 39 (x0_<a0)
   (.call 14 (zGP x0 x0_ a2) zAo fun r5=> .idx 6 eY x1_ (sShr .i64 r5 3)<| .rd 6 (0≤IntKind.i64.wrap ((IntKind.i64.wrap (a0-1))-x0_)) (nU (sShr .u64 (at' a1 x0) (IntKind.i64.wrap ((IntKind.i64.wrap (a0-1))-x0_))))<| .rd 5 (0≤IntKind.i64.wrap (7-(bAnd .i64 r5 7))) (nY (sShl .u8 (IntKind.u8.wrap (bAnd .u64 (sShr .u64 (at' a1 x0) (IntKind.i64.wrap ((IntKind.i64.wrap (a0-1))-x0_))) 1)) (IntKind.i64.wrap (7-(bAnd .i64 r5 7)))))<| .idx 1 eY x1_ (sShr .i64 r5 3)<| .sto 0 [45,10] eY x1_ (sShr .i64 r5 3) (bOr .u8 (at' x1_ (sShr .i64 r5 3)) (sShl .u8 (IntKind.u8.wrap (bAnd .u64 (sShr .u64 (at' a1 x0) (IntKind.i64.wrap ((IntKind.i64.wrap (a0-1))-x0_))) 1)) (IntKind.i64.wrap (7-(bAnd .i64 r5 7)))))<| .let_ (x1_.set (Int.toNat (sShr .i64 r5 3)) (bOr .u8 (at' x1_ (sShr .i64 r5 3)) (sShl .u8 (IntKind.u8.wrap (bAnd .u64 (sShr .u64 (at' a1 x0) (IntKind.i64.wrap ((IntKind.i64.wrap (a0-1))-x0_))) 1)) (IntKind.i64.wrap (7-(bAnd .i64 r5 7))))):List Int) fun y6=> .again 6 (IntKind.i64.wrap (x0_+1),y6))
   (.ret 4 x1_)) _ fun x r=>IH x.1 x.2 r
def zJc (a0:Int) (a1:List Int) (a2:Int) (x0:Int) (x1:List Int):St:=⟨[(32,nI x0),(31,nI (a1.length:Int)),(30,lU a1),(10,sY (.h 0) x1),(3, .ptr (.s 15) 0),(2, .d (.clo (.func 196) [] [.cp [.int .i64 a2] 0]))],[(.s 15,[nI a0])]⟩
def zJp (a0:Int) (a1:List Int) (a2:Int) (x:(List Int)):St:=⟨[(10,sY (.h 1) x)],[]⟩
theorem zIz (a0:Int) (a1:List Int) (a2:Int):∀(x0:Int) (x1:List Int),Ok (zBg a0 a1 a2 x0 x1) (LN zB3 (.exit 0) (zJp a0 a1 a2) 192 0 (zJc a0 a1 a2 x0 x1)):=by
 refine zBg.partial_correctness a0 a1 a2 _ ?_
 intro f IH x0 x1
 exact Tr.lpN (F:=zB3) (X:=Int×(List Int))
  (.ite 6 33 (x0<(a1.length:Int))
   (.idx 7 eU a1 x0<| .loop 11 ⟨_,_,_,_,_,zIs a0 a1 a2 x0 0 x1⟩ fun j8=> .again 6 (IntKind.i64.wrap (x0+1),j8))
   (.ret 4 x1)) _ fun x r=>IH x.1 x.2 r
theorem zKn (a0:Int) (a1:List Int) (a2:Int):HS 192 (zCQ a0 a1 a2) [.int .i64 a0, .lst (List.map (D.int .u64) a1), .clo (.func 196) [] [.cp [.int .i64 a2] 0]] zAJ:=Tr.fn (F:=zB3)
 (.len 10 eU a1<| .call 0 (zFv a0 (a1.length:Int)) zBl fun r1=> .iteN 12 23 (r1.2=0)
  (.ret 9 ([],r1.2))
  (.call 7 (zB8 a1 a0) zAf fun r2=> .iteB 1 27 (r2)
  (.ret 8 ([],1))
  (.mk 5 eY 1 0 r1.1 r1.1<| .let_ (List.replicate (Int.toNat r1.1) 0:List Int) fun y3=> .len 6 eU a1<| .loop 4 ⟨_,_,_,_,_,zIz a0 a1 a2 0 y3⟩ fun j9=> .ret 8 (j9,0))))
noncomputable abbrev zUt:Fe:= .of Tryz.prog 160 zAJ
theorem zTa (a0:Int) (a1:List Int):HS 160 (zKA a0 a1) [.int .i64 a0, .lst (List.map (D.int .u64) a1)] zAJ:=Tr.fn (F:=zUt)
 (.len 10 eU a1<| .callZ 0 (zNM (a1.length:Int)) fun r1=> .call 0 (zKn a0 a1 r1) zBL fun r2=> .ret 6 (r2.1,r2.2))
def zOE (v:Int):PV:= .d (.clo (.func 222) [] [.cp [.int .i64 v] 0])
noncomputable abbrev zWJ:Fe:= .of Tryz.prog 207 zOE
theorem zOI (a0:Int):HS 207 (zGC a0) [.int .i64 a0] zOE:=Tr.fn (F:=zWJ)
 (.box 11 (.s 15) [.int .i64 a0]<| .ret 0 a0)
noncomputable abbrev zRb:Fe:= .of Tryz.prog 222 zAl
theorem zG7 (a0:Int) (a1:Int) (a2:Int):HS 222 (zBG a0 a1 a2) [.int .i64 a0, .int .i64 a1, .cp [.int .i64 a2] 0] zAl:=Tr.fn (F:=zRb)
 (.ret 14 (IntKind.i64.wrap ((IntKind.i64.wrap (a0*a2))+a1)))
noncomputable abbrev zB9:Fe:= .of Tryz.prog 192 zAJ
def zJ3 (a0:Int) (a1:List Int) (a2:Int) (x0:Int) (x0_:Int) (x1_:List Int):St:=⟨[(38,nI x0_),(37,nI a0),(12,nU (at' a1 x0)),(11,nI x0),(32,nI x0),(31,nI (a1.length:Int)),(30,lU a1),(10,sY (.h 1) x1_),(3, .ptr (.s 15) 0),(2, .d (.clo (.func 222) [] [.cp [.int .i64 a2] 0]))],[(.s 15,[nI a0])]⟩
def zJ5 (a0:Int) (a1:List Int) (a2:Int) (x0:Int) (x:(List Int)):St:=⟨[(32,nI x0),(31,nI (a1.length:Int)),(30,lU a1),(10,sY (.h 2) x),(3, .ptr (.s 15) 0),(2, .d (.clo (.func 222) [] [.cp [.int .i64 a2] 0]))],[(.s 15,[nI a0])]⟩
theorem zIK (a0:Int) (a1:List Int) (a2:Int) (x0:Int):∀(x0_:Int) (x1_:List Int),Ok (zBm a0 a1 a2 x0 x0_ x1_) (LN zB9 (.exit 2) (zJ5 a0 a1 a2 x0) 192 1 (zJ3 a0 a1 a2 x0 x0_ x1_)):=by
 refine zBm.partial_correctness a0 a1 a2 x0 _ ?_
 intro f IH x0_ x1_
 exact Tr.lpN (F:=zB9) (X:=Int×(List Int))
  (.ite 6 39 (x0_<a0)
   (.call 14 (zG7 x0 x0_ a2) zAo fun r5=> .idx 6 eY x1_ (sShr .i64 r5 3)<| .rd 6 (0≤IntKind.i64.wrap ((IntKind.i64.wrap (a0-1))-x0_)) (nU (sShr .u64 (at' a1 x0) (IntKind.i64.wrap ((IntKind.i64.wrap (a0-1))-x0_))))<| .rd 5 (0≤IntKind.i64.wrap (7-(bAnd .i64 r5 7))) (nY (sShl .u8 (IntKind.u8.wrap (bAnd .u64 (sShr .u64 (at' a1 x0) (IntKind.i64.wrap ((IntKind.i64.wrap (a0-1))-x0_))) 1)) (IntKind.i64.wrap (7-(bAnd .i64 r5 7)))))<| .idx 1 eY x1_ (sShr .i64 r5 3)<| .sto 0 [45,10] eY x1_ (sShr .i64 r5 3) (bOr .u8 (at' x1_ (sShr .i64 r5 3)) (sShl .u8 (IntKind.u8.wrap (bAnd .u64 (sShr .u64 (at' a1 x0) (IntKind.i64.wrap ((IntKind.i64.wrap (a0-1))-x0_))) 1)) (IntKind.i64.wrap (7-(bAnd .i64 r5 7)))))<| .let_ (x1_.set (Int.toNat (sShr .i64 r5 3)) (bOr .u8 (at' x1_ (sShr .i64 r5 3)) (sShl .u8 (IntKind.u8.wrap (bAnd .u64 (sShr .u64 (at' a1 x0) (IntKind.i64.wrap ((IntKind.i64.wrap (a0-1))-x0_))) 1)) (IntKind.i64.wrap (7-(bAnd .i64 r5 7))))):List Int) fun y6=> .again 6 (IntKind.i64.wrap (x0_+1),y6))
   (.ret 4 x1_)) _ fun x r=>IH x.1 x.2 r
def zJ1 (a0:Int) (a1:List Int) (a2:Int) (x0:Int) (x1:List Int):St:=⟨[(32,nI x0),(31,nI (a1.length:Int)),(30,lU a1),(10,sY (.h 0) x1),(3, .ptr (.s 15) 0),(2, .d (.clo (.func 222) [] [.cp [.int .i64 a2] 0]))],[(.s 15,[nI a0])]⟩
def zJZ (a0:Int) (a1:List Int) (a2:Int) (x:(List Int)):St:=⟨[(10,sY (.h 1) x)],[]⟩
theorem zIV (a0:Int) (a1:List Int) (a2:Int):∀(x0:Int) (x1:List Int),Ok (zBq a0 a1 a2 x0 x1) (LN zB9 (.exit 0) (zJZ a0 a1 a2) 192 0 (zJ1 a0 a1 a2 x0 x1)):=by
 refine zBq.partial_correctness a0 a1 a2 _ ?_
 intro f IH x0 x1
 exact Tr.lpN (F:=zB9) (X:=Int×(List Int))
  (.ite 6 33 (x0<(a1.length:Int))
   (.idx 7 eU a1 x0<| .loop 11 ⟨_,_,_,_,_,zIK a0 a1 a2 x0 0 x1⟩ fun j8=> .again 6 (IntKind.i64.wrap (x0+1),j8))
   (.ret 4 x1)) _ fun x r=>IH x.1 x.2 r
theorem zKT (a0:Int) (a1:List Int) (a2:Int):HS 192 (zDb a0 a1 a2) [.int .i64 a0, .lst (List.map (D.int .u64) a1), .clo (.func 222) [] [.cp [.int .i64 a2] 0]] zAJ:=Tr.fn (F:=zB9)
 (.len 10 eU a1<| .call 0 (zFv a0 (a1.length:Int)) zBl fun r1=> .iteN 12 23 (r1.2=0)
  (.ret 9 ([],r1.2))
  (.call 7 (zB8 a1 a0) zAf fun r2=> .iteB 1 27 (r2)
  (.ret 8 ([],1))
  (.mk 5 eY 1 0 r1.1 r1.1<| .let_ (List.replicate (Int.toNat r1.1) 0:List Int) fun y3=> .len 6 eU a1<| .loop 4 ⟨_,_,_,_,_,zIV a0 a1 a2 0 y3⟩ fun j9=> .ret 8 (j9,0))))
noncomputable abbrev zWm:Fe:= .of Tryz.prog 193 zAJ
theorem zUP (a0:Int) (a1:List Int):HS 193 (zLH a0 a1) [.int .i64 a0, .lst (List.map (D.int .u64) a1)] zAJ:=Tr.fn (F:=zWm)
 (.callZ 10 (zOI a0) fun r1=> .call 0 (zKT a0 a1 r1) zBL fun r2=> .ret 6 (r2.1,r2.2))
noncomputable abbrev zKK:Fe:= .of Tryz.prog 161 zAJ
def zQT (a0:List Bool) (x0:Int) (x1:List Int):St:=⟨[(12,nI x0),(11,nI (a0.length:Int)),(10,lB a0),(4,sU (.h 0) x1)],[]⟩
def zQZ (a0:List Bool) (x:(List Int)):St:=⟨[(4,sU (.h 1) x)],[]⟩
theorem zP9 (a0:List Bool):∀(x0:Int) (x1:List Int),Ok (zCa a0 x0 x1) (LN zKK (.exit 0) (zQZ a0) 161 0 (zQT a0 x0 x1)):=by
 refine zCa.partial_correctness a0 _ ?_
 intro f IH x0 x1
 exact Tr.lpN (F:=zKK) (X:=Int×(List Int))
  (.ite 6 13 (x0<(a0.length:Int))
   (.idx 7 eB a0 x0<| .iteB 8 17 (at' a0 x0)
   (.idx 4 eU x1 x0<| .sto 0 [4] eU x1 x0 1<| .again 6 (IntKind.i64.wrap (x0+1),x1.set (Int.toNat x0) 1))
   (.again 7 (IntKind.i64.wrap (x0+1),x1)))
   (.ret 4 x1)) _ fun x r=>IH x.1 x.2 r
theorem zNr (a0:List Bool):HS 161 (zF4 a0) [.lst (List.map D.bool a0)] zAJ:=Tr.fn (F:=zKK)
 (.len 8 eB a0<| .mk 0 eU 8 0 (a0.length:Int) (a0.length:Int)<| .let_ (List.replicate (Int.toNat (a0.length:Int)) 0:List Int) fun y1=> .len 6 eB a0<| .loop 4 ⟨_,_,_,_,_,zP9 a0 0 y1⟩ fun j3=> .call 4 (zUP 1 j3) zBL fun r4=> .ret 6 (r4.1,r4.2))
def zGG (v:(List Int)×Int):PV:= .tup []
def zGz (v:(List Int)×Int):List (Tg×List PV):=[(.up (.s 0),[sY (.s 0) v.1,nI v.2])]
noncomputable abbrev zMf:Fe:= .of Tryz.prog 111 zGG zGz
theorem zLG (a0:zAu) (a1:zAc):HG 111 (zEp a0 a1) [.ptr (.up (.s 0)) 0, .d (.agg [.int .i64 a1.F_Scheme, .int .i64 a1.F_Dim, .lst (List.map (D.int .i64) a1.F_L), .lst (List.map (D.int .i64) a1.F_V), .int .i64 a1.F_Scale, .int .i64 a1.F_Wide, .lst (List.map (D.int .u64) a1.F_Lev), .lst (List.map D.bool a1.F_Neg)])] [(.up (.s 0),[lY a0.F_b,nI a0.F_e])] zGG zGz:=Tr.fnG (F:=zMf)
 (.join 5 0 (γ:=(List Int)) ⟨fun _=>[],[3,0],fun x=>[(.up (.s 0),[sY (.h 0) x,nI a0.F_e])],[.s 15]⟩
  (.draws3 0 (.hold 13 []<| .call 0 (zFJ a0.F_b [IntKind.u64.wrap a1.F_Scale]) zAw fun r1=> .hold 1 []<| .hold 2 []<| .app 0 eY 1 r1 [IntKind.u8.wrap a1.F_Wide]<| .hold 1 []<| .ret 5 (r1++[IntKind.u8.wrap a1.F_Wide])) (.hold 13 []<| .hold 2 []<| .call 0 (zFJ a0.F_b [IntKind.u64.wrap a1.F_Scale]) zAw fun r1=> .hold 1 []<| .app 0 eY 1 r1 [IntKind.u8.wrap a1.F_Wide]<| .hold 1 []<| .ret 5 (r1++[IntKind.u8.wrap a1.F_Wide])) (.hold 13 []<| .hold 2 []<| .call 0 (zFJ a0.F_b [IntKind.u64.wrap a1.F_Scale]) zAw fun r1=> .hold 1 []<| .app 0 eY 1 r1 [IntKind.u8.wrap a1.F_Wide]<| .hold 1 []<| .ret 5 (r1++[IntKind.u8.wrap a1.F_Wide])))
  fun j2=> .call 7 (zTa a1.F_Wide a1.F_Lev) zBL fun r3=> .callB 2 [(.up (.s 0), .up (.s 0)),(.h 0, .h 0)] (zC0 (⟨j2,a0.F_e⟩:zAu) r3.1 r3.2) zC2 zCS fun r4=> .call 5 (zNr a1.F_Neg) zBL fun r5=> .callB 2 [(.up (.s 0), .up (.s 0)),(.h 0, .s 3328)] (zC0 (⟨r4.1,r4.2⟩:zAu) r5.1 r5.2) zC2 zCS fun r6=> .ret 1 (r6.1,r6.2))
def zG3 (v:(List Int)×Int):PV:= .tup []
def zG5 (v:(List Int)×Int):List (Tg×List PV):=[(.up (.s 0),[sY (.s 0) v.1,nI v.2])]
noncomputable abbrev zM2:Fe:= .of Tryz.prog 112 zG3 zG5
theorem zMb (a0:zAu) (a1:zAc):HG 112 (zEP a0 a1) [.ptr (.up (.s 0)) 0, .d (.agg [.int .i64 a1.F_Scheme, .int .i64 a1.F_Dim, .lst (List.map (D.int .i64) a1.F_L), .lst (List.map (D.int .i64) a1.F_V), .int .i64 a1.F_Scale, .int .i64 a1.F_Wide, .lst (List.map (D.int .u64) a1.F_Lev), .lst (List.map D.bool a1.F_Neg)])] [(.up (.s 0),[lY a0.F_b,nI a0.F_e])] zG3 zG5:=Tr.fnG (F:=zM2)
 (.hold 16 []<| .call 0 (zFJ a0.F_b [IntKind.u64.wrap a1.F_Scale]) zAw fun r1=> .hold 1 []<| .call 9 (zNr a1.F_Neg) zBL fun r2=> .callB 2 [(.up (.s 0), .up (.s 0)),(.h 0, .s 1744)] (zC0 (⟨r1,a0.F_e⟩:zAu) r2.1 r2.2) zC2 zCS fun r3=> .ret 1 (r3.1,r3.2))
noncomputable abbrev zVZ:Fe:= .of Tryz.prog 52 zAJ
theorem zUZ (a0:zAc):HS 52 (zHN a0) [.agg [.int .i64 a0.F_Scheme, .int .i64 a0.F_Dim, .lst (List.map (D.int .i64) a0.F_L), .lst (List.map (D.int .i64) a0.F_V), .int .i64 a0.F_Scale, .int .i64 a0.F_Wide, .lst (List.map (D.int .u64) a0.F_Lev), .lst (List.map D.bool a0.F_Neg)]] zAJ:=Tr.fn (F:=zVZ)
 (.call 10 (zDv a0) zAf fun r1=> .iteX 2 8 (r1)
  (.ret 8 ([],1))
  (.call 12 (zFJ [IntKind.u8.wrap a0.F_Scheme] [IntKind.u64.wrap a0.F_Dim]) zAw fun r2=> .join 27 3 (γ:=(List Int)×Int) ⟨fun _=>[],[4],fun x=>[(.s 4975,[sY (.h 0) x.1,nI x.2])],[]⟩
  (.look 0<| .lk a0.F_Scheme 0
  (.callG 1 [(.up (.s 0), .s 4975)] [.s 4928] (zGD (⟨r2,0⟩:zAu) a0) fun r3=> .ret 1 (r3.1,r3.2))
  (.lk a0.F_Scheme 1
  (.callB 1 [(.up (.s 0), .s 4975),(.h 0, .s 4928)] (zM3 (⟨r2,0⟩:zAu) a0) zMY zMi fun r4=> .ret 1 (r4.1,r4.2))
  (.lk a0.F_Scheme 2
  (.callG 1 [(.up (.s 0), .s 4975)] [.s 4928] (zLG (⟨r2,0⟩:zAu) a0) fun r5=> .ret 1 (r5.1,r5.2))
  (.lk a0.F_Scheme 3
  (.callG 1 [(.up (.s 0), .s 4975)] [.s 4928] (zMb (⟨r2,0⟩:zAu) a0) fun r6=> .ret 1 (r6.1,r6.2))
  (.lk0<| .halt)))))
  fun j7=> .iteN 10 40 (j7.2=0)
  (.ret 12 ([],j7.2))
  (.ret 12 (j7.1,0))))
noncomputable abbrev zTM:Fe:= .of Tryz.prog 73 zAd
theorem zRE (a0:zAk) (a1:List Int) (a2:zAc):HS 73 (zIW a0 a1 a2) [.agg [.int .i64 a0.F_Scheme, .int .i64 a0.F_K, .int .i64 a0.F_Wide], .lst (List.map (D.int .i64) a1), .agg [.int .i64 a2.F_Scheme, .int .i64 a2.F_Dim, .lst (List.map (D.int .i64) a2.F_L), .lst (List.map (D.int .i64) a2.F_V), .int .i64 a2.F_Scale, .int .i64 a2.F_Wide, .lst (List.map (D.int .u64) a2.F_Lev), .lst (List.map D.bool a2.F_Neg)]] zAd:=Tr.fn (F:=zTM)
 (.call 11 (zCu a1 a2.F_V) zAf fun r1=> .ret 3 r1)
noncomputable abbrev zAa2:Fe:= .of Tryz.prog 80 zAd
theorem zZf (a0:Int) (a1:List Int) (a2:zAc):HS 80 (zMI a0 a1 a2) [.int .i64 a0, .lst (List.map (D.int .i64) a1), .agg [.int .i64 a2.F_Scheme, .int .i64 a2.F_Dim, .lst (List.map (D.int .i64) a2.F_L), .lst (List.map (D.int .i64) a2.F_V), .int .i64 a2.F_Scale, .int .i64 a2.F_Wide, .lst (List.map (D.int .u64) a2.F_Lev), .lst (List.map D.bool a2.F_Neg)]] zAd:=Tr.fn (F:=zAa2)
 (.call 9 (zOJ a0 a1) zKD fun r1=> .join 13 7 (γ:=Bool) ⟨fun x=>[(24,bB x)],[7,5],fun _=>[],[.s 1711, .s 15]⟩
  (.iteN 0 17 (r1.2.2.2.2.2.2=0)
  (.ret 8 true)
  (.call 4 (zG4 r1.2.2.1 a2.F_L) zAf fun r2=> .ret 3 (!r2)))
  fun j3=> .join 1 7 (γ:=Bool) ⟨fun x=>[(32,bB x)],[7,5],fun _=>[],[.s 1711, .s 15]⟩
  (.iteB 0 25 (j3)
  (.ret 8 true)
  (.call 4 (zCu r1.2.2.2.1 a2.F_V) zAf fun r4=> .ret 3 (!r4)))
  fun j5=> .iteB 1 32 (j5)
  (.ret 7 false)
  (.join 10 6 (γ:=Bool) ⟨fun x=>[(44,bB x)],[5],fun _=>[],[.s 15]⟩
  (.ite 0 38 (a2.F_Scheme=r1.1)
  (.ret 7 (a2.F_Dim==r1.2.1))
  (.ret 7 false))
  fun j6=> .join 1 4 (γ:=Bool) ⟨fun x=>[(49,bB x)],[5],fun _=>[],[.s 15]⟩
  (.iteB 0 45 (j6)
  (.ret 5 (a2.F_Scale==0))
  (.ret 5 false))
  fun j7=> .join 1 4 (γ:=Bool) ⟨fun x=>[(54,bB x)],[5],fun _=>[],[.s 15]⟩
  (.iteB 0 50 (j7)
  (.ret 5 (a2.F_Wide==0))
  (.ret 5 false))
  fun j8=> .join 1 9 (γ:=Bool) ⟨fun x=>[(64,bB x)],[],fun _=>[],[]⟩
  (.iteB 0 55 (j8)
  (.len 2 eU a2.F_Lev<| .len 2 eB a2.F_Neg<| .ret 4 ((IntKind.i64.wrap ((a2.F_Lev.length:Int)+(a2.F_Neg.length:Int)))==0))
  (.ret 10 false))
  fun j9=> .ret 3 j9))
noncomputable abbrev zSZ:Fe:= .of Tryz.prog 79 zAd
theorem zSm (a0:zAk) (a1:List Int) (a2:zAc):HS 79 (zJf a0 a1 a2) [.agg [.int .i64 a0.F_Scheme, .int .i64 a0.F_K, .int .i64 a0.F_Wide], .lst (List.map (D.int .i64) a1), .agg [.int .i64 a2.F_Scheme, .int .i64 a2.F_Dim, .lst (List.map (D.int .i64) a2.F_L), .lst (List.map (D.int .i64) a2.F_V), .int .i64 a2.F_Scale, .int .i64 a2.F_Wide, .lst (List.map (D.int .u64) a2.F_Lev), .lst (List.map D.bool a2.F_Neg)]] zAd:=Tr.fn (F:=zSZ)
 (.call 12 (zZf a0.F_K a1 a2) zAf fun r1=> .ret 3 r1)
noncomputable abbrev zN3:Fe:= .of Tryz.prog 139 zAd
theorem zNu (a0:Int) (a1:List Int) (a2:Int) (a3:Int) (a4:Int) (a5:List Int) (a6:List Int) (a7:Int) (a8:Int) (a9:List Int) (a10:List Bool):HS 139 (zFU a0 a1 a2 a3 a4 a5 a6 a7 a8 a9 a10) [.int .i64 a0, .cp [.lst (List.map (D.int .i64) a1)] 0, .cp [.int .i64 a2] 0, .cp [.int .i64 a3, .int .i64 a4, .lst (List.map (D.int .i64) a5), .lst (List.map (D.int .i64) a6), .int .i64 a7, .int .i64 a8, .lst (List.map (D.int .u64) a9), .lst (List.map D.bool a10)] 0] zAd:=Tr.fn (F:=zN3)
 (.idx 8 eI a1 a0<| .call 4 (zNC (at' a1 a0) a2 a8) zNp fun r1=> .idx 13 eU a9 a0<| .iteN 10 31 (r1.2.2=0)
  (.ret 27 true)
  (.idx 3 eB a10 a0<| .idx 3 eI a1 a0<| .iteN 5 44 ((at' a10 a0)=(decide ((at' a1 a0)<0)))
  (.ret 14 true)
  (.ite 4 48 ((IntKind.u64.wrap ((at' a9 a0)-r1.1))>1)
  (.ret 10 true)
  (.ite 3 51 ((IntKind.u64.wrap ((at' a9 a0)-r1.1))=1)
  (.ret 7 (r1.2.1==0))
  (.ret 7 false)))))
noncomputable abbrev zLR:Fe:= .of Tryz.prog 86 zAd
def zSy (a0:List Int) (a1:zAc) (r1:Int×Int) (x0:Int):St:=⟨[(42,nI x0),(41,nI (a0.length:Int)),(7, .clo (.func 139) [] [.ptr (.s 15) 0, .ptr (.s 1695) 0, .ptr (.s 31) 0])],[(.s 1695,[nI r1.1]),(.s 31,[nI a1.F_Scheme,nI a1.F_Dim,lI a1.F_L,lI a1.F_V,nI a1.F_Scale,nI a1.F_Wide,lU a1.F_Lev,lB a1.F_Neg]),(.s 15,[lI a0])]⟩
def zRJ (a0:List Int) (a1:zAc) (r1:Int×Int) (x:Unit):St:=⟨[],[]⟩
theorem zQ1 (a0:List Int) (a1:zAc) (r1:Int×Int):∀(x0:Int),Ok (zC5 a0 a1 r1 x0) (LR zLR (.exit 0) (zRJ a0 a1 r1) 86 0 (zSy a0 a1 r1 x0)):=by
 refine zC5.partial_correctness a0 a1 r1 _ ?_
 intro f IH x0
 exact Tr.lpR (F:=zLR) (X:=Int)
  (.ite 6 43 (x0<(a0.length:Int))
   (.call 13 (zNu x0 a0 r1.1 a1.F_Scheme a1.F_Dim a1.F_L a1.F_V a1.F_Scale a1.F_Wide a1.F_Lev a1.F_Neg) zAf fun r7=> .iteB 1 47 (r7)
   (.ret 9 (.inl false))
   (.again 7 (IntKind.i64.wrap (x0+1))))
   (.ret 4 (.inr ()))) _ fun x r=>IH x r
theorem zUL (a0:List Int) (a1:zAc):HS 86 (zHP a0 a1) [.lst (List.map (D.int .i64) a0), .agg [.int .i64 a1.F_Scheme, .int .i64 a1.F_Dim, .lst (List.map (D.int .i64) a1.F_L), .lst (List.map (D.int .i64) a1.F_V), .int .i64 a1.F_Scale, .int .i64 a1.F_Wide, .lst (List.map (D.int .u64) a1.F_Lev), .lst (List.map D.bool a1.F_Neg)]] zAd:=Tr.fn (F:=zLR)
 (.call 9 (zQw a0) zBl fun r1=> .join 13 4 (γ:=Bool) ⟨fun x=>[(20,bB x)],[5,3,2],fun _=>[],[.s 1695, .s 31, .s 15]⟩
  (.iteN 0 16 (r1.2=0)
  (.ret 5 true)
  (.call 1 (zDv a1) zAf fun r2=> .ret 3 (!r2)))
  fun j3=> .join 1 4 (γ:=Bool) ⟨fun x=>[(25,bB x)],[5,3,2],fun _=>[],[.s 1695, .s 31, .s 15]⟩
  (.iteB 0 21 (j3)
  (.ret 5 true)
  (.ret 5 (a1.F_Scheme !=2)))
  fun j4=> .join 1 6 (γ:=Bool) ⟨fun x=>[(32,bB x)],[5,3,2],fun _=>[],[.s 1695, .s 31, .s 15]⟩
  (.iteB 0 26 (j4)
  (.ret 7 true)
  (.len 3 eI a0<| .ret 3 (a1.F_Dim !=(a0.length:Int))))
  fun j5=> .join 1 5 (γ:=Bool) ⟨fun x=>[(38,bB x)],[5,3,2],fun _=>[],[.s 1695, .s 31, .s 15]⟩
  (.iteB 0 33 (j5)
  (.ret 6 true)
  (.ret 6 (a1.F_Scale !=r1.1)))
  fun j6=> .iteB 1 38 (j6)
  (.ret 7 false)
  (.len 11 eI a0<| .loopR 4 id ⟨_,_,_,_,_,zQ1 a0 a1 r1 0⟩ fun j8=> .ret 6 true))
noncomputable abbrev zS2:Fe:= .of Tryz.prog 85 zAd
theorem zSf (a0:zAk) (a1:List Int) (a2:zAc):HS 85 (zJg a0 a1 a2) [.agg [.int .i64 a0.F_Scheme, .int .i64 a0.F_K, .int .i64 a0.F_Wide], .lst (List.map (D.int .i64) a1), .agg [.int .i64 a2.F_Scheme, .int .i64 a2.F_Dim, .lst (List.map (D.int .i64) a2.F_L), .lst (List.map (D.int .i64) a2.F_V), .int .i64 a2.F_Scale, .int .i64 a2.F_Wide, .lst (List.map (D.int .u64) a2.F_Lev), .lst (List.map D.bool a2.F_Neg)]] zAd:=Tr.fn (F:=zS2)
 (.join 14 4 (γ:=Bool) ⟨fun x=>[(16,bB x)],[],fun _=>[],[]⟩
  (.ite 0 12 (a2.F_Wide=a0.F_Wide)
  (.call 2 (zUL a1 a2) zAf fun r1=> .ret 2 r1)
  (.ret 5 false))
  fun j2=> .ret 3 j2)
noncomputable abbrev zAaI:Fe:= .of Tryz.prog 91 zAd
theorem zYO (a0:List Int) (a1:zAc):HS 91 (zMs a0 a1) [.lst (List.map (D.int .i64) a0), .agg [.int .i64 a1.F_Scheme, .int .i64 a1.F_Dim, .lst (List.map (D.int .i64) a1.F_L), .lst (List.map (D.int .i64) a1.F_V), .int .i64 a1.F_Scale, .int .i64 a1.F_Wide, .lst (List.map (D.int .u64) a1.F_Lev), .lst (List.map D.bool a1.F_Neg)]] zAd:=Tr.fn (F:=zAaI)
 (.call 8 (zOM a0) zKu fun r1=> .join 12 3 (γ:=Bool) ⟨fun x=>[(17,bB x)],[5,3],fun _=>[],[.s 1695, .s 15]⟩
  (.ite 0 14 (r1.2.2.2.2.2=0)
  (.call 1 (zDv a1) zAf fun r2=> .ret 2 r2)
  (.ret 4 false))
  fun j3=> .join 1 4 (γ:=Bool) ⟨fun x=>[(22,bB x)],[5,3],fun _=>[],[.s 1695, .s 15]⟩
  (.iteB 0 18 (j3)
  (.ret 5 (a1.F_Scheme==3))
  (.ret 5 false))
  fun j4=> .join 1 6 (γ:=Bool) ⟨fun x=>[(29,bB x)],[5,3],fun _=>[],[.s 1695, .s 15]⟩
  (.iteB 0 23 (j4)
  (.ret 7 (a1.F_Scale==r1.2.2.1))
  (.ret 7 false))
  fun j5=> .join 1 6 (γ:=Bool) ⟨fun x=>[(36,bB x)],[],fun _=>[],[]⟩
  (.iteB 0 30 (j5)
  (.call 4 (zGo a1.F_Neg r1.2.2.2.2.1) zAf fun r6=> .ret 2 r6)
  (.ret 7 false))
  fun j7=> .ret 3 j7)
noncomputable abbrev zR6:Fe:= .of Tryz.prog 90 zAd
theorem zRo (a0:zAk) (a1:List Int) (a2:zAc):HS 90 (zIb a0 a1 a2) [.agg [.int .i64 a0.F_Scheme, .int .i64 a0.F_K, .int .i64 a0.F_Wide], .lst (List.map (D.int .i64) a1), .agg [.int .i64 a2.F_Scheme, .int .i64 a2.F_Dim, .lst (List.map (D.int .i64) a2.F_L), .lst (List.map (D.int .i64) a2.F_V), .int .i64 a2.F_Scale, .int .i64 a2.F_Wide, .lst (List.map (D.int .u64) a2.F_Lev), .lst (List.map D.bool a2.F_Neg)]] zAd:=Tr.fn (F:=zR6)
 (.call 10 (zYO a1 a2) zAf fun r1=> .ret 3 r1)
noncomputable abbrev zUp:Fe:= .of Tryz.prog 28 zAd
theorem zSP (a0:zAk) (a1:List Int) (a2:zAc):HS 28 (zHq a0 a1 a2) [.agg [.int .i64 a0.F_Scheme, .int .i64 a0.F_K, .int .i64 a0.F_Wide], .lst (List.map (D.int .i64) a1), .agg [.int .i64 a2.F_Scheme, .int .i64 a2.F_Dim, .lst (List.map (D.int .i64) a2.F_L), .lst (List.map (D.int .i64) a2.F_V), .int .i64 a2.F_Scale, .int .i64 a2.F_Wide, .lst (List.map (D.int .u64) a2.F_Lev), .lst (List.map D.bool a2.F_Neg)]] zAd:=Tr.fn (F:=zUp)
 (.len 10 eI a1<| .call 0 (zNN a0 (a1.length:Int)) zAo fun r1=> .ite 2 12 (r1=0)
  (.call 1 (zDv a2) zAf fun r2=> .iteB 2 16 (r2)
  (.ite 7 23 (a2.F_Scheme=a0.F_Scheme)
  (.callG 5 [] [] zGc fun r3=> .hold 1 []<| .cas 1 27 (a0.F_Scheme=(0:Int)) (.d (.agg [.clo (.func 69) [] [], .clo (.func 70) [] [], .clo (.func 71) [] [], .clo (.func 73) [] []])) (.d (lookD a0.F_Scheme [(1, .agg [.clo (.func 74) [] [], .clo (.func 75) [] [], .clo (.func 77) [] [], .clo (.func 79) [] []]),(2, .agg [.clo (.func 81) [] [], .clo (.func 82) [] [], .clo (.func 84) [] [], .clo (.func 85) [] []]),(3, .agg [.clo (.func 69) [] [], .clo (.func 87) [] [], .clo (.func 89) [] [], .clo (.func 90) [] []])] (.agg [.nilfn, .nilfn, .nilfn, .nilfn]))) (.d (lookD a0.F_Scheme [(0, .agg [.clo (.func 69) [] [], .clo (.func 70) [] [], .clo (.func 71) [] [], .clo (.func 73) [] []]),(1, .agg [.clo (.func 74) [] [], .clo (.func 75) [] [], .clo (.func 77) [] [], .clo (.func 79) [] []]),(2, .agg [.clo (.func 81) [] [], .clo (.func 82) [] [], .clo (.func 84) [] [], .clo (.func 85) [] []]),(3, .agg [.clo (.func 69) [] [], .clo (.func 87) [] [], .clo (.func 89) [] [], .clo (.func 90) [] []])] (.agg [.nilfn, .nilfn, .nilfn, .nilfn]))) zB5 zB6
  (.call 1 (zRE a0 a1 a2) zAf fun r4=> .ret 5 r4)
  (.cas 0 27 (a0.F_Scheme=(1:Int)) (.d (.agg [.clo (.func 74) [] [], .clo (.func 75) [] [], .clo (.func 77) [] [], .clo (.func 79) [] []])) (.d (lookD a0.F_Scheme [(2, .agg [.clo (.func 81) [] [], .clo (.func 82) [] [], .clo (.func 84) [] [], .clo (.func 85) [] []]),(3, .agg [.clo (.func 69) [] [], .clo (.func 87) [] [], .clo (.func 89) [] [], .clo (.func 90) [] []])] (.agg [.nilfn, .nilfn, .nilfn, .nilfn]))) (.d (lookD a0.F_Scheme [(1, .agg [.clo (.func 74) [] [], .clo (.func 75) [] [], .clo (.func 77) [] [], .clo (.func 79) [] []]),(2, .agg [.clo (.func 81) [] [], .clo (.func 82) [] [], .clo (.func 84) [] [], .clo (.func 85) [] []]),(3, .agg [.clo (.func 69) [] [], .clo (.func 87) [] [], .clo (.func 89) [] [], .clo (.func 90) [] []])] (.agg [.nilfn, .nilfn, .nilfn, .nilfn]))) zB5 zB6
  (.call 1 (zSm a0 a1 a2) zAf fun r5=> .ret 5 r5)
  (.cas 0 27 (a0.F_Scheme=(2:Int)) (.d (.agg [.clo (.func 81) [] [], .clo (.func 82) [] [], .clo (.func 84) [] [], .clo (.func 85) [] []])) (.d (lookD a0.F_Scheme [(3, .agg [.clo (.func 69) [] [], .clo (.func 87) [] [], .clo (.func 89) [] [], .clo (.func 90) [] []])] (.agg [.nilfn, .nilfn, .nilfn, .nilfn]))) (.d (lookD a0.F_Scheme [(2, .agg [.clo (.func 81) [] [], .clo (.func 82) [] [], .clo (.func 84) [] [], .clo (.func 85) [] []]),(3, .agg [.clo (.func 69) [] [], .clo (.func 87) [] [], .clo (.func 89) [] [], .clo (.func 90) [] []])] (.agg [.nilfn, .nilfn, .nilfn, .nilfn]))) zB5 zB6
  (.call 1 (zSf a0 a1 a2) zAf fun r6=> .ret 5 r6)
  (.cas 0 27 (a0.F_Scheme=(3:Int)) (.d (.agg [.clo (.func 69) [] [], .clo (.func 87) [] [], .clo (.func 89) [] [], .clo (.func 90) [] []])) (.d (lookD a0.F_Scheme [] (.agg [.nilfn, .nilfn, .nilfn, .nilfn]))) (.d (lookD a0.F_Scheme [(3, .agg [.clo (.func 69) [] [], .clo (.func 87) [] [], .clo (.func 89) [] [], .clo (.func 90) [] []])] (.agg [.nilfn, .nilfn, .nilfn, .nilfn]))) zB5 zB6
  (.call 1 (zRo a0 a1 a2) zAf fun r7=> .ret 5 r7)
  (.halt)))))
  (.hold 7 []<| .ret 8 false))
  (.hold 14 []<| .ret 8 false))
  (.hold 18 []<| .ret 8 false))
noncomputable abbrev zGI:Fe:= .of Tryz.prog 39 zAd
def zNK (a0:List Int) (a1:List Int) (x0:Int):St:=⟨[(13,nI x0),(12,nI (a0.length:Int)),(0,lI a0),(1,lI a1)],[]⟩
def zNl (a0:List Int) (a1:List Int) (x:Unit):St:=⟨[],[]⟩
theorem zMX (a0:List Int) (a1:List Int):∀(x0:Int),Ok (zCK a0 a1 x0) (LR zGI (.exit 0) (zNl a0 a1) 39 0 (zNK a0 a1 x0)):=by
 refine zCK.partial_correctness a0 a1 _ ?_
 intro f IH x0
 exact Tr.lpR (F:=zGI) (X:=Int)
  (.ite 6 14 (x0<(a0.length:Int))
   (.idx 13 eI a0 x0<| .idx 3 eI a1 x0<| .iteN 3 24 ((at' a0 x0)=(at' a1 x0))
   (.ret 9 (.inl false))
   (.again 7 (IntKind.i64.wrap (x0+1))))
   (.ret 4 (.inr ()))) _ fun x r=>IH x r
theorem zOU (a0:List Int) (a1:List Int):HS 39 (zEH a0 a1) [.lst (List.map (D.int .i64) a0), .lst (List.map (D.int .i64) a1)] zAd:=Tr.fn (F:=zGI)
 (.len 8 eI a0<| .len 1 eI a1<| .iteN 2 10 ((a0.length:Int)=(a1.length:Int))
  (.ret 7 false)
  (.len 6 eI a0<| .loopR 4 id ⟨_,_,_,_,_,zMX a0 a1 0⟩ fun j1=> .ret 6 true))
noncomputable abbrev zEg:Fe:= .of Tryz.prog 40 zAd
def zJN (a0:List Int) (a1:List Int) (x0:Int):St:=⟨[(13,nI x0),(12,nI (a0.length:Int)),(0,lU a0),(1,lU a1)],[]⟩
def zKf (a0:List Int) (a1:List Int) (x:Unit):St:=⟨[],[]⟩
theorem zI4 (a0:List Int) (a1:List Int):∀(x0:Int),Ok (zBQ a0 a1 x0) (LR zEg (.exit 0) (zKf a0 a1) 40 0 (zJN a0 a1 x0)):=by
 refine zBQ.partial_correctness a0 a1 _ ?_
 intro f IH x0
 exact Tr.lpR (F:=zEg) (X:=Int)
  (.ite 6 14 (x0<(a0.length:Int))
   (.idx 13 eU a0 x0<| .idx 3 eU a1 x0<| .iteN 3 24 ((at' a0 x0)=(at' a1 x0))
   (.ret 9 (.inl false))
   (.again 7 (IntKind.i64.wrap (x0+1))))
   (.ret 4 (.inr ()))) _ fun x r=>IH x r
theorem zK8 (a0:List Int) (a1:List Int):HS 40 (zCZ a0 a1) [.lst (List.map (D.int .u64) a0), .lst (List.map (D.int .u64) a1)] zAd:=Tr.fn (F:=zEg)
 (.len 8 eU a0<| .len 1 eU a1<| .iteN 2 10 ((a0.length:Int)=(a1.length:Int))
  (.ret 7 false)
  (.len 6 eU a0<| .loopR 4 id ⟨_,_,_,_,_,zI4 a0 a1 0⟩ fun j1=> .ret 6 true))
end Go.Proofs.YtdgdgfckcnjpfaaGreat.Abs
