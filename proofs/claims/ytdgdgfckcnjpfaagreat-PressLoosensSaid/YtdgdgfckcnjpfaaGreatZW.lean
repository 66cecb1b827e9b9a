/- Walks of functions, printed by a program. Conditions: none. -/
import Derived.Test.YtdgdgfckcnjpfaaGreatProg
import Derived.Test.YtdgdgfckcnjpfaaGreatAbsG8
import Derived.Test.YtdgdgfckcnjpfaaGreatZM
namespace Go.Proofs.YtdgdgfckcnjpfaaGreat.Abs
open Go Go.RowKit
set_option linter.unusedVariables false
set_option maxRecDepth 100000
open Z
def zAi.e:Enc zAi:=⟨zAi.en,3,fun _=>rfl⟩
def zAc.e:Enc zAc:=⟨zAc.en,8,fun _=>rfl⟩
def zAa.e:Enc zAa:=⟨zAa.en,2,fun _=>rfl⟩
def zAw.e:Enc zAw:=⟨zAw.en,2,fun _=>rfl⟩
def zHK.e:Enc zHK:=⟨zHK.en,11,fun _=>rfl⟩
def zFO.e:Enc zFO:=⟨zFO.en,2,fun _=>rfl⟩
def zFJ.e:Enc zFJ:=⟨zFJ.en,3,fun _=>rfl⟩
abbrev HS {ρ:Type} (n:Nat) (m:Option ρ) (ds:List D) (en:ρ→PV):Prop:=Sg.Holds (P:=Tryz.prog) ⟨n,m,ds,en⟩
abbrev HG {ρ:Type} (n:Nat) (m:Option ρ) (ps:List PV) (bx:List (Tg×List PV)) (en:ρ→PV) (bx':ρ→List (Tg×List PV)):Prop:=SgG.Holds (P:=Tryz.prog) ⟨n,m,ps,bx,en,bx'⟩
def zAk (v:Int):PV:=nI v
noncomputable abbrev zAaO:Fe:= .of Tryz.prog 57 zAk
theorem zAr:∀v,(zAk v).noLst:=fun _=>trivial
theorem zSB (a0:List Int) (a1:List Int):HS 57 (zIo a0 a1) [.lst (List.map (D.int .i64) a0), .lst (List.map (D.int .i64) a1)] zAk:=Tr.fn (F:=zAaO)
 (.len 9 eI a0<| .len 1 eI a1<| .ite 4 5 ((if (a1.length:Int)>(a0.length:Int) then (a1.length:Int) else (a0.length:Int))>4096)
  (.ret 8 3)
  (.len 4 eI a0<| .len 1 eI a1<| .iteN 3 12 ((a0.length:Int)=(a1.length:Int))
  (.ret 8 4)
  (.ret 8 0)))
def zAn (v:Int×Int):PV:= .tup [nI v.1,nI v.2]
noncomputable abbrev zAck:Fe:= .of Tryz.prog 60 zAn
theorem zAz:∀v,(zAn v).noLst:=fun _=>⟨trivial,trivial,trivial⟩
theorem zTV (a0:Int) (a1:Int):HS 60 (zKl a0 a1) [.int .i64 a0, .int .i64 a1] zAn:=Tr.fn (F:=zAck)
 (.ite 24 17 ((bAnd .i64 (bXor .i64 a0 (IntKind.i64.wrap (a0+a1))) (bXor .i64 a1 (IntKind.i64.wrap (a0+a1))))<0)
  (.ret 8 (0,2))
  (.ret 9 (IntKind.i64.wrap (a0+a1),0)))
noncomputable abbrev zUF:Fe:= .of Tryz.prog 59 zAn
theorem zTu (a0:Int) (a1:List Int) (a2:List Int):HS 59 (zEZ a0 a1 a2) [.int .i64 a0, .cp [.lst (List.map (D.int .i64) a1)] 0, .cp [.lst (List.map (D.int .i64) a2)] 0] zAn:=Tr.fn (F:=zUF)
 (.idx 9 eI a1 a0<| .idx 3 eI a2 a0<| .call 1 (zTV (at' a1 a0) (at' a2 a0)) zAz fun r1=> .ret 6 (r1.1,r1.2))
def zAf (v:(List Int)×Int):PV:= .tup [sI (.s 0) v.1,nI v.2]
noncomputable abbrev zGl:Fe:= .of Tryz.prog 58 zAf
def zMn (a1:List Int) (a2:List Int) (y1:List Int) (x0:Int) (x1:List Int):St:=⟨[(13,nI x0),(12,nI (y1.length:Int)),(6,sI (.h 0) x1),(1, .d (.clo (.func 59) [] [.cp [.lst (List.map (D.int .i64) a1)] 0, .cp [.lst (List.map (D.int .i64) a2)] 0]))],[]⟩
def zMs (a1:List Int) (a2:List Int) (y1:List Int) (x:(List Int)):St:=⟨[(6,sI (.h 1) x)],[]⟩
theorem zL3 (a1:List Int) (a2:List Int) (y1:List Int):∀(x0:Int) (x1:List Int),Ok (zBn a1 a2 y1 x0 x1) (LR zGl (.exit 0) (zMs a1 a2 y1) 58 0 (zMn a1 a2 y1 x0 x1)):=by
 refine zBn.partial_correctness a1 a2 y1 _ ?_
 intro f IH x0 x1
 exact Tr.lpR (F:=zGl) (X:=Int×(List Int))
  (.ite 6 14 (x0<(y1.length:Int))
   (.call 19 (zTu x0 a1 a2) zAz fun r3=> .idx 3 eI x1 x0<| .sto 0 [6] eI x1 x0 r3.1<| .let_ (x1.set (Int.toNat x0) r3.1:List Int) fun y4=> .iteN 7 26 (r3.2=0)
   (.ret 11 (.inl ([],r3.2)))
   (.again 7 (IntKind.i64.wrap (x0+1),y4)))
   (.ret 4 (.inr x1))) _ fun x r=>IH x.1 x.2 r
theorem zAl:∀v,(zAf v).noLst:=fun _=>⟨(zAC fun _=>trivial),trivial,trivial⟩
theorem zOD (a0:Int) (a1:List Int) (a2:List Int):HS 58 (zF9 a0 a1 a2) [.int .i64 a0, .clo (.func 59) [] [.cp [.lst (List.map (D.int .i64) a1)] 0, .cp [.lst (List.map (D.int .i64) a2)] 0]] zAf:=Tr.fn (F:=zGl)
 (.mk 8 eI 8 0 a0 a0<| .let_ (List.replicate (Int.toNat a0) 0:List Int) fun y1=> .len 6 eI y1<| .loopR 4 id ⟨_,_,_,_,_,zL3 a1 a2 y1 0 y1⟩ fun j6=> .ret 8 (j6,0))
noncomputable abbrev zAbq:Fe:= .of Tryz.prog 30 zAf
theorem zAaJ (a0:List Int) (a1:List Int):HS 30 (zMG a0 a1) [.lst (List.map (D.int .i64) a0), .lst (List.map (D.int .i64) a1)] zAf:=Tr.fn (F:=zAbq)
 (.call 12 (zSB a0 a1) zAr fun r1=> .iteN 7 11 (r1=0)
  (.ret 9 ([],r1))
  (.len 5 eI a0<| .call 1 (zOD (a0.length:Int) a0 a1) zAl fun r2=> .ret 6 (r2.1,r2.2)))
noncomputable abbrev zZi:Fe:= .of Tryz.prog 33 zAk
theorem zLA (a0:List Int):HS 33 (zGF a0) [.lst (List.map (D.int .i64) a0)] zAk:=Tr.fn (F:=zZi)
 (.len 8 eI a0<| .ite 2 5 ((a0.length:Int)>4096)
  (.ret 7 3)
  (.ret 7 0))
def zPG (v:Unit):PV:= .ptr (.s 14) 0
def zPE (v:Unit):List (Tg×List PV):=[(.s 14,[.d (.int .i64 0), .d (.agg [.clo (.func 69) [] [], .clo (.func 70) [] [], .clo (.func 71) [] [], .clo (.func 73) [] []]), .d (.int .i64 1), .d (.agg [.clo (.func 74) [] [], .clo (.func 75) [] [], .clo (.func 77) [] [], .clo (.func 79) [] []]), .d (.int .i64 2), .d (.agg [.clo (.func 81) [] [], .clo (.func 82) [] [], .clo (.func 84) [] [], .clo (.func 85) [] []]), .d (.int .i64 3), .d (.agg [.clo (.func 69) [] [], .clo (.func 87) [] [], .clo (.func 89) [] [], .clo (.func 90) [] []])])]
noncomputable abbrev zXO:Fe:= .of Tryz.prog 34 zPG zPE
theorem zGo:HG 34 zC4 [] [] zPG zPE:=Tr.fnG (F:=zXO)
 (.ret 19 ())
def zAd (v:Bool):PV:=bB v
noncomputable abbrev zYT:Fe:= .of Tryz.prog 69 zAd
theorem zAe:∀v,(zAd v).noLst:=fun _=>trivial
theorem zHQ (a0:zAi) (a1:Int):HS 69 (zHe a0 a1) [.agg [.int .i64 a0.F_Scheme, .int .i64 a0.F_K, .int .i64 a0.F_Wide], .int .i64 a1] zAd:=Tr.fn (F:=zYT)
 (.join 11 4 (γ:=Bool) ⟨fun x=>[(12,bB x)],[],fun _=>[],[]⟩
  (.ite 0 8 (a0.F_K=0)
  (.ret 5 (a0.F_Wide==0))
  (.ret 5 false))
  fun j1=> .ret 3 j1)
noncomputable abbrev zVp:Fe:= .of Tryz.prog 74 zAd
theorem zMz (a0:zAi) (a1:Int):HS 74 (zI4 a0 a1) [.agg [.int .i64 a0.F_Scheme, .int .i64 a0.F_K, .int .i64 a0.F_Wide], .int .i64 a1] zAd:=Tr.fn (F:=zVp)
 (.join 11 5 (γ:=Bool) ⟨fun x=>[(13,bB x)],[2],fun _=>[],[.s 15]⟩
  (.ite 0 8 (a0.F_K≥0)
  (.ret 6 (decide (a0.F_K≤a1)))
  (.ret 6 false))
  fun j1=> .join 1 4 (γ:=Bool) ⟨fun x=>[(18,bB x)],[],fun _=>[],[]⟩
  (.iteB 0 14 (j1)
  (.ret 5 (a0.F_Wide==0))
  (.ret 5 false))
  fun j2=> .ret 3 j2)
noncomputable abbrev zVX:Fe:= .of Tryz.prog 81 zAd
theorem zMQ (a0:zAi) (a1:Int):HS 81 (zJo a0 a1) [.agg [.int .i64 a0.F_Scheme, .int .i64 a0.F_K, .int .i64 a0.F_Wide], .int .i64 a1] zAd:=Tr.fn (F:=zVX)
 (.join 11 4 (γ:=Bool) ⟨fun x=>[(12,bB x)],[2],fun _=>[],[.s 15]⟩
  (.ite 0 8 (a0.F_K=0)
  (.ret 5 (decide (a0.F_Wide>0)))
  (.ret 5 false))
  fun j1=> .join 1 4 (γ:=Bool) ⟨fun x=>[(17,bB x)],[],fun _=>[],[]⟩
  (.iteB 0 13 (j1)
  (.ret 5 (decide (a0.F_Wide≤8)))
  (.ret 5 false))
  fun j2=> .ret 3 j2)
noncomputable abbrev zWY:Fe:= .of Tryz.prog 17 zAk
theorem zN4 (a0:zAi) (a1:Int):HS 17 (zGn a0 a1) [.agg [.int .i64 a0.F_Scheme, .int .i64 a0.F_K, .int .i64 a0.F_Wide], .int .i64 a1] zAk:=Tr.fn (F:=zWY)
 (.draws 6 (.callG 2 [] [] zGo fun r1=> .hold 1 []<| .hold 6 []<| .cas 0 12 (a0.F_Scheme=(0:Int)) (.d (.agg [.clo (.func 69) [] [], .clo (.func 70) [] [], .clo (.func 71) [] [], .clo (.func 73) [] []])) (.d (lookD a0.F_Scheme [(1, .agg [.clo (.func 74) [] [], .clo (.func 75) [] [], .clo (.func 77) [] [], .clo (.func 79) [] []]),(2, .agg [.clo (.func 81) [] [], .clo (.func 82) [] [], .clo (.func 84) [] [], .clo (.func 85) [] []]),(3, .agg [.clo (.func 69) [] [], .clo (.func 87) [] [], .clo (.func 89) [] [], .clo (.func 90) [] []])] (.agg [.nilfn, .nilfn, .nilfn, .nilfn]))) (.d (lookD a0.F_Scheme [(0, .agg [.clo (.func 69) [] [], .clo (.func 70) [] [], .clo (.func 71) [] [], .clo (.func 73) [] []]),(1, .agg [.clo (.func 74) [] [], .clo (.func 75) [] [], .clo (.func 77) [] [], .clo (.func 79) [] []]),(2, .agg [.clo (.func 81) [] [], .clo (.func 82) [] [], .clo (.func 84) [] [], .clo (.func 85) [] []]),(3, .agg [.clo (.func 69) [] [], .clo (.func 87) [] [], .clo (.func 89) [] [], .clo (.func 90) [] []])] (.agg [.nilfn, .nilfn, .nilfn, .nilfn]))) zCe zCd
  (.hold 2 []<| .join 9 3 (γ:=Bool) ⟨fun x=>[(19,bB x)],[5,2,1],fun _=>[],[.s 1727, .s 15]⟩
  (.iteX 0 16 ((hasK a0.F_Scheme [0,1,2,3]))
  (.ret 4 true)
  (.ret 4 (decide (a1<1))))
  fun j2=> .join 1 3 (γ:=Bool) ⟨fun x=>[(23,bB x)],[5,2,1],fun _=>[],[.s 1727, .s 15]⟩
  (.iteB 0 20 (j2)
  (.ret 4 true)
  (.ret 4 (decide (a1>4096))))
  fun j3=> .join 1 7 (γ:=Bool) ⟨fun x=>[(31,bB x)],[],fun _=>[],[]⟩
  (.iteB 0 24 (j3)
  (.ret 8 true)
  (.call 4 (zHQ a0 a1) zAe fun r4=> .ret 3 (!r4)))
  fun j5=> .iteB 1 31 (j5)
  (.ret 7 1)
  (.ret 7 0))
  (.cas 0 12 (a0.F_Scheme=(1:Int)) (.d (.agg [.clo (.func 74) [] [], .clo (.func 75) [] [], .clo (.func 77) [] [], .clo (.func 79) [] []])) (.d (lookD a0.F_Scheme [(2, .agg [.clo (.func 81) [] [], .clo (.func 82) [] [], .clo (.func 84) [] [], .clo (.func 85) [] []]),(3, .agg [.clo (.func 69) [] [], .clo (.func 87) [] [], .clo (.func 89) [] [], .clo (.func 90) [] []])] (.agg [.nilfn, .nilfn, .nilfn, .nilfn]))) (.d (lookD a0.F_Scheme [(1, .agg [.clo (.func 74) [] [], .clo (.func 75) [] [], .clo (.func 77) [] [], .clo (.func 79) [] []]),(2, .agg [.clo (.func 81) [] [], .clo (.func 82) [] [], .clo (.func 84) [] [], .clo (.func 85) [] []]),(3, .agg [.clo (.func 69) [] [], .clo (.func 87) [] [], .clo (.func 89) [] [], .clo (.func 90) [] []])] (.agg [.nilfn, .nilfn, .nilfn, .nilfn]))) zCe zCd
  (.hold 2 []<| .join 9 3 (γ:=Bool) ⟨fun x=>[(19,bB x)],[5,2,1],fun _=>[],[.s 1727, .s 15]⟩
  (.iteX 0 16 ((hasK a0.F_Scheme [0,1,2,3]))
  (.ret 4 true)
  (.ret 4 (decide (a1<1))))
  fun j6=> .join 1 3 (γ:=Bool) ⟨fun x=>[(23,bB x)],[5,2,1],fun _=>[],[.s 1727, .s 15]⟩
  (.iteB 0 20 (j6)
  (.ret 4 true)
  (.ret 4 (decide (a1>4096))))
  fun j7=> .join 1 7 (γ:=Bool) ⟨fun x=>[(31,bB x)],[],fun _=>[],[]⟩
  (.iteB 0 24 (j7)
  (.ret 8 true)
  (.call 4 (zMz a0 a1) zAe fun r8=> .ret 3 (!r8)))
  fun j9=> .iteB 1 31 (j9)
  (.ret 7 1)
  (.ret 7 0))
  (.cas 0 12 (a0.F_Scheme=(2:Int)) (.d (.agg [.clo (.func 81) [] [], .clo (.func 82) [] [], .clo (.func 84) [] [], .clo (.func 85) [] []])) (.d (lookD a0.F_Scheme [(3, .agg [.clo (.func 69) [] [], .clo (.func 87) [] [], .clo (.func 89) [] [], .clo (.func 90) [] []])] (.agg [.nilfn, .nilfn, .nilfn, .nilfn]))) (.d (lookD a0.F_Scheme [(2, .agg [.clo (.func 81) [] [], .clo (.func 82) [] [], .clo (.func 84) [] [], .clo (.func 85) [] []]),(3, .agg [.clo (.func 69) [] [], .clo (.func 87) [] [], .clo (.func 89) [] [], .clo (.func 90) [] []])] (.agg [.nilfn, .nilfn, .nilfn, .nilfn]))) zCe zCd
  (.hold 2 []<| .join 9 3 (γ:=Bool) ⟨fun x=>[(19,bB x)],[5,2,1],fun _=>[],[.s 1727, .s 15]⟩
  (.iteX 0 16 ((hasK a0.F_Scheme [0,1,2,3]))
  (.ret 4 true)
  (.ret 4 (decide (a1<1))))
  fun j10=> .join 1 3 (γ:=Bool) ⟨fun x=>[(23,bB x)],[5,2,1],fun _=>[],[.s 1727, .s 15]⟩
  (.iteB 0 20 (j10)
  (.ret 4 true)
  (.ret 4 (decide (a1>4096))))
  fun j11=> .join 1 7 (γ:=Bool) ⟨fun x=>[(31,bB x)],[],fun _=>[],[]⟩
  (.iteB 0 24 (j11)
  (.ret 8 true)
  (.call 4 (zMQ a0 a1) zAe fun r12=> .ret 3 (!r12)))
  fun j13=> .iteB 1 31 (j13)
  (.ret 7 1)
  (.ret 7 0))
  (.cas 0 12 (a0.F_Scheme=(3:Int)) (.d (.agg [.clo (.func 69) [] [], .clo (.func 87) [] [], .clo (.func 89) [] [], .clo (.func 90) [] []])) (.d (lookD a0.F_Scheme [] (.agg [.nilfn, .nilfn, .nilfn, .nilfn]))) (.d (lookD a0.F_Scheme [(3, .agg [.clo (.func 69) [] [], .clo (.func 87) [] [], .clo (.func 89) [] [], .clo (.func 90) [] []])] (.agg [.nilfn, .nilfn, .nilfn, .nilfn]))) zCe zCd
  (.hold 2 []<| .join 9 3 (γ:=Bool) ⟨fun x=>[(19,bB x)],[5,2,1],fun _=>[],[.s 1727, .s 15]⟩
  (.iteX 0 16 ((hasK a0.F_Scheme [0,1,2,3]))
  (.ret 4 true)
  (.ret 4 (decide (a1<1))))
  fun j14=> .join 1 3 (γ:=Bool) ⟨fun x=>[(23,bB x)],[5,2,1],fun _=>[],[.s 1727, .s 15]⟩
  (.iteB 0 20 (j14)
  (.ret 4 true)
  (.ret 4 (decide (a1>4096))))
  fun j15=> .join 1 7 (γ:=Bool) ⟨fun x=>[(31,bB x)],[],fun _=>[],[]⟩
  (.iteB 0 24 (j15)
  (.ret 8 true)
  (.call 4 (zHQ a0 a1) zAe fun r16=> .ret 3 (!r16)))
  fun j17=> .iteB 1 31 (j17)
  (.ret 7 1)
  (.ret 7 0))
  (.hold 2 []<| .join 9 3 (γ:=Bool) ⟨fun x=>[(19,bB x)],[5,2,1],fun _=>[],[.s 1727, .s 15]⟩
  (.iteX 0 16 ((hasK a0.F_Scheme [0,1,2,3]))
  (.ret 4 true)
  (.ret 4 (decide (a1<1))))
  fun j18=> .join 1 3 (γ:=Bool) ⟨fun x=>[(23,bB x)],[5,2,1],fun _=>[],[.s 1727, .s 15]⟩
  (.iteB 0 20 (j18)
  (.ret 4 true)
  (.ret 4 (decide (a1>4096))))
  fun j19=> .join 1 7 (γ:=Unit) ⟨fun x=>[(31,bB true)],[],fun _=>[],[]⟩
  (.iteB 0 24 (j19)
  (.ret 8 ())
  (.halt))
  fun j20=> .ret 8 1))))) (.hold 4 []<| .callG 0 [] [] zGo fun r1=> .hold 1 []<| .cas 4 12 (a0.F_Scheme=(0:Int)) (.d (.agg [.clo (.func 69) [] [], .clo (.func 70) [] [], .clo (.func 71) [] [], .clo (.func 73) [] []])) (.d (lookD a0.F_Scheme [(1, .agg [.clo (.func 74) [] [], .clo (.func 75) [] [], .clo (.func 77) [] [], .clo (.func 79) [] []]),(2, .agg [.clo (.func 81) [] [], .clo (.func 82) [] [], .clo (.func 84) [] [], .clo (.func 85) [] []]),(3, .agg [.clo (.func 69) [] [], .clo (.func 87) [] [], .clo (.func 89) [] [], .clo (.func 90) [] []])] (.agg [.nilfn, .nilfn, .nilfn, .nilfn]))) (.d (lookD a0.F_Scheme [(0, .agg [.clo (.func 69) [] [], .clo (.func 70) [] [], .clo (.func 71) [] [], .clo (.func 73) [] []]),(1, .agg [.clo (.func 74) [] [], .clo (.func 75) [] [], .clo (.func 77) [] [], .clo (.func 79) [] []]),(2, .agg [.clo (.func 81) [] [], .clo (.func 82) [] [], .clo (.func 84) [] [], .clo (.func 85) [] []]),(3, .agg [.clo (.func 69) [] [], .clo (.func 87) [] [], .clo (.func 89) [] [], .clo (.func 90) [] []])] (.agg [.nilfn, .nilfn, .nilfn, .nilfn]))) zCe zCd
  (.hold 2 []<| .join 9 3 (γ:=Bool) ⟨fun x=>[(19,bB x)],[5,2,1],fun _=>[],[.s 1727, .s 15]⟩
  (.iteX 0 16 ((hasK a0.F_Scheme [0,1,2,3]))
  (.ret 4 true)
  (.ret 4 (decide (a1<1))))
  fun j2=> .join 1 3 (γ:=Bool) ⟨fun x=>[(23,bB x)],[5,2,1],fun _=>[],[.s 1727, .s 15]⟩
  (.iteB 0 20 (j2)
  (.ret 4 true)
  (.ret 4 (decide (a1>4096))))
  fun j3=> .join 1 7 (γ:=Bool) ⟨fun x=>[(31,bB x)],[],fun _=>[],[]⟩
  (.iteB 0 24 (j3)
  (.ret 8 true)
  (.call 4 (zHQ a0 a1) zAe fun r4=> .ret 3 (!r4)))
  fun j5=> .iteB 1 31 (j5)
  (.ret 7 1)
  (.ret 7 0))
  (.cas 0 12 (a0.F_Scheme=(1:Int)) (.d (.agg [.clo (.func 74) [] [], .clo (.func 75) [] [], .clo (.func 77) [] [], .clo (.func 79) [] []])) (.d (lookD a0.F_Scheme [(2, .agg [.clo (.func 81) [] [], .clo (.func 82) [] [], .clo (.func 84) [] [], .clo (.func 85) [] []]),(3, .agg [.clo (.func 69) [] [], .clo (.func 87) [] [], .clo (.func 89) [] [], .clo (.func 90) [] []])] (.agg [.nilfn, .nilfn, .nilfn, .nilfn]))) (.d (lookD a0.F_Scheme [(1, .agg [.clo (.func 74) [] [], .clo (.func 75) [] [], .clo (.func 77) [] [], .clo (.func 79) [] []]),(2, .agg [.clo (.func 81) [] [], .clo (.func 82) [] [], .clo (.func 84) [] [], .clo (.func 85) [] []]),(3, .agg [.clo (.func 69) [] [], .clo (.func 87) [] [], .clo (.func 89) [] [], .clo (.func 90) [] []])] (.agg [.nilfn, .nilfn, .nilfn, .nilfn]))) zCe zCd
  (.hold 2 []<| .join 9 3 (γ:=Bool) ⟨fun x=>[(19,bB x)],[5,2,1],fun _=>[],[.s 1727, .s 15]⟩
  (.iteX 0 16 ((hasK a0.F_Scheme [0,1,2,3]))
  (.ret 4 true)
  (.ret 4 (decide (a1<1))))
  fun j6=> .join 1 3 (γ:=Bool) ⟨fun x=>[(23,bB x)],[5,2,1],fun _=>[],[.s 1727, .s 15]⟩
  (.iteB 0 20 (j6)
  (.ret 4 true)
  (.ret 4 (decide (a1>4096))))
  fun j7=> .join 1 7 (γ:=Bool) ⟨fun x=>[(31,bB x)],[],fun _=>[],[]⟩
  (.iteB 0 24 (j7)
  (.ret 8 true)
  (.call 4 (zMz a0 a1) zAe fun r8=> .ret 3 (!r8)))
  fun j9=> .iteB 1 31 (j9)
  (.ret 7 1)
  (.ret 7 0))
  (.cas 0 12 (a0.F_Scheme=(2:Int)) (.d (.agg [.clo (.func 81) [] [], .clo (.func 82) [] [], .clo (.func 84) [] [], .clo (.func 85) [] []])) (.d (lookD a0.F_Scheme [(3, .agg [.clo (.func 69) [] [], .clo (.func 87) [] [], .clo (.func 89) [] [], .clo (.func 90) [] []])] (.agg [.nilfn, .nilfn, .nilfn, .nilfn]))) (.d (lookD a0.F_Scheme [(2, .agg [.clo (.func 81) [] [], .clo (.func 82) [] [], .clo (.func 84) [] [], .clo (.func 85) [] []]),(3, .agg [.clo (.func 69) [] [], .clo (.func 87) [] [], .clo (.func 89) [] [], .clo (.func 90) [] []])] (.agg [.nilfn, .nilfn, .nilfn, .nilfn]))) zCe zCd
  (.hold 2 []<| .join 9 3 (γ:=Bool) ⟨fun x=>[(19,bB x)],[5,2,1],fun _=>[],[.s 1727, .s 15]⟩
  (.iteX 0 16 ((hasK a0.F_Scheme [0,1,2,3]))
  (.ret 4 true)
  (.ret 4 (decide (a1<1))))
  fun j10=> .join 1 3 (γ:=Bool) ⟨fun x=>[(23,bB x)],[5,2,1],fun _=>[],[.s 1727, .s 15]⟩
  (.iteB 0 20 (j10)
  (.ret 4 true)
  (.ret 4 (decide (a1>4096))))
  fun j11=> .join 1 7 (γ:=Bool) ⟨fun x=>[(31,bB x)],[],fun _=>[],[]⟩
  (.iteB 0 24 (j11)
  (.ret 8 true)
  (.call 4 (zMQ a0 a1) zAe fun r12=> .ret 3 (!r12)))
  fun j13=> .iteB 1 31 (j13)
  (.ret 7 1)
  (.ret 7 0))
  (.cas 0 12 (a0.F_Scheme=(3:Int)) (.d (.agg [.clo (.func 69) [] [], .clo (.func 87) [] [], .clo (.func 89) [] [], .clo (.func 90) [] []])) (.d (lookD a0.F_Scheme [] (.agg [.nilfn, .nilfn, .nilfn, .nilfn]))) (.d (lookD a0.F_Scheme [(3, .agg [.clo (.func 69) [] [], .clo (.func 87) [] [], .clo (.func 89) [] [], .clo (.func 90) [] []])] (.agg [.nilfn, .nilfn, .nilfn, .nilfn]))) zCe zCd
  (.hold 2 []<| .join 9 3 (γ:=Bool) ⟨fun x=>[(19,bB x)],[5,2,1],fun _=>[],[.s 1727, .s 15]⟩
  (.iteX 0 16 ((hasK a0.F_Scheme [0,1,2,3]))
  (.ret 4 true)
  (.ret 4 (decide (a1<1))))
  fun j14=> .join 1 3 (γ:=Bool) ⟨fun x=>[(23,bB x)],[5,2,1],fun _=>[],[.s 1727, .s 15]⟩
  (.iteB 0 20 (j14)
  (.ret 4 true)
  (.ret 4 (decide (a1>4096))))
  fun j15=> .join 1 7 (γ:=Bool) ⟨fun x=>[(31,bB x)],[],fun _=>[],[]⟩
  (.iteB 0 24 (j15)
  (.ret 8 true)
  (.call 4 (zHQ a0 a1) zAe fun r16=> .ret 3 (!r16)))
  fun j17=> .iteB 1 31 (j17)
  (.ret 7 1)
  (.ret 7 0))
  (.hold 2 []<| .join 9 3 (γ:=Bool) ⟨fun x=>[(19,bB x)],[5,2,1],fun _=>[],[.s 1727, .s 15]⟩
  (.iteX 0 16 ((hasK a0.F_Scheme [0,1,2,3]))
  (.ret 4 true)
  (.ret 4 (decide (a1<1))))
  fun j18=> .join 1 3 (γ:=Bool) ⟨fun x=>[(23,bB x)],[5,2,1],fun _=>[],[.s 1727, .s 15]⟩
  (.iteB 0 20 (j18)
  (.ret 4 true)
  (.ret 4 (decide (a1>4096))))
  fun j19=> .join 1 7 (γ:=Unit) ⟨fun x=>[(31,bB true)],[],fun _=>[],[]⟩
  (.iteB 0 24 (j19)
  (.ret 8 ())
  (.halt))
  fun j20=> .ret 8 1))))))
def zAy (v:(List Int)):PV:=sI (.s 0) v
noncomputable abbrev zKx:Fe:= .of Tryz.prog 72 zAy
theorem zBi:∀v,(zAy v).noLst:=fun _=>(zAC fun _=>trivial)
theorem zFY (a0 : List Int) : HS 72 (zBW a0) [.lst (List.map (D.int .i64) a0)] zAy := Tr.fn (F := zKx)
 (.nilq 8 eI.f a0
  (    if room 8 ([] ++ a0).length then
       some ([] ++ a0)
     else none)
  (    some [])
  (fun h => by (try obtain rfl := List.eq_nil_of_length_eq_zero h); first | rfl | (simp [h]; done))
  (.app 7 eI 8 [] a0 <| .ret 3 ([] ++ a0))
  (.ret 8 []))
def zJr (v:Int×Int×(List Int)×Int×Int×Int):PV:= .tup [.agg [nI v.1,nI v.2.1, .nils,sI (.s 0) v.2.2.1,nI v.2.2.2.1,nI v.2.2.2.2.1, .nils, .nils],nI v.2.2.2.2.2]
noncomputable abbrev zWN:Fe:= .of Tryz.prog 70 zJr
theorem zVw:∀v,(zJr v).noLst:=fun _=>⟨⟨trivial,trivial,trivial,(zAC fun _=>trivial),trivial,trivial,trivial,trivial,trivial⟩,trivial,trivial⟩
theorem zVI (a0:zAi) (a1:List Int) (a2:Int) (a3:List Int):HS 70 (zKG a0 a1 a2 a3) [.agg [.int .i64 a0.F_Scheme, .int .i64 a0.F_K, .int .i64 a0.F_Wide], .lst (List.map (D.int .i64) a1), .int .u64 a2, .lst (List.map (D.int .i64) a3)] zJr:=Tr.fn (F:=zWN)
 (.len 9 eI a1<| .call 1 (zFY a1) zBi fun r1=> .ret 5 (0,(a1.length:Int),r1,0,0,0))
def zAQ (v:Int):PV:=nU v
noncomputable abbrev zZr:Fe:= .of Tryz.prog 198 zAQ
theorem zBH:∀v,(zAQ v).noLst:=fun _=>trivial
theorem zYA (a0:Int):HS 198 (zJU a0) [.int .i64 a0] zAQ:=Tr.fn (F:=zZr)
 (.ite 10 4 (a0<0)
  (.ret 10 (IntKind.u64.wrap (0-(IntKind.u64.wrap a0))))
  (.ret 9 (IntKind.u64.wrap a0)))
def zLE (v:(List zAa)):PV:= .sl (.s 0) 2 0 (List.map zAa.en v)
noncomputable abbrev zMZ:Fe:= .of Tryz.prog 172 zLE
def zVJ (a0:List Int) (x0:Int) (x1:List zAa):St:=⟨[(11,nI x0),(10,nI (a0.length:Int)),(9,lI a0),(3, .sl (.h 0) 2 0 (List.map zAa.en x1))],[]⟩
def zU5 (a0:List Int) (x:(List zAa)):St:=⟨[(3, .sl (.h 1) 2 0 (List.map zAa.en x))],[]⟩
theorem zUk (a0:List Int):∀(x0:Int) (x1:List zAa),Ok (zDl a0 x0 x1) (LN zMZ (.exit 0) (zU5 a0) 172 0 (zVJ a0 x0 x1)):=by
 refine zDl.partial_correctness a0 _ ?_
 intro f IH x0 x1
 exact Tr.lpN (F:=zMZ) (X:=Int×(List zAa))
  (.ite 6 12 (x0<(a0.length:Int))
   (.idx 7 eI a0 x0<| .call 9 (zYA (at' a0 x0)) zBH fun r3=> .idx 1 zAa.e x1 x0<| .sto 0 [3] zAa.e x1 x0 (⟨x0,r3⟩:zAa)<| .let_ (x1.set (Int.toNat x0) (⟨x0,r3⟩:zAa):List zAa) fun y4=> .again 6 (IntKind.i64.wrap (x0+1),y4))
   (.ret 4 x1)) _ fun x r=>IH x.1 x.2 r
theorem zYh:∀v,(zLE v).noLst:=fun _=>(zAC fun _=>⟨trivial,trivial,trivial⟩)
theorem zYG (a0:List Int):HS 172 (zJP a0) [.lst (List.map (D.int .i64) a0)] zLE:=Tr.fn (F:=zMZ)
 (.len 7 eI a0<| .mk 0 zAa.e 16 (⟨0,0⟩:zAa) (a0.length:Int) (a0.length:Int)<| .let_ (List.replicate (Int.toNat (a0.length:Int)) (⟨0,0⟩:zAa):List zAa) fun y1=> .len 6 eI a0<| .loop 4 ⟨_,_,_,_,_,zUk a0 0 y1⟩ fun j6=> .ret 7 j6)
def zD2 (v:(List zAa)):PV:= .tup []
def zD6 (v:(List zAa)):List (Tg×List PV):=[(.up (.s 0),[.sl (.s 0) 2 0 (List.map zAa.en v)])]
noncomputable abbrev zLH:Fe:= .of Tryz.prog 274 zD2 zD6
theorem zLi:∀v,(zD2 v).noLst:=fun _=>trivial
theorem zKw:∀v,zCV (zD6 v):=fun _=>⟨⟨(zAC fun _=>⟨trivial,trivial,trivial⟩),trivial⟩,trivial⟩
theorem zLd (a0:List zAa) (a1:Int) (a2:Int):HG 274 (zEm a0 a1 a2) [.ptr (.up (.s 0)) 0, .d (.ifc 174 (.agg [.int .i64 a1, .int .u64 a2]))] [(.up (.s 0),[.sl (.h 0) 2 0 (List.map zAa.en a0)])] zD2 zD6:=Tr.fnG (F:=zLH)
 (.hold 9 []<| .app 0 zAa.e 16 a0 [(⟨a1,a2⟩:zAa)]<| .hold 1 []<| .ret 4 (a0++[(⟨a1,a2⟩:zAa)]))
noncomputable abbrev zNQ:Fe:= .of Tryz.prog 174 zAk
theorem zFk (a0:List zAa):HS 174 (zA8 a0) [.lst (List.map zAa.en a0)] zAk:=Tr.fn (F:=zNQ)
 (.len 7 zAa.e a0<| .ret 3 (a0.length:Int))
noncomputable abbrev zQA:Fe:= .of Tryz.prog 280 zAd
theorem zIW (a0:Int):HS 280 (zDL a0) [.int .u64 a0] zAd:=Tr.fn (F:=zQA)
 (.ret 12 (a0 !=a0))
noncomputable abbrev zPe:Fe:= .of Tryz.prog 278 zAk
theorem zOe (a0:Int) (a1:Int):HS 278 (zD4 a0 a1) [.int .u64 a0, .int .u64 a1] zAk:=Tr.fn (F:=zPe)
 (.call 7 (zIW a0) zAe fun r1=> .call 5 (zIW a1) zAe fun r2=> .iteB 7 11 (r1)
  (.iteB 6 12 (r2)
  (.ret 8 0)
  (.ret 8 (-1)))
  (.iteB 7 13 (r2)
  (.ret 7 1)
  (.ite 9 16 (a0<a1)
  (.ret 7 (-1))
  (.ite 9 19 (a0>a1)
  (.ret 7 1)
  (.ret 7 0)))))
noncomputable abbrev zUO:Fe:= .of Tryz.prog 230 zAd
theorem zMb (a0:Int):HS 230 (zE6 a0) [.int .i64 a0] zAd:=Tr.fn (F:=zUO)
 (.ret 12 (a0 !=a0))
noncomputable abbrev zRV:Fe:= .of Tryz.prog 279 zAk
theorem zQK (a0:Int) (a1:Int):HS 279 (zFs a0 a1) [.int .i64 a0, .int .i64 a1] zAk:=Tr.fn (F:=zRV)
 (.call 7 (zMb a0) zAe fun r1=> .call 5 (zMb a1) zAe fun r2=> .iteB 7 11 (r1)
  (.iteB 6 12 (r2)
  (.ret 8 0)
  (.ret 8 (-1)))
  (.iteB 7 13 (r2)
  (.ret 7 1)
  (.ite 9 16 (a0<a1)
  (.ret 7 (-1))
  (.ite 9 19 (a0>a1)
  (.ret 7 1)
  (.ret 7 0)))))
noncomputable abbrev zL6:Fe:= .of Tryz.prog 277 zAk
def zUV (a0:List Int) (x0:Int):St:=⟨[(8,nI x0),(7,nI (a0.length:Int)),(6,lI a0),(3,nI 0)],[]⟩
def zTU (a0:List Int) (x:Unit):St:=⟨[(3,nI 0)],[]⟩
theorem zS1 (a0:List Int):∀(x0:Int),Ok (zC6 a0 x0) (LR zL6 (.exit 0) (zTU a0) 277 0 (zUV a0 x0)):=by
 refine zC6.partial_correctness a0 _ ?_
 intro f IH x0
 exact Tr.lpR (F:=zL6) (X:=Int)
  (.ite 6 9 (x0<(a0.length:Int))
   (.idx 6 eI a0 x0<| .iteN 9 14 ((at' a0 x0)=0)
   (.ret 10 (.inl (at' a0 x0)))
   (.again 7 (IntKind.i64.wrap (x0+1))))
   (.ret 4 (.inr ()))) _ fun x r=>IH x r
theorem zWG (a0:List Int):HS 277 (zIF a0) [.lst (List.map (D.int .i64) a0)] zAk:=Tr.fn (F:=zL6)
 (.len 12 eI a0<| .loopR 4 id ⟨_,_,_,_,_,zS1 a0 0⟩ fun j1=> .ret 7 0)
noncomputable abbrev zLT:Fe:= .of Tryz.prog 276 zAk
theorem zLm (a0:zAa) (a1:zAa):HS 276 (zDc a0 a1) [.agg [.int .i64 a0.F_place, .int .u64 a0.F_size], .agg [.int .i64 a1.F_place, .int .u64 a1.F_size]] zAk:=Tr.fn (F:=zLT)
 (.call 16 (zOe a1.F_size a0.F_size) zAr fun r1=> .hold 1 []<| .call 0 (zQK a0.F_place a1.F_place) zAr fun r2=> .call 1 (zWG [r1,r2]) zAr fun r3=> .ret 4 r3)
noncomputable abbrev zNu:Fe:= .of Tryz.prog 272 zAd
theorem zDh (a0:List zAa) (a1:Int) (a2:Int):HS 272 (zBc a0 a1 a2) [.lst (List.map zAa.en a0), .int .i64 a1, .int .i64 a2] zAd:=Tr.fn (F:=zNu)
 (.idx 8 zAa.e a0 a1<| .idx 3 zAa.e a0 a2<| .call 1 (zLm (at' a0 a1) (at' a0 a2)) zAr fun r1=> .ret 4 (decide (r1>0)))
def zD7 (v:(List zAa)):PV:= .tup []
def zD5 (v:(List zAa)):List (Tg×List PV):=[(.up (.s 0),[.sl (.s 0) 2 0 (List.map zAa.en v)])]
noncomputable abbrev zLL:Fe:= .of Tryz.prog 275 zD7 zD5
theorem zCX:∀v,(zD7 v).noLst:=fun _=>trivial
theorem zCK:∀v,zCV (zD5 v):=fun _=>⟨⟨(zAC fun _=>⟨trivial,trivial,trivial⟩),trivial⟩,trivial⟩
theorem zCY (a0:List zAa) (a1:Int) (a2:Int):HG 275 (zA6 a0 a1 a2) [.sl (.h 0) 2 0 (List.map zAa.en a0),nI a1,nI a2] [(.up (.s 0),[.sl (.h 0) 2 0 (List.map zAa.en a0)])] zD7 zD5:=Tr.fnG (F:=zLL)
 (.idx 7 zAa.e a0 a2<| .idx 3 zAa.e a0 a1<| .idx 1 zAa.e a0 a1<| .sto 0 [14,10,8,6,0] zAa.e a0 a1 (at' a0 a2)<| .hold 1 []<| .idx 0 zAa.e (a0.set (Int.toNat a1) (at' a0 a2)) a2<| .sto 0 [14,10,8,6,0] zAa.e (a0.set (Int.toNat a1) (at' a0 a2)) a2 (at' a0 a1)<| .ret 2 ((a0.set (Int.toNat a1) (at' a0 a2)).set (Int.toNat a2) (at' a0 a1)))
def zFm (v:(List zAa)):PV:= .tup []
def zFl (v:(List zAa)):List (Tg×List PV):=[(.up (.s 0),[.sl (.s 0) 2 0 (List.map zAa.en v)])]
noncomputable abbrev zFM:Fe:= .of Tryz.prog 199 zFm zFl
def zMa (x0:Int) (x1:List zAa):St:=⟨[(0, .ifc 169 (.ptr (.up (.s 0)) 0)),(1,nI x0)],[(.up (.s 0),[.sl (.h 1) 2 0 (List.map zAa.en x1)])]⟩
def zL7 (x:(List zAa)):St:=⟨[],[(.up (.s 0),[.sl (.h 2) 2 0 (List.map zAa.en x)])]⟩
theorem zKZ:∀(x0:Int) (x1:List zAa),Ok (zBd x0 x1) (LN zFM (.exit 0) zL7 199 0 (zMa x0 x1)):=by
 refine zBd.partial_correctness _ ?_
 intro f IH x0 x1
 exact Tr.lpN (F:=zFM) (X:=Int×(List zAa))
  (.join 16 6 (γ:=Bool) ⟨fun x=>[(17,bB x)],[4,0,1],fun _=>[],[.up (.s 0)]⟩
   (.ite 0 11 ((IntKind.i64.wrap (Int.tdiv (IntKind.i64.wrap (x0-1)) 2))=x0)
   (.ret 7 true)
   (.call 3 (zDh x1 x0 (IntKind.i64.wrap (Int.tdiv (IntKind.i64.wrap (x0-1)) 2))) zAe fun r1=> .ret 3 (!r1)))
   fun j2=> .iteB 1 17 (j2)
   (.ret 5 x1)
   (.callB 7 [(.h 0, .h 1),(.up (.s 0), .up (.s 0))] (zCY x1 (IntKind.i64.wrap (Int.tdiv (IntKind.i64.wrap (x0-1)) 2)) x0) zCX zCK fun r3=> .again 6 (IntKind.i64.wrap (Int.tdiv (IntKind.i64.wrap (x0-1)) 2),r3))) _ fun x r=>IH x.1 x.2 r
theorem zNo:∀v,(zFm v).noLst:=fun _=>trivial
theorem zMi:∀v,zCV (zFl v):=fun _=>⟨⟨(zAC fun _=>⟨trivial,trivial,trivial⟩),trivial⟩,trivial⟩
theorem zNg (a0:List zAa) (a1:Int):HG 199 (zFQ a0 a1) [.ifc 169 (.ptr (.up (.s 0)) 0),nI a1] [(.up (.s 0),[.sl (.h 0) 2 0 (List.map zAa.en a0)])] zFm zFl:=Tr.fnG (F:=zFM)
 (.loop 2 ⟨_,_,_,_,_,zKZ a1 a0⟩ fun j4=> .ret 1 j4)
def zDU (v:(List zAa)):PV:= .tup []
def zDS (v:(List zAa)):List (Tg×List PV):=[(.up (.s 0),[.sl (.s 0) 2 0 (List.map zAa.en v)])]
noncomputable abbrev zK0:Fe:= .of Tryz.prog 173 zDU zDS
theorem zKJ:∀v,(zDU v).noLst:=fun _=>trivial
theorem zKg:∀v,zCV (zDS v):=fun _=>⟨⟨(zAC fun _=>⟨trivial,trivial,trivial⟩),trivial⟩,trivial⟩
theorem zKI (a0:List zAa) (a1:Int) (a2:Int):HG 173 (zB9 a0 a1 a2) [.ifc 169 (.ptr (.up (.s 0)) 0), .d (.ifc 174 (.agg [.int .i64 a1, .int .u64 a2]))] [(.up (.s 0),[.sl (.h 0) 2 0 (List.map zAa.en a0)])] zDU zDS:=Tr.fnG (F:=zK0)
 (.callB 4 [(.up (.s 0), .up (.s 0)),(.h 0, .h 0)] (zLd a0 a1 a2) zLi zKw fun r1=> .call 4 (zFk r1) zAr fun r2=> .callB 1 [(.up (.s 0), .up (.s 0)),(.h 0, .s 32)] (zNg r1 (IntKind.i64.wrap (r2-1))) zNo zMi fun r3=> .ret 1 r3)
def zEf (v:Bool×(List zAa)):PV:=bB v.1
def zEe (v:Bool×(List zAa)):List (Tg×List PV):=[(.up (.s 0),[.sl (.s 0) 2 0 (List.map zAa.en v.2)])]
noncomputable abbrev zEF:Fe:= .of Tryz.prog 200 zEf zEe
def zKy (a1:Int) (a2:Int) (x0:Int) (x1:List zAa):St:=⟨[(7,nI x0),(0, .ifc 169 (.ptr (.up (.s 0)) 0)),(1,nI a1),(2,nI a2)],[(.up (.s 0),[.sl (.h 1) 2 0 (List.map zAa.en x1)])]⟩
def zKL (a1:Int) (a2:Int) (x:Int×(List zAa)):St:=⟨[(7,nI x.1),(1,nI a1)],[(.up (.s 0),[.sl (.h 2) 2 0 (List.map zAa.en x.2)])]⟩
theorem zJZ (a1:Int) (a2:Int):∀(x0:Int) (x1:List zAa),Ok (zAJ a1 a2 x0 x1) (LN zEF (.exit 0) (zKL a1 a2) 200 0 (zKy a1 a2 x0 x1)):=by
 refine zAJ.partial_correctness a1 a2 _ ?_
 intro f IH x0 x1
 exact Tr.lpN (F:=zEF) (X:=Int×(List zAa))
  (.join 16 3 (γ:=Bool) ⟨fun x=>[(21,bB x)],[8,7,0,1,2],fun _=>[],[.up (.s 0)]⟩
   (.ite 0 18 ((IntKind.i64.wrap ((IntKind.i64.wrap (2*x0))+1))≥a2)
   (.ret 4 true)
   (.ret 4 (decide ((IntKind.i64.wrap ((IntKind.i64.wrap (2*x0))+1))<0))))
   fun j1=> .iteB 1 21 (j1)
   (.ret 5 (x0,x1))
   (.let_ (IntKind.i64.wrap ((IntKind.i64.wrap ((IntKind.i64.wrap (2*x0))+1))+1):Int) fun y2=> .join 20 5 (γ:=Bool) ⟨fun x=>[(33,bB x)],[10,9,7,0,1,2],fun _=>[],[.up (.s 0)]⟩
   (.ite 0 28 (y2<a2)
   (.call 3 (zDh x1 y2 (IntKind.i64.wrap ((IntKind.i64.wrap (2*x0))+1))) zAe fun r4=> .ret 2 r4)
   (.ret 6 false))
   fun j5=> .iteB 1 33 (j5)
   (.call 11 (zDh x1 y2 x0) zAe fun r6=> .iteX 2 39 (r6)
   (.ret 5 (x0,x1))
   (.callB 7 [(.h 0, .h 1),(.up (.s 0), .up (.s 0))] (zCY x1 x0 y2) zCX zCK fun r7=> .again 6 (y2,r7)))
   (.call 8 (zDh x1 (IntKind.i64.wrap ((IntKind.i64.wrap (2*x0))+1)) x0) zAe fun r8=> .iteX 2 39 (r8)
   (.ret 5 (x0,x1))
   (.callB 7 [(.h 0, .h 1),(.up (.s 0), .up (.s 0))] (zCY x1 x0 (IntKind.i64.wrap ((IntKind.i64.wrap (2*x0))+1))) zCX zCK fun r9=> .again 6 (IntKind.i64.wrap ((IntKind.i64.wrap (2*x0))+1),r9))))) _ fun x r=>IH x.1 x.2 r
theorem zL0:∀v,(zEf v).noLst:=fun _=>trivial
theorem zK4:∀v,zCV (zEe v):=fun _=>⟨⟨(zAC fun _=>⟨trivial,trivial,trivial⟩),trivial⟩,trivial⟩
theorem zLJ (a0:List zAa) (a1:Int) (a2:Int):HG 200 (zEG a0 a1 a2) [.ifc 169 (.ptr (.up (.s 0)) 0),nI a1,nI a2] [(.up (.s 0),[.sl (.h 0) 2 0 (List.map zAa.en a0)])] zEf zEe:=Tr.fnG (F:=zEF)
 (.loop 12 ⟨_,_,_,_,_,zJZ a1 a2 a1 a0⟩ fun j10=> .ret 9 (decide (j10.1>a1),j10.2))
def zFa (v:Int×Int×(List zAa)):PV:= .d (.ifc 174 (.agg [.int .i64 v.1, .int .u64 v.2.1]))
def zFf (v:Int×Int×(List zAa)):List (Tg×List PV):=[(.up (.s 0),[.sl (.s 0) 2 0 (List.map zAa.en v.2.2)])]
noncomputable abbrev zOn:Fe:= .of Tryz.prog 273 zFa zFf
theorem zMY:∀v,(zFa v).noLst:=fun _=>⟨trivial,trivial,trivial⟩
theorem zMl:∀v,zCV (zFf v):=fun _=>⟨⟨(zAC fun _=>⟨trivial,trivial,trivial⟩),trivial⟩,trivial⟩
theorem zNl (a0:List zAa):HG 273 (zFN a0) [.ptr (.up (.s 0)) 0] [(.up (.s 0),[.sl (.h 0) 2 0 (List.map zAa.en a0)])] zFa zFf:=Tr.fnG (F:=zOn)
 (.len 16 zAa.e a0<| .cut 1 zAa.e a0 none (some (IntKind.i64.wrap ((a0.length:Int)-1)))<| .let_ (cut' a0 none (some (IntKind.i64.wrap ((a0.length:Int)-1))):List zAa) fun y1=> .len 7 zAa.e a0<| .idx 1 zAa.e a0 (IntKind.i64.wrap ((a0.length:Int)-1))<| .ret 5 ((at' a0 (IntKind.i64.wrap ((a0.length:Int)-1))).F_place,(at' a0 (IntKind.i64.wrap ((a0.length:Int)-1))).F_size,y1))
def zED (v:Int×Int×(List zAa)):PV:= .d (.ifc 174 (.agg [.int .i64 v.1, .int .u64 v.2.1]))
def zEI (v:Int×Int×(List zAa)):List (Tg×List PV):=[(.up (.s 0),[.sl (.s 0) 2 0 (List.map zAa.en v.2.2)])]
noncomputable abbrev zNd:Fe:= .of Tryz.prog 175 zED zEI
theorem zMt:∀v,(zED v).noLst:=fun _=>⟨trivial,trivial,trivial⟩
theorem zLD:∀v,zCV (zEI v):=fun _=>⟨⟨(zAC fun _=>⟨trivial,trivial,trivial⟩),trivial⟩,trivial⟩
theorem zMq (a0:List zAa):HG 175 (zCI a0) [.ifc 169 (.ptr (.up (.s 0)) 0)] [(.up (.s 0),[.sl (.h 0) 2 0 (List.map zAa.en a0)])] zED zEI:=Tr.fnG (F:=zNd)
 (.call 7 (zFk a0) zAr fun r1=> .callB 7 [(.h 0, .h 0),(.up (.s 0), .up (.s 0))] (zCY a0 0 (IntKind.i64.wrap (r1-1))) zCX zCK fun r2=> .callB 5 [(.up (.s 0), .up (.s 0)),(.h 0, .s 3232)] (zLJ r2 0 (IntKind.i64.wrap (r1-1))) zL0 zK4 fun r3=> .callB 4 [(.up (.s 0), .up (.s 0)),(.h 0, .s 4832)] (zNl r3.2) zMY zMl fun r4=> .ret 3 (r4.1,r4.2.1,r4.2.2))
noncomputable abbrev zKR:Fe:= .of Tryz.prog 176 zAy
def zTp (a0:List zAa) (x0:Int) (x1:List Int):St:=⟨[(11,nI x0),(10,nI (a0.length:Int)),(9, .d (.lst (List.map zAa.en a0))),(3,sI (.h 0) x1)],[]⟩
def zTA (a0:List zAa) (x:(List Int)):St:=⟨[(3,sI (.h 1) x)],[]⟩
theorem zSi (a0:List zAa):∀(x0:Int) (x1:List Int),Ok (zCP a0 x0 x1) (LN zKR (.exit 0) (zTA a0) 176 0 (zTp a0 x0 x1)):=by
 refine zCP.partial_correctness a0 _ ?_
 intro f IH x0 x1
 exact Tr.lpN (F:=zKR) (X:=Int×(List Int))
  (.ite 6 12 (x0<(a0.length:Int))
   (.idx 6 zAa.e a0 x0<| .app 9 eI 8 x1 [(at' a0 x0).F_place]<| .let_ (x1++[(at' a0 x0).F_place]:List Int) fun y3=> .again 7 (IntKind.i64.wrap (x0+1),y3))
   (.ret 4 x1)) _ fun x r=>IH x.1 x.2 r
theorem zVu (a0:List zAa):HS 176 (zHN a0) [.lst (List.map zAa.en a0)] zAy:=Tr.fn (F:=zKR)
 (.len 7 zAa.e a0<| .mk 0 eI 8 0 0 (a0.length:Int)<| .let_ (List.replicate (Int.toNat 0) 0:List Int) fun y1=> .len 6 zAa.e a0<| .loop 4 ⟨_,_,_,_,_,zSi a0 0 y1⟩ fun j5=> .ret 7 j5)
noncomputable abbrev zM1:Fe:= .of Tryz.prog 129 zAf
def zVU (a0:Int) (r2:(List zAa)) (x0:Int) (x1:List zAa):St:=⟨[(28,nI x0),(27,nI (r2.length:Int)),(26, .sl (.s 9616) 2 0 (List.map zAa.en r2)),(6, .ptr (.s 8031) 0),(0,nI a0)],[(.s 8031,[.sl (.h 0) 2 0 (List.map zAa.en x1)])]⟩
def zU9 (a0:Int) (r2:(List zAa)) (x:(List zAa)):St:=⟨[(6, .ptr (.s 8031) 0)],[(.s 8031,[.sl (.h 1) 2 0 (List.map zAa.en x)])]⟩
theorem zUp (a0:Int) (r2:(List zAa)):∀(x0:Int) (x1:List zAa),Ok (zCS a0 r2 x0 x1) (LN zM1 (.exit 1) (zU9 a0 r2) 129 0 (zVU a0 r2 x0 x1)):=by
 refine zCS.partial_correctness a0 r2 _ ?_
 intro f IH x0 x1
 exact Tr.lpN (F:=zM1) (X:=Int×(List zAa))
  (.ite 6 29 (x0<(r2.length:Int))
   (.idx 6 zAa.e r2 x0<| .callB 10 [(.up (.s 0), .s 8031),(.h 0, .h 0)] (zKI x1 ((at' r2 x0).F_place) ((at' r2 x0).F_size)) zKJ zKg fun r3=> .call 6 (zFk r3) zAr fun r4=> .ite 3 42 (r4>a0)
   (.callB 4 [(.up (.s 0), .s 8031),(.h 0, .s 14464)] (zMq r3) zMt zLD fun r5=> .again 6 (IntKind.i64.wrap (x0+1),r5.2.2))
   (.again 7 (IntKind.i64.wrap (x0+1),r3)))
   (.ret 4 x1)) _ fun x r=>IH x.1 x.2 r
theorem zYQ (a0:Int) (a1:List Int):HS 129 (zDx a0 a1) [.int .i64 a0, .lst (List.map (D.int .i64) a1)] zAf:=Tr.fn (F:=zM1)
 (.len 10 eI a1<| .ite 3 10 ((a1.length:Int)>4096)
  (.ret 9 ([],3))
  (.join 6 5 (γ:=Bool) ⟨fun x=>[(22,bB x)],[0,1],fun _=>[],[]⟩
  (.ite 0 17 (a0<0)
  (.ret 6 true)
  (.len 2 eI a1<| .ret 3 (decide (a0>(a1.length:Int)))))
  fun j1=> .iteB 2 14 (j1)
  (.ret 9 ([],1))
  (.call 13 (zYG a1) zYh fun r2=> .len 0 zAa.e r2<| .loop 4 ⟨_,_,_,_,_,zUp a0 r2 0 []⟩ fun j6=> .call 6 (zVu j6) zBi fun r7=> .srt 5 [51,9] (zQu r7) fun r8=> .ret 8 (r8,0))))
noncomputable abbrev zKC:Fe:= .of Tryz.prog 178 zAd
def zS6 (a0:List Int) (x0:Int):St:=⟨[(3,nI x0),(0,lI a0)],[]⟩
def zS0 (a0:List Int) (x:Unit):St:=⟨[],[]⟩
theorem zSj (a0:List Int):∀(x0:Int),Ok (zCl a0 x0) (LR zKC (.exit 0) (zS0 a0) 178 0 (zS6 a0 x0)):=by
 refine zCl.partial_correctness a0 _ ?_
 intro f IH x0
 exact Tr.lpR (F:=zKC) (X:=Int)
  (.len 6 eI a0<| .ite 2 7 (x0<(a0.length:Int))
   (.idx 9 eI a0 (IntKind.i64.wrap (x0-1))<| .idx 3 eI a0 x0<| .ite 3 19 ((at' a0 (IntKind.i64.wrap (x0-1)))≥(at' a0 x0))
   (.ret 9 (.inl false))
   (.again 8 (IntKind.i64.wrap (x0+1))))
   (.ret 4 (.inr ()))) _ fun x r=>IH x r
theorem zOu (a0:List Int):HS 178 (zEM a0) [.lst (List.map (D.int .i64) a0)] zAd:=Tr.fn (F:=zKC)
 (.loopR 11 id ⟨_,_,_,_,_,zSj a0 1⟩ fun j1=> .ret 6 true)
noncomputable abbrev zQR:Fe:= .of Tryz.prog 180 zAd
theorem zP7 (a0:Int) (a1:List Int):HS 180 (zEN a0 a1) [.int .i64 a0, .cp [.lst (List.map (D.int .i64) a1)] 0] zAd:=Tr.fn (F:=zQR)
 (.join 9 5 (γ:=Bool) ⟨fun x=>[(11,bB x)],[],fun _=>[],[]⟩
  (.ite 0 6 (a0<0)
  (.ret 6 true)
  (.len 2 eI a1<| .ret 3 (decide (a0≥(a1.length:Int)))))
  fun j1=> .ret 3 j1)
noncomputable abbrev zBL:Fe:= .of Tryz.prog 203 zAk
def zFp (a0:List Int) (a1:List Int) (x0:Int):St:=⟨[(8,nI x0),(7,nI (a0.length:Int)),(0,lI a0),(1, .d (.clo (.func 180) [] [.cp [.lst (List.map (D.int .i64) a1)] 0]))],[]⟩
def zFo (a0:List Int) (a1:List Int) (x:Unit):St:=⟨[],[]⟩
theorem zE7 (a0:List Int) (a1:List Int):∀(x0:Int),Ok (zAv a0 a1 x0) (LR zBL (.exit 0) (zFo a0 a1) 203 0 (zFp a0 a1 x0)):=by
 refine zAv.partial_correctness a0 a1 _ ?_
 intro f IH x0
 exact Tr.lpR (F:=zBL) (X:=Int)
  (.ite 6 9 (x0<(a0.length:Int))
   (.idx 14 eI a0 x0<| .call 1 (zP7 (at' a0 x0) a1) zAe fun r1=> .iteB 1 16 (r1)
   (.ret 10 (.inl x0))
   (.again 7 (IntKind.i64.wrap (x0+1))))
   (.ret 4 (.inr ()))) _ fun x r=>IH x r
theorem zFS (a0:List Int) (a1:List Int):HS 203 (zBM a0 a1) [.lst (List.map (D.int .i64) a0), .clo (.func 180) [] [.cp [.lst (List.map (D.int .i64) a1)] 0]] zAk:=Tr.fn (F:=zBL)
 (.len 8 eI a0<| .loopR 4 id ⟨_,_,_,_,_,zE7 a0 a1 0⟩ fun j2=> .ret 6 (-1))
noncomputable abbrev zFi:Fe:= .of Tryz.prog 179 zAd
theorem zEX (a0:List Int) (a1:List Int):HS 179 (zA1 a0 a1) [.lst (List.map (D.int .i64) a0), .clo (.func 180) [] [.cp [.lst (List.map (D.int .i64) a1)] 0]] zAd:=Tr.fn (F:=zFi)
 (.call 8 (zFS a0 a1) zAr fun r1=> .ret 4 (decide (r1≥0)))
noncomputable abbrev zJi:Fe:= .of Tryz.prog 130 zAf
def zR5 (a0:List Int) (a1:List Int) (x0:Int) (x1:List Int):St:=⟨[(22,nI x0),(21,nI (a0.length:Int)),(20,lI a0),(6,sI (.h 0) x1),(3, .ptr (.s 15) 0)],[(.s 15,[lI a1])]⟩
def zR3 (a0:List Int) (a1:List Int) (x:(List Int)):St:=⟨[(6,sI (.h 1) x)],[]⟩
theorem zQH (a0:List Int) (a1:List Int):∀(x0:Int) (x1:List Int),Ok (zCD a0 a1 x0 x1) (LN zJi (.exit 0) (zR3 a0 a1) 130 0 (zR5 a0 a1 x0 x1)):=by
 refine zCD.partial_correctness a0 a1 _ ?_
 intro f IH x0 x1
 exact Tr.lpN (F:=zJi) (X:=Int×(List Int))
  (.ite 6 23 (x0<(a0.length:Int))
   (.idx 6 eI a0 x0<| .idx 7 eI a1 (at' a0 x0)<| .app 2 eI 8 x1 [at' a1 (at' a0 x0)]<| .let_ (x1++[at' a1 (at' a0 x0)]:List Int) fun y6=> .again 7 (IntKind.i64.wrap (x0+1),y6))
   (.ret 4 x1)) _ fun x r=>IH x.1 x.2 r
theorem zTL (a0:List Int) (a1:List Int):HS 130 (zHt a0 a1) [.lst (List.map (D.int .i64) a0), .lst (List.map (D.int .i64) a1)] zAf:=Tr.fn (F:=zJi)
 (.call 10 (zOu a0) zAe fun r1=> .join 2 4 (γ:=Bool) ⟨fun x=>[(16,bB x)],[3,0],fun _=>[],[.s 15]⟩
  (.iteX 0 12 (r1)
  (.ret 5 true)
  (.call 2 (zEX a0 a1) zAe fun r2=> .ret 2 r2))
  fun j3=> .iteB 1 16 (j3)
  (.ret 8 ([],1))
  (.len 5 eI a0<| .mk 0 eI 8 0 0 (a0.length:Int)<| .let_ (List.replicate (Int.toNat 0) 0:List Int) fun y4=> .len 6 eI a0<| .loop 4 ⟨_,_,_,_,_,zQH a0 a1 0 y4⟩ fun j8=> .ret 8 (j8,0)))
def zGq (v:Int×Int×(List Int)×(List Int)×Int×Int×Int):PV:= .tup [.agg [nI v.1,nI v.2.1,sI (.s 0) v.2.2.1,sI (.s 1) v.2.2.2.1,nI v.2.2.2.2.1,nI v.2.2.2.2.2.1, .nils, .nils],nI v.2.2.2.2.2.2]
noncomputable abbrev zYe:Fe:= .of Tryz.prog 76 zGq
theorem zKN:∀v,(zGq v).noLst:=fun _=>⟨⟨trivial,trivial,(zAC fun _=>trivial),(zAC fun _=>trivial),trivial,trivial,trivial,trivial,trivial⟩,trivial,trivial⟩
theorem zPC (a0:Int) (a1:List Int):HS 76 (zDF a0 a1) [.int .i64 a0, .lst (List.map (D.int .i64) a1)] zGq:=Tr.fn (F:=zYe)
 (.len 9 eI a1<| .ite 2 11 ((a1.length:Int)=0)
  (.ret 9 (0,0,[],[],0,0,1))
  (.call 6 (zYQ a0 a1) zAl fun r1=> .iteN 12 20 (r1.2=0)
  (.ret 10 (0,0,[],[],0,0,r1.2))
  (.call 6 (zTL r1.1 a1) zAl fun r2=> .iteN 12 30 (r2.2=0)
  (.ret 10 (0,0,[],[],0,0,r2.2))
  (.len 5 eI a1<| .ret 7 (1,(a1.length:Int),r1.1,r2.1,0,0,0)))))
noncomputable abbrev zVf:Fe:= .of Tryz.prog 75 zGq
theorem zUb (a0:zAi) (a1:List Int) (a2:Int) (a3:List Int):HS 75 (zJn a0 a1 a2 a3) [.agg [.int .i64 a0.F_Scheme, .int .i64 a0.F_K, .int .i64 a0.F_Wide], .lst (List.map (D.int .i64) a1), .int .u64 a2, .lst (List.map (D.int .i64) a3)] zGq:=Tr.fn (F:=zVf)
 (.call 11 (zPC a0.F_K a1) zKN fun r1=> .ret 6 (r1.1,r1.2.1,r1.2.2.1,r1.2.2.2.1,r1.2.2.2.2.1,r1.2.2.2.2.2.1,r1.2.2.2.2.2.2))
def zDp (v:Int×Int):PV:= .tup [nU v.1,nI v.2]
noncomputable abbrev zW8:Fe:= .of Tryz.prog 133 zDp
theorem zEb:∀v,(zDp v).noLst:=fun _=>⟨trivial,trivial,trivial⟩
theorem zJs (a0:Int):HS 133 (zEK a0) [.int .i64 a0] zDp:=Tr.fn (F:=zW8)
 (.join 11 3 (γ:=Bool) ⟨fun x=>[(9,bB x)],[0],fun _=>[],[]⟩
  (.ite 0 6 (a0<1)
  (.ret 4 true)
  (.ret 4 (decide (a0>8))))
  fun j1=> .iteB 1 9 (j1)
  (.ret 8 (0,1))
  (.rd 5 (0≤a0) (nU (sShl .u64 1 a0))<| .ret 5 (IntKind.u64.wrap ((sShl .u64 1 a0)-1),0)))
noncomputable abbrev zAbw:Fe:= .of Tryz.prog 103 zAn
theorem zT6 (a0:Int) (a1:Int):HS 103 (zKr a0 a1) [.int .i64 a0, .int .i64 a1] zAn:=Tr.fn (F:=zAbw)
 (.ite 24 17 ((bAnd .i64 (bXor .i64 a0 a1) (bXor .i64 a0 (IntKind.i64.wrap (a0-a1))))<0)
  (.ret 8 (0,2))
  (.ret 9 (IntKind.i64.wrap (a0-a1),0)))
noncomputable abbrev zAbD:Fe:= .of Tryz.prog 104 zAn
theorem zAaM (a0:Int):HS 104 (zRh a0) [.int .i64 a0] zAn:=Tr.fn (F:=zAbD)
 (.call 8 (zT6 0 a0) zAz fun r1=> .ret 6 (r1.1,r1.2))
noncomputable abbrev zAbA:Fe:= .of Tryz.prog 46 zAn
theorem zTY (a0:Int):HS 46 (zKk a0) [.int .i64 a0] zAn:=Tr.fn (F:=zAbA)
 (.ite 11 5 (a0≥0)
  (.ret 9 (a0,0))
  (.call 5 (zAaM a0) zAz fun r1=> .ret 6 (r1.1,r1.2)))
noncomputable abbrev zOJ:Fe:= .of Tryz.prog 134 zAn
def zWI (a0:List Int) (x0:Int) (x1:Int):St:=⟨[(16,nI x0),(15,nI (a0.length:Int)),(14,lI a0),(2,nI x1)],[]⟩
def zWH (a0:List Int) (x:Int):St:=⟨[(2,nI x)],[]⟩
theorem zVq (a0:List Int):∀(x0:Int) (x1:Int),Ok (zDR a0 x0 x1) (LR zOJ (.exit 0) (zWH a0) 134 0 (zWI a0 x0 x1)):=by
 refine zDR.partial_correctness a0 _ ?_
 intro f IH x0 x1
 exact Tr.lpR (F:=zOJ) (X:=Int×Int)
  (.ite 6 17 (x0<(a0.length:Int))
   (.idx 6 eI a0 x0<| .call 6 (zTY (at' a0 x0)) zAz fun r2=> .iteN 12 26 (r2.2=0)
   (.ret 12 (.inl (0,r2.2)))
   (.again 13 (IntKind.i64.wrap (x0+1),if r2.1>x1 then r2.1 else x1)))
   (.ret 4 (.inr x1))) _ fun x r=>IH x.1 x.2 r
theorem zSJ (a0:List Int):HS 134 (zIA a0) [.lst (List.map (D.int .i64) a0)] zAn:=Tr.fn (F:=zOJ)
 (.call 9 (zLA a0) zAr fun r1=> .iteN 7 12 (r1=0)
  (.ret 9 (0,r1))
  (.len 6 eI a0<| .loopR 4 id ⟨_,_,_,_,_,zVq a0 0 0⟩ fun j3=> .ret 8 (j3,0)))
noncomputable abbrev zXL:Fe:= .of Tryz.prog 182 zAQ
theorem zPF (a0:Int):HS 182 (zHi a0) [.int .i64 a0] zAQ:=Tr.fn (F:=zXL)
 (.ite 10 4 (a0<0)
  (.ret 10 (IntKind.u64.wrap (0-(IntKind.u64.wrap a0))))
  (.ret 9 (IntKind.u64.wrap a0)))
def zDC (v:Int×Int):PV:= .tup [nU v.1,nU v.2]
noncomputable abbrev zRY:Fe:= .of Tryz.prog 183 zDC
theorem zEO:∀v,(zDC v).noLst:=fun _=>⟨trivial,trivial,trivial⟩
theorem zKf (a0:Int) (a1:Int):HS 183 (zDe a0 a1) [.int .u64 a0, .int .u64 a1] zDC:=Tr.fn (F:=zRY)
 (.ret 87 (IntKind.u64.wrap ((IntKind.u64.wrap ((IntKind.u64.wrap ((sShr .u64 a0 32)*(sShr .u64 a1 32)))+(sShr .u64 (IntKind.u64.wrap ((IntKind.u64.wrap ((sShr .u64 a0 32)*(bAnd .u64 a1 4294967295)))+(sShr .u64 (IntKind.u64.wrap ((bAnd .u64 a0 4294967295)*(bAnd .u64 a1 4294967295))) 32))) 32)))+(sShr .u64 (IntKind.u64.wrap ((bAnd .u64 (IntKind.u64.wrap ((IntKind.u64.wrap ((sShr .u64 a0 32)*(bAnd .u64 a1 4294967295)))+(sShr .u64 (IntKind.u64.wrap ((bAnd .u64 a0 4294967295)*(bAnd .u64 a1 4294967295))) 32))) 4294967295)+(IntKind.u64.wrap ((bAnd .u64 a0 4294967295)*(sShr .u64 a1 32))))) 32)),IntKind.u64.wrap (a0*a1)))
noncomputable abbrev zRR:Fe:= .of Tryz.prog 190 zAk
theorem zJ9 (a0:Int):HS 190 (zDX a0) [.int .u64 a0] zAk:=Tr.fn (F:=zRR)
 (.join 10 0 (γ:=Int×Int) ⟨fun x=>[(2,nI x.1),(0,nU x.2)],[],fun _=>[],[]⟩
  (.ite 0 4 (a0≥4294967296)
  (.ret 10 (32,sShr .u64 a0 32))
  (.ret 2 (0,a0)))
  fun j1=> .join 6 0 (γ:=Int×Int) ⟨fun x=>[(2,nI x.1),(0,nU x.2)],[],fun _=>[],[]⟩
  (.ite 0 8 (j1.2≥65536)
  (.ret 12 (IntKind.i64.wrap (j1.1+16),sShr .u64 j1.2 16))
  (.ret 2 (j1.1,j1.2)))
  fun j2=> .ite 6 14 (j2.2≥256)
  (.rd 17 (0≤(IntKind.u8.wrap (sShr .u64 j2.2 8))∧(IntKind.u8.wrap (sShr .u64 j2.2 8))<((ByteArray.mk #[0,1,2,2,3,3,3,3,4,4,4,4,4,4,4,4,5,5,5,5,5,5,5,5,5,5,5,5,5,5,5,5,6,6,6,6,6,6,6,6,6,6,6,6,6,6,6,6,6,6,6,6,6,6,6,6,6,6,6,6,6,6,6,6,7,7,7,7,7,7,7,7,7,7,7,7,7,7,7,7,7,7,7,7,7,7,7,7,7,7,7,7,7,7,7,7,7,7,7,7,7,7,7,7,7,7,7,7,7,7,7,7,7,7,7,7,7,7,7,7,7,7,7,7,7,7,7,7,8,8,8,8,8,8,8,8,8,8,8,8,8,8,8,8,8,8,8,8,8,8,8,8,8,8,8,8,8,8,8,8,8,8,8,8,8,8,8,8,8,8,8,8,8,8,8,8,8,8,8,8,8,8,8,8,8,8,8,8,8,8,8,8,8,8,8,8,8,8,8,8,8,8,8,8,8,8,8,8,8,8,8,8,8,8,8,8,8,8,8,8,8,8,8,8,8,8,8,8,8,8,8,8,8,8,8,8,8,8,8,8,8,8,8,8,8,8,8,8,8,8,8,8,8,8,8,8]).size:Int)) (nY (((ByteArray.mk #[0,1,2,2,3,3,3,3,4,4,4,4,4,4,4,4,5,5,5,5,5,5,5,5,5,5,5,5,5,5,5,5,6,6,6,6,6,6,6,6,6,6,6,6,6,6,6,6,6,6,6,6,6,6,6,6,6,6,6,6,6,6,6,6,7,7,7,7,7,7,7,7,7,7,7,7,7,7,7,7,7,7,7,7,7,7,7,7,7,7,7,7,7,7,7,7,7,7,7,7,7,7,7,7,7,7,7,7,7,7,7,7,7,7,7,7,7,7,7,7,7,7,7,7,7,7,7,7,8,8,8,8,8,8,8,8,8,8,8,8,8,8,8,8,8,8,8,8,8,8,8,8,8,8,8,8,8,8,8,8,8,8,8,8,8,8,8,8,8,8,8,8,8,8,8,8,8,8,8,8,8,8,8,8,8,8,8,8,8,8,8,8,8,8,8,8,8,8,8,8,8,8,8,8,8,8,8,8,8,8,8,8,8,8,8,8,8,8,8,8,8,8,8,8,8,8,8,8,8,8,8,8,8,8,8,8,8,8,8,8,8,8,8,8,8,8,8,8,8,8,8,8,8,8,8,8]).data.getD (Int.toNat (IntKind.u8.wrap (sShr .u64 j2.2 8))) 0).toNat:Int))<| .ret 5 (IntKind.i64.wrap ((IntKind.i64.wrap (j2.1+8))+(IntKind.i64.wrap (((ByteArray.mk #[0,1,2,2,3,3,3,3,4,4,4,4,4,4,4,4,5,5,5,5,5,5,5,5,5,5,5,5,5,5,5,5,6,6,6,6,6,6,6,6,6,6,6,6,6,6,6,6,6,6,6,6,6,6,6,6,6,6,6,6,6,6,6,6,7,7,7,7,7,7,7,7,7,7,7,7,7,7,7,7,7,7,7,7,7,7,7,7,7,7,7,7,7,7,7,7,7,7,7,7,7,7,7,7,7,7,7,7,7,7,7,7,7,7,7,7,7,7,7,7,7,7,7,7,7,7,7,7,8,8,8,8,8,8,8,8,8,8,8,8,8,8,8,8,8,8,8,8,8,8,8,8,8,8,8,8,8,8,8,8,8,8,8,8,8,8,8,8,8,8,8,8,8,8,8,8,8,8,8,8,8,8,8,8,8,8,8,8,8,8,8,8,8,8,8,8,8,8,8,8,8,8,8,8,8,8,8,8,8,8,8,8,8,8,8,8,8,8,8,8,8,8,8,8,8,8,8,8,8,8,8,8,8,8,8,8,8,8,8,8,8,8,8,8,8,8,8,8,8,8,8,8,8,8,8,8]).data.getD (Int.toNat (IntKind.u8.wrap (sShr .u64 j2.2 8))) 0).toNat:Int)))))
  (.rd 7 (0≤(IntKind.u8.wrap j2.2)∧(IntKind.u8.wrap j2.2)<((ByteArray.mk #[0,1,2,2,3,3,3,3,4,4,4,4,4,4,4,4,5,5,5,5,5,5,5,5,5,5,5,5,5,5,5,5,6,6,6,6,6,6,6,6,6,6,6,6,6,6,6,6,6,6,6,6,6,6,6,6,6,6,6,6,6,6,6,6,7,7,7,7,7,7,7,7,7,7,7,7,7,7,7,7,7,7,7,7,7,7,7,7,7,7,7,7,7,7,7,7,7,7,7,7,7,7,7,7,7,7,7,7,7,7,7,7,7,7,7,7,7,7,7,7,7,7,7,7,7,7,7,7,8,8,8,8,8,8,8,8,8,8,8,8,8,8,8,8,8,8,8,8,8,8,8,8,8,8,8,8,8,8,8,8,8,8,8,8,8,8,8,8,8,8,8,8,8,8,8,8,8,8,8,8,8,8,8,8,8,8,8,8,8,8,8,8,8,8,8,8,8,8,8,8,8,8,8,8,8,8,8,8,8,8,8,8,8,8,8,8,8,8,8,8,8,8,8,8,8,8,8,8,8,8,8,8,8,8,8,8,8,8,8,8,8,8,8,8,8,8,8,8,8,8,8,8,8,8,8,8]).size:Int)) (nY (((ByteArray.mk #[0,1,2,2,3,3,3,3,4,4,4,4,4,4,4,4,5,5,5,5,5,5,5,5,5,5,5,5,5,5,5,5,6,6,6,6,6,6,6,6,6,6,6,6,6,6,6,6,6,6,6,6,6,6,6,6,6,6,6,6,6,6,6,6,7,7,7,7,7,7,7,7,7,7,7,7,7,7,7,7,7,7,7,7,7,7,7,7,7,7,7,7,7,7,7,7,7,7,7,7,7,7,7,7,7,7,7,7,7,7,7,7,7,7,7,7,7,7,7,7,7,7,7,7,7,7,7,7,8,8,8,8,8,8,8,8,8,8,8,8,8,8,8,8,8,8,8,8,8,8,8,8,8,8,8,8,8,8,8,8,8,8,8,8,8,8,8,8,8,8,8,8,8,8,8,8,8,8,8,8,8,8,8,8,8,8,8,8,8,8,8,8,8,8,8,8,8,8,8,8,8,8,8,8,8,8,8,8,8,8,8,8,8,8,8,8,8,8,8,8,8,8,8,8,8,8,8,8,8,8,8,8,8,8,8,8,8,8,8,8,8,8,8,8,8,8,8,8,8,8,8,8,8,8,8,8]).data.getD (Int.toNat (IntKind.u8.wrap j2.2)) 0).toNat:Int))<| .ret 5 (IntKind.i64.wrap (j2.1+(IntKind.i64.wrap (((ByteArray.mk #[0,1,2,2,3,3,3,3,4,4,4,4,4,4,4,4,5,5,5,5,5,5,5,5,5,5,5,5,5,5,5,5,6,6,6,6,6,6,6,6,6,6,6,6,6,6,6,6,6,6,6,6,6,6,6,6,6,6,6,6,6,6,6,6,7,7,7,7,7,7,7,7,7,7,7,7,7,7,7,7,7,7,7,7,7,7,7,7,7,7,7,7,7,7,7,7,7,7,7,7,7,7,7,7,7,7,7,7,7,7,7,7,7,7,7,7,7,7,7,7,7,7,7,7,7,7,7,7,8,8,8,8,8,8,8,8,8,8,8,8,8,8,8,8,8,8,8,8,8,8,8,8,8,8,8,8,8,8,8,8,8,8,8,8,8,8,8,8,8,8,8,8,8,8,8,8,8,8,8,8,8,8,8,8,8,8,8,8,8,8,8,8,8,8,8,8,8,8,8,8,8,8,8,8,8,8,8,8,8,8,8,8,8,8,8,8,8,8,8,8,8,8,8,8,8,8,8,8,8,8,8,8,8,8,8,8,8,8,8,8,8,8,8,8,8,8,8,8,8,8,8,8,8,8,8,8]).data.getD (Int.toNat (IntKind.u8.wrap j2.2)) 0).toNat:Int))))))
noncomputable abbrev zKt:Fe:= .of Tryz.prog 204 zAk
theorem zKc (a0:Int):HS 204 (zCO a0) [.int .u64 a0] zAk:=Tr.fn (F:=zKt)
 (.call 7 (zJ9 a0) zAr fun r1=> .ret 4 (IntKind.i64.wrap (64-r1)))
noncomputable abbrev zD0:Fe:= .of Tryz.prog 184 zDC
def zPd (a1:Int) (a2:Int) (r3:Int) (y4:Int) (x0:Int) (x1:Int):St:=⟨[(16,nU x0),(15,nU x1),(14,nU (bAnd .u64 (sShl .u64 a1 (IntKind.u64.wrap r3)) 4294967295)),(13,nU (sShr .u64 (sShl .u64 a1 (IntKind.u64.wrap r3)) 32)),(11,nU y4),(10,nU (bAnd .u64 (sShl .u64 a2 (IntKind.u64.wrap r3)) 4294967295)),(9,nU (sShr .u64 (sShl .u64 a2 (IntKind.u64.wrap r3)) 32)),(2,nU (sShl .u64 a2 (IntKind.u64.wrap r3))),(8,nU (IntKind.u64.wrap r3))],[]⟩
def zO4 (a1:Int) (a2:Int) (r3:Int) (y4:Int) (x:Int):St:=⟨[(15,nU x),(14,nU (bAnd .u64 (sShl .u64 a1 (IntKind.u64.wrap r3)) 4294967295)),(13,nU (sShr .u64 (sShl .u64 a1 (IntKind.u64.wrap r3)) 32)),(11,nU y4),(10,nU (bAnd .u64 (sShl .u64 a2 (IntKind.u64.wrap r3)) 4294967295)),(9,nU (sShr .u64 (sShl .u64 a2 (IntKind.u64.wrap r3)) 32)),(2,nU (sShl .u64 a2 (IntKind.u64.wrap r3))),(8,nU (IntKind.u64.wrap r3))],[]⟩
theorem zN6 (a1:Int) (a2:Int) (r3:Int) (y4:Int):∀(x0:Int) (x1:Int),Ok (zBR a1 a2 r3 y4 x0 x1) (LN zD0 (.exit 0) (zO4 a1 a2 r3 y4) 184 0 (zPd a1 a2 r3 y4 x0 x1)):=by
 refine zBR.partial_correctness a1 a2 r3 y4 _ ?_
 intro f IH x0 x1
 exact Tr.lpN (F:=zD0) (X:=Int×Int)
  (.join 7 9 (γ:=Bool) ⟨fun x=>[(78,bB x)],[16,15,14,13,11,10,9,2,8],fun _=>[],[]⟩
   (.ite 0 69 (x1≥4294967296)
   (.ret 10 true)
   (.ret 10 (decide ((IntKind.u64.wrap (x1*(bAnd .u64 (sShl .u64 a2 (IntKind.u64.wrap r3)) 4294967295)))>(IntKind.u64.wrap ((IntKind.u64.wrap (4294967296*x0))+(sShr .u64 (sShl .u64 a1 (IntKind.u64.wrap r3)) 32)))))))
   fun j10=> .iteB 1 78 (j10)
   (.let_ (IntKind.u64.wrap (x0+(sShr .u64 (sShl .u64 a2 (IntKind.u64.wrap r3)) 32)):Int) fun y11=> .ite 21 85 (y11≥4294967296)
   (.ret 4 (IntKind.u64.wrap (x1-1)))
   (.again 3 (y11,IntKind.u64.wrap (x1-1))))
   (.ret 4 x1)) _ fun x r=>IH x.1 x.2 r
def zO6 (a1:Int) (a2:Int) (r3:Int) (j13:Int) (y14:Int) (x0:Int) (x1:Int):St:=⟨[(16,nU x0),(18,nU x1),(17,nU y14),(15,nU j13),(14,nU (bAnd .u64 (sShl .u64 a1 (IntKind.u64.wrap r3)) 4294967295)),(10,nU (bAnd .u64 (sShl .u64 a2 (IntKind.u64.wrap r3)) 4294967295)),(9,nU (sShr .u64 (sShl .u64 a2 (IntKind.u64.wrap r3)) 32)),(2,nU (sShl .u64 a2 (IntKind.u64.wrap r3))),(8,nU (IntKind.u64.wrap r3))],[]⟩
def zPB (a1:Int) (a2:Int) (r3:Int) (j13:Int) (y14:Int) (x:Int):St:=⟨[(18,nU x),(17,nU y14),(15,nU j13),(14,nU (bAnd .u64 (sShl .u64 a1 (IntKind.u64.wrap r3)) 4294967295)),(2,nU (sShl .u64 a2 (IntKind.u64.wrap r3))),(8,nU (IntKind.u64.wrap r3))],[]⟩
theorem zOb (a1:Int) (a2:Int) (r3:Int) (j13:Int) (y14:Int):∀(x0:Int) (x1:Int),Ok (zBV a1 a2 r3 j13 y14 x0 x1) (LN zD0 (.exit 2) (zPB a1 a2 r3 j13 y14) 184 1 (zO6 a1 a2 r3 j13 y14 x0 x1)):=by
 refine zBV.partial_correctness a1 a2 r3 j13 y14 _ ?_
 intro f IH x0 x1
 exact Tr.lpN (F:=zD0) (X:=Int×Int)
  (.join 7 9 (γ:=Bool) ⟨fun x=>[(113,bB x)],[16,18,17,15,14,10,9,2,8],fun _=>[],[]⟩
   (.ite 0 104 (x1≥4294967296)
   (.ret 10 true)
   (.ret 10 (decide ((IntKind.u64.wrap (x1*(bAnd .u64 (sShl .u64 a2 (IntKind.u64.wrap r3)) 4294967295)))>(IntKind.u64.wrap ((IntKind.u64.wrap (4294967296*x0))+(bAnd .u64 (sShl .u64 a1 (IntKind.u64.wrap r3)) 4294967295)))))))
   fun j20=> .iteB 1 113 (j20)
   (.let_ (IntKind.u64.wrap (x0+(sShr .u64 (sShl .u64 a2 (IntKind.u64.wrap r3)) 32)):Int) fun y21=> .ite 21 120 (y21≥4294967296)
   (.ret 4 (IntKind.u64.wrap (x1-1)))
   (.again 3 (y21,IntKind.u64.wrap (x1-1))))
   (.ret 4 x1)) _ fun x r=>IH x.1 x.2 r
theorem zJ7 (a0:Int) (a1:Int) (a2:Int):HS 184 (zDd a0 a1 a2) [.int .u64 a0, .int .u64 a1, .int .u64 a2] zDC:=Tr.fn (F:=zD0)
 (.join 11 0 (γ:=Unit) ⟨fun _=>[],[0,1,2],fun _=>[],[]⟩
  (.ite 0 20 (a2=0)
  (.halt)
  (.ret 2 ()))
  fun j1=> .join 7 0 (γ:=Unit) ⟨fun _=>[],[0,1,2],fun _=>[],[]⟩
  (.ite 0 24 (a2≤a0)
  (.halt)
  (.ret 2 ()))
  fun j2=> .ite 6 27 (a0=0)
  (.rd 5 (a2≠0) (nU (IntKind.u64.wrap (Int.tdiv a1 a2)))<| .rd 2 (a2≠0) (nU (Int.tmod a1 a2))<| .ret 5 (IntKind.u64.wrap (Int.tdiv a1 a2),Int.tmod a1 a2))
  (.call 5 (zKc a2) zAr fun r3=> .rd 7 (0≤IntKind.u64.wrap r3) (nU (sShl .u64 a2 (IntKind.u64.wrap r3)))<| .rd 18 (0≤IntKind.u64.wrap r3) (nU (sShl .u64 a0 (IntKind.u64.wrap r3)))<| .rd 3 (0≤IntKind.u64.wrap (64-(IntKind.u64.wrap r3))) (nU (sShr .u64 a1 (IntKind.u64.wrap (64-(IntKind.u64.wrap r3)))))<| .let_ (bOr .u64 (sShl .u64 a0 (IntKind.u64.wrap r3)) (sShr .u64 a1 (IntKind.u64.wrap (64-(IntKind.u64.wrap r3)))):Int) fun y4=> .rd 7 (0≤IntKind.u64.wrap r3) (nU (sShl .u64 a1 (IntKind.u64.wrap r3)))<| .rd 18 (sShr .u64 (sShl .u64 a2 (IntKind.u64.wrap r3)) 32≠0) (nU (IntKind.u64.wrap (Int.tdiv y4 (sShr .u64 (sShl .u64 a2 (IntKind.u64.wrap r3)) 32))))<| .let_ (IntKind.u64.wrap (Int.tdiv y4 (sShr .u64 (sShl .u64 a2 (IntKind.u64.wrap r3)) 32)):Int) fun y6=> .let_ (IntKind.u64.wrap (y4-(IntKind.u64.wrap (y6*(sShr .u64 (sShl .u64 a2 (IntKind.u64.wrap r3)) 32)))):Int) fun y8=> .loop 14 ⟨_,_,_,_,_,zN6 a1 a2 r3 y4 y8 y6⟩ fun j13=> .let_ (IntKind.u64.wrap ((IntKind.u64.wrap ((IntKind.u64.wrap (y4*4294967296))+(sShr .u64 (sShl .u64 a1 (IntKind.u64.wrap r3)) 32)))-(IntKind.u64.wrap (j13*(sShl .u64 a2 (IntKind.u64.wrap r3))))):Int) fun y14=> .rd 17 (sShr .u64 (sShl .u64 a2 (IntKind.u64.wrap r3)) 32≠0) (nU (IntKind.u64.wrap (Int.tdiv y14 (sShr .u64 (sShl .u64 a2 (IntKind.u64.wrap r3)) 32))))<| .let_ (IntKind.u64.wrap (Int.tdiv y14 (sShr .u64 (sShl .u64 a2 (IntKind.u64.wrap r3)) 32)):Int) fun y16=> .let_ (IntKind.u64.wrap (y14-(IntKind.u64.wrap (y16*(sShr .u64 (sShl .u64 a2 (IntKind.u64.wrap r3)) 32)))):Int) fun y18=> .loop 14 ⟨_,_,_,_,_,zOb a1 a2 r3 j13 y14 y18 y16⟩ fun j23=> .let_ (IntKind.u64.wrap ((IntKind.u64.wrap (j13*4294967296))+j23):Int) fun y24=> .let_ (IntKind.u64.wrap ((IntKind.u64.wrap ((IntKind.u64.wrap (y14*4294967296))+(bAnd .u64 (sShl .u64 a1 (IntKind.u64.wrap r3)) 4294967295)))-(IntKind.u64.wrap (j23*(sShl .u64 a2 (IntKind.u64.wrap r3))))):Int) fun y26=> .rd 16 (0≤IntKind.u64.wrap r3) (nU (sShr .u64 y26 (IntKind.u64.wrap r3)))<| .ret 4 (y24,sShr .u64 y26 (IntKind.u64.wrap r3))))
def zFW (v:Int×Int×Int):PV:= .tup [nU v.1,nU v.2.1,nI v.2.2]
noncomputable abbrev zW0:Fe:= .of Tryz.prog 135 zFW
theorem zI3:∀v,(zFW v).noLst:=fun _=>⟨trivial,trivial,trivial,trivial⟩
theorem zNI (a0:Int) (a1:Int) (a2:Int):HS 135 (zGp a0 a1 a2) [.int .i64 a0, .int .i64 a1, .int .i64 a2] zFW:=Tr.fn (F:=zW0)
 (.call 9 (zJs a2) zEb fun r1=> .join 13 3 (γ:=Bool) ⟨fun x=>[(26,bB x)],[9,0,1],fun _=>[],[]⟩
  (.iteN 0 23 (r1.2=0)
  (.ret 4 true)
  (.ret 4 (decide (a1<0))))
  fun j2=> .join 1 6 (γ:=Bool) ⟨fun x=>[(33,bB x)],[9,0,1],fun _=>[],[]⟩
  (.iteB 0 27 (j2)
  (.ret 7 true)
  (.call 1 (zPF a0) zBH fun r3=> .ret 5 (decide (r3>(IntKind.u64.wrap a1)))))
  fun j4=> .iteB 2 20 (j4)
  (.ret 10 (0,0,1))
  (.ite 7 34 (a1=0)
  (.ret 10 (0,0,0))
  (.call 6 (zPF a0) zBH fun r5=> .call 1 (zKf r5 r1.1) zEO fun r6=> .call 12 (zJ7 r6.1 r6.2 (IntKind.u64.wrap a1)) zEO fun r7=> .ret 15 (r7.1,r7.2,0))))
noncomputable abbrev zNw:Fe:= .of Tryz.prog 137 zAy
theorem zMk (a0 : List Int) : HS 137 (zCJ a0) [.lst (List.map (D.int .i64) a0)] zAy := Tr.fn (F := zNw)
 (.nilq 8 eI.f a0
  (    if room 8 ([] ++ a0).length then
       some ([] ++ a0)
     else none)
  (    some [])
  (fun h => by (try obtain rfl := List.eq_nil_of_length_eq_zero h); first | rfl | (simp [h]; done))
  (.app 7 eI 8 [] a0 <| .ret 3 ([] ++ a0))
  (.ret 8 []))
noncomputable abbrev zNt:Fe:= .of Tryz.prog 231 zAQ
theorem zMw (a0:Int) (a1:Int):HS 231 (zE9 a0 a1) [.int .u64 a0, .int .i64 a1] zAQ:=Tr.fn (F:=zNt)
 (.ret 22 (bXor .u64 (IntKind.u64.wrap ((bXor .u64 a0 (IntKind.u64.wrap a1))*11400714819323198485)) (sShr .u64 (IntKind.u64.wrap ((bXor .u64 a0 (IntKind.u64.wrap a1))*11400714819323198485)) 29)))
noncomputable abbrev zM0:Fe:= .of Tryz.prog 220 zAQ
def zVh (a1:List Int) (x0:Int) (x1:Int):St:=⟨[(11,nI x0),(10,nI (a1.length:Int)),(9,lI a1),(5,nU x1)],[]⟩
def zVe (a1:List Int) (x:Int):St:=⟨[(5,nU x)],[]⟩
theorem zU2 (a1:List Int):∀(x0:Int) (x1:Int),Ok (zDr a1 x0 x1) (LN zM0 (.exit 0) (zVe a1) 220 0 (zVh a1 x0 x1)):=by
 refine zDr.partial_correctness a1 _ ?_
 intro f IH x0 x1
 exact Tr.lpN (F:=zM0) (X:=Int×Int)
  (.ite 6 12 (x0<(a1.length:Int))
   (.idx 6 eI a1 x0<| .call 6 (zMw x1 (at' a1 x0)) zBH fun r1=> .again 7 (IntKind.i64.wrap (x0+1),r1))
   (.ret 4 x1)) _ fun x r=>IH x.1 x.2 r
theorem zXx (a0:Int) (a1:List Int):HS 220 (zMW a0 a1) [.int .u64 a0, .lst (List.map (D.int .i64) a1)] zAQ:=Tr.fn (F:=zM0)
 (.len 13 eI a1<| .loop 4 ⟨_,_,_,_,_,zU2 a1 0 a0⟩ fun j2=> .ret 7 j2)
noncomputable abbrev zOd:Fe:= .of Tryz.prog 221 zAQ
theorem zNp (a0:Int):HS 221 (zId a0) [.int .u64 a0] zAQ:=Tr.fn (F:=zOd)
 (.ret 19 (bXor .u64 (IntKind.u64.wrap (a0*13787848793156543929)) (sShr .u64 (IntKind.u64.wrap (a0*13787848793156543929)) 32)))
noncomputable abbrev zAbh:Fe:= .of Tryz.prog 205 zAQ
theorem zAaK (a0:Int) (a1:List Int):HS 205 (zMI a0 a1) [.int .u64 a0, .lst (List.map (D.int .i64) a1)] zAQ:=Tr.fn (F:=zAbh)
 (.call 8 (zXx a0 a1) zBH fun r1=> .call 0 (zNp r1) zBH fun r2=> .ret 3 r2)
noncomputable abbrev zX9:Fe:= .of Tryz.prog 185 zDp
theorem zWM (a0:Int) (a1:Int) (a2:List Int):HS 185 (zLG a0 a1 a2) [.int .u64 a0, .int .u64 a1, .lst (List.map (D.int .i64) a2)] zDp:=Tr.fn (F:=zX9)
 (.ite 11 9 (a0=0)
  (.ret 8 (0,1))
  (.call 6 (zAaK a1 a2) zBH fun r1=> .rd 1 (a0≠0) (nU (Int.tmod r1 a0))<| .ret 4 (Int.tmod r1 a0,0)))
def zJa (v:Bool×Int):PV:= .tup [bB v.1,nI v.2]
noncomputable abbrev zW7:Fe:= .of Tryz.prog 136 zJa
theorem zVC:∀v,(zJa v).noLst:=fun _=>⟨trivial,trivial,trivial⟩
theorem zVG (a0:Int) (a1:Int) (a2:Int) (a3:List Int):HS 136 (zGr a0 a1 a2 a3) [.int .u64 a0, .int .u64 a1, .int .u64 a2, .lst (List.map (D.int .i64) a3)] zJa:=Tr.fn (F:=zW7)
 (.ite 12 14 (a0>a1)
  (.ret 8 (false,1))
  (.call 7 (zWM a1 a2 a3) zEb fun r1=> .join 11 4 (γ:=Bool) ⟨fun x=>[(28,bB x)],[11],fun _=>[],[]⟩
  (.ite 0 24 (r1.2=0)
  (.ret 5 (decide (r1.1<a0)))
  (.ret 5 false))
  fun j2=> .ret 5 (j2,r1.2)))
def zFP (v:Int×Int×Int×Int×(List Int)×(List Bool)×Int):PV:= .tup [.agg [nI v.1,nI v.2.1, .nils, .nils,nI v.2.2.1,nI v.2.2.2.1,sU (.s 0) v.2.2.2.2.1,sB (.s 1) v.2.2.2.2.2.1],nI v.2.2.2.2.2.2]
noncomputable abbrev zKv:Fe:= .of Tryz.prog 83 zFP
def zSU (a0:List Int) (a1:Int) (a2:Int) (a3:List Int) (r3:Int×Int) (x0:Int) (x1:List Int) (x2:List Bool):St:=⟨[(57,nI x0),(56,nI (a0.length:Int)),(55,lI a0),(14, .ptr (.s 11391) 0),(12,nI r3.1),(8, .ptr (.s 15) 0),(1,nI a1),(2,nU a2),(3,lI a3)],[(.s 11391,[nI 2,nI (a0.length:Int), .nils, .nils,nI r3.1,nI a1,sU (.h 0) x1,sB (.h 1) x2]),(.s 15,[nI 0,nI 0, .nils, .nils,nI 0,nI 0, .nils, .nils])]⟩
def zTb (a0:List Int) (a1:Int) (a2:Int) (a3:List Int) (r3:Int×Int) (x:(List Int)×(List Bool)):St:=⟨[(14, .ptr (.s 11391) 0),(8, .ptr (.s 15) 0)],[(.s 11391,[nI 2,nI (a0.length:Int), .nils, .nils,nI r3.1,nI a1,sU (.h 2) x.1,sB (.h 3) x.2]),(.s 15,[nI 0,nI 0, .nils, .nils,nI 0,nI 0, .nils, .nils])]⟩
theorem zSd (a0:List Int) (a1:Int) (a2:Int) (a3:List Int) (r3:Int×Int):∀(x0:Int) (x1:List Int) (x2:List Bool),Ok (zCQ a0 a1 a2 a3 r3 x0 x1 x2) (LR zKv (.exit 0) (zTb a0 a1 a2 a3 r3) 83 0 (zSU a0 a1 a2 a3 r3 x0 x1 x2)):=by
 refine zCQ.partial_correctness a0 a1 a2 a3 r3 _ ?_
 intro f IH x0 x1 x2
 exact Tr.lpR (F:=zKv) (X:=Int×(List Int)×(List Bool))
  (.ite 6 58 (x0<(a0.length:Int))
   (.idx 7 eI a0 x0<| .call 9 (zNI (at' a0 x0) r3.1 a1) zI3 fun r9=> .iteN 14 71 (r9.2.2=0)
   (.ret 13 (.inl (0,0,0,0,[],[],r9.2.2)))
   (.joinR 8 0 (γ:=Int) ⟨fun x=>[(17,nU x)],[16,15,57,56,55,14,12,8,1,2,3],fun _=>[],[.s 11391, .s 15]⟩ .inl
   (.ite 0 75 (r9.2.1>0)
   (.call 8 (zMk a3) zBi fun r10=> .app 2 eI 8 r10 [x0]<| .call 0 (zVG r9.2.1 (IntKind.u64.wrap r3.1) a2 (r10++[x0])) zVC fun r11=> .iteN 12 90 (r11.2=0)
   (.ret 10 (.inl (0,0,0,0,[],[],r11.2)))
   (.iteB 6 93 (r11.1)
   (.ret 6 (.inr (IntKind.u64.wrap (r9.1+1))))
   (.ret 2 (.inr r9.1))))
   (.ret 2 (.inr r9.1)))
   fun j12=> .idx 10 eU x1 x0<| .sto 0 [97] eU x1 x0 j12<| .hold 1 []<| .idx 0 eB x2 x0<| .sto 0 [100] eB x2 x0 (decide ((at' a0 x0)<0))<| .let_ (x1.set (Int.toNat x0) j12:List Int) fun y13=> .let_ (x2.set (Int.toNat x0) (decide ((at' a0 x0)<0)):List Bool) fun y15=> .again 7 (IntKind.i64.wrap (x0+1),y13,y15)))
   (.ret 4 (.inr (x1,x2)))) _ fun x r=>IH x.1 x.2.1 x.2.2 r
theorem zOo:∀v,(zFP v).noLst:=fun _=>⟨⟨trivial,trivial,trivial,trivial,trivial,trivial,(zAC fun _=>trivial),(zAC fun _=>trivial),trivial⟩,trivial,trivial⟩
theorem zVH (a0 : List Int) (a1 : Int) (a2 : Int) (a3 : List Int) : HS 83 (zHR a0 a1 a2 a3) [.lst (List.map (D.int .i64) a0), .int .i64 a1, .int .u64 a2, .lst (List.map (D.int .i64) a3)] zFP := Tr.fn (F := zKv)
 (.call 9 (zJs a1) zEb fun r1 => .join 11 4 (γ := Bool) ⟨fun x => [(33, bB x)], [8, 0, 1, 2, 3], fun _ => [], [.s 15]⟩
  (.iteN 0 29 (r1.2 = 0)
  (.ret 5 true)
  (.len 1 eI a0 <| .ret 3 ((a0.length : Int) == 0)))
  fun j2 => .iteB 1 33 (j2)
  (.ret 9 (0, 0, 0, 0, [], [], 1))
  (.call 5 (zSJ a0) zAz fun r3 => .iteN 12 41 (r3.2 = 0)
  (.ret 10 (0, 0, 0, 0, [], [], r3.2))
  (.join 3 0 (γ := Unit) ⟨fun x => [(14, .ptr (.s 11391) 0)], [12, 8, 0, 1, 2, 3], fun x => [(.s 11391, [nI 2, nI (a0.length : Int), .nils, .nils, nI r3.1, nI a1, sU (.s 11311) (List.replicate (Int.toNat (a0.length : Int)) 0), sB (.s 11359) (List.replicate (Int.toNat (a0.length : Int)) false)])], [.s 15]⟩
  (.drawsL 0
  (.alt
  (    if 0 ≤ (a0.length : Int) ∧ (a0.length : Int) ≤ (a0.length : Int) ∧ (a0.length : Int) ≤ 140737488355328 ∧ (a0.length : Int) * ((8 : Nat) : Int) ≤ 140737488355328 then
       if 0 ≤ (a0.length : Int) ∧ (a0.length : Int) ≤ (a0.length : Int) ∧ (a0.length : Int) ≤ 140737488355328 ∧ (a0.length : Int) * ((1 : Nat) : Int) ≤ 140737488355328 then
         some ()
       else none
     else none)
  (    if 0 ≤ (a0.length : Int) ∧ (a0.length : Int) ≤ (a0.length : Int) ∧ (a0.length : Int) ≤ 140737488355328 ∧ (a0.length : Int) * ((8 : Nat) : Int) ≤ 140737488355328 then
       if 0 ≤ (a0.length : Int) ∧ (a0.length : Int) ≤ (a0.length : Int) ∧ (a0.length : Int) ≤ 140737488355328 ∧ (a0.length : Int) * ((1 : Nat) : Int) ≤ 140737488355328 then
         some ()
       else none
     else none)
  rfl
  (.len 1 eI a0 <| .len 3 eI a0 <| .len 1 eI a0 <| .mk 0 eU 8 0 (a0.length : Int) (a0.length : Int) <| .hold 1 [.c, .len eI.f a0, .c, .c, .c, .len eI.f a0] <| .mk 0 eB 1 false (a0.length : Int) (a0.length : Int) <| .hold 1 [.c, .len eI.f a0, .c, .c] <| .hold 3 [.c, .len eI.f a0, .c, .c, .c] <| .ret 3 ())
  (.alt
  (    if 0 ≤ (a0.length : Int) ∧ (a0.length : Int) ≤ (a0.length : Int) ∧ (a0.length : Int) ≤ 140737488355328 ∧ (a0.length : Int) * ((8 : Nat) : Int) ≤ 140737488355328 then
       if 0 ≤ (a0.length : Int) ∧ (a0.length : Int) ≤ (a0.length : Int) ∧ (a0.length : Int) ≤ 140737488355328 ∧ (a0.length : Int) * ((1 : Nat) : Int) ≤ 140737488355328 then
         some ()
       else none
     else none)
  (    if 0 ≤ (a0.length : Int) ∧ (a0.length : Int) ≤ (a0.length : Int) ∧ (a0.length : Int) ≤ 140737488355328 ∧ (a0.length : Int) * ((8 : Nat) : Int) ≤ 140737488355328 then
       if 0 ≤ (a0.length : Int) ∧ (a0.length : Int) ≤ (a0.length : Int) ∧ (a0.length : Int) ≤ 140737488355328 ∧ (a0.length : Int) * ((1 : Nat) : Int) ≤ 140737488355328 then
         some ()
       else none
     else none)
  rfl
  (.len 1 eI a0 <| .len 3 eI a0 <| .len 1 eI a0 <| .mk 0 eU 8 0 (a0.length : Int) (a0.length : Int) <| .hold 1 [.c, .len eI.f a0, .c, .c, .c, .len eI.f a0] <| .hold 2 [.c, .len eI.f a0, .c, .c, .c, .len eI.f a0] <| .mk 0 eB 1 false (a0.length : Int) (a0.length : Int) <| .hold 1 [.c, .len eI.f a0, .c, .c] <| .ret 4 ())
  (.alt
  (    if 0 ≤ (a0.length : Int) ∧ (a0.length : Int) ≤ (a0.length : Int) ∧ (a0.length : Int) ≤ 140737488355328 ∧ (a0.length : Int) * ((8 : Nat) : Int) ≤ 140737488355328 then
       if 0 ≤ (a0.length : Int) ∧ (a0.length : Int) ≤ (a0.length : Int) ∧ (a0.length : Int) ≤ 140737488355328 ∧ (a0.length : Int) * ((1 : Nat) : Int) ≤ 140737488355328 then
         some ()
       else none
     else none)
  (    if 0 ≤ (a0.length : Int) ∧ (a0.length : Int) ≤ (a0.length : Int) ∧ (a0.length : Int) ≤ 140737488355328 ∧ (a0.length : Int) * ((1 : Nat) : Int) ≤ 140737488355328 then
       if 0 ≤ (a0.length : Int) ∧ (a0.length : Int) ≤ (a0.length : Int) ∧ (a0.length : Int) ≤ 140737488355328 ∧ (a0.length : Int) * ((8 : Nat) : Int) ≤ 140737488355328 then
         some ()
       else none
     else none)
  (by (repeat' split) <;> first | rfl | contradiction | (simp_all; done) | omega)
  (.len 1 eI a0 <| .len 3 eI a0 <| .len 1 eI a0 <| .mk 0 eB 1 false (a0.length : Int) (a0.length : Int) <| .hold 1 [.c, .len eI.f a0, .c, .c, .c, .len eI.f a0] <| .mk 0 eU 8 0 (a0.length : Int) (a0.length : Int) <| .hold 1 [.c, .len eI.f a0, .c, .c] <| .hold 3 [.c, .len eI.f a0, .c, .c, .c] <| .ret 3 ())
  (.alt
  (    if 0 ≤ (a0.length : Int) ∧ (a0.length : Int) ≤ (a0.length : Int) ∧ (a0.length : Int) ≤ 140737488355328 ∧ (a0.length : Int) * ((8 : Nat) : Int) ≤ 140737488355328 then
       if 0 ≤ (a0.length : Int) ∧ (a0.length : Int) ≤ (a0.length : Int) ∧ (a0.length : Int) ≤ 140737488355328 ∧ (a0.length : Int) * ((1 : Nat) : Int) ≤ 140737488355328 then
         some ()
       else none
     else none)
  (    if 0 ≤ (a0.length : Int) ∧ (a0.length : Int) ≤ (a0.length : Int) ∧ (a0.length : Int) ≤ 140737488355328 ∧ (a0.length : Int) * ((1 : Nat) : Int) ≤ 140737488355328 then
       if 0 ≤ (a0.length : Int) ∧ (a0.length : Int) ≤ (a0.length : Int) ∧ (a0.length : Int) ≤ 140737488355328 ∧ (a0.length : Int) * ((8 : Nat) : Int) ≤ 140737488355328 then
         some ()
       else none
     else none)
  (by (repeat' split) <;> first | rfl | contradiction | (simp_all; done) | omega)
  (.len 1 eI a0 <| .len 3 eI a0 <| .len 1 eI a0 <| .mk 0 eB 1 false (a0.length : Int) (a0.length : Int) <| .hold 1 [.c, .len eI.f a0, .c, .c, .c, .len eI.f a0] <| .hold 2 [.c, .len eI.f a0, .c, .c, .c, .len eI.f a0] <| .mk 0 eU 8 0 (a0.length : Int) (a0.length : Int) <| .hold 1 [.c, .len eI.f a0, .c, .c] <| .ret 4 ())
  (.alt
  (    if 0 ≤ (a0.length : Int) ∧ (a0.length : Int) ≤ (a0.length : Int) ∧ (a0.length : Int) ≤ 140737488355328 ∧ (a0.length : Int) * ((8 : Nat) : Int) ≤ 140737488355328 then
       if 0 ≤ (a0.length : Int) ∧ (a0.length : Int) ≤ (a0.length : Int) ∧ (a0.length : Int) ≤ 140737488355328 ∧ (a0.length : Int) * ((1 : Nat) : Int) ≤ 140737488355328 then
         some ()
       else none
     else none)
  (    if 0 ≤ (a0.length : Int) ∧ (a0.length : Int) ≤ (a0.length : Int) ∧ (a0.length : Int) ≤ 140737488355328 ∧ (a0.length : Int) * ((8 : Nat) : Int) ≤ 140737488355328 then
       if 0 ≤ (a0.length : Int) ∧ (a0.length : Int) ≤ (a0.length : Int) ∧ (a0.length : Int) ≤ 140737488355328 ∧ (a0.length : Int) * ((1 : Nat) : Int) ≤ 140737488355328 then
         some ()
       else none
     else none)
  rfl
  (.len 1 eI a0 <| .len 3 eI a0 <| .len 1 eI a0 <| .hold 2 [.c, .len eI.f a0, .c, .c, .c, .len eI.f a0, .c, .len eI.f a0] <| .mk 0 eU 8 0 (a0.length : Int) (a0.length : Int) <| .hold 1 [.c, .len eI.f a0, .c, .c, .c, .len eI.f a0] <| .mk 0 eB 1 false (a0.length : Int) (a0.length : Int) <| .hold 1 [.c, .len eI.f a0, .c, .c] <| .ret 4 ())
  (.alt
  (    if 0 ≤ (a0.length : Int) ∧ (a0.length : Int) ≤ (a0.length : Int) ∧ (a0.length : Int) ≤ 140737488355328 ∧ (a0.length : Int) * ((8 : Nat) : Int) ≤ 140737488355328 then
       if 0 ≤ (a0.length : Int) ∧ (a0.length : Int) ≤ (a0.length : Int) ∧ (a0.length : Int) ≤ 140737488355328 ∧ (a0.length : Int) * ((1 : Nat) : Int) ≤ 140737488355328 then
         some ()
       else none
     else none)
  (    if 0 ≤ (a0.length : Int) ∧ (a0.length : Int) ≤ (a0.length : Int) ∧ (a0.length : Int) ≤ 140737488355328 ∧ (a0.length : Int) * ((1 : Nat) : Int) ≤ 140737488355328 then
       if 0 ≤ (a0.length : Int) ∧ (a0.length : Int) ≤ (a0.length : Int) ∧ (a0.length : Int) ≤ 140737488355328 ∧ (a0.length : Int) * ((8 : Nat) : Int) ≤ 140737488355328 then
         some ()
       else none
     else none)
  (by (repeat' split) <;> first | rfl | contradiction | (simp_all; done) | omega)
  (.len 1 eI a0 <| .len 3 eI a0 <| .len 1 eI a0 <| .hold 2 [.c, .len eI.f a0, .c, .c, .c, .len eI.f a0, .c, .len eI.f a0] <| .mk 0 eB 1 false (a0.length : Int) (a0.length : Int) <| .hold 1 [.c, .len eI.f a0, .c, .c, .c, .len eI.f a0] <| .mk 0 eU 8 0 (a0.length : Int) (a0.length : Int) <| .hold 1 [.c, .len eI.f a0, .c, .c] <| .ret 4 ())
  (.altE
  (    if 0 ≤ (a0.length : Int) ∧ (a0.length : Int) ≤ (a0.length : Int) ∧ (a0.length : Int) ≤ 140737488355328 ∧ (a0.length : Int) * ((8 : Nat) : Int) ≤ 140737488355328 then
       if 0 ≤ (a0.length : Int) ∧ (a0.length : Int) ≤ (a0.length : Int) ∧ (a0.length : Int) ≤ 140737488355328 ∧ (a0.length : Int) * ((1 : Nat) : Int) ≤ 140737488355328 then
         some ()
       else none
     else none)))))))))
  fun j4 => .let_ (List.replicate (Int.toNat (a0.length : Int)) 0 : List Int) fun y5 => .let_ (List.replicate (Int.toNat (a0.length : Int)) false : List Bool) fun y7 => .len 4 eI a0 <| .loopR 4 id ⟨_, _, _, _, _, zSd a0 a1 a2 a3 r3 0 y5 y7⟩ fun j17 => .ret 8 (2, (a0.length : Int), r3.1, a1, j17.1, j17.2, 0))))
noncomputable abbrev zVn:Fe:= .of Tryz.prog 82 zFP
theorem zUd (a0:zAi) (a1:List Int) (a2:Int) (a3:List Int):HS 82 (zJC a0 a1 a2 a3) [.agg [.int .i64 a0.F_Scheme, .int .i64 a0.F_K, .int .i64 a0.F_Wide], .lst (List.map (D.int .i64) a1), .int .u64 a2, .lst (List.map (D.int .i64) a3)] zFP:=Tr.fn (F:=zVn)
 (.call 13 (zVH a1 a0.F_Wide a2 a3) zOo fun r1=> .ret 6 (r1.1,r1.2.1,r1.2.2.1,r1.2.2.2.1,r1.2.2.2.2.1,r1.2.2.2.2.2.1,r1.2.2.2.2.2.2))
noncomputable abbrev zVZ:Fe:= .of Tryz.prog 45 zAn
theorem zTF (a0:Int) (a1:List Int):HS 45 (zI1 a0 a1) [.int .i64 a0, .cp [.lst (List.map (D.int .i64) a1)] 0] zAn:=Tr.fn (F:=zVZ)
 (.idx 9 eI a1 a0<| .call 1 (zTY (at' a1 a0)) zAz fun r1=> .ret 6 (r1.1,r1.2))
noncomputable abbrev zFj:Fe:= .of Tryz.prog 44 zAn
def zKY (a0:Int) (a1:List Int) (x0:Int) (x1:Int):St:=⟨[(10,nI x0),(9,nI a0),(4,nI x1),(1, .d (.clo (.func 45) [] [.cp [.lst (List.map (D.int .i64) a1)] 0]))],[]⟩
def zLc (a0:Int) (a1:List Int) (x:Int):St:=⟨[(4,nI x)],[]⟩
theorem zKF (a0:Int) (a1:List Int):∀(x0:Int) (x1:Int),Ok (zAV a0 a1 x0 x1) (LR zFj (.exit 0) (zLc a0 a1) 44 0 (zKY a0 a1 x0 x1)):=by
 refine zAV.partial_correctness a0 a1 _ ?_
 intro f IH x0 x1
 exact Tr.lpR (F:=zFj) (X:=Int×Int)
  (.ite 6 11 (x0<a0)
   (.call 13 (zTF x0 a1) zAz fun r1=> .ite 12 20 (r1.2=0)
   (.call 4 (zTV x1 r1.1) zAz fun r2=> .iteN 11 28 (r2.2=0)
   (.ret 11 (.inl (0,r2.2)))
   (.again 7 (IntKind.i64.wrap (x0+1),r2.1)))
   (.iteN 7 28 (r1.2=0)
   (.ret 11 (.inl (0,r1.2)))
   (.again 7 (IntKind.i64.wrap (x0+1),x1))))
   (.ret 4 (.inr x1))) _ fun x r=>IH x.1 x.2 r
theorem zMm (a0:Int) (a1:List Int):HS 44 (zFb a0 a1) [.int .i64 a0, .clo (.func 45) [] [.cp [.lst (List.map (D.int .i64) a1)] 0]] zAn:=Tr.fn (F:=zFj)
 (.loopR 13 id ⟨_,_,_,_,_,zKF a0 a1 0 0⟩ fun j3=> .ret 8 (j3,0))
noncomputable abbrev zAaF:Fe:= .of Tryz.prog 21 zAn
theorem zY4 (a0:List Int):HS 21 (zK9 a0) [.lst (List.map (D.int .i64) a0)] zAn:=Tr.fn (F:=zAaF)
 (.call 10 (zLA a0) zAr fun r1=> .iteN 7 8 (r1=0)
  (.ret 9 (0,r1))
  (.len 5 eI a0<| .call 1 (zMm (a0.length:Int) a0) zAz fun r2=> .ret 6 (r2.1,r2.2)))
noncomputable abbrev zY3:Fe:= .of Tryz.prog 140 zAn
theorem zYr (a0:List Int):HS 140 (zJF a0) [.lst (List.map (D.int .i64) a0)] zAn:=Tr.fn (F:=zY3)
 (.len 9 eI a0<| .ite 2 8 ((a0.length:Int)=0)
  (.ret 8 (0,1))
  (.call 5 (zY4 a0) zAz fun r1=> .len 10 eI a0<| .rd 0 ((a0.length:Int)≠0) (nI (IntKind.i64.wrap (Int.tdiv r1.1 (a0.length:Int))))<| .ret 5 (IntKind.i64.wrap (Int.tdiv r1.1 (a0.length:Int)),r1.2)))
noncomputable abbrev zVs:Fe:= .of Tryz.prog 142 zAd
theorem zTJ (a0:Int):HS 142 (zJt a0) [.int .i64 a0] zAd:=Tr.fn (F:=zVs)
 (.ret 11 (decide (a0<0)))
def zCq (v:(List Bool)):PV:=sB (.s 0) v
noncomputable abbrev zCA:Fe:= .of Tryz.prog 141 zCq
def zGM (a0:List Int) (x0:Int) (x1:List Bool):St:=⟨[(13,nI x0),(12,nI (a0.length:Int)),(11,lI a0),(5,sB (.h 0) x1),(1, .d (.clo (.func 142) [] []))],[]⟩
def zGJ (a0:List Int) (x:(List Bool)):St:=⟨[(5,sB (.h 1) x)],[]⟩
theorem zGt (a0:List Int):∀(x0:Int) (x1:List Bool),Ok (zAB a0 x0 x1) (LN zCA (.exit 0) (zGJ a0) 141 0 (zGM a0 x0 x1)):=by
 refine zAB.partial_correctness a0 _ ?_
 intro f IH x0 x1
 exact Tr.lpN (F:=zCA) (X:=Int×(List Bool))
  (.ite 6 14 (x0<(a0.length:Int))
   (.idx 6 eI a0 x0<| .call 7 (zTJ (at' a0 x0)) zAe fun r3=> .app 1 eB 1 x1 [r3]<| .again 7 (IntKind.i64.wrap (x0+1),x1++[r3]))
   (.ret 4 x1)) _ fun x r=>IH x.1 x.2 r
theorem zG3:∀v,(zCq v).noLst:=fun _=>(zAC fun _=>trivial)
theorem zHh (a0:List Int):HS 141 (zCx a0) [.lst (List.map (D.int .i64) a0), .clo (.func 142) [] []] zCq:=Tr.fn (F:=zCA)
 (.len 7 eI a0<| .mk 0 eB 1 false 0 (a0.length:Int)<| .let_ (List.replicate (Int.toNat 0) false:List Bool) fun y1=> .len 6 eI a0<| .loop 4 ⟨_,_,_,_,_,zGt a0 0 y1⟩ fun j4=> .ret 7 j4)
def zGm (v:Int×Int×Int×Int×(List Bool)×Int):PV:= .tup [.agg [nI v.1,nI v.2.1, .nils, .nils,nI v.2.2.1,nI v.2.2.2.1, .nils,sB (.s 0) v.2.2.2.2.1],nI v.2.2.2.2.2]
noncomputable abbrev zYJ:Fe:= .of Tryz.prog 88 zGm
theorem zKO:∀v,(zGm v).noLst:=fun _=>⟨⟨trivial,trivial,trivial,trivial,trivial,trivial,trivial,(zAC fun _=>trivial),trivial⟩,trivial,trivial⟩
theorem zPD (a0:List Int):HS 88 (zG5 a0) [.lst (List.map (D.int .i64) a0)] zGm:=Tr.fn (F:=zYJ)
 (.call 8 (zYr a0) zAz fun r1=> .iteN 12 12 (r1.2=0)
  (.ret 10 (0,0,0,0,[],r1.2))
  (.len 5 eI a0<| .call 2 (zHh a0) zG3 fun r2=> .ret 5 (3,(a0.length:Int),r1.1,0,r2,0)))
noncomputable abbrev zT1:Fe:= .of Tryz.prog 87 zGm
theorem zS7 (a0:zAi) (a1:List Int) (a2:Int) (a3:List Int):HS 87 (zIH a0 a1 a2 a3) [.agg [.int .i64 a0.F_Scheme, .int .i64 a0.F_K, .int .i64 a0.F_Wide], .lst (List.map (D.int .i64) a1), .int .u64 a2, .lst (List.map (D.int .i64) a3)] zGm:=Tr.fn (F:=zT1)
 (.call 9 (zPD a1) zKO fun r1=> .ret 6 (r1.1,r1.2.1,r1.2.2.1,r1.2.2.2.1,r1.2.2.2.2.1,r1.2.2.2.2.2))
def zJg (v:Int×Int×(List Int)×(List Int)×Int×Int×(List Int)×(List Bool)×Int):PV:= .tup [.agg [nI v.1,nI v.2.1,sI (.s 0) v.2.2.1,sI (.s 1) v.2.2.2.1,nI v.2.2.2.2.1,nI v.2.2.2.2.2.1,sU (.s 2) v.2.2.2.2.2.2.1,sB (.s 3) v.2.2.2.2.2.2.2.1],nI v.2.2.2.2.2.2.2.2]
noncomputable abbrev zW1:Fe:= .of Tryz.prog 11 zJg
theorem zVy:∀v,(zJg v).noLst:=fun _=>⟨⟨trivial,trivial,(zAC fun _=>trivial),(zAC fun _=>trivial),trivial,trivial,(zAC fun _=>trivial),(zAC fun _=>trivial),trivial⟩,trivial,trivial⟩
theorem zVl (a0:zAi) (a1:List Int) (a2:Int) (a3:List Int):HS 11 (zHU a0 a1 a2 a3) [.agg [.int .i64 a0.F_Scheme, .int .i64 a0.F_K, .int .i64 a0.F_Wide], .lst (List.map (D.int .i64) a1), .int .u64 a2, .lst (List.map (D.int .i64) a3)] zJg:=Tr.fn (F:=zW1)
 (.call 9 (zLA a1) zAr fun r1=> .join 8 0 (γ:=Int) ⟨fun x=>[(10,nI x)],[8,4,1,2,3],fun _=>[],[.s 31, .s 15]⟩
  (.ite 0 14 (r1=0)
  (.len 4 eI a1<| .call 0 (zN4 a0 (a1.length:Int)) zAr fun r2=> .ret 2 r2)
  (.ret 2 r1))
  fun j3=> .iteN 6 20 (j3=0)
  (.ret 10 (0,0,[],[],0,0,[],[],j3))
  (.callG 10 [] [] zGo fun r4=> .hold 1 []<| .cas 1 26 (a0.F_Scheme=(0:Int)) (.d (.agg [.clo (.func 69) [] [], .clo (.func 70) [] [], .clo (.func 71) [] [], .clo (.func 73) [] []])) (.d (lookD a0.F_Scheme [(1, .agg [.clo (.func 74) [] [], .clo (.func 75) [] [], .clo (.func 77) [] [], .clo (.func 79) [] []]),(2, .agg [.clo (.func 81) [] [], .clo (.func 82) [] [], .clo (.func 84) [] [], .clo (.func 85) [] []]),(3, .agg [.clo (.func 69) [] [], .clo (.func 87) [] [], .clo (.func 89) [] [], .clo (.func 90) [] []])] (.agg [.nilfn, .nilfn, .nilfn, .nilfn]))) (.d (lookD a0.F_Scheme [(0, .agg [.clo (.func 69) [] [], .clo (.func 70) [] [], .clo (.func 71) [] [], .clo (.func 73) [] []]),(1, .agg [.clo (.func 74) [] [], .clo (.func 75) [] [], .clo (.func 77) [] [], .clo (.func 79) [] []]),(2, .agg [.clo (.func 81) [] [], .clo (.func 82) [] [], .clo (.func 84) [] [], .clo (.func 85) [] []]),(3, .agg [.clo (.func 69) [] [], .clo (.func 87) [] [], .clo (.func 89) [] [], .clo (.func 90) [] []])] (.agg [.nilfn, .nilfn, .nilfn, .nilfn]))) zCe zCd
  (.call 1 (zVI a0 a1 a2 a3) zVw fun r5=> .ret 7 (r5.1,r5.2.1,[],r5.2.2.1,r5.2.2.2.1,r5.2.2.2.2.1,[],[],r5.2.2.2.2.2))
  (.cas 0 26 (a0.F_Scheme=(1:Int)) (.d (.agg [.clo (.func 74) [] [], .clo (.func 75) [] [], .clo (.func 77) [] [], .clo (.func 79) [] []])) (.d (lookD a0.F_Scheme [(2, .agg [.clo (.func 81) [] [], .clo (.func 82) [] [], .clo (.func 84) [] [], .clo (.func 85) [] []]),(3, .agg [.clo (.func 69) [] [], .clo (.func 87) [] [], .clo (.func 89) [] [], .clo (.func 90) [] []])] (.agg [.nilfn, .nilfn, .nilfn, .nilfn]))) (.d (lookD a0.F_Scheme [(1, .agg [.clo (.func 74) [] [], .clo (.func 75) [] [], .clo (.func 77) [] [], .clo (.func 79) [] []]),(2, .agg [.clo (.func 81) [] [], .clo (.func 82) [] [], .clo (.func 84) [] [], .clo (.func 85) [] []]),(3, .agg [.clo (.func 69) [] [], .clo (.func 87) [] [], .clo (.func 89) [] [], .clo (.func 90) [] []])] (.agg [.nilfn, .nilfn, .nilfn, .nilfn]))) zCe zCd
  (.call 1 (zUb a0 a1 a2 a3) zKN fun r6=> .ret 7 (r6.1,r6.2.1,r6.2.2.1,r6.2.2.2.1,r6.2.2.2.2.1,r6.2.2.2.2.2.1,[],[],r6.2.2.2.2.2.2))
  (.cas 0 26 (a0.F_Scheme=(2:Int)) (.d (.agg [.clo (.func 81) [] [], .clo (.func 82) [] [], .clo (.func 84) [] [], .clo (.func 85) [] []])) (.d (lookD a0.F_Scheme [(3, .agg [.clo (.func 69) [] [], .clo (.func 87) [] [], .clo (.func 89) [] [], .clo (.func 90) [] []])] (.agg [.nilfn, .nilfn, .nilfn, .nilfn]))) (.d (lookD a0.F_Scheme [(2, .agg [.clo (.func 81) [] [], .clo (.func 82) [] [], .clo (.func 84) [] [], .clo (.func 85) [] []]),(3, .agg [.clo (.func 69) [] [], .clo (.func 87) [] [], .clo (.func 89) [] [], .clo (.func 90) [] []])] (.agg [.nilfn, .nilfn, .nilfn, .nilfn]))) zCe zCd
  (.call 1 (zUd a0 a1 a2 a3) zOo fun r7=> .ret 7 (r7.1,r7.2.1,[],[],r7.2.2.1,r7.2.2.2.1,r7.2.2.2.2.1,r7.2.2.2.2.2.1,r7.2.2.2.2.2.2))
  (.cas 0 26 (a0.F_Scheme=(3:Int)) (.d (.agg [.clo (.func 69) [] [], .clo (.func 87) [] [], .clo (.func 89) [] [], .clo (.func 90) [] []])) (.d (lookD a0.F_Scheme [] (.agg [.nilfn, .nilfn, .nilfn, .nilfn]))) (.d (lookD a0.F_Scheme [(3, .agg [.clo (.func 69) [] [], .clo (.func 87) [] [], .clo (.func 89) [] [], .clo (.func 90) [] []])] (.agg [.nilfn, .nilfn, .nilfn, .nilfn]))) zCe zCd
  (.call 1 (zS7 a0 a1 a2 a3) zKO fun r8=> .ret 7 (r8.1,r8.2.1,[],[],r8.2.2.1,r8.2.2.2.1,[],r8.2.2.2.2.1,r8.2.2.2.2.2))
  (.halt))))))
noncomputable abbrev zU3:Fe:= .of Tryz.prog 181 zAd
theorem zSW (a0:Int):HS 181 (zGR a0) [.int .i64 a0] zAd:=Tr.fn (F:=zU3)
 (.join 9 3 (γ:=Bool) ⟨fun x=>[(8,bB x)],[],fun _=>[],[]⟩
  (.ite 0 5 (a0>0)
  (.ret 4 (decide (a0≤4096)))
  (.ret 4 false))
  fun j1=> .ret 3 j1)
noncomputable abbrev zWQ:Fe:= .of Tryz.prog 131 zAk
theorem zJd (a0:Int) (a1:List Int):HS 131 (zEJ a0 a1) [.int .i64 a0, .lst (List.map (D.int .i64) a1)] zAk:=Tr.fn (F:=zWQ)
 (.len 7 eI a1<| .call 6 (zSW a0) zAe fun r1=> .join 2 4 (γ:=Bool) ⟨fun x=>[(15,bB x)],[5,0,1],fun _=>[],[]⟩
  (.iteX 0 11 (r1)
  (.ret 5 true)
  (.call 1 (zOu a1) zAe fun r2=> .ret 3 (!r2)))
  fun j3=> .iteB 1 16 (j3)
  (.ret 26 1)
  (.ite 3 19 ((a1.length:Int)>0)
  (.idx 1 eI a1 0<| .ite 3 24 ((at' a1 0)<0)
  (.ret 18 1)
  (.idx 3 eI a1 (IntKind.i64.wrap ((a1.length:Int)-1))<| .ite 7 34 ((at' a1 (IntKind.i64.wrap ((a1.length:Int)-1)))≥a0)
  (.ret 7 1)
  (.ret 7 0)))
  (.ret 23 0)))
noncomputable abbrev zWO:Fe:= .of Tryz.prog 154 zAk
theorem zVr (a0:Int):HS 154 (zHO a0) [.int .u64 a0] zAk:=Tr.fn (F:=zWO)
 (.call 7 (zJ9 a0) zAr fun r1=> .ret 3 r1)
noncomputable abbrev zTw:Fe:= .of Tryz.prog 153 zAd
theorem zSc (a0:Int) (a1:Int) (a2:Int) (a3:List Int) (a4:List Int) (a5:Int) (a6:Int) (a7:List Int) (a8:List Bool):HS 153 (zH4 a0 a1 a2 a3 a4 a5 a6 a7 a8) [.int .u64 a0, .cp [.int .i64 a1, .int .i64 a2, .lst (List.map (D.int .i64) a3), .lst (List.map (D.int .i64) a4), .int .i64 a5, .int .i64 a6, .lst (List.map (D.int .u64) a7), .lst (List.map D.bool a8)] 0] zAd:=Tr.fn (F:=zTw)
 (.call 9 (zVr a0) zAr fun r1=> .hold 1 []<| .ret 5 (decide (r1>a6)))
noncomputable abbrev zBu:Fe:= .of Tryz.prog 189 zAk
def zEs (a0:List Int) (a1:Int) (a2:Int) (a3:List Int) (a4:List Int) (a5:Int) (a6:Int) (a7:List Int) (a8:List Bool) (x0:Int):St:=⟨[(8,nI x0),(7,nI (a0.length:Int)),(0,lU a0),(1, .d (.clo (.func 153) [] [.cp [.int .i64 a1, .int .i64 a2, .lst (List.map (D.int .i64) a3), .lst (List.map (D.int .i64) a4), .int .i64 a5, .int .i64 a6, .lst (List.map (D.int .u64) a7), .lst (List.map D.bool a8)] 0]))],[]⟩
def zEj (a0:List Int) (a1:Int) (a2:Int) (a3:List Int) (a4:List Int) (a5:Int) (a6:Int) (a7:List Int) (a8:List Bool) (x:Unit):St:=⟨[],[]⟩
theorem zEd (a0:List Int) (a1:Int) (a2:Int) (a3:List Int) (a4:List Int) (a5:Int) (a6:Int) (a7:List Int) (a8:List Bool):∀(x0:Int),Ok (zAs a0 a1 a2 a3 a4 a5 a6 a7 a8 x0) (LR zBu (.exit 0) (zEj a0 a1 a2 a3 a4 a5 a6 a7 a8) 189 0 (zEs a0 a1 a2 a3 a4 a5 a6 a7 a8 x0)):=by
 refine zAs.partial_correctness a0 a1 a2 a3 a4 a5 a6 a7 a8 _ ?_
 intro f IH x0
 exact Tr.lpR (F:=zBu) (X:=Int)
  (.ite 6 9 (x0<(a0.length:Int))
   (.idx 14 eU a0 x0<| .call 1 (zSc (at' a0 x0) a1 a2 a3 a4 a5 a6 a7 a8) zAe fun r1=> .iteB 1 16 (r1)
   (.ret 10 (.inl x0))
   (.again 7 (IntKind.i64.wrap (x0+1))))
   (.ret 4 (.inr ()))) _ fun x r=>IH x r
theorem zEE (a0:List Int) (a1:Int) (a2:Int) (a3:List Int) (a4:List Int) (a5:Int) (a6:Int) (a7:List Int) (a8:List Bool):HS 189 (zBr a0 a1 a2 a3 a4 a5 a6 a7 a8) [.lst (List.map (D.int .u64) a0), .clo (.func 153) [] [.cp [.int .i64 a1, .int .i64 a2, .lst (List.map (D.int .i64) a3), .lst (List.map (D.int .i64) a4), .int .i64 a5, .int .i64 a6, .lst (List.map (D.int .u64) a7), .lst (List.map D.bool a8)] 0]] zAk:=Tr.fn (F:=zBu)
 (.len 8 eU a0<| .loopR 4 id ⟨_,_,_,_,_,zEd a0 a1 a2 a3 a4 a5 a6 a7 a8 0⟩ fun j2=> .ret 6 (-1))
noncomputable abbrev zEk:Fe:= .of Tryz.prog 152 zAd
theorem zEa (a0:List Int) (a1:Int) (a2:Int) (a3:List Int) (a4:List Int) (a5:Int) (a6:Int) (a7:List Int) (a8:List Bool):HS 152 (zAO a0 a1 a2 a3 a4 a5 a6 a7 a8) [.lst (List.map (D.int .u64) a0), .clo (.func 153) [] [.cp [.int .i64 a1, .int .i64 a2, .lst (List.map (D.int .i64) a3), .lst (List.map (D.int .i64) a4), .int .i64 a5, .int .i64 a6, .lst (List.map (D.int .u64) a7), .lst (List.map D.bool a8)] 0]] zAd:=Tr.fn (F:=zEk)
 (.call 8 (zEE a0 a1 a2 a3 a4 a5 a6 a7 a8) zAr fun r1=> .ret 4 (decide (r1≥0)))
def zPK (v:Int×Int×(List Int)×(List Int)×Int×Int×(List Int)×(List Bool)×Bool):PV:= .tup [.d (.agg [.int .i64 v.1, .int .i64 v.2.1, .lst (List.map (D.int .i64) v.2.2.1), .lst (List.map (D.int .i64) v.2.2.2.1), .int .i64 v.2.2.2.2.1, .int .i64 v.2.2.2.2.2.1, .lst (List.map (D.int .u64) v.2.2.2.2.2.2.1), .lst (List.map D.bool v.2.2.2.2.2.2.2.1)]),bB v.2.2.2.2.2.2.2.2]
noncomputable abbrev zXM:Fe:= .of Tryz.prog 100 zPK
theorem zWL (a0:zAc):HS 100 (zIw a0) [.agg [.int .i64 a0.F_Scheme, .int .i64 a0.F_Dim, .lst (List.map (D.int .i64) a0.F_L), .lst (List.map (D.int .i64) a0.F_V), .int .i64 a0.F_Scale, .int .i64 a0.F_Wide, .lst (List.map (D.int .u64) a0.F_Lev), .lst (List.map D.bool a0.F_Neg)]] zPK:=Tr.fn (F:=zXM)
 (.join 25 4 (γ:=Bool) ⟨fun x=>[(16,bB x)],[4,2,1],fun _=>[],[.s 1631, .s 31, .s 15]⟩
  (.ite 0 12 (a0.F_Dim>0)
  (.ret 5 (decide (a0.F_Dim≤4096)))
  (.ret 5 false))
  fun j1=> .ite 26 19 (a0.F_Scheme=0)
  (.join 10 7 (γ:=Bool) ⟨fun x=>[(35,bB x)],[4,2],fun _=>[],[.s 1631, .s 31]⟩
  (.iteB 0 28 (j1)
  (.len 2 eI a0.F_V<| .ret 5 ((a0.F_V.length:Int)==a0.F_Dim))
  (.ret 8 false))
  fun j2=> .ret 24 (0,0,a0.F_L,[],a0.F_Scale,a0.F_Wide,a0.F_Lev,a0.F_Neg,j2))
  (.ite 8 21 (a0.F_Scheme=1)
  (.join 12 7 (γ:=Bool) ⟨fun x=>[(45,bB x)],[4,2,1],fun _=>[],[.s 1631, .s 31, .s 15]⟩
  (.iteB 0 38 (j1)
  (.call 4 (zJd a0.F_Dim a0.F_L) zAr fun r3=> .ret 3 (r3==0))
  (.ret 8 false))
  fun j4=> .join 1 8 (γ:=Bool) ⟨fun x=>[(54,bB x)],[4,2],fun _=>[],[.s 1631, .s 31]⟩
  (.iteB 0 46 (j4)
  (.len 2 eI a0.F_L<| .len 2 eI a0.F_V<| .ret 3 ((a0.F_L.length:Int)==(a0.F_V.length:Int)))
  (.ret 9 false))
  fun j5=> .ret 24 (0,0,[],[],a0.F_Scale,a0.F_Wide,a0.F_Lev,a0.F_Neg,j5))
  (.ite 8 23 (a0.F_Scheme=2)
  (.join 13 4 (γ:=Bool) ⟨fun x=>[(62,bB x)],[4,2,1],fun _=>[],[.s 1631, .s 31, .s 15]⟩
  (.iteB 0 58 (j1)
  (.ret 5 (decide (a0.F_Wide>0)))
  (.ret 5 false))
  fun j6=> .join 1 4 (γ:=Bool) ⟨fun x=>[(67,bB x)],[4,2,1],fun _=>[],[.s 1631, .s 31, .s 15]⟩
  (.iteB 0 63 (j6)
  (.ret 5 (decide (a0.F_Wide≤8)))
  (.ret 5 false))
  fun j7=> .join 1 7 (γ:=Bool) ⟨fun x=>[(75,bB x)],[4,2,1],fun _=>[],[.s 1631, .s 31, .s 15]⟩
  (.iteB 0 68 (j7)
  (.len 2 eU a0.F_Lev<| .ret 5 ((a0.F_Lev.length:Int)==a0.F_Dim))
  (.ret 8 false))
  fun j8=> .join 1 6 (γ:=Bool) ⟨fun x=>[(82,bB x)],[4,2,1],fun _=>[],[.s 1631, .s 31, .s 15]⟩
  (.iteB 0 76 (j8)
  (.call 3 (zEa a0.F_Lev a0.F_Scheme a0.F_Dim a0.F_L a0.F_V a0.F_Scale a0.F_Wide a0.F_Lev a0.F_Neg) zAe fun r9=> .ret 3 (!r9))
  (.ret 7 false))
  fun j10=> .join 14 4 (γ:=Bool) ⟨fun x=>[(90,bB x)],[4,2,1],fun _=>[],[.s 1631, .s 31, .s 15]⟩
  (.iteB 0 86 (j10)
  (.ret 5 (decide (a0.F_Scale≥0)))
  (.ret 5 false))
  fun j11=> .join 1 7 (γ:=Bool) ⟨fun x=>[(98,bB x)],[4,2],fun _=>[],[.s 1631, .s 31]⟩
  (.iteB 0 91 (j11)
  (.len 2 eB a0.F_Neg<| .ret 5 ((a0.F_Neg.length:Int)==a0.F_Dim))
  (.ret 8 false))
  fun j12=> .ret 20 (0,0,a0.F_L,a0.F_V,0,0,[],[],j12))
  (.ite 7 25 (a0.F_Scheme=3)
  (.join 15 4 (γ:=Bool) ⟨fun x=>[(90,bB x)],[4,2,1],fun _=>[],[.s 1631, .s 31, .s 15]⟩
  (.iteB 0 86 (j1)
  (.ret 5 (decide (a0.F_Scale≥0)))
  (.ret 5 false))
  fun j13=> .join 1 7 (γ:=Bool) ⟨fun x=>[(98,bB x)],[4,2],fun _=>[],[.s 1631, .s 31]⟩
  (.iteB 0 91 (j13)
  (.len 2 eB a0.F_Neg<| .ret 5 ((a0.F_Neg.length:Int)==a0.F_Dim))
  (.ret 8 false))
  fun j14=> .ret 20 (0,0,a0.F_L,a0.F_V,0,a0.F_Wide,a0.F_Lev,[],j14))
  (.ret 26 (0,0,a0.F_L,a0.F_V,a0.F_Scale,a0.F_Wide,a0.F_Lev,a0.F_Neg,false))))))
noncomputable abbrev zFr:Fe:= .of Tryz.prog 132 zAd
def zLp (a0:List Int) (a1:List Int) (x0:Int):St:=⟨[(13,nI x0),(12,nI (a0.length:Int)),(0,lI a0),(1,lI a1)],[]⟩
def zK2 (a0:List Int) (a1:List Int) (x:Unit):St:=⟨[],[]⟩
theorem zKP (a0:List Int) (a1:List Int):∀(x0:Int),Ok (zAU a0 a1 x0) (LR zFr (.exit 0) (zK2 a0 a1) 132 0 (zLp a0 a1 x0)):=by
 refine zAU.partial_correctness a0 a1 _ ?_
 intro f IH x0
 exact Tr.lpR (F:=zFr) (X:=Int)
  (.ite 6 14 (x0<(a0.length:Int))
   (.idx 13 eI a0 x0<| .idx 3 eI a1 x0<| .iteN 3 24 ((at' a0 x0)=(at' a1 x0))
   (.ret 9 (.inl false))
   (.again 7 (IntKind.i64.wrap (x0+1))))
   (.ret 4 (.inr ()))) _ fun x r=>IH x r
theorem zHy (a0:List Int) (a1:List Int):HS 132 (zBw a0 a1) [.lst (List.map (D.int .i64) a0), .lst (List.map (D.int .i64) a1)] zAd:=Tr.fn (F:=zFr)
 (.len 8 eI a0<| .len 1 eI a1<| .iteN 2 10 ((a0.length:Int)=(a1.length:Int))
  (.ret 7 false)
  (.len 6 eI a0<| .loopR 4 id ⟨_,_,_,_,_,zKP a0 a1 0⟩ fun j1=> .ret 6 true))
noncomputable abbrev zDV:Fe:= .of Tryz.prog 47 zAd
def zIM (a0:List Int) (a1:List Int) (x0:Int):St:=⟨[(13,nI x0),(12,nI (a0.length:Int)),(0,lI a0),(1,lI a1)],[]⟩
def zIR (a0:List Int) (a1:List Int) (x:Unit):St:=⟨[],[]⟩
theorem zID (a0:List Int) (a1:List Int):∀(x0:Int),Ok (zAI a0 a1 x0) (LR zDV (.exit 0) (zIR a0 a1) 47 0 (zIM a0 a1 x0)):=by
 refine zAI.partial_correctness a0 a1 _ ?_
 intro f IH x0
 exact Tr.lpR (F:=zDV) (X:=Int)
  (.ite 6 14 (x0<(a0.length:Int))
   (.idx 13 eI a0 x0<| .idx 3 eI a1 x0<| .iteN 3 24 ((at' a0 x0)=(at' a1 x0))
   (.ret 9 (.inl false))
   (.again 7 (IntKind.i64.wrap (x0+1))))
   (.ret 4 (.inr ()))) _ fun x r=>IH x r
theorem zDH (a0:List Int) (a1:List Int):HS 47 (zAT a0 a1) [.lst (List.map (D.int .i64) a0), .lst (List.map (D.int .i64) a1)] zAd:=Tr.fn (F:=zDV)
 (.len 8 eI a0<| .len 1 eI a1<| .iteN 2 10 ((a0.length:Int)=(a1.length:Int))
  (.ret 7 false)
  (.len 6 eI a0<| .loopR 4 id ⟨_,_,_,_,_,zID a0 a1 0⟩ fun j1=> .ret 6 true))
noncomputable abbrev zDm:Fe:= .of Tryz.prog 155 zAd
def zIl (a0:List Int) (a1:List Int) (x0:Int):St:=⟨[(13,nI x0),(12,nI (a0.length:Int)),(0,lU a0),(1,lU a1)],[]⟩
def zIk (a0:List Int) (a1:List Int) (x:Unit):St:=⟨[],[]⟩
theorem zH6 (a0:List Int) (a1:List Int):∀(x0:Int),Ok (zAN a0 a1 x0) (LR zDm (.exit 0) (zIk a0 a1) 155 0 (zIl a0 a1 x0)):=by
 refine zAN.partial_correctness a0 a1 _ ?_
 intro f IH x0
 exact Tr.lpR (F:=zDm) (X:=Int)
  (.ite 6 14 (x0<(a0.length:Int))
   (.idx 13 eU a0 x0<| .idx 3 eU a1 x0<| .iteN 3 24 ((at' a0 x0)=(at' a1 x0))
   (.ret 9 (.inl false))
   (.again 7 (IntKind.i64.wrap (x0+1))))
   (.ret 4 (.inr ()))) _ fun x r=>IH x r
theorem zIO (a0:List Int) (a1:List Int):HS 155 (zCy a0 a1) [.lst (List.map (D.int .u64) a0), .lst (List.map (D.int .u64) a1)] zAd:=Tr.fn (F:=zDm)
 (.len 8 eU a0<| .len 1 eU a1<| .iteN 2 10 ((a0.length:Int)=(a1.length:Int))
  (.ret 7 false)
  (.len 6 eU a0<| .loopR 4 id ⟨_,_,_,_,_,zH6 a0 a1 0⟩ fun j1=> .ret 6 true))
noncomputable abbrev zEo:Fe:= .of Tryz.prog 145 zAd
def zJ8 (a0:List Bool) (a1:List Bool) (x0:Int):St:=⟨[(13,nI x0),(12,nI (a0.length:Int)),(0,lB a0),(1,lB a1)],[]⟩
def zJ6 (a0:List Bool) (a1:List Bool) (x:Unit):St:=⟨[],[]⟩
theorem zJD (a0:List Bool) (a1:List Bool):∀(x0:Int),Ok (zA5 a0 a1 x0) (LR zEo (.exit 0) (zJ6 a0 a1) 145 0 (zJ8 a0 a1 x0)):=by
 refine zA5.partial_correctness a0 a1 _ ?_
 intro f IH x0
 exact Tr.lpR (F:=zEo) (X:=Int)
  (.ite 6 14 (x0<(a0.length:Int))
   (.idx 13 eB a0 x0<| .idx 3 eB a1 x0<| .iteN 3 24 ((at' a0 x0)=(at' a1 x0))
   (.ret 9 (.inl false))
   (.again 7 (IntKind.i64.wrap (x0+1))))
   (.ret 4 (.inr ()))) _ fun x r=>IH x r
theorem zGU (a0:List Bool) (a1:List Bool):HS 145 (zCu a0 a1) [.lst (List.map D.bool a0), .lst (List.map D.bool a1)] zAd:=Tr.fn (F:=zEo)
 (.len 8 eB a0<| .len 1 eB a1<| .iteN 2 10 ((a0.length:Int)=(a1.length:Int))
  (.ret 7 false)
  (.len 6 eB a0<| .loopR 4 id ⟨_,_,_,_,_,zJD a0 a1 0⟩ fun j1=> .ret 6 true))
noncomputable abbrev zYF:Fe:= .of Tryz.prog 101 zAd
theorem zW6 (a0:zAc) (a1:zAc):HS 101 (zIr a0 a1) [.agg [.int .i64 a0.F_Scheme, .int .i64 a0.F_Dim, .lst (List.map (D.int .i64) a0.F_L), .lst (List.map (D.int .i64) a0.F_V), .int .i64 a0.F_Scale, .int .i64 a0.F_Wide, .lst (List.map (D.int .u64) a0.F_Lev), .lst (List.map D.bool a0.F_Neg)], .agg [.int .i64 a1.F_Scheme, .int .i64 a1.F_Dim, .lst (List.map (D.int .i64) a1.F_L), .lst (List.map (D.int .i64) a1.F_V), .int .i64 a1.F_Scale, .int .i64 a1.F_Wide, .lst (List.map (D.int .u64) a1.F_Lev), .lst (List.map D.bool a1.F_Neg)]] zAd:=Tr.fn (F:=zYF)
 (.join 28 6 (γ:=Bool) ⟨fun x=>[(30,bB x)],[3,2],fun _=>[],[.s 31, .s 15]⟩
  (.iteP 0 24 (show (([a0.F_Scheme,a0.F_Dim,a0.F_Scale,a0.F_Wide]:List Int)==[a1.F_Scheme,a1.F_Dim,a1.F_Scale,a1.F_Wide])=decide (([a0.F_Scheme,a0.F_Dim,a0.F_Scale,a0.F_Wide]:List Int)=[a1.F_Scheme,a1.F_Dim,a1.F_Scale,a1.F_Wide]) from decL)
  (.call 4 (zHy a0.F_L a1.F_L) zAe fun r1=> .ret 2 r1)
  (.ret 7 false))
  fun j2=> .join 1 6 (γ:=Bool) ⟨fun x=>[(37,bB x)],[3,2],fun _=>[],[.s 31, .s 15]⟩
  (.iteB 0 31 (j2)
  (.call 4 (zDH a0.F_V a1.F_V) zAe fun r3=> .ret 2 r3)
  (.ret 7 false))
  fun j4=> .join 1 6 (γ:=Bool) ⟨fun x=>[(44,bB x)],[3,2],fun _=>[],[.s 31, .s 15]⟩
  (.iteB 0 38 (j4)
  (.call 4 (zIO a0.F_Lev a1.F_Lev) zAe fun r5=> .ret 2 r5)
  (.ret 7 false))
  fun j6=> .join 1 6 (γ:=Bool) ⟨fun x=>[(51,bB x)],[],fun _=>[],[]⟩
  (.iteB 0 45 (j6)
  (.call 4 (zGU a0.F_Neg a1.F_Neg) zAe fun r7=> .ret 2 r7)
  (.ret 7 false))
  fun j8=> .ret 3 j8)
noncomputable abbrev zZs:Fe:= .of Tryz.prog 42 zAd
theorem zEi (a0:zAc):HS 42 (zC1 a0) [.agg [.int .i64 a0.F_Scheme, .int .i64 a0.F_Dim, .lst (List.map (D.int .i64) a0.F_L), .lst (List.map (D.int .i64) a0.F_V), .int .i64 a0.F_Scale, .int .i64 a0.F_Wide, .lst (List.map (D.int .u64) a0.F_Lev), .lst (List.map D.bool a0.F_Neg)]] zAd:=Tr.fn (F:=zZs)
 (.callZ 8 (zWL a0) fun r1=> .join 11 4 (γ:=Bool) ⟨fun x=>[(15,bB x)],[],fun _=>[],[]⟩
  (.iteB 0 11 (r1.2.2.2.2.2.2.2.2)
  (.call 2 (zW6 (⟨r1.1,r1.2.1,r1.2.2.1,r1.2.2.2.1,r1.2.2.2.2.1,r1.2.2.2.2.2.1,r1.2.2.2.2.2.2.1,r1.2.2.2.2.2.2.2.1⟩:zAc) (⟨0,0,[],[],0,0,[],[]⟩:zAc)) zAe fun r2=> .ret 2 r2)
  (.ret 5 false))
  fun j3=> .ret 3 j3)
noncomputable abbrev zVo:Fe:= .of Tryz.prog 71 zAf
theorem zUf (a0:zAc):HS 71 (zJh a0) [.agg [.int .i64 a0.F_Scheme, .int .i64 a0.F_Dim, .lst (List.map (D.int .i64) a0.F_L), .lst (List.map (D.int .i64) a0.F_V), .int .i64 a0.F_Scale, .int .i64 a0.F_Wide, .lst (List.map (D.int .u64) a0.F_Lev), .lst (List.map D.bool a0.F_Neg)]] zAf:=Tr.fn (F:=zVo)
 (.call 10 (zFY a0.F_V) zBi fun r1=> .ret 4 (r1,0))
noncomputable abbrev zJf:Fe:= .of Tryz.prog 78 zAf
def zSa (a1:List Int) (a2:List Int) (x0:Int) (x1:List Int):St:=⟨[(29,nI x0),(28,nI (a1.length:Int)),(27,lI a1),(9,sI (.h 0) x1),(2,lI a2)],[]⟩
def zRT (a1:List Int) (a2:List Int) (x:(List Int)):St:=⟨[(9,sI (.h 1) x)],[]⟩
theorem zQI (a1:List Int) (a2:List Int):∀(x0:Int) (x1:List Int),Ok (zCC a1 a2 x0 x1) (LN zJf (.exit 1) (zRT a1 a2) 78 0 (zSa a1 a2 x0 x1)):=by
 refine zCC.partial_correctness a1 a2 _ ?_
 intro f IH x0 x1
 exact Tr.lpN (F:=zJf) (X:=Int×(List Int))
  (.ite 6 30 (x0<(a1.length:Int))
   (.idx 7 eI a1 x0<| .idx 9 eI a2 x0<| .idx 1 eI x1 (at' a1 x0)<| .sto 0 [9] eI x1 (at' a1 x0) (at' a2 x0)<| .let_ (x1.set (Int.toNat (at' a1 x0)) (at' a2 x0):List Int) fun y4=> .again 6 (IntKind.i64.wrap (x0+1),y4))
   (.ret 4 x1)) _ fun x r=>IH x.1 x.2 r
theorem zUQ (a0:Int) (a1:List Int) (a2:List Int):HS 78 (zHl a0 a1 a2) [.int .i64 a0, .lst (List.map (D.int .i64) a1), .lst (List.map (D.int .i64) a2)] zAf:=Tr.fn (F:=zJf)
 (.call 10 (zJd a0 a1) zAr fun r1=> .iteN 9 15 (r1=0)
  (.ret 10 ([],r1))
  (.len 4 eI a1<| .len 1 eI a2<| .iteN 3 19 ((a1.length:Int)=(a2.length:Int))
  (.ret 9 ([],4))
  (.mk 6 eI 8 0 a0 a0<| .let_ (List.replicate (Int.toNat a0) 0:List Int) fun y2=> .len 6 eI a1<| .loop 4 ⟨_,_,_,_,_,zQI a1 a2 0 y2⟩ fun j6=> .ret 8 (j6,0))))
noncomputable abbrev zVD:Fe:= .of Tryz.prog 77 zAf
theorem zUK (a0:zAc):HS 77 (zI2 a0) [.agg [.int .i64 a0.F_Scheme, .int .i64 a0.F_Dim, .lst (List.map (D.int .i64) a0.F_L), .lst (List.map (D.int .i64) a0.F_V), .int .i64 a0.F_Scale, .int .i64 a0.F_Wide, .lst (List.map (D.int .u64) a0.F_Lev), .lst (List.map D.bool a0.F_Neg)]] zAf:=Tr.fn (F:=zVD)
 (.call 14 (zUQ a0.F_Dim a0.F_L a0.F_V) zAl fun r1=> .ret 6 (r1.1,r1.2))
noncomputable abbrev zXa:Fe:= .of Tryz.prog 138 zAn
theorem zVj (a0:Int) (a1:Int) (a2:Int):HS 138 (zHZ a0 a1 a2) [.int .u64 a0, .int .i64 a1, .int .i64 a2] zAn:=Tr.fn (F:=zXa)
 (.call 8 (zJs a2) zEb fun r1=> .join 12 3 (γ:=Bool) ⟨fun x=>[(24,bB x)],[8,0,1],fun _=>[],[]⟩
  (.iteN 0 21 (r1.2=0)
  (.ret 4 true)
  (.ret 4 (decide (a1<0))))
  fun j2=> .join 1 4 (γ:=Bool) ⟨fun x=>[(29,bB x)],[8,0,1],fun _=>[],[]⟩
  (.iteB 0 25 (j2)
  (.ret 5 true)
  (.ret 5 (decide (a0>r1.1))))
  fun j3=> .iteB 1 29 (j3)
  (.ret 8 (0,1))
  (.call 7 (zKf (IntKind.u64.wrap a1) a0) zEO fun r4=> .call 11 (zJ7 r4.1 r4.2 r1.1) zEO fun r5=> .ret 14 (IntKind.i64.wrap r5.1,0)))
noncomputable abbrev zJA:Fe:= .of Tryz.prog 84 zAf
def zR2 (a0:zAc) (x0:Int) (x1:List Int):St:=⟨[(23,nI x0),(22,nI (a0.F_Lev.length:Int)),(21,lU a0.F_Lev),(4,sI (.h 0) x1),(1, .ptr (.s 15) 0)],[(.s 15,[nI a0.F_Scheme,nI a0.F_Dim,lI a0.F_L,lI a0.F_V,nI a0.F_Scale,nI a0.F_Wide,lU a0.F_Lev,lB a0.F_Neg])]⟩
def zRO (a0:zAc) (x:(List Int)):St:=⟨[(4,sI (.h 1) x)],[]⟩
theorem zRi (a0:zAc):∀(x0:Int) (x1:List Int),Ok (zBZ a0 x0 x1) (LR zJA (.exit 0) (zRO a0) 84 0 (zR2 a0 x0 x1)):=by
 refine zBZ.partial_correctness a0 _ ?_
 intro f IH x0 x1
 exact Tr.lpR (F:=zJA) (X:=Int×(List Int))
  (.ite 6 24 (x0<(a0.F_Lev.length:Int))
   (.idx 7 eU a0.F_Lev x0<| .call 11 (zVj (at' a0.F_Lev x0) a0.F_Scale a0.F_Wide) zAz fun r5=> .iteN 12 38 (r5.2=0)
   (.ret 12 (.inl ([],r5.2)))
   (.idx 7 eI x1 x0<| .sto 0 [4] eI x1 x0 r5.1<| .let_ (x1.set (Int.toNat x0) r5.1:List Int) fun y6=> .idx 6 eB a0.F_Neg x0<| .iteB 2 48 (at' a0.F_Neg x0)
   (.idx 6 eI y6 x0<| .sto 0 [4] eI y6 x0 (IntKind.i64.wrap (0-r5.1))<| .let_ (y6.set (Int.toNat x0) (IntKind.i64.wrap (0-r5.1)):List Int) fun y8=> .again 6 (IntKind.i64.wrap (x0+1),y8))
   (.again 7 (IntKind.i64.wrap (x0+1),y6))))
   (.ret 4 (.inr x1))) _ fun x r=>IH x.1 x.2 r
theorem zT8 (a0:zAc):HS 84 (zJw a0) [.agg [.int .i64 a0.F_Scheme, .int .i64 a0.F_Dim, .lst (List.map (D.int .i64) a0.F_L), .lst (List.map (D.int .i64) a0.F_V), .int .i64 a0.F_Scale, .int .i64 a0.F_Wide, .lst (List.map (D.int .u64) a0.F_Lev), .lst (List.map D.bool a0.F_Neg)]] zAf:=Tr.fn (F:=zJA)
 (.call 10 (zEi a0) zAe fun r1=> .join 2 4 (γ:=Bool) ⟨fun x=>[(16,bB x)],[1],fun _=>[],[.s 15]⟩
  (.iteX 0 12 (r1)
  (.ret 5 true)
  (.ret 5 (a0.F_Scheme !=2)))
  fun j2=> .iteB 1 16 (j2)
  (.ret 8 ([],1))
  (.mk 6 eI 8 0 a0.F_Dim a0.F_Dim<| .let_ (List.replicate (Int.toNat a0.F_Dim) 0:List Int) fun y3=> .len 7 eU a0.F_Lev<| .loopR 4 id ⟨_,_,_,_,_,zRi a0 0 y3⟩ fun j10=> .ret 8 (j10,0)))
noncomputable abbrev zRW:Fe:= .of Tryz.prog 144 zAk
theorem zQ9 (a0:Bool) (a1:Int) (a2:Int) (a3:List Int) (a4:List Int) (a5:Int) (a6:Int) (a7:List Int) (a8:List Bool):HS 144 (zFB a0 a1 a2 a3 a4 a5 a6 a7 a8) [.bool a0, .cp [.int .i64 a1, .int .i64 a2, .lst (List.map (D.int .i64) a3), .lst (List.map (D.int .i64) a4), .int .i64 a5, .int .i64 a6, .lst (List.map (D.int .u64) a7), .lst (List.map D.bool a8)] 0] zAk:=Tr.fn (F:=zRW)
 (.iteB 9 4 (a0)
  (.ret 10 (IntKind.i64.wrap (0-a5)))
  (.ret 9 a5))
noncomputable abbrev zCr:Fe:= .of Tryz.prog 143 zAy
def zGu (a0:List Bool) (a1:Int) (a2:Int) (a3:List Int) (a4:List Int) (a5:Int) (a6:Int) (a7:List Int) (a8:List Bool) (x0:Int) (x1:List Int):St:=⟨[(13,nI x0),(12,nI (a0.length:Int)),(11,lB a0),(5,sI (.h 0) x1),(1, .d (.clo (.func 144) [] [.cp [.int .i64 a1, .int .i64 a2, .lst (List.map (D.int .i64) a3), .lst (List.map (D.int .i64) a4), .int .i64 a5, .int .i64 a6, .lst (List.map (D.int .u64) a7), .lst (List.map D.bool a8)] 0]))],[]⟩
def zGs (a0:List Bool) (a1:Int) (a2:Int) (a3:List Int) (a4:List Int) (a5:Int) (a6:Int) (a7:List Int) (a8:List Bool) (x:(List Int)):St:=⟨[(5,sI (.h 1) x)],[]⟩
theorem zF0 (a0:List Bool) (a1:Int) (a2:Int) (a3:List Int) (a4:List Int) (a5:Int) (a6:Int) (a7:List Int) (a8:List Bool):∀(x0:Int) (x1:List Int),Ok (zAA a0 a1 a2 a3 a4 a5 a6 a7 a8 x0 x1) (LN zCr (.exit 0) (zGs a0 a1 a2 a3 a4 a5 a6 a7 a8) 143 0 (zGu a0 a1 a2 a3 a4 a5 a6 a7 a8 x0 x1)):=by
 refine zAA.partial_correctness a0 a1 a2 a3 a4 a5 a6 a7 a8 _ ?_
 intro f IH x0 x1
 exact Tr.lpN (F:=zCr) (X:=Int×(List Int))
  (.ite 6 14 (x0<(a0.length:Int))
   (.idx 6 eB a0 x0<| .call 7 (zQ9 (at' a0 x0) a1 a2 a3 a4 a5 a6 a7 a8) zAr fun r3=> .app 1 eI 8 x1 [r3]<| .again 7 (IntKind.i64.wrap (x0+1),x1++[r3]))
   (.ret 4 x1)) _ fun x r=>IH x.1 x.2 r
theorem zGY (a0:List Bool) (a1:Int) (a2:Int) (a3:List Int) (a4:List Int) (a5:Int) (a6:Int) (a7:List Int) (a8:List Bool):HS 143 (zCv a0 a1 a2 a3 a4 a5 a6 a7 a8) [.lst (List.map D.bool a0), .clo (.func 144) [] [.cp [.int .i64 a1, .int .i64 a2, .lst (List.map (D.int .i64) a3), .lst (List.map (D.int .i64) a4), .int .i64 a5, .int .i64 a6, .lst (List.map (D.int .u64) a7), .lst (List.map D.bool a8)] 0]] zAy:=Tr.fn (F:=zCr)
 (.len 7 eB a0<| .mk 0 eI 8 0 0 (a0.length:Int)<| .let_ (List.replicate (Int.toNat 0) 0:List Int) fun y1=> .len 6 eB a0<| .loop 4 ⟨_,_,_,_,_,zF0 a0 a1 a2 a3 a4 a5 a6 a7 a8 0 y1⟩ fun j4=> .ret 7 j4)
noncomputable abbrev zWZ:Fe:= .of Tryz.prog 89 zAf
theorem zVE (a0:zAc):HS 89 (zKB a0) [.agg [.int .i64 a0.F_Scheme, .int .i64 a0.F_Dim, .lst (List.map (D.int .i64) a0.F_L), .lst (List.map (D.int .i64) a0.F_V), .int .i64 a0.F_Scale, .int .i64 a0.F_Wide, .lst (List.map (D.int .u64) a0.F_Lev), .lst (List.map D.bool a0.F_Neg)]] zAf:=Tr.fn (F:=zWZ)
 (.call 10 (zEi a0) zAe fun r1=> .join 2 4 (γ:=Bool) ⟨fun x=>[(11,bB x)],[1],fun _=>[],[.s 15]⟩
  (.iteX 0 7 (r1)
  (.ret 5 true)
  (.ret 5 (a0.F_Scheme !=3)))
  fun j2=> .iteB 1 11 (j2)
  (.ret 8 ([],1))
  (.call 7 (zGY a0.F_Neg a0.F_Scheme a0.F_Dim a0.F_L a0.F_V a0.F_Scale a0.F_Wide a0.F_Lev a0.F_Neg) zBi fun r3=> .ret 4 (r3,0)))
noncomputable abbrev zU8:Fe:= .of Tryz.prog 19 zAf
theorem zIx (a0:zAc):HS 19 (zEc a0) [.agg [.int .i64 a0.F_Scheme, .int .i64 a0.F_Dim, .lst (List.map (D.int .i64) a0.F_L), .lst (List.map (D.int .i64) a0.F_V), .int .i64 a0.F_Scale, .int .i64 a0.F_Wide, .lst (List.map (D.int .u64) a0.F_Lev), .lst (List.map D.bool a0.F_Neg)]] zAf:=Tr.fn (F:=zU8)
 (.call 10 (zEi a0) zAe fun r1=> .iteX 2 6 (r1)
  (.ret 8 ([],1))
  (.callG 7 [] [] zGo fun r2=> .hold 1 []<| .cas 1 10 (a0.F_Scheme=(0:Int)) (.d (.agg [.clo (.func 69) [] [], .clo (.func 70) [] [], .clo (.func 71) [] [], .clo (.func 73) [] []])) (.d (lookD a0.F_Scheme [(1, .agg [.clo (.func 74) [] [], .clo (.func 75) [] [], .clo (.func 77) [] [], .clo (.func 79) [] []]),(2, .agg [.clo (.func 81) [] [], .clo (.func 82) [] [], .clo (.func 84) [] [], .clo (.func 85) [] []]),(3, .agg [.clo (.func 69) [] [], .clo (.func 87) [] [], .clo (.func 89) [] [], .clo (.func 90) [] []])] (.agg [.nilfn, .nilfn, .nilfn, .nilfn]))) (.d (lookD a0.F_Scheme [(0, .agg [.clo (.func 69) [] [], .clo (.func 70) [] [], .clo (.func 71) [] [], .clo (.func 73) [] []]),(1, .agg [.clo (.func 74) [] [], .clo (.func 75) [] [], .clo (.func 77) [] [], .clo (.func 79) [] []]),(2, .agg [.clo (.func 81) [] [], .clo (.func 82) [] [], .clo (.func 84) [] [], .clo (.func 85) [] []]),(3, .agg [.clo (.func 69) [] [], .clo (.func 87) [] [], .clo (.func 89) [] [], .clo (.func 90) [] []])] (.agg [.nilfn, .nilfn, .nilfn, .nilfn]))) zCe zCd
  (.call 1 (zUf a0) zAl fun r3=> .ret 7 (r3.1,r3.2))
  (.cas 0 10 (a0.F_Scheme=(1:Int)) (.d (.agg [.clo (.func 74) [] [], .clo (.func 75) [] [], .clo (.func 77) [] [], .clo (.func 79) [] []])) (.d (lookD a0.F_Scheme [(2, .agg [.clo (.func 81) [] [], .clo (.func 82) [] [], .clo (.func 84) [] [], .clo (.func 85) [] []]),(3, .agg [.clo (.func 69) [] [], .clo (.func 87) [] [], .clo (.func 89) [] [], .clo (.func 90) [] []])] (.agg [.nilfn, .nilfn, .nilfn, .nilfn]))) (.d (lookD a0.F_Scheme [(1, .agg [.clo (.func 74) [] [], .clo (.func 75) [] [], .clo (.func 77) [] [], .clo (.func 79) [] []]),(2, .agg [.clo (.func 81) [] [], .clo (.func 82) [] [], .clo (.func 84) [] [], .clo (.func 85) [] []]),(3, .agg [.clo (.func 69) [] [], .clo (.func 87) [] [], .clo (.func 89) [] [], .clo (.func 90) [] []])] (.agg [.nilfn, .nilfn, .nilfn, .nilfn]))) zCe zCd
  (.call 1 (zUK a0) zAl fun r4=> .ret 7 (r4.1,r4.2))
  (.cas 0 10 (a0.F_Scheme=(2:Int)) (.d (.agg [.clo (.func 81) [] [], .clo (.func 82) [] [], .clo (.func 84) [] [], .clo (.func 85) [] []])) (.d (lookD a0.F_Scheme [(3, .agg [.clo (.func 69) [] [], .clo (.func 87) [] [], .clo (.func 89) [] [], .clo (.func 90) [] []])] (.agg [.nilfn, .nilfn, .nilfn, .nilfn]))) (.d (lookD a0.F_Scheme [(2, .agg [.clo (.func 81) [] [], .clo (.func 82) [] [], .clo (.func 84) [] [], .clo (.func 85) [] []]),(3, .agg [.clo (.func 69) [] [], .clo (.func 87) [] [], .clo (.func 89) [] [], .clo (.func 90) [] []])] (.agg [.nilfn, .nilfn, .nilfn, .nilfn]))) zCe zCd
  (.call 1 (zT8 a0) zAl fun r5=> .ret 7 (r5.1,r5.2))
  (.cas 0 10 (a0.F_Scheme=(3:Int)) (.d (.agg [.clo (.func 69) [] [], .clo (.func 87) [] [], .clo (.func 89) [] [], .clo (.func 90) [] []])) (.d (lookD a0.F_Scheme [] (.agg [.nilfn, .nilfn, .nilfn, .nilfn]))) (.d (lookD a0.F_Scheme [(3, .agg [.clo (.func 69) [] [], .clo (.func 87) [] [], .clo (.func 89) [] [], .clo (.func 90) [] []])] (.agg [.nilfn, .nilfn, .nilfn, .nilfn]))) zCe zCd
  (.call 1 (zVE a0) zAl fun r6=> .ret 7 (r6.1,r6.2))
  (.halt))))))
noncomputable abbrev zUj:Fe:= .of Tryz.prog 102 zAn
theorem zTk (a0:Int) (a1:List Int) (a2:List Int):HS 102 (zE2 a0 a1 a2) [.int .i64 a0, .cp [.lst (List.map (D.int .i64) a1)] 0, .cp [.lst (List.map (D.int .i64) a2)] 0] zAn:=Tr.fn (F:=zUj)
 (.idx 9 eI a1 a0<| .idx 3 eI a2 a0<| .call 1 (zT6 (at' a1 a0) (at' a2 a0)) zAz fun r1=> .ret 6 (r1.1,r1.2))
noncomputable abbrev zGh:Fe:= .of Tryz.prog 58 zAf
def zMc (a1:List Int) (a2:List Int) (y1:List Int) (x0:Int) (x1:List Int):St:=⟨[(13,nI x0),(12,nI (y1.length:Int)),(6,sI (.h 0) x1),(1, .d (.clo (.func 102) [] [.cp [.lst (List.map (D.int .i64) a1)] 0, .cp [.lst (List.map (D.int .i64) a2)] 0]))],[]⟩
def zMo (a1:List Int) (a2:List Int) (y1:List Int) (x:(List Int)):St:=⟨[(6,sI (.h 1) x)],[]⟩
theorem zLO (a1:List Int) (a2:List Int) (y1:List Int):∀(x0:Int) (x1:List Int),Ok (zBo a1 a2 y1 x0 x1) (LR zGh (.exit 0) (zMo a1 a2 y1) 58 0 (zMc a1 a2 y1 x0 x1)):=by
 refine zBo.partial_correctness a1 a2 y1 _ ?_
 intro f IH x0 x1
 exact Tr.lpR (F:=zGh) (X:=Int×(List Int))
  (.ite 6 14 (x0<(y1.length:Int))
   (.call 19 (zTk x0 a1 a2) zAz fun r3=> .idx 3 eI x1 x0<| .sto 0 [6] eI x1 x0 r3.1<| .let_ (x1.set (Int.toNat x0) r3.1:List Int) fun y4=> .iteN 7 26 (r3.2=0)
   (.ret 11 (.inl ([],r3.2)))
   (.again 7 (IntKind.i64.wrap (x0+1),y4)))
   (.ret 4 (.inr x1))) _ fun x r=>IH x.1 x.2 r
theorem zNN (a0:Int) (a1:List Int) (a2:List Int):HS 58 (zF5 a0 a1 a2) [.int .i64 a0, .clo (.func 102) [] [.cp [.lst (List.map (D.int .i64) a1)] 0, .cp [.lst (List.map (D.int .i64) a2)] 0]] zAf:=Tr.fn (F:=zGh)
 (.mk 8 eI 8 0 a0 a0<| .let_ (List.replicate (Int.toNat a0) 0:List Int) fun y1=> .len 6 eI y1<| .loopR 4 id ⟨_,_,_,_,_,zLO a1 a2 y1 0 y1⟩ fun j6=> .ret 8 (j6,0))
noncomputable abbrev zAb3:Fe:= .of Tryz.prog 43 zAf
theorem zAap (a0:List Int) (a1:List Int):HS 43 (zML a0 a1) [.lst (List.map (D.int .i64) a0), .lst (List.map (D.int .i64) a1)] zAf:=Tr.fn (F:=zAb3)
 (.call 12 (zSB a0 a1) zAr fun r1=> .iteN 7 11 (r1=0)
  (.ret 9 ([],r1))
  (.len 5 eI a0<| .call 1 (zNN (a0.length:Int) a0 a1) zAl fun r2=> .ret 6 (r2.1,r2.2)))
noncomputable abbrev zXK:Fe:= .of Tryz.prog 20 zAf
theorem zPO (a0:List Int) (a1:zAc):HS 20 (zHd a0 a1) [.lst (List.map (D.int .i64) a0), .agg [.int .i64 a1.F_Scheme, .int .i64 a1.F_Dim, .lst (List.map (D.int .i64) a1.F_L), .lst (List.map (D.int .i64) a1.F_V), .int .i64 a1.F_Scale, .int .i64 a1.F_Wide, .lst (List.map (D.int .u64) a1.F_Lev), .lst (List.map D.bool a1.F_Neg)]] zAf:=Tr.fn (F:=zXK)
 (.call 9 (zIx a1) zAl fun r1=> .iteN 12 14 (r1.2=0)
  (.ret 9 ([],r1.2))
  (.call 6 (zAap a0 r1.1) zAl fun r2=> .ret 6 (r2.1,r2.2)))
def zNF (v:Int×Int×(List Int)×(List Int)×Int×Int×(List Int)×(List Bool)×(List Int)×Int):PV:= .tup [.d (.agg [.int .i64 v.1, .int .i64 v.2.1, .lst (List.map (D.int .i64) v.2.2.1), .lst (List.map (D.int .i64) v.2.2.2.1), .int .i64 v.2.2.2.2.1, .int .i64 v.2.2.2.2.2.1, .lst (List.map (D.int .u64) v.2.2.2.2.2.2.1), .lst (List.map D.bool v.2.2.2.2.2.2.2.1)]),sI (.s 0) v.2.2.2.2.2.2.2.2.1,nI v.2.2.2.2.2.2.2.2.2]
noncomputable abbrev zWT:Fe:= .of Tryz.prog 13 zNF
theorem zVM (a0:zAi) (a1:List Int) (a2:List Int) (a3:Int) (a4:List Int):HS 13 (zH0 a0 a1 a2 a3 a4) [.agg [.int .i64 a0.F_Scheme, .int .i64 a0.F_K, .int .i64 a0.F_Wide], .lst (List.map (D.int .i64) a1), .lst (List.map (D.int .i64) a2), .int .u64 a3, .lst (List.map (D.int .i64) a4)] zNF:=Tr.fn (F:=zWT)
 (.call 11 (zAaJ a1 a2) zAl fun r1=> .join 12 0 (γ:=Int×Int×Int×(List Int)×(List Int)×Int×Int×(List Int)×(List Bool)) ⟨fun x=>[(12,nI x.1)],[13,11,10],fun x=>[(.s 31,[nI x.2.1,nI x.2.2.1,sI (.h 0) x.2.2.2.1,sI (.h 1) x.2.2.2.2.1,nI x.2.2.2.2.2.1,nI x.2.2.2.2.2.2.1,sU (.h 2) x.2.2.2.2.2.2.2.1,sB (.h 3) x.2.2.2.2.2.2.2.2])],[]⟩
  (.ite 0 21 (r1.2=0)
  (.call 6 (zVl a0 r1.1 a3 a4) zVy fun r2=> .ret 6 (r2.2.2.2.2.2.2.2.2,r2.1,r2.2.1,r2.2.2.1,r2.2.2.2.1,r2.2.2.2.2.1,r2.2.2.2.2.2.1,r2.2.2.2.2.2.2.1,r2.2.2.2.2.2.2.2.1))
  (.ret 2 (r1.2,0,0,[],[],0,0,[],[])))
  fun j3=> .ite 6 31 (j3.1=0)
  (.call 4 (zPO r1.1 (⟨j3.2.1,j3.2.2.1,j3.2.2.2.1,j3.2.2.2.2.1,j3.2.2.2.2.2.1,j3.2.2.2.2.2.2.1,j3.2.2.2.2.2.2.2.1,j3.2.2.2.2.2.2.2.2⟩:zAc)) zAl fun r4=> .iteN 12 39 (r4.2=0)
  (.ret 11 (0,0,[],[],0,0,[],[],[],r4.2))
  (.ret 11 (j3.2.1,j3.2.2.1,j3.2.2.2.1,j3.2.2.2.2.1,j3.2.2.2.2.2.1,j3.2.2.2.2.2.2.1,j3.2.2.2.2.2.2.2.1,j3.2.2.2.2.2.2.2.2,r4.1,0)))
  (.iteN 8 39 (j3.1=0)
  (.ret 11 (0,0,[],[],0,0,[],[],[],j3.1))
  (.ret 11 (j3.2.1,j3.2.2.1,j3.2.2.2.1,j3.2.2.2.2.1,j3.2.2.2.2.2.1,j3.2.2.2.2.2.2.1,j3.2.2.2.2.2.2.2.1,j3.2.2.2.2.2.2.2.2,[],0))))
noncomputable abbrev zHD:Fe:= .of Tryz.prog 16 zAd
def zO2 (a0:List Int) (a1:List Int) (x0:Int):St:=⟨[(13,nI x0),(12,nI (a0.length:Int)),(0,lI a0),(1,lI a1)],[]⟩
def zPr (a0:List Int) (a1:List Int) (x:Unit):St:=⟨[],[]⟩
theorem zNX (a0:List Int) (a1:List Int):∀(x0:Int),Ok (zC3 a0 a1 x0) (LR zHD (.exit 0) (zPr a0 a1) 16 0 (zO2 a0 a1 x0)):=by
 refine zC3.partial_correctness a0 a1 _ ?_
 intro f IH x0
 exact Tr.lpR (F:=zHD) (X:=Int)
  (.ite 6 14 (x0<(a0.length:Int))
   (.idx 13 eI a0 x0<| .idx 3 eI a1 x0<| .iteN 3 24 ((at' a0 x0)=(at' a1 x0))
   (.ret 9 (.inl false))
   (.again 7 (IntKind.i64.wrap (x0+1))))
   (.ret 4 (.inr ()))) _ fun x r=>IH x r
theorem zCs (a0:List Int) (a1:List Int):HS 16 (zBm a0 a1) [.lst (List.map (D.int .i64) a0), .lst (List.map (D.int .i64) a1)] zAd:=Tr.fn (F:=zHD)
 (.len 8 eI a0<| .len 1 eI a1<| .iteN 2 10 ((a0.length:Int)=(a1.length:Int))
  (.ret 7 false)
  (.len 6 eI a0<| .loopR 4 id ⟨_,_,_,_,_,zNX a0 a1 0⟩ fun j1=> .ret 6 true))
noncomputable abbrev zRM:Fe:= .of Tryz.prog 9 zAd
theorem zQl:HS 9 zFC [] zAd:=Tr.fn (F:=zRM)
 (.callZ 9 (zVM (⟨1,1,0⟩:zAi) [3,-5] [0,0] 1 []) fun r1=> .join 14 5 (γ:=Bool) ⟨fun x=>[(19,bB x)],[2,1],fun _=>[],[.s 1743]⟩
  (.ite 0 14 (r1.2.2.2.2.2.2.2.2.2=0)
  (.len 2 eI r1.2.2.1<| .ret 3 ((r1.2.2.1.length:Int)==1))
  (.ret 6 false))
  fun j2=> .join 1 6 (γ:=Bool) ⟨fun x=>[(26,bB x)],[2,1],fun _=>[],[.s 1743]⟩
  (.iteB 0 20 (j2)
  (.idx 2 eI r1.2.2.1 0<| .ret 4 ((at' r1.2.2.1 0)==1))
  (.ret 7 false))
  fun j3=> .join 1 5 (γ:=Bool) ⟨fun x=>[(32,bB x)],[2],fun _=>[],[]⟩
  (.iteB 0 27 (j3)
  (.call 3 (zCs r1.2.2.2.1 [-5]) zAe fun r4=> .ret 2 r4)
  (.ret 6 false))
  fun j5=> .join 1 4 (γ:=Bool) ⟨fun x=>[(37,bB x)],[],fun _=>[],[]⟩
  (.iteB 0 33 (j5)
  (.call 2 (zCs r1.2.2.2.2.2.2.2.2.1 [3,0]) zAe fun r6=> .ret 2 r6)
  (.ret 5 false))
  fun j7=> .ret 3 j7)
noncomputable abbrev zH1:Fe:= .of Tryz.prog 10 zAd
def zQa (a0:List Int) (a1:List (List Int)) (x0:Int):St:=⟨[(9,nI x0),(8,nI (a1.length:Int)),(7, .d (.lst (List.map (enL (D.int .i64)) a1))),(0,lI a0),(1, .d (.lst (List.map (enL (D.int .i64)) a1)))],[]⟩
def zP6 (a0:List Int) (a1:List (List Int)) (x:Unit):St:=⟨[(0,lI a0),(1, .d (.lst (List.map (enL (D.int .i64)) a1)))],[]⟩
theorem zPq (a0:List Int) (a1:List (List Int)):∀(x0:Int),Ok (zB5 a0 a1 x0) (LR zH1 (.exit 0) (zP6 a0 a1) 10 0 (zQa a0 a1 x0)):=by
 refine zB5.partial_correctness a0 a1 _ ?_
 intro f IH x0
 exact Tr.lpR (F:=zH1) (X:=Int)
  (.ite 6 10 (x0<(a1.length:Int))
   (.idx 6 (eL eI) a1 x0<| .len 6 eI (at' a1 x0)<| .join 2 4 (γ:=Bool) ⟨fun x=>[(20,bB x)],[6,9,8,7,0,1],fun _=>[],[]⟩
   (.ite 0 16 (((at' a1 x0).length:Int)>200)
   (.len 1 eI (at' a1 x0)<| .ret 3 (decide (((at' a1 x0).length:Int)≤4096)))
   (.ret 5 false))
   fun j1=> .join 1 4 (γ:=Bool) ⟨fun x=>[(25,bB x)],[9,8,7,0,1],fun _=>[],[]⟩
   (.iteB 0 21 (j1)
   (.ret 5 true)
   (.len 1 eI (at' a1 x0)<| .ret 3 (decide (((at' a1 x0).length:Int)>5000))))
   fun j2=> .iteB 1 25 (j2)
   (.ret 9 (.inl false))
   (.again 7 (IntKind.i64.wrap (x0+1))))
   (.ret 4 (.inr ()))) _ fun x r=>IH x r
theorem zRN (a0:List Int) (a1:List (List Int)):HS 10 (zGe a0 a1) [.lst (List.map (D.int .i64) a0), .lst (List.map (enL (D.int .i64)) a1)] zAd:=Tr.fn (F:=zH1)
 (.len 8 (eL eI) a1<| .loopR 4 id ⟨_,_,_,_,_,zPq a0 a1 0⟩ fun j3=> .len 4 eI a0<| .join 2 4 (γ:=Bool) ⟨fun x=>[(34,bB x)],[],fun _=>[],[]⟩
  (.ite 0 30 ((a0.length:Int)≤50)
  (.len 1 (eL eI) a1<| .ret 3 (decide ((a1.length:Int)≤30)))
  (.ret 5 false))
  fun j4=> .ret 3 j4)
noncomputable abbrev zTd:Fe:= .of Tryz.prog 23 zAd
theorem zR8 (a0:zAc):HS 23 (zGb a0) [.agg [.int .i64 a0.F_Scheme, .int .i64 a0.F_Dim, .lst (List.map (D.int .i64) a0.F_L), .lst (List.map (D.int .i64) a0.F_V), .int .i64 a0.F_Scale, .int .i64 a0.F_Wide, .lst (List.map (D.int .u64) a0.F_Lev), .lst (List.map D.bool a0.F_Neg)]] zAd:=Tr.fn (F:=zTd)
 (.len 9 eI a0.F_L<| .join 2 5 (γ:=Bool) ⟨fun x=>[(12,bB x)],[1],fun _=>[],[.s 15]⟩
  (.ite 0 7 ((a0.F_L.length:Int)>500)
  (.ret 6 true)
  (.len 2 eI a0.F_V<| .ret 3 (decide ((a0.F_V.length:Int)>500))))
  fun j1=> .join 1 5 (γ:=Bool) ⟨fun x=>[(18,bB x)],[1],fun _=>[],[.s 15]⟩
  (.iteB 0 13 (j1)
  (.ret 6 true)
  (.len 2 eU a0.F_Lev<| .ret 3 (decide ((a0.F_Lev.length:Int)>500))))
  fun j2=> .join 1 5 (γ:=Bool) ⟨fun x=>[(24,bB x)],[],fun _=>[],[]⟩
  (.iteB 0 19 (j2)
  (.ret 6 true)
  (.len 2 eB a0.F_Neg<| .ret 3 (decide ((a0.F_Neg.length:Int)>500))))
  fun j3=> .ret 3 j3)
noncomputable abbrev zG8:Fe:= .of Tryz.prog 156 zAd
def zNO (a0:List Int) (x0:Int):St:=⟨[(3,nI x0),(0,lI a0)],[]⟩
def zOl (a0:List Int) (x:Unit):St:=⟨[],[]⟩
theorem zNB (a0:List Int):∀(x0:Int),Ok (zBk a0 x0) (LR zG8 (.exit 0) (zOl a0) 156 0 (zNO a0 x0)):=by
 refine zBk.partial_correctness a0 _ ?_
 intro f IH x0
 exact Tr.lpR (F:=zG8) (X:=Int)
  (.len 6 eI a0<| .ite 2 7 (x0<(a0.length:Int))
   (.idx 8 eI a0 x0<| .idx 4 eI a0 (IntKind.i64.wrap (x0-1))<| .ite 3 19 ((at' a0 x0)≤(at' a0 (IntKind.i64.wrap (x0-1))))
   (.ret 9 (.inl false))
   (.again 8 (IntKind.i64.wrap (x0+1))))
   (.ret 4 (.inr ()))) _ fun x r=>IH x r
theorem zP5 (a0:List Int):HS 156 (zDM a0) [.lst (List.map (D.int .i64) a0)] zAd:=Tr.fn (F:=zG8)
 (.loopR 11 id ⟨_,_,_,_,_,zNB a0 1⟩ fun j1=> .ret 6 true)
noncomputable abbrev zG0:Fe:= .of Tryz.prog 105 zAk
def zOq (a0:Int) (a1:List Int) (x0:Int):St:=⟨[(20,nI x0),(19,nI (a1.length:Int)),(18,lI a1),(0,nI a0)],[]⟩
def zNS (a0:Int) (a1:List Int) (x:Unit):St:=⟨[],[]⟩
theorem zNh (a0:Int) (a1:List Int):∀(x0:Int),Ok (zBJ a0 a1 x0) (LR zG0 (.exit 0) (zNS a0 a1) 105 0 (zOq a0 a1 x0)):=by
 refine zBJ.partial_correctness a0 a1 _ ?_
 intro f IH x0
 exact Tr.lpR (F:=zG0) (X:=Int)
  (.ite 6 21 (x0<(a1.length:Int))
   (.idx 6 eI a1 x0<| .join 8 4 (γ:=Bool) ⟨fun x=>[(30,bB x)],[20,19,18,0],fun _=>[],[]⟩
   (.ite 0 26 ((at' a1 x0)<0)
   (.ret 5 true)
   (.ret 5 (decide ((at' a1 x0)≥a0))))
   fun j4=> .iteB 1 30 (j4)
   (.ret 9 (.inl 1))
   (.again 7 (IntKind.i64.wrap (x0+1))))
   (.ret 4 (.inr ()))) _ fun x r=>IH x r
theorem zIS (a0:Int) (a1:List Int):HS 105 (zDD a0 a1) [.int .i64 a0, .lst (List.map (D.int .i64) a1)] zAk:=Tr.fn (F:=zG0)
 (.join 10 3 (γ:=Bool) ⟨fun x=>[(12,bB x)],[0,1],fun _=>[],[]⟩
  (.ite 0 9 (a0<1)
  (.ret 4 true)
  (.ret 4 (decide (a0>4096))))
  fun j1=> .join 1 4 (γ:=Bool) ⟨fun x=>[(17,bB x)],[0,1],fun _=>[],[]⟩
  (.iteB 0 13 (j1)
  (.ret 5 true)
  (.call 1 (zP5 a1) zAe fun r2=> .ret 3 (!r2)))
  fun j3=> .iteB 1 17 (j3)
  (.ret 7 1)
  (.len 6 eI a1<| .loopR 4 id ⟨_,_,_,_,_,zNh a0 a1 0⟩ fun j5=> .ret 6 0))
noncomputable abbrev zG2:Fe:= .of Tryz.prog 106 zAk
def zOg (x0:Int) (x1:Int):St:=⟨[(3,nI x0),(0,nU x1)],[]⟩
def zOa (x:Int):St:=⟨[(3,nI x)],[]⟩
theorem zNs:∀(x0:Int) (x1:Int),Ok (zBA x0 x1) (LN zG2 (.exit 0) zOa 106 0 (zOg x0 x1)):=by
 refine zBA.partial_correctness _ ?_
 intro f IH x0 x1
 exact Tr.lpN (F:=zG2) (X:=Int×Int)
  (.ite 7 5 (x1>0)
   (.again 15 (IntKind.i64.wrap (x0+1),IntKind.u64.wrap (Int.tdiv x1 2)))
   (.ret 4 x0)) _ fun x r=>IH x.1 x.2 r
theorem zIX (a0:Int):HS 106 (zDy a0) [.int .u64 a0] zAk:=Tr.fn (F:=zG2)
 (.loop 11 ⟨_,_,_,_,_,zNs 0 a0⟩ fun j1=> .ret 7 j1)
noncomputable abbrev zH3:Fe:= .of Tryz.prog 48 zAd
def zQc (a0:zAc) (j2:Bool) (x0:Int):St:=⟨[(110,nI x0),(109,nI (a0.F_Lev.length:Int)),(108,lU a0.F_Lev),(3,bB j2),(1, .ptr (.s 15) 0)],[(.s 15,[nI a0.F_Scheme,nI a0.F_Dim,lI a0.F_L,lI a0.F_V,nI a0.F_Scale,nI a0.F_Wide,lU a0.F_Lev,lB a0.F_Neg])]⟩
def zQd (a0:zAc) (j2:Bool) (x:Unit):St:=⟨[(3,bB j2),(1, .ptr (.s 15) 0)],[(.s 15,[nI a0.F_Scheme,nI a0.F_Dim,lI a0.F_L,lI a0.F_V,nI a0.F_Scale,nI a0.F_Wide,lU a0.F_Lev,lB a0.F_Neg])]⟩
theorem zOT (a0:zAc) (j2:Bool):∀(x0:Int),Ok (zB1 a0 j2 x0) (LR zH3 (.exit 1) (zQd a0 j2) 48 0 (zQc a0 j2 x0)):=by
 refine zB1.partial_correctness a0 j2 _ ?_
 intro f IH x0
 exact Tr.lpR (F:=zH3) (X:=Int)
  (.ite 6 111 (x0<(a0.F_Lev.length:Int))
   (.idx 6 eU a0.F_Lev x0<| .call 8 (zIX (at' a0.F_Lev x0)) zAr fun r14=> .hold 1 []<| .ite 3 118 (r14>a0.F_Wide)
   (.ret 9 (.inl false))
   (.again 7 (IntKind.i64.wrap (x0+1))))
   (.ret 4 (.inr ()))) _ fun x r=>IH x r
theorem zDg (a0:zAc):HS 48 (zBQ a0) [.agg [.int .i64 a0.F_Scheme, .int .i64 a0.F_Dim, .lst (List.map (D.int .i64) a0.F_L), .lst (List.map (D.int .i64) a0.F_V), .int .i64 a0.F_Scale, .int .i64 a0.F_Wide, .lst (List.map (D.int .u64) a0.F_Lev), .lst (List.map D.bool a0.F_Neg)]] zAd:=Tr.fn (F:=zH3)
 (.join 12 4 (γ:=Bool) ⟨fun x=>[(15,bB x)],[1],fun _=>[],[.s 15]⟩
  (.ite 0 11 (a0.F_Dim<1)
  (.ret 5 true)
  (.ret 5 (decide (a0.F_Dim>4096))))
  fun j1=> .iteB 1 15 (j1)
  (.ret 7 false)
  (.len 6 eI a0.F_L<| .join 2 5 (γ:=Bool) ⟨fun x=>[(25,bB x)],[1],fun _=>[],[.s 15]⟩
  (.ite 0 20 ((a0.F_L.length:Int)=0)
  (.len 2 eI a0.F_V<| .ret 3 ((a0.F_V.length:Int)==0))
  (.ret 6 false))
  fun j2=> .join 8 5 (γ:=Bool) ⟨fun x=>[(34,bB x)],[3,1],fun _=>[],[.s 15]⟩
  (.ite 0 29 (a0.F_Wide=0)
  (.len 2 eU a0.F_Lev<| .ret 3 ((a0.F_Lev.length:Int)==0))
  (.ret 6 false))
  fun j3=> .join 8 5 (γ:=Bool) ⟨fun x=>[(43,bB x)],[4,3,1],fun _=>[],[.s 15]⟩
  (.ite 0 38 (a0.F_Scale=0)
  (.len 2 eB a0.F_Neg<| .ret 3 ((a0.F_Neg.length:Int)==0))
  (.ret 6 false))
  fun j4=> .ite 14 46 (a0.F_Scheme=0)
  (.len 5 eI a0.F_L<| .join 2 7 (γ:=Bool) ⟨fun x=>[(59,bB x)],[5,4],fun _=>[],[]⟩
  (.ite 0 52 ((a0.F_L.length:Int)=0)
  (.len 2 eI a0.F_V<| .ret 5 ((a0.F_V.length:Int)==a0.F_Dim))
  (.ret 8 false))
  fun j5=> .join 1 2 (γ:=Bool) ⟨fun x=>[(62,bB x)],[5],fun _=>[],[]⟩
  (.iteB 0 60 (j5)
  (.ret 3 j3)
  (.ret 3 false))
  fun j6=> .join 1 2 (γ:=Bool) ⟨fun x=>[(65,bB x)],[],fun _=>[],[]⟩
  (.iteB 0 63 (j6)
  (.ret 3 j4)
  (.ret 3 false))
  fun j7=> .ret 5 j7)
  (.ite 6 66 (a0.F_Scheme=1)
  (.call 7 (zIS a0.F_Dim a0.F_L) zAr fun r8=> .join 2 8 (γ:=Bool) ⟨fun x=>[(82,bB x)],[5,4],fun _=>[],[]⟩
  (.ite 0 74 (r8=0)
  (.len 2 eI a0.F_V<| .len 2 eI a0.F_L<| .ret 3 ((a0.F_V.length:Int)==(a0.F_L.length:Int)))
  (.ret 9 false))
  fun j9=> .join 1 2 (γ:=Bool) ⟨fun x=>[(85,bB x)],[5],fun _=>[],[]⟩
  (.iteB 0 83 (j9)
  (.ret 3 j3)
  (.ret 3 false))
  fun j10=> .join 1 2 (γ:=Bool) ⟨fun x=>[(88,bB x)],[],fun _=>[],[]⟩
  (.iteB 0 86 (j10)
  (.ret 3 j4)
  (.ret 3 false))
  fun j11=> .ret 5 j11)
  (.ite 6 89 (a0.F_Scheme=2)
  (.join 8 4 (γ:=Bool) ⟨fun x=>[(98,bB x)],[3,1],fun _=>[],[.s 15]⟩
  (.ite 0 94 (a0.F_Wide<1)
  (.ret 5 true)
  (.ret 5 (decide (a0.F_Wide>8))))
  fun j12=> .join 1 7 (γ:=Bool) ⟨fun x=>[(106,bB x)],[3,1],fun _=>[],[.s 15]⟩
  (.iteB 0 99 (j12)
  (.ret 8 true)
  (.len 2 eU a0.F_Lev<| .ret 5 ((a0.F_Lev.length:Int) !=a0.F_Dim)))
  fun j13=> .iteB 1 106 (j13)
  (.ret 9 false)
  (.len 7 eU a0.F_Lev<| .loopR 4 id ⟨_,_,_,_,_,zOT a0 j2 0⟩ fun j15=> .join 5 4 (γ:=Bool) ⟨fun x=>[(125,bB x)],[1],fun _=>[],[.s 15]⟩
  (.iteB 0 121 (j2)
  (.ret 5 (decide (a0.F_Scale≥0)))
  (.ret 5 false))
  fun j16=> .join 1 7 (γ:=Bool) ⟨fun x=>[(133,bB x)],[],fun _=>[],[]⟩
  (.iteB 0 126 (j16)
  (.len 2 eB a0.F_Neg<| .ret 5 ((a0.F_Neg.length:Int)==a0.F_Dim))
  (.ret 8 false))
  fun j17=> .ret 5 j17))
  (.ite 6 134 (a0.F_Scheme=3)
  (.join 5 2 (γ:=Bool) ⟨fun x=>[(139,bB x)],[1],fun _=>[],[.s 15]⟩
  (.iteB 0 137 (j2)
  (.ret 3 j3)
  (.ret 3 false))
  fun j18=> .join 1 4 (γ:=Bool) ⟨fun x=>[(144,bB x)],[1],fun _=>[],[.s 15]⟩
  (.iteB 0 140 (j18)
  (.ret 5 (decide (a0.F_Scale≥0)))
  (.ret 5 false))
  fun j19=> .join 1 7 (γ:=Bool) ⟨fun x=>[(152,bB x)],[],fun _=>[],[]⟩
  (.iteB 0 145 (j19)
  (.len 2 eB a0.F_Neg<| .ret 5 ((a0.F_Neg.length:Int)==a0.F_Dim))
  (.ret 8 false))
  fun j20=> .ret 5 j20)
  (.ret 8 false))))))
noncomputable abbrev zQY:Fe:= .of Tryz.prog 93 zDp
theorem zIT (a0:Int):HS 93 (zDN a0) [.int .i64 a0] zDp:=Tr.fn (F:=zQY)
 (.join 11 3 (γ:=Bool) ⟨fun x=>[(9,bB x)],[0],fun _=>[],[]⟩
  (.ite 0 6 (a0<1)
  (.ret 4 true)
  (.ret 4 (decide (a0>8))))
  fun j1=> .iteB 1 9 (j1)
  (.ret 8 (0,1))
  (.rd 5 (0≤a0) (nU (sShl .u64 1 a0))<| .ret 5 (IntKind.u64.wrap ((sShl .u64 1 a0)-1),0)))
noncomputable abbrev zQi:Fe:= .of Tryz.prog 107 zAn
theorem zP1 (a0:Int) (a1:Int) (a2:Int):HS 107 (zE4 a0 a1 a2) [.int .u64 a0, .int .i64 a1, .int .i64 a2] zAn:=Tr.fn (F:=zQi)
 (.call 8 (zIT a2) zEb fun r1=> .join 12 3 (γ:=Bool) ⟨fun x=>[(22,bB x)],[8,0,1],fun _=>[],[]⟩
  (.iteN 0 19 (r1.2=0)
  (.ret 4 true)
  (.ret 4 (decide (a1<0))))
  fun j2=> .join 1 4 (γ:=Bool) ⟨fun x=>[(27,bB x)],[8,0,1],fun _=>[],[]⟩
  (.iteB 0 23 (j2)
  (.ret 5 true)
  (.ret 5 (decide (a0>r1.1))))
  fun j3=> .iteB 1 27 (j3)
  (.ret 8 (0,1))
  (.rd 7 (r1.1≠0) (nU (IntKind.u64.wrap (Int.tdiv (IntKind.u64.wrap a1) r1.1)))<| .rd 7 (r1.1≠0) (nU (Int.tmod (IntKind.u64.wrap a1) r1.1))<| .let_ (IntKind.u64.wrap ((Int.tmod (IntKind.u64.wrap a1) r1.1)*a0):Int) fun y4=> .let_ (IntKind.u64.wrap ((IntKind.u64.wrap (Int.tdiv (IntKind.u64.wrap a1) r1.1))*a0):Int) fun y6=> .rd 11 (r1.1≠0) (nU (IntKind.u64.wrap (Int.tdiv y4 r1.1)))<| .ret 6 (IntKind.i64.wrap (IntKind.u64.wrap (y6+(IntKind.u64.wrap (Int.tdiv y4 r1.1)))),0)))
noncomputable abbrev zGG:Fe:= .of Tryz.prog 49 zAf
def zM9 (a0:zAc) (x0:Int) (x1:List Int):St:=⟨[(20,nI x0),(19,nI (a0.F_Lev.length:Int)),(18,lU a0.F_Lev),(4,sI (.h 0) x1),(1, .ptr (.s 15) 0)],[(.s 15,[nI a0.F_Scheme,nI a0.F_Dim,lI a0.F_L,lI a0.F_V,nI a0.F_Scale,nI a0.F_Wide,lU a0.F_Lev,lB a0.F_Neg])]⟩
def zNb (a0:zAc) (x:(List Int)):St:=⟨[(4,sI (.h 1) x)],[]⟩
theorem zMg (a0:zAc):∀(x0:Int) (x1:List Int),Ok (zBa a0 x0 x1) (LN zGG (.exit 0) (zNb a0) 49 0 (zM9 a0 x0 x1)):=by
 refine zBa.partial_correctness a0 _ ?_
 intro f IH x0 x1
 exact Tr.lpN (F:=zGG) (X:=Int×(List Int))
  (.ite 6 21 (x0<(a0.F_Lev.length:Int))
   (.idx 7 eU a0.F_Lev x0<| .call 11 (zP1 (at' a0.F_Lev x0) a0.F_Scale a0.F_Wide) zAz fun r3=> .idx 12 eB a0.F_Neg x0<| .iteB 2 38 (at' a0.F_Neg x0)
   (.app 10 eI 8 x1 [IntKind.i64.wrap (0-r3.1)]<| .let_ (x1++[IntKind.i64.wrap (0-r3.1)]:List Int) fun y4=> .again 7 (IntKind.i64.wrap (x0+1),y4))
   (.app 6 eI 8 x1 [r3.1]<| .again 7 (IntKind.i64.wrap (x0+1),x1++[r3.1])))
   (.ret 4 x1)) _ fun x r=>IH x.1 x.2 r
theorem zOW (a0:zAc):HS 49 (zGK a0) [.agg [.int .i64 a0.F_Scheme, .int .i64 a0.F_Dim, .lst (List.map (D.int .i64) a0.F_L), .lst (List.map (D.int .i64) a0.F_V), .int .i64 a0.F_Scale, .int .i64 a0.F_Wide, .lst (List.map (D.int .u64) a0.F_Lev), .lst (List.map D.bool a0.F_Neg)]] zAf:=Tr.fn (F:=zGG)
 (.call 10 (zDg a0) zAe fun r1=> .join 2 4 (γ:=Bool) ⟨fun x=>[(16,bB x)],[1],fun _=>[],[.s 15]⟩
  (.iteX 0 12 (r1)
  (.ret 5 true)
  (.ret 5 (a0.F_Scheme !=2)))
  fun j2=> .iteB 1 16 (j2)
  (.ret 8 ([],1))
  (.len 11 eU a0.F_Lev<| .loop 4 ⟨_,_,_,_,_,zMg a0 0 []⟩ fun j6=> .ret 8 (j6,0)))
noncomputable abbrev zGL:Fe:= .of Tryz.prog 50 zAf
def zNx (a0:zAc) (x0:Int) (x1:List Int):St:=⟨[(18,nI x0),(17,nI (a0.F_Neg.length:Int)),(16,lB a0.F_Neg),(4,sI (.h 0) x1),(1, .ptr (.s 15) 0)],[(.s 15,[nI a0.F_Scheme,nI a0.F_Dim,lI a0.F_L,lI a0.F_V,nI a0.F_Scale,nI a0.F_Wide,lU a0.F_Lev,lB a0.F_Neg])]⟩
def zNC (a0:zAc) (x:(List Int)):St:=⟨[(4,sI (.h 1) x)],[]⟩
theorem zMe (a0:zAc):∀(x0:Int) (x1:List Int),Ok (zA9 a0 x0 x1) (LN zGL (.exit 0) (zNC a0) 50 0 (zNx a0 x0 x1)):=by
 refine zA9.partial_correctness a0 _ ?_
 intro f IH x0 x1
 exact Tr.lpN (F:=zGL) (X:=Int×(List Int))
  (.ite 6 19 (x0<(a0.F_Neg.length:Int))
   (.idx 6 eB a0.F_Neg x0<| .iteB 7 22 (at' a0.F_Neg x0)
   (.app 7 eI 8 x1 [IntKind.i64.wrap (0-a0.F_Scale)]<| .let_ (x1++[IntKind.i64.wrap (0-a0.F_Scale)]:List Int) fun y3=> .again 7 (IntKind.i64.wrap (x0+1),y3))
   (.app 6 eI 8 x1 [a0.F_Scale]<| .again 7 (IntKind.i64.wrap (x0+1),x1++[a0.F_Scale])))
   (.ret 4 x1)) _ fun x r=>IH x.1 x.2 r
theorem zPi (a0:zAc):HS 50 (zGN a0) [.agg [.int .i64 a0.F_Scheme, .int .i64 a0.F_Dim, .lst (List.map (D.int .i64) a0.F_L), .lst (List.map (D.int .i64) a0.F_V), .int .i64 a0.F_Scale, .int .i64 a0.F_Wide, .lst (List.map (D.int .u64) a0.F_Lev), .lst (List.map D.bool a0.F_Neg)]] zAf:=Tr.fn (F:=zGL)
 (.call 10 (zDg a0) zAe fun r1=> .join 2 4 (γ:=Bool) ⟨fun x=>[(14,bB x)],[1],fun _=>[],[.s 15]⟩
  (.iteX 0 10 (r1)
  (.ret 5 true)
  (.ret 5 (a0.F_Scheme !=3)))
  fun j2=> .iteB 1 14 (j2)
  (.ret 8 ([],1))
  (.len 11 eB a0.F_Neg<| .loop 4 ⟨_,_,_,_,_,zMe a0 0 []⟩ fun j5=> .ret 8 (j5,0)))
noncomputable abbrev zGI:Fe:= .of Tryz.prog 24 zAf
def zM2 (a0:zAc) (x0:Int) (x1:List Int):St:=⟨[(20,nI x0),(19,nI (a0.F_L.length:Int)),(18,lI a0.F_L),(4,sI (.h 0) x1),(1, .ptr (.s 15) 0)],[(.s 15,[nI a0.F_Scheme,nI a0.F_Dim,lI a0.F_L,lI a0.F_V,nI a0.F_Scale,nI a0.F_Wide,lU a0.F_Lev,lB a0.F_Neg])]⟩
def zNe (a0:zAc) (x:(List Int)):St:=⟨[(4,sI (.h 1) x)],[]⟩
theorem zMp (a0:zAc):∀(x0:Int) (x1:List Int),Ok (zBv a0 x0 x1) (LN zGI (.exit 1) (zNe a0) 24 0 (zM2 a0 x0 x1)):=by
 refine zBv.partial_correctness a0 _ ?_
 intro f IH x0 x1
 exact Tr.lpN (F:=zGI) (X:=Int×(List Int))
  (.ite 6 21 (x0<(a0.F_L.length:Int))
   (.idx 7 eI a0.F_L x0<| .idx 10 eI a0.F_V x0<| .idx 1 eI x1 (at' a0.F_L x0)<| .sto 0 [4] eI x1 (at' a0.F_L x0) (at' a0.F_V x0)<| .let_ (x1.set (Int.toNat (at' a0.F_L x0)) (at' a0.F_V x0):List Int) fun y4=> .again 6 (IntKind.i64.wrap (x0+1),y4))
   (.ret 4 x1)) _ fun x r=>IH x.1 x.2 r
theorem zIC (a0:zAc):HS 24 (zDi a0) [.agg [.int .i64 a0.F_Scheme, .int .i64 a0.F_Dim, .lst (List.map (D.int .i64) a0.F_L), .lst (List.map (D.int .i64) a0.F_V), .int .i64 a0.F_Scale, .int .i64 a0.F_Wide, .lst (List.map (D.int .u64) a0.F_Lev), .lst (List.map D.bool a0.F_Neg)]] zAf:=Tr.fn (F:=zGI)
 (.call 10 (zDg a0) zAe fun r1=> .iteX 2 9 (r1)
  (.ret 8 ([],1))
  (.ite 14 12 (a0.F_Scheme=1)
  (.mk 5 eI 8 0 a0.F_Dim a0.F_Dim<| .let_ (List.replicate (Int.toNat a0.F_Dim) 0:List Int) fun y2=> .len 7 eI a0.F_L<| .loop 4 ⟨_,_,_,_,_,zMp a0 0 y2⟩ fun j6=> .ret 10 (j6,0))
  (.ite 6 35 (a0.F_Scheme=2)
  (.call 4 (zOW a0) zAl fun r7=> .ret 8 (r7.1,r7.2))
  (.ite 6 41 (a0.F_Scheme=3)
  (.call 4 (zPi a0) zAl fun r8=> .ret 8 (r8.1,r8.2))
  (.appN 7 eI 8 a0.F_V<| .ret 4 (a0.F_V,0))))))
noncomputable abbrev zTz:Fe:= .of Tryz.prog 98 zAk
theorem zSg (a0:List Int) (a1:List Int):HS 98 (zEg a0 a1) [.lst (List.map (D.int .i64) a0), .lst (List.map (D.int .i64) a1)] zAk:=Tr.fn (F:=zTz)
 (.len 8 eI a0<| .join 2 4 (γ:=Bool) ⟨fun x=>[(12,bB x)],[0,1],fun _=>[],[]⟩
  (.ite 0 8 ((a0.length:Int)>4096)
  (.ret 5 true)
  (.len 1 eI a1<| .ret 3 (decide ((a1.length:Int)>4096))))
  fun j1=> .iteB 1 12 (j1)
  (.ret 7 3)
  (.len 6 eI a0<| .len 1 eI a1<| .iteN 2 17 ((a0.length:Int)=(a1.length:Int))
  (.ret 7 4)
  (.ret 7 0)))
noncomputable abbrev zTC:Fe:= .of Tryz.prog 108 zAn
theorem zKU (a0:Int) (a1:Int):HS 108 (zDn a0 a1) [.int .i64 a0, .int .i64 a1] zAn:=Tr.fn (F:=zTC)
 (.join 11 5 (γ:=Bool) ⟨fun x=>[(13,bB x)],[0,1],fun _=>[],[]⟩
  (.ite 0 8 (a1<0)
  (.ret 6 (decide (a0>(IntKind.i64.wrap (9223372036854775807+a1)))))
  (.ret 6 false))
  fun j1=> .iteB 1 14 (j1)
  (.ret 18 (0,2))
  (.ite 3 17 (a1>0)
  (.ite 7 23 (a0<(IntKind.i64.wrap ((-9223372036854775808)+a1)))
  (.ret 8 (0,2))
  (.ret 11 (IntKind.i64.wrap (a0-a1),0)))
  (.ret 18 (IntKind.i64.wrap (a0-a1),0))))
noncomputable abbrev zIa:Fe:= .of Tryz.prog 51 zAf
def zPV (a0:List Int) (a1:List Int) (x0:Int) (x1:List Int):St:=⟨[(19,nI x0),(18,nI (a0.length:Int)),(7,sI (.h 0) x1),(0,lI a0),(1,lI a1)],[]⟩
def zQf (a0:List Int) (a1:List Int) (x:(List Int)):St:=⟨[(7,sI (.h 1) x)],[]⟩
theorem zO3 (a0:List Int) (a1:List Int):∀(x0:Int) (x1:List Int),Ok (zB4 a0 a1 x0 x1) (LR zIa (.exit 0) (zQf a0 a1) 51 0 (zPV a0 a1 x0 x1)):=by
 refine zB4.partial_correctness a0 a1 _ ?_
 intro f IH x0 x1
 exact Tr.lpR (F:=zIa) (X:=Int×(List Int))
  (.ite 6 20 (x0<(a0.length:Int))
   (.idx 13 eI a0 x0<| .idx 3 eI a1 x0<| .call 1 (zKU (at' a0 x0) (at' a1 x0)) zAz fun r2=> .iteN 12 35 (r2.2=0)
   (.ret 12 (.inl ([],r2.2)))
   (.app 6 eI 8 x1 [r2.1]<| .again 7 (IntKind.i64.wrap (x0+1),x1++[r2.1])))
   (.ret 4 (.inr x1))) _ fun x r=>IH x.1 x.2 r
theorem zR7 (a0:List Int) (a1:List Int):HS 51 (zGk a0 a1) [.lst (List.map (D.int .i64) a0), .lst (List.map (D.int .i64) a1)] zAf:=Tr.fn (F:=zIa)
 (.call 10 (zSg a0 a1) zAr fun r1=> .iteN 7 15 (r1=0)
  (.ret 9 ([],r1))
  (.len 10 eI a0<| .loopR 4 id ⟨_,_,_,_,_,zO3 a0 a1 0 []⟩ fun j3=> .ret 8 (j3,0)))
noncomputable abbrev zR1:Fe:= .of Tryz.prog 25 zAf
theorem zQq (a0:List Int) (a1:zAc):HS 25 (zFE a0 a1) [.lst (List.map (D.int .i64) a0), .agg [.int .i64 a1.F_Scheme, .int .i64 a1.F_Dim, .lst (List.map (D.int .i64) a1.F_L), .lst (List.map (D.int .i64) a1.F_V), .int .i64 a1.F_Scale, .int .i64 a1.F_Wide, .lst (List.map (D.int .u64) a1.F_Lev), .lst (List.map D.bool a1.F_Neg)]] zAf:=Tr.fn (F:=zR1)
 (.call 9 (zIC a1) zAl fun r1=> .iteN 12 14 (r1.2=0)
  (.ret 9 ([],r1.2))
  (.call 6 (zR7 a0 r1.1) zAl fun r2=> .ret 6 (r2.1,r2.2)))
def zAo (v:(List Int)):PV:=sY (.s 0) v
noncomputable abbrev zL9:Fe:= .of Tryz.prog 118 zAo
theorem zAm:∀v,(zAo v).noLst:=fun _=>(zAC fun _=>trivial)
theorem zGS (a0 : List Int) : HS 118 (zCi a0) [.lst (List.map (D.int .u8) a0)] zAo := Tr.fn (F := zL9)
 (.nilq 8 eY.f a0
  (    if room 1 ([] ++ a0).length then
       some ([] ++ a0)
     else none)
  (    some [])
  (fun h => by (try obtain rfl := List.eq_nil_of_length_eq_zero h); first | rfl | (simp [h]; done))
  (.app 7 eY 1 [] a0 <| .ret 3 ([] ++ a0))
  (.ret 8 []))
def zOO (v:(List Int)):PV:=sY (.s 0) v
def zO0 (v:(List Int)):List (Tg×List PV):=[]
noncomputable abbrev zQ8:Fe:= .of Tryz.prog 119 zOO zO0
def zXW (x0:List Int) (x1:Int):St:=⟨[(0,sY (.h 1) x0),(1,nU x1)],[]⟩
def zYU (x:(List Int)×Int):St:=⟨[(0,sY (.h 2) x.1),(1,nU x.2)],[]⟩
theorem zW4:∀(x0:List Int) (x1:Int),Ok (zDG x0 x1) (LN zQ8 (.exit 0) zYU 119 0 (zXW x0 x1)):=by
 refine zDG.partial_correctness _ ?_
 intro f IH x0 x1
 exact Tr.lpN (F:=zQ8) (X:=(List Int)×Int)
  (.ite 7 6 (x1>127)
   (.app 10 eY 1 x0 [bOr .u8 (IntKind.u8.wrap x1) 128]<| .let_ (x0++[bOr .u8 (IntKind.u8.wrap x1) 128]:List Int) fun y1=> .again 8 (y1,sShr .u64 x1 7))
   (.ret 4 (x0,x1))) _ fun x r=>IH x.1 x.2 r
theorem zTO:∀v,(zOO v).noLst:=fun _=>(zAC fun _=>trivial)
theorem zSF:∀v,zCV (zO0 v):=fun _=>trivial
theorem zUU (a0:List Int) (a1:Int):HG 119 (zKh a0 a1) [sY (.h 0) a0,nU a1] [] zOO zO0:=Tr.fnG (F:=zQ8)
 (.loop 7 ⟨_,_,_,_,_,zW4 a0 a1⟩ fun j3=> .app 7 eY 1 j3.1 [IntKind.u8.wrap j3.2]<| .ret 3 (j3.1++[IntKind.u8.wrap j3.2]))
noncomputable abbrev zRo:Fe:= .of Tryz.prog 62 zAo
def zYb (a1:List Int) (x0:Int) (x1:List Int):St:=⟨[(11,nI x0),(10,nI (a1.length:Int)),(9,lU a1),(0,sY (.h 0) x1)],[]⟩
def zYM (a1:List Int) (x:(List Int)):St:=⟨[(0,sY (.h 1) x)],[]⟩
theorem zWU (a1:List Int):∀(x0:Int) (x1:List Int),Ok (zEu a1 x0 x1) (LN zRo (.exit 0) (zYM a1) 62 0 (zYb a1 x0 x1)):=by
 refine zEu.partial_correctness a1 _ ?_
 intro f IH x0 x1
 exact Tr.lpN (F:=zRo) (X:=Int×(List Int))
  (.ite 6 12 (x0<(a1.length:Int))
   (.idx 6 eU a1 x0<| .callB 6 [(.h 0, .h 0)] (zUU x1 (at' a1 x0)) zTO zSF fun r2=> .again 7 (IntKind.i64.wrap (x0+1),r2))
   (.ret 4 x1)) _ fun x r=>IH x.1 x.2 r
theorem zHu (a0:List Int) (a1:List Int):HS 62 (zFX a0 a1) [.lst (List.map (D.int .u8) a0), .lst (List.map (D.int .u64) a1)] zAo:=Tr.fn (F:=zRo)
 (.call 7 (zGS a0) zAm fun r1=> .len 6 eU a1<| .loop 4 ⟨_,_,_,_,_,zWU a1 0 r1⟩ fun j3=> .ret 7 j3)
noncomputable abbrev zAcg:Fe:= .of Tryz.prog 191 zAQ
theorem zAaY (a0:Int):HS 191 (zMJ a0) [.int .i64 a0] zAQ:=Tr.fn (F:=zAcg)
 (.ret 16 (bXor .u64 (IntKind.u64.wrap (sShl .i64 a0 1)) (IntKind.u64.wrap (sShr .i64 a0 63))))
noncomputable abbrev zLS:Fe:= .of Tryz.prog 157 zAo
def zTN (a1:List Int) (x0:Int) (x1:List Int):St:=⟨[(11,nI x0),(10,nI (a1.length:Int)),(9,lI a1),(0,sY (.h 0) x1)],[]⟩
def zUP (a1:List Int) (x:(List Int)):St:=⟨[(0,sY (.h 1) x)],[]⟩
theorem zSV (a1:List Int):∀(x0:Int) (x1:List Int),Ok (zCF a1 x0 x1) (LN zLS (.exit 0) (zUP a1) 157 0 (zTN a1 x0 x1)):=by
 refine zCF.partial_correctness a1 _ ?_
 intro f IH x0 x1
 exact Tr.lpN (F:=zLS) (X:=Int×(List Int))
  (.ite 6 12 (x0<(a1.length:Int))
   (.idx 6 eI a1 x0<| .call 6 (zAaY (at' a1 x0)) zBH fun r2=> .callB 0 [(.h 0, .h 0)] (zUU x1 r2) zTO zSF fun r3=> .again 7 (IntKind.i64.wrap (x0+1),r3))
   (.ret 4 x1)) _ fun x r=>IH x.1 x.2 r
theorem zWK (a0:List Int) (a1:List Int):HS 157 (zIn a0 a1) [.lst (List.map (D.int .u8) a0), .lst (List.map (D.int .i64) a1)] zAo:=Tr.fn (F:=zLS)
 (.call 7 (zGS a0) zAm fun r1=> .len 6 eI a1<| .loop 4 ⟨_,_,_,_,_,zSV a1 0 r1⟩ fun j4=> .ret 7 j4)
def zG1 (v:(List Int)×Int):PV:= .tup []
def zG6 (v:(List Int)×Int):List (Tg×List PV):=[(.up (.s 0),[sY (.s 0) v.1,nI v.2])]
noncomputable abbrev zMh:Fe:= .of Tryz.prog 109 zG1 zG6
theorem zG9 (a0:zAw) (a1:zAc):HG 109 (zCB a0 a1) [.ptr (.up (.s 0)) 0, .d (.agg [.int .i64 a1.F_Scheme, .int .i64 a1.F_Dim, .lst (List.map (D.int .i64) a1.F_L), .lst (List.map (D.int .i64) a1.F_V), .int .i64 a1.F_Scale, .int .i64 a1.F_Wide, .lst (List.map (D.int .u64) a1.F_Lev), .lst (List.map D.bool a1.F_Neg)])] [(.up (.s 0),[lY a0.F_b,nI a0.F_e])] zG1 zG6:=Tr.fnG (F:=zMh)
 (.call 12 (zWK a0.F_b a1.F_V) zAm fun r1=> .hold 1 []<| .ret 5 (r1,a0.F_e))
def zAF (v:(List Int)×Int):PV:= .tup [sY (.s 0) v.1,nI v.2]
noncomputable abbrev zNq:Fe:= .of Tryz.prog 159 zAF
def zVg (a1:List Int) (x0:Int) (x1:Int) (x2:List Int):St:=⟨[(29,nI x0),(28,nI (a1.length:Int)),(27,lI a1),(8,nI x1),(7,sU (.h 0) x2)],[]⟩
def zVR (a1:List Int) (x:(List Int)):St:=⟨[(7,sU (.h 1) x)],[]⟩
theorem zUa (a1:List Int):∀(x0:Int) (x1:Int) (x2:List Int),Ok (zDo a1 x0 x1 x2) (LN zNq (.exit 0) (zVR a1) 159 0 (zVg a1 x0 x1 x2)):=by
 refine zDo.partial_correctness a1 _ ?_
 intro f IH x0 x1 x2
 exact Tr.lpN (F:=zNq) (X:=Int×Int×(List Int))
  (.ite 6 30 (x0<(a1.length:Int))
   (.idx 6 eI a1 x0<| .app 12 eU 8 x2 [IntKind.u64.wrap (IntKind.i64.wrap ((IntKind.i64.wrap ((at' a1 x0)-x1))-1))]<| .let_ (x2++[IntKind.u64.wrap (IntKind.i64.wrap ((IntKind.i64.wrap ((at' a1 x0)-x1))-1))]:List Int) fun y6=> .again 11 (IntKind.i64.wrap (x0+1),at' a1 x0,y6))
   (.ret 4 x2)) _ fun x r=>IH x.1 x.2.1 x.2.2 r
theorem zBG:∀v,(zAF v).noLst:=fun _=>⟨(zAC fun _=>trivial),trivial,trivial⟩
theorem zYL (a0:Int) (a1:List Int):HS 159 (zJH a0 a1) [.int .i64 a0, .lst (List.map (D.int .i64) a1)] zAF:=Tr.fn (F:=zNq)
 (.call 10 (zJd a0 a1) zAr fun r1=> .iteN 7 15 (r1=0)
  (.ret 9 ([],r1))
  (.len 5 eI a1<| .mk 1 eU 8 0 0 (IntKind.i64.wrap ((a1.length:Int)+1))<| .let_ (List.replicate (Int.toNat 0) 0:List Int) fun y2=> .len 6 eI a1<| .app 2 eU 8 y2 [IntKind.u64.wrap (a1.length:Int)]<| .let_ (y2++[IntKind.u64.wrap (a1.length:Int)]:List Int) fun y4=> .len 10 eI a1<| .loop 4 ⟨_,_,_,_,_,zUa a1 0 (-1) y4⟩ fun j8=> .call 4 (zHu [] j8) zAm fun r9=> .ret 4 (r9,0)))
def zEp (v:(List Int)×Int):PV:= .tup []
def zEr (v:(List Int)×Int):List (Tg×List PV):=[(.up (.s 0),[sY (.s 0) v.1,nI v.2])]
noncomputable abbrev zMf:Fe:= .of Tryz.prog 158 zEp zEr
theorem zDb:∀v,(zEp v).noLst:=fun _=>trivial
theorem zC0:∀v,zCV (zEr v):=fun _=>⟨⟨(zAC fun _=>trivial),trivial,trivial⟩,trivial⟩
theorem zC5 (a0:zAw) (a1:List Int) (a2:Int):HG 158 (zBp a0 a1 a2) [.ptr (.up (.s 0)) 0,lY a1,nI a2] [(.up (.s 0),[sY (.h 0) a0.F_b,nI a0.F_e])] zEp zEr:=Tr.fnG (F:=zMf)
 (.app 8 eY 1 a0.F_b a1<| .iteN 9 16 (a2=0)
  (.ret 8 (a0.F_b++a1,a2))
  (.ret 2 (a0.F_b++a1,a0.F_e)))
def zFh (v:(List Int)×Int):PV:= .tup []
def zFd (v:(List Int)×Int):List (Tg×List PV):=[(.up (.s 0),[sY (.s 0) v.1,nI v.2])]
noncomputable abbrev zNR:Fe:= .of Tryz.prog 110 zFh zFd
theorem zM4:∀v,(zFh v).noLst:=fun _=>trivial
theorem zMu:∀v,zCV (zFd v):=fun _=>⟨⟨(zAC fun _=>trivial),trivial,trivial⟩,trivial⟩
theorem zNi (a0:zAw) (a1:zAc):HG 110 (zFI a0 a1) [.ptr (.up (.s 0)) 0, .d (.agg [.int .i64 a1.F_Scheme, .int .i64 a1.F_Dim, .lst (List.map (D.int .i64) a1.F_L), .lst (List.map (D.int .i64) a1.F_V), .int .i64 a1.F_Scale, .int .i64 a1.F_Wide, .lst (List.map (D.int .u64) a1.F_Lev), .lst (List.map D.bool a1.F_Neg)])] [(.up (.s 0),[sY (.h 0) a0.F_b,nI a0.F_e])] zFh zFd:=Tr.fnG (F:=zNR)
 (.call 11 (zYL a1.F_Dim a1.F_L) zBG fun r1=> .callB 2 [(.up (.s 0), .up (.s 0)),(.h 0, .h 0)] (zC5 a0 r1.1 r1.2) zDb zC0 fun r2=> .callG 4 [(.up (.s 0), .up (.s 0))] [.s 1728] (zG9 (⟨r2.1,r2.2⟩:zAw) a1) fun r3=> .ret 1 (r3.1,r3.2))
def zNG (v:Int):PV:= .d (.clo (.func 196) [] [.cp [.int .i64 v] 0])
noncomputable abbrev zWR:Fe:= .of Tryz.prog 170 zNG
theorem zVS (a0:Int):HS 170 (zKz a0) [.int .i64 a0] zNG:=Tr.fn (F:=zWR)
 (.box 11 (.s 15) [.int .i64 a0]<| .ret 0 a0)
noncomputable abbrev zWP:Fe:= .of Tryz.prog 126 zAn
theorem zOt (a0:Int) (a1:Int):HS 126 (zGw a0 a1) [.int .i64 a0, .int .i64 a1] zAn:=Tr.fn (F:=zWP)
 (.join 12 3 (γ:=Bool) ⟨fun x=>[(12,bB x)],[0,1],fun _=>[],[]⟩
  (.ite 0 9 (a0<0)
  (.ret 4 true)
  (.ret 4 (decide (a0>32))))
  fun j1=> .join 1 3 (γ:=Bool) ⟨fun x=>[(16,bB x)],[0,1],fun _=>[],[]⟩
  (.iteB 0 13 (j1)
  (.ret 4 true)
  (.ret 4 (decide (a1<0))))
  fun j2=> .iteB 2 6 (j2)
  (.ret 9 (0,1))
  (.ite 7 17 (a1>4096)
  (.ret 9 (0,3))
  (.ret 14 (sShr .i64 (IntKind.i64.wrap ((IntKind.i64.wrap (a0*a1))+7)) 3,0))))
noncomputable abbrev zTE:Fe:= .of Tryz.prog 206 zAd
theorem zSQ (a0:Int) (a1:Int):HS 206 (zIz a0 a1) [.int .u64 a0, .cp [.int .i64 a1] 0] zAd:=Tr.fn (F:=zTE)
 (.rd 8 (0≤a1) (nU (sShr .u64 a0 a1))<| .ret 4 ((sShr .u64 a0 a1) !=0))
noncomputable abbrev zBy:Fe:= .of Tryz.prog 189 zAk
def zEA (a0:List Int) (a1:Int) (x0:Int):St:=⟨[(8,nI x0),(7,nI (a0.length:Int)),(0,lU a0),(1, .d (.clo (.func 206) [] [.cp [.int .i64 a1] 0]))],[]⟩
def zEC (a0:List Int) (a1:Int) (x:Unit):St:=⟨[],[]⟩
theorem zEl (a0:List Int) (a1:Int):∀(x0:Int),Ok (zAt a0 a1 x0) (LR zBy (.exit 0) (zEC a0 a1) 189 0 (zEA a0 a1 x0)):=by
 refine zAt.partial_correctness a0 a1 _ ?_
 intro f IH x0
 exact Tr.lpR (F:=zBy) (X:=Int)
  (.ite 6 9 (x0<(a0.length:Int))
   (.idx 14 eU a0 x0<| .call 1 (zSQ (at' a0 x0) a1) zAe fun r1=> .iteB 1 16 (r1)
   (.ret 10 (.inl x0))
   (.again 7 (IntKind.i64.wrap (x0+1))))
   (.ret 4 (.inr ()))) _ fun x r=>IH x r
theorem zEY (a0:List Int) (a1:Int):HS 189 (zBx a0 a1) [.lst (List.map (D.int .u64) a0), .clo (.func 206) [] [.cp [.int .i64 a1] 0]] zAk:=Tr.fn (F:=zBy)
 (.len 8 eU a0<| .loopR 4 id ⟨_,_,_,_,_,zEl a0 a1 0⟩ fun j2=> .ret 6 (-1))
noncomputable abbrev zEB:Fe:= .of Tryz.prog 152 zAd
theorem zCn (a0:List Int) (a1:Int):HS 152 (zAG a0 a1) [.lst (List.map (D.int .u64) a0), .clo (.func 206) [] [.cp [.int .i64 a1] 0]] zAd:=Tr.fn (F:=zEB)
 (.call 8 (zEY a0 a1) zAr fun r1=> .ret 4 (decide (r1≥0)))
noncomputable abbrev zRZ:Fe:= .of Tryz.prog 196 zAk
theorem zQ5 (a0:Int) (a1:Int) (a2:Int):HS 196 (zFF a0 a1 a2) [.int .i64 a0, .int .i64 a1, .cp [.int .i64 a2] 0] zAk:=Tr.fn (F:=zRZ)
 (.ret 14 (IntKind.i64.wrap ((IntKind.i64.wrap (a1*a2))+a0)))
noncomputable abbrev zCc:Fe:= .of Tryz.prog 192 zAF
def zI8 (a0:Int) (a1:List Int) (a2:Int) (x0:Int) (x0_:Int) (x1_:List Int):St:=⟨[(38,nI x0_),(37,nI a0),(12,nU (at' a1 x0)),(11,nI x0),(32,nI x0),(31,nI (a1.length:Int)),(30,lU a1),(10,sY (.h 1) x1_),(3, .ptr (.s 15) 0),(2, .d (.clo (.func 196) [] [.cp [.int .i64 a2] 0]))],[(.s 15,[nI a0])]⟩
def zJz (a0:Int) (a1:List Int) (a2:Int) (x0:Int) (x:(List Int)):St:=⟨[(32,nI x0),(31,nI (a1.length:Int)),(30,lU a1),(10,sY (.h 2) x),(3, .ptr (.s 15) 0),(2, .d (.clo (.func 196) [] [.cp [.int .i64 a2] 0]))],[(.s 15,[nI a0])]⟩
theorem zIQ (a0:Int) (a1:List Int) (a2:Int) (x0:Int):∀(x0_:Int) (x1_:List Int),Ok (zAY a0 a1 a2 x0 x0_ x1_) (LN zCc (.exit 2) (zJz a0 a1 a2 x0) 192 1 (zI8 a0 a1 a2 x0 x0_ x1_)):=by
 refine zAY.partial_correctness a0 a1 a2 x0 _ ?_
 intro f IH x0_ x1_
 exact Tr.lpN (F:=zCc) (X:=Int×(List Int))
  (.ite 6 39 (x0_<a0)
   (.call 14 (zQ5 x0 x0_ a2) zAr fun r5=> .idx 6 eY x1_ (sShr .i64 r5 3)<| .rd 6 (0≤IntKind.i64.wrap ((IntKind.i64.wrap (a0-1))-x0_)) (nU (sShr .u64 (at' a1 x0) (IntKind.i64.wrap ((IntKind.i64.wrap (a0-1))-x0_))))<| .rd 5 (0≤IntKind.i64.wrap (7-(bAnd .i64 r5 7))) (nY (sShl .u8 (IntKind.u8.wrap (bAnd .u64 (sShr .u64 (at' a1 x0) (IntKind.i64.wrap ((IntKind.i64.wrap (a0-1))-x0_))) 1)) (IntKind.i64.wrap (7-(bAnd .i64 r5 7)))))<| .idx 1 eY x1_ (sShr .i64 r5 3)<| .sto 0 [45,10] eY x1_ (sShr .i64 r5 3) (bOr .u8 (at' x1_ (sShr .i64 r5 3)) (sShl .u8 (IntKind.u8.wrap (bAnd .u64 (sShr .u64 (at' a1 x0) (IntKind.i64.wrap ((IntKind.i64.wrap (a0-1))-x0_))) 1)) (IntKind.i64.wrap (7-(bAnd .i64 r5 7)))))<| .let_ (x1_.set (Int.toNat (sShr .i64 r5 3)) (bOr .u8 (at' x1_ (sShr .i64 r5 3)) (sShl .u8 (IntKind.u8.wrap (bAnd .u64 (sShr .u64 (at' a1 x0) (IntKind.i64.wrap ((IntKind.i64.wrap (a0-1))-x0_))) 1)) (IntKind.i64.wrap (7-(bAnd .i64 r5 7))))):List Int) fun y6=> .again 6 (IntKind.i64.wrap (x0_+1),y6))
   (.ret 4 x1_)) _ fun x r=>IH x.1 x.2 r
def zJc (a0:Int) (a1:List Int) (a2:Int) (x0:Int) (x1:List Int):St:=⟨[(32,nI x0),(31,nI (a1.length:Int)),(30,lU a1),(10,sY (.h 0) x1),(3, .ptr (.s 15) 0),(2, .d (.clo (.func 196) [] [.cp [.int .i64 a2] 0]))],[(.s 15,[nI a0])]⟩
def zJu (a0:Int) (a1:List Int) (a2:Int) (x:(List Int)):St:=⟨[(10,sY (.h 1) x)],[]⟩
theorem zIP (a0:Int) (a1:List Int) (a2:Int):∀(x0:Int) (x1:List Int),Ok (zAZ a0 a1 a2 x0 x1) (LN zCc (.exit 0) (zJu a0 a1 a2) 192 0 (zJc a0 a1 a2 x0 x1)):=by
 refine zAZ.partial_correctness a0 a1 a2 _ ?_
 intro f IH x0 x1
 exact Tr.lpN (F:=zCc) (X:=Int×(List Int))
  (.ite 6 33 (x0<(a1.length:Int))
   (.idx 7 eU a1 x0<| .loop 11 ⟨_,_,_,_,_,zIQ a0 a1 a2 x0 0 x1⟩ fun j8=> .again 6 (IntKind.i64.wrap (x0+1),j8))
   (.ret 4 x1)) _ fun x r=>IH x.1 x.2 r
theorem zKA (a0:Int) (a1:List Int) (a2:Int):HS 192 (zCW a0 a1 a2) [.int .i64 a0, .lst (List.map (D.int .u64) a1), .clo (.func 196) [] [.cp [.int .i64 a2] 0]] zAF:=Tr.fn (F:=zCc)
 (.len 10 eU a1<| .call 0 (zOt a0 (a1.length:Int)) zAz fun r1=> .iteN 12 23 (r1.2=0)
  (.ret 9 ([],r1.2))
  (.call 7 (zCn a1 a0) zAe fun r2=> .iteB 1 27 (r2)
  (.ret 8 ([],1))
  (.mk 5 eY 1 0 r1.1 r1.1<| .let_ (List.replicate (Int.toNat r1.1) 0:List Int) fun y3=> .len 6 eU a1<| .loop 4 ⟨_,_,_,_,_,zIP a0 a1 a2 0 y3⟩ fun j9=> .ret 8 (j9,0))))
noncomputable abbrev zW3:Fe:= .of Tryz.prog 160 zAF
theorem zVT (a0:Int) (a1:List Int):HS 160 (zKQ a0 a1) [.int .i64 a0, .lst (List.map (D.int .u64) a1)] zAF:=Tr.fn (F:=zW3)
 (.len 10 eU a1<| .callZ 0 (zVS (a1.length:Int)) fun r1=> .call 0 (zKA a0 a1 r1) zBG fun r2=> .ret 6 (r2.1,r2.2))
def zPL (v:Int):PV:= .d (.clo (.func 222) [] [.cp [.int .i64 v] 0])
noncomputable abbrev zXY:Fe:= .of Tryz.prog 207 zPL
theorem zWW (a0:Int):HS 207 (zLM a0) [.int .i64 a0] zPL:=Tr.fn (F:=zXY)
 (.box 11 (.s 15) [.int .i64 a0]<| .ret 0 a0)
noncomputable abbrev zTq:Fe:= .of Tryz.prog 222 zAk
theorem zSb (a0:Int) (a1:Int) (a2:Int):HS 222 (zF3 a0 a1 a2) [.int .i64 a0, .int .i64 a1, .cp [.int .i64 a2] 0] zAk:=Tr.fn (F:=zTq)
 (.ret 14 (IntKind.i64.wrap ((IntKind.i64.wrap (a0*a2))+a1)))
noncomputable abbrev zCm:Fe:= .of Tryz.prog 192 zAF
def zJ3 (a0:Int) (a1:List Int) (a2:Int) (x0:Int) (x0_:Int) (x1_:List Int):St:=⟨[(38,nI x0_),(37,nI a0),(12,nU (at' a1 x0)),(11,nI x0),(32,nI x0),(31,nI (a1.length:Int)),(30,lU a1),(10,sY (.h 1) x1_),(3, .ptr (.s 15) 0),(2, .d (.clo (.func 222) [] [.cp [.int .i64 a2] 0]))],[(.s 15,[nI a0])]⟩
def zJ1 (a0:Int) (a1:List Int) (a2:Int) (x0:Int) (x:(List Int)):St:=⟨[(32,nI x0),(31,nI (a1.length:Int)),(30,lU a1),(10,sY (.h 2) x),(3, .ptr (.s 15) 0),(2, .d (.clo (.func 222) [] [.cp [.int .i64 a2] 0]))],[(.s 15,[nI a0])]⟩
theorem zJk (a0:Int) (a1:List Int) (a2:Int) (x0:Int):∀(x0_:Int) (x1_:List Int),Ok (zA4 a0 a1 a2 x0 x0_ x1_) (LN zCm (.exit 2) (zJ1 a0 a1 a2 x0) 192 1 (zJ3 a0 a1 a2 x0 x0_ x1_)):=by
 refine zA4.partial_correctness a0 a1 a2 x0 _ ?_
 intro f IH x0_ x1_
 exact Tr.lpN (F:=zCm) (X:=Int×(List Int))
  (.ite 6 39 (x0_<a0)
   (.call 14 (zSb x0 x0_ a2) zAr fun r5=> .idx 6 eY x1_ (sShr .i64 r5 3)<| .rd 6 (0≤IntKind.i64.wrap ((IntKind.i64.wrap (a0-1))-x0_)) (nU (sShr .u64 (at' a1 x0) (IntKind.i64.wrap ((IntKind.i64.wrap (a0-1))-x0_))))<| .rd 5 (0≤IntKind.i64.wrap (7-(bAnd .i64 r5 7))) (nY (sShl .u8 (IntKind.u8.wrap (bAnd .u64 (sShr .u64 (at' a1 x0) (IntKind.i64.wrap ((IntKind.i64.wrap (a0-1))-x0_))) 1)) (IntKind.i64.wrap (7-(bAnd .i64 r5 7)))))<| .idx 1 eY x1_ (sShr .i64 r5 3)<| .sto 0 [45,10] eY x1_ (sShr .i64 r5 3) (bOr .u8 (at' x1_ (sShr .i64 r5 3)) (sShl .u8 (IntKind.u8.wrap (bAnd .u64 (sShr .u64 (at' a1 x0) (IntKind.i64.wrap ((IntKind.i64.wrap (a0-1))-x0_))) 1)) (IntKind.i64.wrap (7-(bAnd .i64 r5 7)))))<| .let_ (x1_.set (Int.toNat (sShr .i64 r5 3)) (bOr .u8 (at' x1_ (sShr .i64 r5 3)) (sShl .u8 (IntKind.u8.wrap (bAnd .u64 (sShr .u64 (at' a1 x0) (IntKind.i64.wrap ((IntKind.i64.wrap (a0-1))-x0_))) 1)) (IntKind.i64.wrap (7-(bAnd .i64 r5 7))))):List Int) fun y6=> .again 6 (IntKind.i64.wrap (x0_+1),y6))
   (.ret 4 x1_)) _ fun x r=>IH x.1 x.2 r
def zKb (a0:Int) (a1:List Int) (a2:Int) (x0:Int) (x1:List Int):St:=⟨[(32,nI x0),(31,nI (a1.length:Int)),(30,lU a1),(10,sY (.h 0) x1),(3, .ptr (.s 15) 0),(2, .d (.clo (.func 222) [] [.cp [.int .i64 a2] 0]))],[(.s 15,[nI a0])]⟩
def zKq (a0:Int) (a1:List Int) (a2:Int) (x:(List Int)):St:=⟨[(10,sY (.h 1) x)],[]⟩
theorem zJe (a0:Int) (a1:List Int) (a2:Int):∀(x0:Int) (x1:List Int),Ok (zA3 a0 a1 a2 x0 x1) (LN zCm (.exit 0) (zKq a0 a1 a2) 192 0 (zKb a0 a1 a2 x0 x1)):=by
 refine zA3.partial_correctness a0 a1 a2 _ ?_
 intro f IH x0 x1
 exact Tr.lpN (F:=zCm) (X:=Int×(List Int))
  (.ite 6 33 (x0<(a1.length:Int))
   (.idx 7 eU a1 x0<| .loop 11 ⟨_,_,_,_,_,zJk a0 a1 a2 x0 0 x1⟩ fun j8=> .again 6 (IntKind.i64.wrap (x0+1),j8))
   (.ret 4 x1)) _ fun x r=>IH x.1 x.2 r
theorem zLn (a0:Int) (a1:List Int) (a2:Int):HS 192 (zC8 a0 a1 a2) [.int .i64 a0, .lst (List.map (D.int .u64) a1), .clo (.func 222) [] [.cp [.int .i64 a2] 0]] zAF:=Tr.fn (F:=zCm)
 (.len 10 eU a1<| .call 0 (zOt a0 (a1.length:Int)) zAz fun r1=> .iteN 12 23 (r1.2=0)
  (.ret 9 ([],r1.2))
  (.call 7 (zCn a1 a0) zAe fun r2=> .iteB 1 27 (r2)
  (.ret 8 ([],1))
  (.mk 5 eY 1 0 r1.1 r1.1<| .let_ (List.replicate (Int.toNat r1.1) 0:List Int) fun y3=> .len 6 eU a1<| .loop 4 ⟨_,_,_,_,_,zJe a0 a1 a2 0 y3⟩ fun j9=> .ret 8 (j9,0))))
noncomputable abbrev zXX:Fe:= .of Tryz.prog 193 zAF
theorem zWV (a0:Int) (a1:List Int):HS 193 (zLK a0 a1) [.int .i64 a0, .lst (List.map (D.int .u64) a1)] zAF:=Tr.fn (F:=zXX)
 (.callZ 10 (zWW a0) fun r1=> .call 0 (zLn a0 a1 r1) zBG fun r2=> .ret 6 (r2.1,r2.2))
noncomputable abbrev zKM:Fe:= .of Tryz.prog 161 zAF
def zTh (a0:List Bool) (x0:Int) (x1:List Int):St:=⟨[(12,nI x0),(11,nI (a0.length:Int)),(10,lB a0),(4,sU (.h 0) x1)],[]⟩
def zTa (a0:List Bool) (x:(List Int)):St:=⟨[(4,sU (.h 1) x)],[]⟩
theorem zRS (a0:List Bool):∀(x0:Int) (x1:List Int),Ok (zCt a0 x0 x1) (LN zKM (.exit 0) (zTa a0) 161 0 (zTh a0 x0 x1)):=by
 refine zCt.partial_correctness a0 _ ?_
 intro f IH x0 x1
 exact Tr.lpN (F:=zKM) (X:=Int×(List Int))
  (.ite 6 13 (x0<(a0.length:Int))
   (.idx 7 eB a0 x0<| .iteB 8 17 (at' a0 x0)
   (.idx 4 eU x1 x0<| .sto 0 [4] eU x1 x0 1<| .again 6 (IntKind.i64.wrap (x0+1),x1.set (Int.toNat x0) 1))
   (.again 7 (IntKind.i64.wrap (x0+1),x1)))
   (.ret 4 x1)) _ fun x r=>IH x.1 x.2 r
theorem zOG (a0:List Bool):HS 161 (zGx a0) [.lst (List.map D.bool a0)] zAF:=Tr.fn (F:=zKM)
 (.len 8 eB a0<| .mk 0 eU 8 0 (a0.length:Int) (a0.length:Int)<| .let_ (List.replicate (Int.toNat (a0.length:Int)) 0:List Int) fun y1=> .len 6 eB a0<| .loop 4 ⟨_,_,_,_,_,zRS a0 0 y1⟩ fun j3=> .call 4 (zWV 1 j3) zBG fun r4=> .ret 6 (r4.1,r4.2))
def zHk (v:(List Int)×Int):PV:= .tup []
def zHb (v:(List Int)×Int):List (Tg×List PV):=[(.up (.s 0),[sY (.s 0) v.1,nI v.2])]
noncomputable abbrev zMr:Fe:= .of Tryz.prog 111 zHk zHb
theorem zL1 (a0:zAw) (a1:zAc):HG 111 (zEH a0 a1) [.ptr (.up (.s 0)) 0, .d (.agg [.int .i64 a1.F_Scheme, .int .i64 a1.F_Dim, .lst (List.map (D.int .i64) a1.F_L), .lst (List.map (D.int .i64) a1.F_V), .int .i64 a1.F_Scale, .int .i64 a1.F_Wide, .lst (List.map (D.int .u64) a1.F_Lev), .lst (List.map D.bool a1.F_Neg)])] [(.up (.s 0),[lY a0.F_b,nI a0.F_e])] zHk zHb:=Tr.fnG (F:=zMr)
 (.join 5 0 (γ:=(List Int)) ⟨fun _=>[],[3,0],fun x=>[(.up (.s 0),[sY (.h 0) x,nI a0.F_e])],[.s 15]⟩
  (.draws3 0 (.hold 13 []<| .call 0 (zHu a0.F_b [IntKind.u64.wrap a1.F_Scale]) zAm fun r1=> .hold 1 []<| .hold 2 []<| .app 0 eY 1 r1 [IntKind.u8.wrap a1.F_Wide]<| .hold 1 []<| .ret 5 (r1++[IntKind.u8.wrap a1.F_Wide])) (.hold 13 []<| .hold 2 []<| .call 0 (zHu a0.F_b [IntKind.u64.wrap a1.F_Scale]) zAm fun r1=> .hold 1 []<| .app 0 eY 1 r1 [IntKind.u8.wrap a1.F_Wide]<| .hold 1 []<| .ret 5 (r1++[IntKind.u8.wrap a1.F_Wide])) (.hold 13 []<| .hold 2 []<| .call 0 (zHu a0.F_b [IntKind.u64.wrap a1.F_Scale]) zAm fun r1=> .hold 1 []<| .app 0 eY 1 r1 [IntKind.u8.wrap a1.F_Wide]<| .hold 1 []<| .ret 5 (r1++[IntKind.u8.wrap a1.F_Wide])))
  fun j2=> .call 7 (zVT a1.F_Wide a1.F_Lev) zBG fun r3=> .callB 2 [(.up (.s 0), .up (.s 0)),(.h 0, .h 0)] (zC5 (⟨j2,a0.F_e⟩:zAw) r3.1 r3.2) zDb zC0 fun r4=> .call 5 (zOG a1.F_Neg) zBG fun r5=> .callB 2 [(.up (.s 0), .up (.s 0)),(.h 0, .s 3328)] (zC5 (⟨r4.1,r4.2⟩:zAw) r5.1 r5.2) zDb zC0 fun r6=> .ret 1 (r6.1,r6.2))
def zHz (v:(List Int)×Int):PV:= .tup []
def zHx (v:(List Int)×Int):List (Tg×List PV):=[(.up (.s 0),[sY (.s 0) v.1,nI v.2])]
noncomputable abbrev zNk:Fe:= .of Tryz.prog 112 zHz zHx
theorem zMd (a0:zAw) (a1:zAc):HG 112 (zFq a0 a1) [.ptr (.up (.s 0)) 0, .d (.agg [.int .i64 a1.F_Scheme, .int .i64 a1.F_Dim, .lst (List.map (D.int .i64) a1.F_L), .lst (List.map (D.int .i64) a1.F_V), .int .i64 a1.F_Scale, .int .i64 a1.F_Wide, .lst (List.map (D.int .u64) a1.F_Lev), .lst (List.map D.bool a1.F_Neg)])] [(.up (.s 0),[lY a0.F_b,nI a0.F_e])] zHz zHx:=Tr.fnG (F:=zNk)
 (.hold 16 []<| .call 0 (zHu a0.F_b [IntKind.u64.wrap a1.F_Scale]) zAm fun r1=> .hold 1 []<| .call 9 (zOG a1.F_Neg) zBG fun r2=> .callB 2 [(.up (.s 0), .up (.s 0)),(.h 0, .s 1744)] (zC5 (⟨r1,a0.F_e⟩:zAw) r2.1 r2.2) zDb zC0 fun r3=> .ret 1 (r3.1,r3.2))
noncomputable abbrev zXu:Fe:= .of Tryz.prog 52 zAF
theorem zWJ (a0:zAc):HS 52 (zIs a0) [.agg [.int .i64 a0.F_Scheme, .int .i64 a0.F_Dim, .lst (List.map (D.int .i64) a0.F_L), .lst (List.map (D.int .i64) a0.F_V), .int .i64 a0.F_Scale, .int .i64 a0.F_Wide, .lst (List.map (D.int .u64) a0.F_Lev), .lst (List.map D.bool a0.F_Neg)]] zAF:=Tr.fn (F:=zXu)
 (.call 10 (zEi a0) zAe fun r1=> .iteX 2 8 (r1)
  (.ret 8 ([],1))
  (.call 12 (zHu [IntKind.u8.wrap a0.F_Scheme] [IntKind.u64.wrap a0.F_Dim]) zAm fun r2=> .join 27 3 (γ:=(List Int)×Int) ⟨fun _=>[],[4],fun x=>[(.s 4975,[sY (.h 0) x.1,nI x.2])],[]⟩
  (.look 0<| .lk a0.F_Scheme 0
  (.callG 1 [(.up (.s 0), .s 4975)] [.s 4928] (zG9 (⟨r2,0⟩:zAw) a0) fun r3=> .ret 1 (r3.1,r3.2))
  (.lk a0.F_Scheme 1
  (.callB 1 [(.up (.s 0), .s 4975),(.h 0, .s 4928)] (zNi (⟨r2,0⟩:zAw) a0) zM4 zMu fun r4=> .ret 1 (r4.1,r4.2))
  (.lk a0.F_Scheme 2
  (.callG 1 [(.up (.s 0), .s 4975)] [.s 4928] (zL1 (⟨r2,0⟩:zAw) a0) fun r5=> .ret 1 (r5.1,r5.2))
  (.lk a0.F_Scheme 3
  (.callG 1 [(.up (.s 0), .s 4975)] [.s 4928] (zMd (⟨r2,0⟩:zAw) a0) fun r6=> .ret 1 (r6.1,r6.2))
  (.lk0<| .halt)))))
  fun j7=> .iteN 10 40 (j7.2=0)
  (.ret 12 ([],j7.2))
  (.ret 12 (j7.1,0))))
noncomputable abbrev zW2:Fe:= .of Tryz.prog 26 zAn
theorem zVB (a0:zAc):HS 26 (zHY a0) [.agg [.int .i64 a0.F_Scheme, .int .i64 a0.F_Dim, .lst (List.map (D.int .i64) a0.F_L), .lst (List.map (D.int .i64) a0.F_V), .int .i64 a0.F_Scale, .int .i64 a0.F_Wide, .lst (List.map (D.int .u64) a0.F_Lev), .lst (List.map D.bool a0.F_Neg)]] zAn:=Tr.fn (F:=zW2)
 (.call 9 (zWJ a0) zBG fun r1=> .len 9 eY r1.1<| .ret 5 ((r1.1.length:Int),r1.2))
noncomputable abbrev zKT:Fe:= .of Tryz.prog 162 zAo
noncomputable def zRX (a0:Int) (f:Int→Option (List Int)) (IH:∀(a0:Int) v,f a0=some v→EvF Tryz.prog 162 [.int .u64 a0] (zAo v)):Tr zKT Empty (List Int):=
 .ite 10 4 (a0<128)
 (.ret 10 [IntKind.u8.wrap a0])
 (.call 11 (s:=⟨162,f (IntKind.u64.wrap (Int.tdiv a0 128)),[.int .u64 (IntKind.u64.wrap (Int.tdiv a0 128))],zAo⟩) (IH (IntKind.u64.wrap (Int.tdiv a0 128))) zAm fun r1=> .app 0 eY 1 [IntKind.u8.wrap ((IntKind.u8.wrap (Int.tmod a0 128))+128)] r1<| .ret 3 ([IntKind.u8.wrap ((IntKind.u8.wrap (Int.tmod a0 128))+128)]++r1))
theorem zKj (a0:Int):HS 162 (zBY a0) [.int .u64 a0] zAo:=by
 refine zBY.partial_correctness (fun a0 v=>EvF Tryz.prog 162 [.int .u64 a0] (zAo v)) ?_ a0
 clear a0
 intro f IH a0
 exact Tr.fnB (F:=zKT) (zRX a0 f IH)
noncomputable abbrev zH5:Fe:= .of Tryz.prog 113 zAo
def zQg (a1:List Int) (x0:Int) (x1:List Int):St:=⟨[(12,nI x0),(11,nI (a1.length:Int)),(10,lU a1),(5,sY (.h 0) x1)],[]⟩
def zQb (a1:List Int) (x:(List Int)):St:=⟨[(5,sY (.h 1) x)],[]⟩
theorem zOP (a1:List Int):∀(x0:Int) (x1:List Int),Ok (zB0 a1 x0 x1) (LN zH5 (.exit 0) (zQb a1) 113 0 (zQg a1 x0 x1)):=by
 refine zB0.partial_correctness a1 _ ?_
 intro f IH x0 x1
 exact Tr.lpN (F:=zH5) (X:=Int×(List Int))
  (.ite 6 13 (x0<(a1.length:Int))
   (.idx 6 eU a1 x0<| .call 6 (zKj (at' a1 x0)) zAm fun r1=> .app 0 eY 1 x1 r1<| .again 7 (IntKind.i64.wrap (x0+1),x1++r1))
   (.ret 4 x1)) _ fun x r=>IH x.1 x.2 r
theorem zFw (a0:List Int) (a1:List Int):HS 113 (zCg a0 a1) [.lst (List.map (D.int .u8) a0), .lst (List.map (D.int .u64) a1)] zAo:=Tr.fn (F:=zH5)
 (.appN 7 eY 1 a0<| .len 6 eU a1<| .loop 4 ⟨_,_,_,_,_,zOP a1 0 a0⟩ fun j2=> .ret 7 j2)
noncomputable abbrev zST:Fe:= .of Tryz.prog 163 zAQ
theorem zRQ (a0:Int):HS 163 (zGc a0) [.int .i64 a0] zAQ:=Tr.fn (F:=zST)
 (.ite 10 4 (a0<0)
  (.ret 13 (IntKind.u64.wrap ((IntKind.u64.wrap (2*(IntKind.u64.wrap (IntKind.i64.wrap (0-(IntKind.i64.wrap (a0+1)))))))+1)))
  (.ret 10 (IntKind.u64.wrap (2*(IntKind.u64.wrap a0)))))
noncomputable abbrev zGH:Fe:= .of Tryz.prog 114 zAo
def zNf (a1:List Int) (x0:Int) (x1:List Int):St:=⟨[(12,nI x0),(11,nI (a1.length:Int)),(10,lI a1),(5,sY (.h 0) x1)],[]⟩
def zM8 (a1:List Int) (x:(List Int)):St:=⟨[(5,sY (.h 1) x)],[]⟩
theorem zMj (a1:List Int):∀(x0:Int) (x1:List Int),Ok (zBb a1 x0 x1) (LN zGH (.exit 0) (zM8 a1) 114 0 (zNf a1 x0 x1)):=by
 refine zBb.partial_correctness a1 _ ?_
 intro f IH x0 x1
 exact Tr.lpN (F:=zGH) (X:=Int×(List Int))
  (.ite 6 13 (x0<(a1.length:Int))
   (.idx 6 eI a1 x0<| .call 6 (zRQ (at' a1 x0)) zBH fun r1=> .call 0 (zKj r1) zAm fun r2=> .app 0 eY 1 x1 r2<| .again 7 (IntKind.i64.wrap (x0+1),x1++r2))
   (.ret 4 x1)) _ fun x r=>IH x.1 x.2 r
theorem zIp (a0:List Int) (a1:List Int):HS 114 (zDj a0 a1) [.lst (List.map (D.int .u8) a0), .lst (List.map (D.int .i64) a1)] zAo:=Tr.fn (F:=zGH)
 (.appN 7 eY 1 a0<| .len 6 eI a1<| .loop 4 ⟨_,_,_,_,_,zMj a1 0 a0⟩ fun j3=> .ret 7 j3)
noncomputable abbrev zH9:Fe:= .of Tryz.prog 115 zAF
def zP9 (a1:List Int) (x0:Int) (x1:Int) (x2:List Int):St:=⟨[(24,nI x0),(23,nI (a1.length:Int)),(22,lI a1),(8,nI x1),(7,sY (.h 0) x2)],[]⟩
def zP3 (a1:List Int) (x:(List Int)):St:=⟨[(7,sY (.h 1) x)],[]⟩
theorem zPy (a1:List Int):∀(x0:Int) (x1:Int) (x2:List Int),Ok (zB2 a1 x0 x1 x2) (LN zH9 (.exit 0) (zP3 a1) 115 0 (zP9 a1 x0 x1 x2)):=by
 refine zB2.partial_correctness a1 _ ?_
 intro f IH x0 x1 x2
 exact Tr.lpN (F:=zH9) (X:=Int×Int×(List Int))
  (.ite 6 25 (x0<(a1.length:Int))
   (.idx 6 eI a1 x0<| .call 12 (zFw x2 [IntKind.u64.wrap (IntKind.i64.wrap ((IntKind.i64.wrap ((at' a1 x0)-x1))-1))]) zAm fun r3=> .again 11 (IntKind.i64.wrap (x0+1),at' a1 x0,r3))
   (.ret 4 x2)) _ fun x r=>IH x.1 x.2.1 x.2.2 r
theorem zR6 (a0:Int) (a1:List Int):HS 115 (zGj a0 a1) [.int .i64 a0, .lst (List.map (D.int .i64) a1)] zAF:=Tr.fn (F:=zH9)
 (.call 10 (zIS a0 a1) zAr fun r1=> .iteN 7 15 (r1=0)
  (.ret 9 ([],r1))
  (.len 5 eI a1<| .call 2 (zFw [] [IntKind.u64.wrap (a1.length:Int)]) zAm fun r2=> .len 10 eI a1<| .loop 4 ⟨_,_,_,_,_,zPy a1 0 (-1) r2⟩ fun j4=> .ret 8 (j4,0)))
noncomputable abbrev zQW:Fe:= .of Tryz.prog 194 zAn
theorem zPT (a0:Int) (a1:Int):HS 194 (zE8 a0 a1) [.int .i64 a0, .int .i64 a1] zAn:=Tr.fn (F:=zQW)
 (.join 11 3 (γ:=Bool) ⟨fun x=>[(11,bB x)],[0,1],fun _=>[],[]⟩
  (.ite 0 8 (a0<0)
  (.ret 4 true)
  (.ret 4 (decide (a0>32))))
  fun j1=> .join 1 3 (γ:=Bool) ⟨fun x=>[(15,bB x)],[0,1],fun _=>[],[]⟩
  (.iteB 0 12 (j1)
  (.ret 4 true)
  (.ret 4 (decide (a1<0))))
  fun j2=> .iteB 1 15 (j2)
  (.ret 8 (0,1))
  (.ite 8 17 (a1>4096)
  (.ret 8 (0,3))
  (.ret 13 (IntKind.i64.wrap (Int.tdiv (IntKind.i64.wrap ((IntKind.i64.wrap (a0*a1))+7)) 8),0))))
noncomputable abbrev zH8:Fe:= .of Tryz.prog 164 zAk
def zQe (a0:Int) (a1:List Int) (x0:Int):St:=⟨[(21,nI x0),(20,nI (a1.length:Int)),(19,lU a1),(0,nI a0)],[]⟩
def zPW (a0:Int) (a1:List Int) (x:Unit):St:=⟨[],[]⟩
theorem zON (a0:Int) (a1:List Int):∀(x0:Int),Ok (zB3 a0 a1 x0) (LR zH8 (.exit 0) (zPW a0 a1) 164 0 (zQe a0 a1 x0)):=by
 refine zB3.partial_correctness a0 a1 _ ?_
 intro f IH x0
 exact Tr.lpR (F:=zH8) (X:=Int)
  (.ite 6 22 (x0<(a1.length:Int))
   (.idx 6 eU a1 x0<| .call 6 (zIX (at' a1 x0)) zAr fun r2=> .ite 3 28 (r2>a0)
   (.ret 9 (.inl 1))
   (.again 7 (IntKind.i64.wrap (x0+1))))
   (.ret 4 (.inr ()))) _ fun x r=>IH x r
theorem zRU (a0:Int) (a1:List Int):HS 164 (zF6 a0 a1) [.int .i64 a0, .lst (List.map (D.int .u64) a1)] zAk:=Tr.fn (F:=zH8)
 (.len 9 eU a1<| .call 0 (zPT a0 (a1.length:Int)) zAz fun r1=> .iteN 11 17 (r1.2=0)
  (.ret 8 r1.2)
  (.len 6 eU a1<| .loopR 4 id ⟨_,_,_,_,_,zON a0 a1 0⟩ fun j3=> .ret 6 0))
noncomputable abbrev zHC:Fe:= .of Tryz.prog 165 zAo
def zOQ (a0:List Bool) (x0:Int) (x1:List Int):St:=⟨[(13,nI x0),(12,nI (a0.length:Int)),(11,lB a0),(3,sY (.h 0) x1)],[]⟩
def zPv (a0:List Bool) (x:(List Int)):St:=⟨[(3,sY (.h 1) x)],[]⟩
theorem zOB (a0:List Bool):∀(x0:Int) (x1:List Int),Ok (zBq a0 x0 x1) (LN zHC (.exit 0) (zPv a0) 165 0 (zOQ a0 x0 x1)):=by
 refine zBq.partial_correctness a0 _ ?_
 intro f IH x0 x1
 exact Tr.lpN (F:=zHC) (X:=Int×(List Int))
  (.ite 6 14 (x0<(a0.length:Int))
   (.idx 7 eB a0 x0<| .iteB 8 18 (at' a0 x0)
   (.idx 5 eY x1 (IntKind.i64.wrap (Int.tdiv x0 8))<| .rd 3 (0≤Int.tmod x0 8) (nY (sShr .u8 128 (Int.tmod x0 8)))<| .idx 1 eY x1 (IntKind.i64.wrap (Int.tdiv x0 8))<| .sto 0 [19,3] eY x1 (IntKind.i64.wrap (Int.tdiv x0 8)) (IntKind.u8.wrap ((at' x1 (IntKind.i64.wrap (Int.tdiv x0 8)))+(sShr .u8 128 (Int.tmod x0 8))))<| .let_ (x1.set (Int.toNat (IntKind.i64.wrap (Int.tdiv x0 8))) (IntKind.u8.wrap ((at' x1 (IntKind.i64.wrap (Int.tdiv x0 8)))+(sShr .u8 128 (Int.tmod x0 8)))):List Int) fun y5=> .again 6 (IntKind.i64.wrap (x0+1),y5))
   (.again 7 (IntKind.i64.wrap (x0+1),x1)))
   (.ret 4 x1)) _ fun x r=>IH x.1 x.2 r
theorem zJ2 (a0:List Bool):HS 165 (zDZ a0) [.lst (List.map D.bool a0)] zAo:=Tr.fn (F:=zHC)
 (.len 7 eB a0<| .let_ (IntKind.i64.wrap (Int.tdiv (IntKind.i64.wrap ((a0.length:Int)+7)) 8):Int) fun y1=> .mk 2 eY 1 0 y1 y1<| .let_ (List.replicate (Int.toNat y1) 0:List Int) fun y3=> .len 6 eB a0<| .loop 4 ⟨_,_,_,_,_,zOB a0 0 y3⟩ fun j7=> .ret 7 j7)
noncomputable abbrev zDJ:Fe:= .of Tryz.prog 116 zAF
def zN5 (a1:List Int) (x0:Int) (x0_:Int) (x1_:List Bool):St:=⟨[(25,nI x0_),(24,nI (a1.length:Int)),(23,lU a1),(8,nI x0),(7,sB (.h 1) x1_),(1,lU a1)],[]⟩
def zOc (a1:List Int) (x0:Int) (x:(List Bool)):St:=⟨[(8,nI x0),(7,sB (.h 2) x),(1,lU a1)],[]⟩
theorem zNc (a1:List Int) (x0:Int):∀(x0_:Int) (x1_:List Bool),Ok (zBC a1 x0 x0_ x1_) (LN zDJ (.exit 2) (zOc a1 x0) 116 1 (zN5 a1 x0 x0_ x1_)):=by
 refine zBC.partial_correctness a1 x0 _ ?_
 intro f IH x0_ x1_
 exact Tr.lpN (F:=zDJ) (X:=Int×(List Bool))
  (.ite 6 26 (x0_<(a1.length:Int))
   (.idx 6 eU a1 x0_<| .rd 7 (0≤x0) (nU (sShr .u64 (at' a1 x0_) x0))<| .app 3 eB 1 x1_ [(Int.tmod (sShr .u64 (at' a1 x0_) x0) 2)==1]<| .let_ (x1_++[(Int.tmod (sShr .u64 (at' a1 x0_) x0) 2)==1]:List Bool) fun y2=> .again 7 (IntKind.i64.wrap (x0_+1),y2))
   (.ret 4 x1_)) _ fun x r=>IH x.1 x.2 r
def zN0 (a1:List Int) (x0:Int) (x1:List Bool):St:=⟨[(8,nI x0),(7,sB (.h 0) x1),(1,lU a1)],[]⟩
def zN9 (a1:List Int) (x:(List Bool)):St:=⟨[(7,sB (.h 1) x)],[]⟩
theorem zND (a1:List Int):∀(x0:Int) (x1:List Bool),Ok (zBF a1 x0 x1) (LN zDJ (.exit 0) (zN9 a1) 116 0 (zN0 a1 x0 x1)):=by
 refine zBF.partial_correctness a1 _ ?_
 intro f IH x0 x1
 exact Tr.lpN (F:=zDJ) (X:=Int×(List Bool))
  (.ite 7 20 (x0≥0)
   (.len 7 eU a1<| .loop 4 ⟨_,_,_,_,_,zNc a1 x0 0 x1⟩ fun j4=> .again 7 (IntKind.i64.wrap (x0-1),j4))
   (.ret 4 x1)) _ fun x r=>IH x.1 x.2 r
theorem zPU (a0:Int) (a1:List Int):HS 116 (zE3 a0 a1) [.int .i64 a0, .lst (List.map (D.int .u64) a1)] zAF:=Tr.fn (F:=zDJ)
 (.call 10 (zRU a0 a1) zAr fun r1=> .iteN 7 15 (r1=0)
  (.ret 9 ([],r1))
  (.loop 15 ⟨_,_,_,_,_,zND a1 (IntKind.i64.wrap (a0-1)) []⟩ fun j5=> .call 4 (zJ2 j5) zAm fun r6=> .ret 4 (r6,0)))
noncomputable abbrev zRm:Fe:= .of Tryz.prog 117 zAF
theorem zIY (a0:List Bool):HS 117 (zDA a0) [.lst (List.map D.bool a0)] zAF:=Tr.fn (F:=zRm)
 (.len 9 eB a0<| .ite 2 6 ((a0.length:Int)>4096)
  (.ret 8 ([],3))
  (.call 5 (zJ2 a0) zAm fun r1=> .ret 4 (r1,0)))
noncomputable abbrev zR4:Fe:= .of Tryz.prog 53 zAF
theorem zQE (a0:zAc):HS 53 (zFv a0) [.agg [.int .i64 a0.F_Scheme, .int .i64 a0.F_Dim, .lst (List.map (D.int .i64) a0.F_L), .lst (List.map (D.int .i64) a0.F_V), .int .i64 a0.F_Scale, .int .i64 a0.F_Wide, .lst (List.map (D.int .u64) a0.F_Lev), .lst (List.map D.bool a0.F_Neg)]] zAF:=Tr.fn (F:=zR4)
 (.call 10 (zDg a0) zAe fun r1=> .iteX 2 13 (r1)
  (.ret 8 ([],1))
  (.call 12 (zFw [IntKind.u8.wrap a0.F_Scheme] [IntKind.u64.wrap a0.F_Dim]) zAm fun r2=> .ite 14 25 (a0.F_Scheme=0)
  (.call 6 (zIp r2 a0.F_V) zAm fun r3=> .ret 6 (r3,0))
  (.ite 6 31 (a0.F_Scheme=1)
  (.call 7 (zR6 a0.F_Dim a0.F_L) zBG fun r4=> .app 12 eY 1 r2 r4.1<| .hold 1 []<| .call 0 (zIp (r2++r4.1) a0.F_V) zAm fun r5=> .ret 7 (r5,0))
  (.call 10 (zFw r2 [IntKind.u64.wrap a0.F_Scale]) zAm fun r6=> .ite 9 55 (a0.F_Scheme=2)
  (.call 7 (zPU a0.F_Wide a0.F_Lev) zBG fun r7=> .app 12 eY 1 r6 [IntKind.u8.wrap a0.F_Wide]<| .let_ (r6++[IntKind.u8.wrap a0.F_Wide]:List Int) fun y8=> .app 1 eY 1 y8 r7.1<| .call 6 (zIY a0.F_Neg) zBG fun r10=> .app 10 eY 1 (y8++r7.1) r10.1<| .ret 4 ((y8++r7.1)++r10.1,0))
  (.call 6 (zIY a0.F_Neg) zBG fun r11=> .app 10 eY 1 r6 r11.1<| .ret 4 (r6++r11.1,0))))))
noncomputable abbrev zQ7:Fe:= .of Tryz.prog 27 zAn
theorem zPR (a0:zAc):HS 27 (zE0 a0) [.agg [.int .i64 a0.F_Scheme, .int .i64 a0.F_Dim, .lst (List.map (D.int .i64) a0.F_L), .lst (List.map (D.int .i64) a0.F_V), .int .i64 a0.F_Scale, .int .i64 a0.F_Wide, .lst (List.map (D.int .u64) a0.F_Lev), .lst (List.map D.bool a0.F_Neg)]] zAn:=Tr.fn (F:=zQ7)
 (.call 9 (zQE a0) zBG fun r1=> .len 9 eY r1.1<| .ret 5 ((r1.1.length:Int),r1.2))
noncomputable abbrev zVW:Fe:= .of Tryz.prog 73 zAd
theorem zTQ (a0:zAi) (a1:List Int) (a2:zAc):HS 73 (zJv a0 a1 a2) [.agg [.int .i64 a0.F_Scheme, .int .i64 a0.F_K, .int .i64 a0.F_Wide], .lst (List.map (D.int .i64) a1), .agg [.int .i64 a2.F_Scheme, .int .i64 a2.F_Dim, .lst (List.map (D.int .i64) a2.F_L), .lst (List.map (D.int .i64) a2.F_V), .int .i64 a2.F_Scale, .int .i64 a2.F_Wide, .lst (List.map (D.int .u64) a2.F_Lev), .lst (List.map D.bool a2.F_Neg)]] zAd:=Tr.fn (F:=zVW)
 (.call 11 (zDH a1 a2.F_V) zAe fun r1=> .ret 3 r1)
noncomputable abbrev zAch:Fe:= .of Tryz.prog 80 zAd
theorem zAag (a0:Int) (a1:List Int) (a2:zAc):HS 80 (zME a0 a1 a2) [.int .i64 a0, .lst (List.map (D.int .i64) a1), .agg [.int .i64 a2.F_Scheme, .int .i64 a2.F_Dim, .lst (List.map (D.int .i64) a2.F_L), .lst (List.map (D.int .i64) a2.F_V), .int .i64 a2.F_Scale, .int .i64 a2.F_Wide, .lst (List.map (D.int .u64) a2.F_Lev), .lst (List.map D.bool a2.F_Neg)]] zAd:=Tr.fn (F:=zAch)
 (.call 9 (zPC a0 a1) zKN fun r1=> .join 13 7 (γ:=Bool) ⟨fun x=>[(24,bB x)],[7,5],fun _=>[],[.s 1711, .s 15]⟩
  (.iteN 0 17 (r1.2.2.2.2.2.2=0)
  (.ret 8 true)
  (.call 4 (zHy r1.2.2.1 a2.F_L) zAe fun r2=> .ret 3 (!r2)))
  fun j3=> .join 1 7 (γ:=Bool) ⟨fun x=>[(32,bB x)],[7,5],fun _=>[],[.s 1711, .s 15]⟩
  (.iteB 0 25 (j3)
  (.ret 8 true)
  (.call 4 (zDH r1.2.2.2.1 a2.F_V) zAe fun r4=> .ret 3 (!r4)))
  fun j5=> .iteB 1 32 (j5)
  (.ret 7 false)
  (.join 10 6 (γ:=Bool) ⟨fun x=>[(44,bB x)],[5],fun _=>[],[.s 15]⟩
  (.ite 0 38 (a2.F_Scheme=r1.1)
  (.ret 7 (a2.F_Dim==r1.2.1))
  (.ret 7 false))
  fun j6=> .join 1 4 (γ:=Bool) ⟨fun x=>[(49,bB x)],[5],fun _=>[],[.s 15]⟩
  (.iteB 0 45 (j6)
  (.ret 5 (a2.F_Scale==0))
  (.ret 5 false))
  fun j7=> .join 1 4 (γ:=Bool) ⟨fun x=>[(54,bB x)],[5],fun _=>[],[.s 15]⟩
  (.iteB 0 50 (j7)
  (.ret 5 (a2.F_Wide==0))
  (.ret 5 false))
  fun j8=> .join 1 9 (γ:=Bool) ⟨fun x=>[(64,bB x)],[],fun _=>[],[]⟩
  (.iteB 0 55 (j8)
  (.len 2 eU a2.F_Lev<| .len 2 eB a2.F_Neg<| .ret 4 ((IntKind.i64.wrap ((a2.F_Lev.length:Int)+(a2.F_Neg.length:Int)))==0))
  (.ret 10 false))
  fun j9=> .ret 3 j9))
noncomputable abbrev zVi:Fe:= .of Tryz.prog 79 zAd
theorem zTR (a0:zAi) (a1:List Int) (a2:zAc):HS 79 (zI7 a0 a1 a2) [.agg [.int .i64 a0.F_Scheme, .int .i64 a0.F_K, .int .i64 a0.F_Wide], .lst (List.map (D.int .i64) a1), .agg [.int .i64 a2.F_Scheme, .int .i64 a2.F_Dim, .lst (List.map (D.int .i64) a2.F_L), .lst (List.map (D.int .i64) a2.F_V), .int .i64 a2.F_Scale, .int .i64 a2.F_Wide, .lst (List.map (D.int .u64) a2.F_Lev), .lst (List.map D.bool a2.F_Neg)]] zAd:=Tr.fn (F:=zVi)
 (.call 12 (zAag a0.F_K a1 a2) zAe fun r1=> .ret 3 r1)
noncomputable abbrev zPu:Fe:= .of Tryz.prog 139 zAd
theorem zNM (a0:Int) (a1:List Int) (a2:Int) (a3:Int) (a4:Int) (a5:List Int) (a6:List Int) (a7:Int) (a8:Int) (a9:List Int) (a10:List Bool):HS 139 (zGd a0 a1 a2 a3 a4 a5 a6 a7 a8 a9 a10) [.int .i64 a0, .cp [.lst (List.map (D.int .i64) a1)] 0, .cp [.int .i64 a2] 0, .cp [.int .i64 a3, .int .i64 a4, .lst (List.map (D.int .i64) a5), .lst (List.map (D.int .i64) a6), .int .i64 a7, .int .i64 a8, .lst (List.map (D.int .u64) a9), .lst (List.map D.bool a10)] 0] zAd:=Tr.fn (F:=zPu)
 (.idx 8 eI a1 a0<| .call 4 (zNI (at' a1 a0) a2 a8) zI3 fun r1=> .idx 13 eU a9 a0<| .iteN 10 31 (r1.2.2=0)
  (.ret 27 true)
  (.idx 3 eB a10 a0<| .idx 3 eI a1 a0<| .iteN 5 44 ((at' a10 a0)=(decide ((at' a1 a0)<0)))
  (.ret 14 true)
  (.ite 4 48 ((IntKind.u64.wrap ((at' a9 a0)-r1.1))>1)
  (.ret 10 true)
  (.ite 3 51 ((IntKind.u64.wrap ((at' a9 a0)-r1.1))=1)
  (.ret 7 (r1.2.1==0))
  (.ret 7 false)))))
noncomputable abbrev zLN:Fe:= .of Tryz.prog 86 zAd
def zUv (a0:List Int) (a1:zAc) (r1:Int×Int) (x0:Int):St:=⟨[(42,nI x0),(41,nI (a0.length:Int)),(7, .clo (.func 139) [] [.ptr (.s 15) 0, .ptr (.s 1695) 0, .ptr (.s 31) 0])],[(.s 1695,[nI r1.1]),(.s 31,[nI a1.F_Scheme,nI a1.F_Dim,lI a1.F_L,lI a1.F_V,nI a1.F_Scale,nI a1.F_Wide,lU a1.F_Lev,lB a1.F_Neg]),(.s 15,[lI a0])]⟩
def zUL (a0:List Int) (a1:zAc) (r1:Int×Int) (x:Unit):St:=⟨[],[]⟩
theorem zTj (a0:List Int) (a1:zAc) (r1:Int×Int):∀(x0:Int),Ok (zC9 a0 a1 r1 x0) (LR zLN (.exit 0) (zUL a0 a1 r1) 86 0 (zUv a0 a1 r1 x0)):=by
 refine zC9.partial_correctness a0 a1 r1 _ ?_
 intro f IH x0
 exact Tr.lpR (F:=zLN) (X:=Int)
  (.ite 6 43 (x0<(a0.length:Int))
   (.call 13 (zNM x0 a0 r1.1 a1.F_Scheme a1.F_Dim a1.F_L a1.F_V a1.F_Scale a1.F_Wide a1.F_Lev a1.F_Neg) zAe fun r7=> .iteB 1 47 (r7)
   (.ret 9 (.inl false))
   (.again 7 (IntKind.i64.wrap (x0+1))))
   (.ret 4 (.inr ()))) _ fun x r=>IH x r
theorem zW5 (a0:List Int) (a1:zAc):HS 86 (zII a0 a1) [.lst (List.map (D.int .i64) a0), .agg [.int .i64 a1.F_Scheme, .int .i64 a1.F_Dim, .lst (List.map (D.int .i64) a1.F_L), .lst (List.map (D.int .i64) a1.F_V), .int .i64 a1.F_Scale, .int .i64 a1.F_Wide, .lst (List.map (D.int .u64) a1.F_Lev), .lst (List.map D.bool a1.F_Neg)]] zAd:=Tr.fn (F:=zLN)
 (.call 9 (zSJ a0) zAz fun r1=> .join 13 4 (γ:=Bool) ⟨fun x=>[(20,bB x)],[5,3,2],fun _=>[],[.s 1695, .s 31, .s 15]⟩
  (.iteN 0 16 (r1.2=0)
  (.ret 5 true)
  (.call 1 (zEi a1) zAe fun r2=> .ret 3 (!r2)))
  fun j3=> .join 1 4 (γ:=Bool) ⟨fun x=>[(25,bB x)],[5,3,2],fun _=>[],[.s 1695, .s 31, .s 15]⟩
  (.iteB 0 21 (j3)
  (.ret 5 true)
  (.ret 5 (a1.F_Scheme !=2)))
  fun j4=> .join 1 6 (γ:=Bool) ⟨fun x=>[(32,bB x)],[5,3,2],fun _=>[],[.s 1695, .s 31, .s 15]⟩
  (.iteB 0 26 (j4)
  (.ret 7 true)
  (.len 3 eI a0<| .ret 3 (a1.F_Dim !=(a0.length:Int))))
  fun j5=> .join 1 5 (γ:=Bool) ⟨fun x=>[(38,bB x)],[5,3,2],fun _=>[],[.s 1695, .s 31, .s 15]⟩
  (.iteB 0 33 (j5)
  (.ret 6 true)
  (.ret 6 (a1.F_Scale !=r1.1)))
  fun j6=> .iteB 1 38 (j6)
  (.ret 7 false)
  (.len 11 eI a0<| .loopR 4 id ⟨_,_,_,_,_,zTj a0 a1 r1 0⟩ fun j8=> .ret 6 true))
noncomputable abbrev zVx:Fe:= .of Tryz.prog 85 zAd
theorem zTI (a0:zAi) (a1:List Int) (a2:zAc):HS 85 (zJx a0 a1 a2) [.agg [.int .i64 a0.F_Scheme, .int .i64 a0.F_K, .int .i64 a0.F_Wide], .lst (List.map (D.int .i64) a1), .agg [.int .i64 a2.F_Scheme, .int .i64 a2.F_Dim, .lst (List.map (D.int .i64) a2.F_L), .lst (List.map (D.int .i64) a2.F_V), .int .i64 a2.F_Scale, .int .i64 a2.F_Wide, .lst (List.map (D.int .u64) a2.F_Lev), .lst (List.map D.bool a2.F_Neg)]] zAd:=Tr.fn (F:=zVx)
 (.join 14 4 (γ:=Bool) ⟨fun x=>[(16,bB x)],[],fun _=>[],[]⟩
  (.ite 0 12 (a2.F_Wide=a0.F_Wide)
  (.call 2 (zW5 a1 a2) zAe fun r1=> .ret 2 r1)
  (.ret 5 false))
  fun j2=> .ret 3 j2)
noncomputable abbrev zAbY:Fe:= .of Tryz.prog 91 zAd
theorem zAal (a0:List Int) (a1:zAc):HS 91 (zMM a0 a1) [.lst (List.map (D.int .i64) a0), .agg [.int .i64 a1.F_Scheme, .int .i64 a1.F_Dim, .lst (List.map (D.int .i64) a1.F_L), .lst (List.map (D.int .i64) a1.F_V), .int .i64 a1.F_Scale, .int .i64 a1.F_Wide, .lst (List.map (D.int .u64) a1.F_Lev), .lst (List.map D.bool a1.F_Neg)]] zAd:=Tr.fn (F:=zAbY)
 (.call 8 (zPD a0) zKO fun r1=> .join 12 3 (γ:=Bool) ⟨fun x=>[(17,bB x)],[5,3],fun _=>[],[.s 1695, .s 15]⟩
  (.ite 0 14 (r1.2.2.2.2.2=0)
  (.call 1 (zEi a1) zAe fun r2=> .ret 2 r2)
  (.ret 4 false))
  fun j3=> .join 1 4 (γ:=Bool) ⟨fun x=>[(22,bB x)],[5,3],fun _=>[],[.s 1695, .s 15]⟩
  (.iteB 0 18 (j3)
  (.ret 5 (a1.F_Scheme==3))
  (.ret 5 false))
  fun j4=> .join 1 6 (γ:=Bool) ⟨fun x=>[(29,bB x)],[5,3],fun _=>[],[.s 1695, .s 15]⟩
  (.iteB 0 23 (j4)
  (.ret 7 (a1.F_Scale==r1.2.2.1))
  (.ret 7 false))
  fun j5=> .join 1 6 (γ:=Bool) ⟨fun x=>[(36,bB x)],[],fun _=>[],[]⟩
  (.iteB 0 30 (j5)
  (.call 4 (zGU a1.F_Neg r1.2.2.2.2.1) zAe fun r6=> .ret 2 r6)
  (.ret 7 false))
  fun j7=> .ret 3 j7)
noncomputable abbrev zUW:Fe:= .of Tryz.prog 90 zAd
theorem zS4 (a0:zAi) (a1:List Int) (a2:zAc):HS 90 (zIK a0 a1 a2) [.agg [.int .i64 a0.F_Scheme, .int .i64 a0.F_K, .int .i64 a0.F_Wide], .lst (List.map (D.int .i64) a1), .agg [.int .i64 a2.F_Scheme, .int .i64 a2.F_Dim, .lst (List.map (D.int .i64) a2.F_L), .lst (List.map (D.int .i64) a2.F_V), .int .i64 a2.F_Scale, .int .i64 a2.F_Wide, .lst (List.map (D.int .u64) a2.F_Lev), .lst (List.map D.bool a2.F_Neg)]] zAd:=Tr.fn (F:=zUW)
 (.call 10 (zAal a1 a2) zAe fun r1=> .ret 3 r1)
noncomputable abbrev zWS:Fe:= .of Tryz.prog 28 zAd
theorem zVP (a0:zAi) (a1:List Int) (a2:zAc):HS 28 (zHV a0 a1 a2) [.agg [.int .i64 a0.F_Scheme, .int .i64 a0.F_K, .int .i64 a0.F_Wide], .lst (List.map (D.int .i64) a1), .agg [.int .i64 a2.F_Scheme, .int .i64 a2.F_Dim, .lst (List.map (D.int .i64) a2.F_L), .lst (List.map (D.int .i64) a2.F_V), .int .i64 a2.F_Scale, .int .i64 a2.F_Wide, .lst (List.map (D.int .u64) a2.F_Lev), .lst (List.map D.bool a2.F_Neg)]] zAd:=Tr.fn (F:=zWS)
 (.len 10 eI a1<| .call 0 (zN4 a0 (a1.length:Int)) zAr fun r1=> .ite 2 12 (r1=0)
  (.call 1 (zEi a2) zAe fun r2=> .iteB 2 16 (r2)
  (.ite 7 23 (a2.F_Scheme=a0.F_Scheme)
  (.callG 5 [] [] zGo fun r3=> .hold 1 []<| .cas 1 27 (a0.F_Scheme=(0:Int)) (.d (.agg [.clo (.func 69) [] [], .clo (.func 70) [] [], .clo (.func 71) [] [], .clo (.func 73) [] []])) (.d (lookD a0.F_Scheme [(1, .agg [.clo (.func 74) [] [], .clo (.func 75) [] [], .clo (.func 77) [] [], .clo (.func 79) [] []]),(2, .agg [.clo (.func 81) [] [], .clo (.func 82) [] [], .clo (.func 84) [] [], .clo (.func 85) [] []]),(3, .agg [.clo (.func 69) [] [], .clo (.func 87) [] [], .clo (.func 89) [] [], .clo (.func 90) [] []])] (.agg [.nilfn, .nilfn, .nilfn, .nilfn]))) (.d (lookD a0.F_Scheme [(0, .agg [.clo (.func 69) [] [], .clo (.func 70) [] [], .clo (.func 71) [] [], .clo (.func 73) [] []]),(1, .agg [.clo (.func 74) [] [], .clo (.func 75) [] [], .clo (.func 77) [] [], .clo (.func 79) [] []]),(2, .agg [.clo (.func 81) [] [], .clo (.func 82) [] [], .clo (.func 84) [] [], .clo (.func 85) [] []]),(3, .agg [.clo (.func 69) [] [], .clo (.func 87) [] [], .clo (.func 89) [] [], .clo (.func 90) [] []])] (.agg [.nilfn, .nilfn, .nilfn, .nilfn]))) zCe zCd
  (.call 1 (zTQ a0 a1 a2) zAe fun r4=> .ret 5 r4)
  (.cas 0 27 (a0.F_Scheme=(1:Int)) (.d (.agg [.clo (.func 74) [] [], .clo (.func 75) [] [], .clo (.func 77) [] [], .clo (.func 79) [] []])) (.d (lookD a0.F_Scheme [(2, .agg [.clo (.func 81) [] [], .clo (.func 82) [] [], .clo (.func 84) [] [], .clo (.func 85) [] []]),(3, .agg [.clo (.func 69) [] [], .clo (.func 87) [] [], .clo (.func 89) [] [], .clo (.func 90) [] []])] (.agg [.nilfn, .nilfn, .nilfn, .nilfn]))) (.d (lookD a0.F_Scheme [(1, .agg [.clo (.func 74) [] [], .clo (.func 75) [] [], .clo (.func 77) [] [], .clo (.func 79) [] []]),(2, .agg [.clo (.func 81) [] [], .clo (.func 82) [] [], .clo (.func 84) [] [], .clo (.func 85) [] []]),(3, .agg [.clo (.func 69) [] [], .clo (.func 87) [] [], .clo (.func 89) [] [], .clo (.func 90) [] []])] (.agg [.nilfn, .nilfn, .nilfn, .nilfn]))) zCe zCd
  (.call 1 (zTR a0 a1 a2) zAe fun r5=> .ret 5 r5)
  (.cas 0 27 (a0.F_Scheme=(2:Int)) (.d (.agg [.clo (.func 81) [] [], .clo (.func 82) [] [], .clo (.func 84) [] [], .clo (.func 85) [] []])) (.d (lookD a0.F_Scheme [(3, .agg [.clo (.func 69) [] [], .clo (.func 87) [] [], .clo (.func 89) [] [], .clo (.func 90) [] []])] (.agg [.nilfn, .nilfn, .nilfn, .nilfn]))) (.d (lookD a0.F_Scheme [(2, .agg [.clo (.func 81) [] [], .clo (.func 82) [] [], .clo (.func 84) [] [], .clo (.func 85) [] []]),(3, .agg [.clo (.func 69) [] [], .clo (.func 87) [] [], .clo (.func 89) [] [], .clo (.func 90) [] []])] (.agg [.nilfn, .nilfn, .nilfn, .nilfn]))) zCe zCd
  (.call 1 (zTI a0 a1 a2) zAe fun r6=> .ret 5 r6)
  (.cas 0 27 (a0.F_Scheme=(3:Int)) (.d (.agg [.clo (.func 69) [] [], .clo (.func 87) [] [], .clo (.func 89) [] [], .clo (.func 90) [] []])) (.d (lookD a0.F_Scheme [] (.agg [.nilfn, .nilfn, .nilfn, .nilfn]))) (.d (lookD a0.F_Scheme [(3, .agg [.clo (.func 69) [] [], .clo (.func 87) [] [], .clo (.func 89) [] [], .clo (.func 90) [] []])] (.agg [.nilfn, .nilfn, .nilfn, .nilfn]))) zCe zCd
  (.call 1 (zS4 a0 a1 a2) zAe fun r7=> .ret 5 r7)
  (.halt)))))
  (.hold 7 []<| .ret 8 false))
  (.hold 14 []<| .ret 8 false))
  (.hold 18 []<| .ret 8 false))
noncomputable abbrev zQo:Fe:= .of Tryz.prog 18 zAk
theorem zP4 (a0:zAi) (a1:Int):HS 18 (zEU a0 a1) [.agg [.int .i64 a0.F_Scheme, .int .i64 a0.F_K, .int .i64 a0.F_Wide], .int .i64 a1] zAk:=Tr.fn (F:=zQo)
 (.join 10 3 (γ:=Bool) ⟨fun x=>[(11,bB x)],[2,1],fun _=>[],[.s 15]⟩
  (.ite 0 8 (a1≥1)
  (.ret 4 (decide (a1≤4096)))
  (.ret 4 false))
  fun j1=> .join 15 0 (γ:=Bool) ⟨fun x=>[(14,bB x)],[13,5,2,1],fun _=>[],[.s 15]⟩
  (.ite 0 14 (a0.F_Scheme=0)
  (.ret 2 true)
  (.ret 5 (a0.F_Scheme==3)))
  fun j2=> .iteB 0 14 (j2)
  (.join 4 4 (γ:=Bool) ⟨fun x=>[(22,bB x)],[2],fun _=>[],[.s 15]⟩
  (.iteB 0 18 (j1)
  (.ret 5 (a0.F_K==0))
  (.ret 5 false))
  fun j3=> .join 1 4 (γ:=Bool) ⟨fun x=>[(27,bB x)],[],fun _=>[],[]⟩
  (.iteB 0 23 (j3)
  (.ret 5 (a0.F_Wide==0))
  (.ret 5 false))
  fun j4=> .iteX 9 66 (j4)
  (.ret 7 1)
  (.ret 7 0))
  (.ite 6 28 (a0.F_Scheme=1)
  (.join 4 4 (γ:=Bool) ⟨fun x=>[(35,bB x)],[2,1],fun _=>[],[.s 15]⟩
  (.iteB 0 31 (j1)
  (.ret 5 (decide (a0.F_K≥0)))
  (.ret 5 false))
  fun j5=> .join 1 5 (γ:=Bool) ⟨fun x=>[(41,bB x)],[2],fun _=>[],[.s 15]⟩
  (.iteB 0 36 (j5)
  (.ret 6 (decide (a0.F_K≤a1)))
  (.ret 6 false))
  fun j6=> .join 1 4 (γ:=Bool) ⟨fun x=>[(46,bB x)],[],fun _=>[],[]⟩
  (.iteB 0 42 (j6)
  (.ret 5 (a0.F_Wide==0))
  (.ret 5 false))
  fun j7=> .iteX 9 66 (j7)
  (.ret 7 1)
  (.ret 7 0))
  (.ite 6 47 (a0.F_Scheme=2)
  (.join 4 4 (γ:=Bool) ⟨fun x=>[(54,bB x)],[2],fun _=>[],[.s 15]⟩
  (.iteB 0 50 (j1)
  (.ret 5 (a0.F_K==0))
  (.ret 5 false))
  fun j8=> .join 1 4 (γ:=Bool) ⟨fun x=>[(59,bB x)],[2],fun _=>[],[.s 15]⟩
  (.iteB 0 55 (j8)
  (.ret 5 (decide (a0.F_Wide≥1)))
  (.ret 5 false))
  fun j9=> .join 1 4 (γ:=Bool) ⟨fun x=>[(64,bB x)],[],fun _=>[],[]⟩
  (.iteB 0 60 (j9)
  (.ret 5 (decide (a0.F_Wide≤8)))
  (.ret 5 false))
  fun j10=> .iteX 9 66 (j10)
  (.ret 7 1)
  (.ret 7 0))
  (.ret 18 1))))
noncomputable abbrev zSf:Fe:= .of Tryz.prog 149 zAQ
theorem zES (a0:Int):HS 149 (zBX a0) [.int .i64 a0] zAQ:=Tr.fn (F:=zSf)
 (.ite 10 4 (a0<0)
  (.ret 12 (IntKind.u64.wrap ((IntKind.u64.wrap (IntKind.i64.wrap (0-(IntKind.i64.wrap (a0+1)))))+1)))
  (.ret 9 (IntKind.u64.wrap a0)))
noncomputable abbrev zQk:Fe:= .of Tryz.prog 186 zAd
theorem zPY (a0:List Int) (a1:Int) (a2:Int):HS 186 (zE5 a0 a1 a2) [.lst (List.map (D.int .i64) a0), .int .i64 a1, .int .i64 a2] zAd:=Tr.fn (F:=zQk)
 (.idx 8 eI a0 a1<| .call 1 (zES (at' a0 a1)) zBH fun r1=> .idx 6 eI a0 a2<| .call 1 (zES (at' a0 a2)) zBH fun r2=> .ite 8 22 (r1>r2)
  (.ret 12 true)
  (.ite 4 26 (r1=r2)
  (.ret 8 (decide (a1<a2)))
  (.ret 8 false)))
noncomputable abbrev zDB:Fe:= .of Tryz.prog 146 zAf
def zOA (a0:List Int) (x0:Int) (x1:List Int) (x0_:Int) (x1_:Int):St:=⟨[(21,nI x0_),(20,nI (a0.length:Int)),(6,nI x1_),(5,nI x0),(16,nI x0),(15,nI (a0.length:Int)),(4,sI (.h 0) x1),(0,lI a0)],[]⟩
def zOw (a0:List Int) (x0:Int) (x1:List Int) (x:Int):St:=⟨[(6,nI x),(5,nI x0),(16,nI x0),(15,nI (a0.length:Int)),(4,sI (.h 0) x1),(0,lI a0)],[]⟩
theorem zNn (a0:List Int) (x0:Int) (x1:List Int):∀(x0_:Int) (x1_:Int),Ok (zBh a0 x0 x1 x0_ x1_) (LN zDB (.exit 2) (zOw a0 x0 x1) 146 1 (zOA a0 x0 x1 x0_ x1_)):=by
 refine zBh.partial_correctness a0 x0 x1 _ ?_
 intro f IH x0_ x1_
 exact Tr.lpN (F:=zDB) (X:=Int×Int)
  (.ite 6 22 (x0_<(a0.length:Int))
   (.call 14 (zPY a0 x0_ x0) zAe fun r3=> .iteB 1 27 (r3)
   (.again 11 (IntKind.i64.wrap (x0_+1),IntKind.i64.wrap (x1_+1)))
   (.again 7 (IntKind.i64.wrap (x0_+1),x1_)))
   (.ret 4 x1_)) _ fun x r=>IH x.1 x.2 r
def zOf (a0:List Int) (x0:Int) (x1:List Int):St:=⟨[(16,nI x0),(15,nI (a0.length:Int)),(4,sI (.h 0) x1),(0,lI a0)],[]⟩
def zOy (a0:List Int) (x:(List Int)):St:=⟨[(4,sI (.h 1) x)],[]⟩
theorem zMX (a0:List Int):∀(x0:Int) (x1:List Int),Ok (zBD a0 x0 x1) (LN zDB (.exit 0) (zOy a0) 146 0 (zOf a0 x0 x1)):=by
 refine zBD.partial_correctness a0 _ ?_
 intro f IH x0 x1
 exact Tr.lpN (F:=zDB) (X:=Int×(List Int))
  (.ite 6 17 (x0<(a0.length:Int))
   (.len 17 eI a0<| .loop 4 ⟨_,_,_,_,_,zNn a0 x0 x1 0 0⟩ fun j4=> .idx 5 eI x1 j4<| .sto 0 [4] eI x1 j4 x0<| .again 6 (IntKind.i64.wrap (x0+1),x1.set (Int.toNat j4) x0))
   (.ret 4 x1)) _ fun x r=>IH x.1 x.2 r
theorem zP8 (a0:List Int):HS 146 (zDI a0) [.lst (List.map (D.int .i64) a0)] zAf:=Tr.fn (F:=zDB)
 (.len 9 eI a0<| .ite 2 10 ((a0.length:Int)>4096)
  (.ret 8 ([],3))
  (.len 5 eI a0<| .mk 0 eI 8 0 (a0.length:Int) (a0.length:Int)<| .let_ (List.replicate (Int.toNat (a0.length:Int)) 0:List Int) fun y1=> .len 6 eI a0<| .loop 4 ⟨_,_,_,_,_,zMX a0 0 y1⟩ fun j5=> .ret 8 (j5,0)))
noncomputable abbrev zIE:Fe:= .of Tryz.prog 187 zAd
def zQ3 (a0:List Int) (a1:Int) (x0:Int):St:=⟨[(9,nI x0),(8,nI (a0.length:Int)),(7,lI a0),(1,nI a1)],[]⟩
def zQN (a0:List Int) (a1:Int) (x:Unit):St:=⟨[],[]⟩
theorem zPP (a0:List Int) (a1:Int):∀(x0:Int),Ok (zCk a0 a1 x0) (LR zIE (.exit 0) (zQN a0 a1) 187 0 (zQ3 a0 a1 x0)):=by
 refine zCk.partial_correctness a0 a1 _ ?_
 intro f IH x0
 exact Tr.lpR (F:=zIE) (X:=Int)
  (.ite 6 10 (x0<(a0.length:Int))
   (.idx 6 eI a0 x0<| .ite 9 15 ((at' a0 x0)=a1)
   (.ret 9 (.inl true))
   (.again 7 (IntKind.i64.wrap (x0+1))))
   (.ret 4 (.inr ()))) _ fun x r=>IH x r
theorem zS2 (a0:List Int) (a1:Int):HS 187 (zGW a0 a1) [.lst (List.map (D.int .i64) a0), .int .i64 a1] zAd:=Tr.fn (F:=zIE)
 (.len 8 eI a0<| .loopR 4 id ⟨_,_,_,_,_,zPP a0 a1 0⟩ fun j1=> .ret 6 false)
noncomputable abbrev zBt:Fe:= .of Tryz.prog 147 zAy
def zNY (a0:List (List Int)) (x0:Int) (x0_:Int) (x1_:List Int) (x0__:Int) (x1__:List Int):St:=⟨[(30,nI x0__),(29,nI (x1_.length:Int)),(28,sI (.h 1) x1_),(8,sI (.h 2) x1__),(7,nI (at' (at' a0 x0) x0_)),(21,nI x0_),(20,nI ((at' a0 x0).length:Int)),(19,lI (at' a0 x0)),(15,nI x0),(14,nI (a0.length:Int)),(13, .d (.lst (List.map (enL (D.int .i64)) a0))),(3,sI (.h 1) x1_)],[]⟩
def zOv (a0:List (List Int)) (x0:Int) (x0_:Int) (x1_:List Int) (x:(List Int)):St:=⟨[(8,sI (.h 3) x),(7,nI (at' (at' a0 x0) x0_)),(21,nI x0_),(20,nI ((at' a0 x0).length:Int)),(19,lI (at' a0 x0)),(15,nI x0),(14,nI (a0.length:Int)),(13, .d (.lst (List.map (enL (D.int .i64)) a0))),(3,sI (.h 1) x1_)],[]⟩
theorem zM5 (a0:List (List Int)) (x0:Int) (x0_:Int) (x1_:List Int):∀(x0__:Int) (x1__:List Int),Ok (zBl a0 x0 x0_ x1_ x0__ x1__) (LN zBt (.exit 4) (zOv a0 x0 x0_ x1_) 147 2 (zNY a0 x0 x0_ x1_ x0__ x1__)):=by
 refine zBl.partial_correctness a0 x0 x0_ x1_ _ ?_
 intro f IH x0__ x1__
 exact Tr.lpN (F:=zBt) (X:=Int×(List Int))
  (.ite 6 31 (x0__<(x1_.length:Int))
   (.idx 6 eI x1_ x0__<| .ite 9 36 ((at' x1_ x0__)<(at' (at' a0 x0) x0_))
   (.app 5 eI 8 x1__ [at' x1_ x0__]<| .again 7 (IntKind.i64.wrap (x0__+1),x1__++[at' x1_ x0__]))
   (.again 7 (IntKind.i64.wrap (x0__+1),x1__)))
   (.ret 4 x1__)) _ fun x r=>IH x.1 x.2 r
def zNU (a0:List (List Int)) (x0:Int) (x0_:Int) (x1_:List Int) (x0__:Int) (x1__:List Int):St:=⟨[(48,nI x0__),(47,nI (x1_.length:Int)),(46,sI (.h 1) x1_),(8,sI (.h 2) x1__),(7,nI (at' (at' a0 x0) x0_)),(21,nI x0_),(20,nI ((at' a0 x0).length:Int)),(19,lI (at' a0 x0)),(15,nI x0),(14,nI (a0.length:Int)),(13, .d (.lst (List.map (enL (D.int .i64)) a0)))],[]⟩
def zN1 (a0:List (List Int)) (x0:Int) (x0_:Int) (x1_:List Int) (x:(List Int)):St:=⟨[(8,sI (.h 3) x),(21,nI x0_),(20,nI ((at' a0 x0).length:Int)),(19,lI (at' a0 x0)),(15,nI x0),(14,nI (a0.length:Int)),(13, .d (.lst (List.map (enL (D.int .i64)) a0)))],[]⟩
theorem zNy (a0:List (List Int)) (x0:Int) (x0_:Int) (x1_:List Int):∀(x0__:Int) (x1__:List Int),Ok (zBg a0 x0 x0_ x1_ x0__ x1__) (LN zBt (.exit 6) (zN1 a0 x0 x0_ x1_) 147 3 (zNU a0 x0 x0_ x1_ x0__ x1__)):=by
 refine zBg.partial_correctness a0 x0 x0_ x1_ _ ?_
 intro f IH x0__ x1__
 exact Tr.lpN (F:=zBt) (X:=Int×(List Int))
  (.ite 6 49 (x0__<(x1_.length:Int))
   (.idx 6 eI x1_ x0__<| .ite 9 54 ((at' x1_ x0__)>(at' (at' a0 x0) x0_))
   (.app 5 eI 8 x1__ [at' x1_ x0__]<| .again 7 (IntKind.i64.wrap (x0__+1),x1__++[at' x1_ x0__]))
   (.again 7 (IntKind.i64.wrap (x0__+1),x1__)))
   (.ret 4 x1__)) _ fun x r=>IH x.1 x.2 r
def zNJ (a0:List (List Int)) (x0:Int) (x0_:Int) (x1_:List Int):St:=⟨[(21,nI x0_),(20,nI ((at' a0 x0).length:Int)),(19,lI (at' a0 x0)),(15,nI x0),(14,nI (a0.length:Int)),(13, .d (.lst (List.map (enL (D.int .i64)) a0))),(3,sI (.h 1) x1_)],[]⟩
def zNZ (a0:List (List Int)) (x0:Int) (x:(List Int)):St:=⟨[(15,nI x0),(14,nI (a0.length:Int)),(13, .d (.lst (List.map (enL (D.int .i64)) a0))),(3,sI (.h 2) x)],[]⟩
theorem zNr (a0:List (List Int)) (x0:Int):∀(x0_:Int) (x1_:List Int),Ok (zBf a0 x0 x0_ x1_) (LN zBt (.exit 2) (zNZ a0 x0) 147 1 (zNJ a0 x0 x0_ x1_)):=by
 refine zBf.partial_correctness a0 x0 _ ?_
 intro f IH x0_ x1_
 exact Tr.lpN (F:=zBt) (X:=Int×(List Int))
  (.ite 6 22 (x0_<((at' a0 x0).length:Int))
   (.idx 6 eI (at' a0 x0) x0_<| .call 8 (zS2 x1_ (at' (at' a0 x0) x0_)) zAe fun r1=> .iteB 1 27 (r1)
   (.again 8 (IntKind.i64.wrap (x0_+1),x1_))
   (.len 10 eI x1_<| .loop 4 ⟨_,_,_,_,_,zM5 a0 x0 x0_ x1_ 0 []⟩ fun j2=> .app 6 eI 8 j2 [at' (at' a0 x0) x0_]<| .let_ (j2++[at' (at' a0 x0) x0_]:List Int) fun y3=> .len 6 eI x1_<| .loop 4 ⟨_,_,_,_,_,zNy a0 x0 x0_ x1_ 0 y3⟩ fun j5=> .again 10 (IntKind.i64.wrap (x0_+1),j5)))
   (.ret 4 x1_)) _ fun x r=>IH x.1 x.2 r
def zOx (a0:List (List Int)) (x0:Int) (x1:List Int):St:=⟨[(15,nI x0),(14,nI (a0.length:Int)),(13, .d (.lst (List.map (enL (D.int .i64)) a0))),(3,sI (.h 0) x1)],[]⟩
def zOk (a0:List (List Int)) (x:(List Int)):St:=⟨[(3,sI (.h 1) x)],[]⟩
theorem zM3 (a0:List (List Int)):∀(x0:Int) (x1:List Int),Ok (zBK a0 x0 x1) (LN zBt (.exit 0) (zOk a0) 147 0 (zOx a0 x0 x1)):=by
 refine zBK.partial_correctness a0 _ ?_
 intro f IH x0 x1
 exact Tr.lpN (F:=zBt) (X:=Int×(List Int))
  (.ite 6 16 (x0<(a0.length:Int))
   (.idx 6 (eL eI) a0 x0<| .len 6 eI (at' a0 x0)<| .loop 4 ⟨_,_,_,_,_,zNr a0 x0 0 x1⟩ fun j6=> .again 6 (IntKind.i64.wrap (x0+1),j6))
   (.ret 4 x1)) _ fun x r=>IH x.1 x.2 r
theorem zPS (a0:List (List Int)):HS 147 (zER a0) [.lst (List.map (enL (D.int .i64)) a0)] zAy:=Tr.fn (F:=zBt)
 (.len 12 (eL eI) a0<| .loop 4 ⟨_,_,_,_,_,zM3 a0 0 []⟩ fun j7=> .ret 7 j7)
noncomputable abbrev zR0:Fe:= .of Tryz.prog 92 zAf
theorem zRp (a0:Int) (a1:List Int):HS 92 (zDf a0 a1) [.int .i64 a0, .lst (List.map (D.int .i64) a1)] zAf:=Tr.fn (F:=zR0)
 (.call 8 (zP8 a1) zAl fun r1=> .iteN 12 14 (r1.2=0)
  (.ret 9 ([],r1.2))
  (.join 8 5 (γ:=Bool) ⟨fun x=>[(23,bB x)],[6,0],fun _=>[],[]⟩
  (.ite 0 18 (a0<0)
  (.ret 6 true)
  (.len 2 eI a1<| .ret 3 (decide (a0>(a1.length:Int)))))
  fun j2=> .iteB 1 23 (j2)
  (.ret 8 ([],1))
  (.cut 6 eI r1.1 none (some a0)<| .call 1 (zPS [cut' r1.1 none (some a0)]) zBi fun r3=> .ret 4 (r3,0))))
def zIU (v:Int×Int×(List Int)×(List Int)×Int×Int×Int):PV:= .tup [.d (.agg [.int .i64 v.1, .int .i64 v.2.1, .lst (List.map (D.int .i64) v.2.2.1), .lst (List.map (D.int .i64) v.2.2.2.1), .int .i64 v.2.2.2.2.1, .int .i64 v.2.2.2.2.2.1, .lst [], .lst []]),nI v.2.2.2.2.2.2]
noncomputable abbrev zHc:Fe:= .of Tryz.prog 35 zIU
def zOs (a1:List Int) (r1:(List Int)×Int) (x0:Int) (x1:List Int):St:=⟨[(31,nI x0),(30,nI (r1.1.length:Int)),(29,sI (.s 4832) r1.1),(8, .ptr (.s 9679) 0),(4, .ptr (.s 15) 0),(1,lI a1)],[(.s 9679,[nI 1,nI (a1.length:Int),sI (.s 4832) r1.1,sI (.h 0) x1,nI 0,nI 0, .nils, .nils]),(.s 15,[nI 0,nI 0, .nils, .nils,nI 0,nI 0, .nils, .nils])]⟩
def zOj (a1:List Int) (r1:(List Int)×Int) (x:(List Int)):St:=⟨[(8, .ptr (.s 9679) 0),(4, .ptr (.s 15) 0)],[(.s 9679,[nI 1,nI (a1.length:Int),sI (.s 4832) r1.1,sI (.h 1) x,nI 0,nI 0, .nils, .nils]),(.s 15,[nI 0,nI 0, .nils, .nils,nI 0,nI 0, .nils, .nils])]⟩
theorem zM6 (a1:List Int) (r1:(List Int)×Int):∀(x0:Int) (x1:List Int),Ok (zBE a1 r1 x0 x1) (LN zHc (.exit 0) (zOj a1 r1) 35 0 (zOs a1 r1 x0 x1)):=by
 refine zBE.partial_correctness a1 r1 _ ?_
 intro f IH x0 x1
 exact Tr.lpN (F:=zHc) (X:=Int×(List Int))
  (.ite 6 32 (x0<(r1.1.length:Int))
   (.idx 6 eI r1.1 x0<| .idx 8 eI a1 (at' r1.1 x0)<| .hold 3 []<| .app 0 eI 8 x1 [at' a1 (at' r1.1 x0)]<| .let_ (x1++[at' a1 (at' r1.1 x0)]:List Int) fun y2=> .again 9 (IntKind.i64.wrap (x0+1),y2))
   (.ret 4 x1)) _ fun x r=>IH x.1 x.2 r
theorem zQh (a0:Int) (a1:List Int):HS 35 (zDE a0 a1) [.int .i64 a0, .lst (List.map (D.int .i64) a1)] zIU:=Tr.fn (F:=zHc)
 (.len 9 eI a1<| .ite 2 13 ((a1.length:Int)=0)
  (.ret 9 (0,0,[],[],0,0,1))
  (.call 6 (zRp a0 a1) zAl fun r1=> .iteN 12 22 (r1.2=0)
  (.ret 10 (0,0,[],[],0,0,r1.2))
  (.len 5 eI a1<| .len 9 eI r1.1<| .loop 4 ⟨_,_,_,_,_,zM6 a1 r1 0 []⟩ fun j4=> .ret 8 (1,(a1.length:Int),r1.1,j4,0,0,0))))
noncomputable abbrev zHa:Fe:= .of Tryz.prog 39 zAd
def zN7 (a0:List Int) (a1:List Int) (x0:Int):St:=⟨[(13,nI x0),(12,nI (a0.length:Int)),(0,lI a0),(1,lI a1)],[]⟩
def zNV (a0:List Int) (a1:List Int) (x:Unit):St:=⟨[],[]⟩
theorem zNA (a0:List Int) (a1:List Int):∀(x0:Int),Ok (zCR a0 a1 x0) (LR zHa (.exit 0) (zNV a0 a1) 39 0 (zN7 a0 a1 x0)):=by
 refine zCR.partial_correctness a0 a1 _ ?_
 intro f IH x0
 exact Tr.lpR (F:=zHa) (X:=Int)
  (.ite 6 14 (x0<(a0.length:Int))
   (.idx 13 eI a0 x0<| .idx 3 eI a1 x0<| .iteN 3 24 ((at' a0 x0)=(at' a1 x0))
   (.ret 9 (.inl false))
   (.again 7 (IntKind.i64.wrap (x0+1))))
   (.ret 4 (.inr ()))) _ fun x r=>IH x r
theorem zP0 (a0:List Int) (a1:List Int):HS 39 (zEP a0 a1) [.lst (List.map (D.int .i64) a0), .lst (List.map (D.int .i64) a1)] zAd:=Tr.fn (F:=zHa)
 (.len 8 eI a0<| .len 1 eI a1<| .iteN 2 10 ((a0.length:Int)=(a1.length:Int))
  (.ret 7 false)
  (.len 6 eI a0<| .loopR 4 id ⟨_,_,_,_,_,zNA a0 a1 0⟩ fun j1=> .ret 6 true))
noncomputable abbrev zEq:Fe:= .of Tryz.prog 40 zAd
def zKd (a0:List Int) (a1:List Int) (x0:Int):St:=⟨[(13,nI x0),(12,nI (a0.length:Int)),(0,lU a0),(1,lU a1)],[]⟩
def zKm (a0:List Int) (a1:List Int) (x:Unit):St:=⟨[],[]⟩
theorem zJj (a0:List Int) (a1:List Int):∀(x0:Int),Ok (zBN a0 a1 x0) (LR zEq (.exit 0) (zKm a0 a1) 40 0 (zKd a0 a1 x0)):=by
 refine zBN.partial_correctness a0 a1 _ ?_
 intro f IH x0
 exact Tr.lpR (F:=zEq) (X:=Int)
  (.ite 6 14 (x0<(a0.length:Int))
   (.idx 13 eU a0 x0<| .idx 3 eU a1 x0<| .iteN 3 24 ((at' a0 x0)=(at' a1 x0))
   (.ret 9 (.inl false))
   (.again 7 (IntKind.i64.wrap (x0+1))))
   (.ret 4 (.inr ()))) _ fun x r=>IH x r
theorem zK6 (a0:List Int) (a1:List Int):HS 40 (zC7 a0 a1) [.lst (List.map (D.int .u64) a0), .lst (List.map (D.int .u64) a1)] zAd:=Tr.fn (F:=zEq)
 (.len 8 eU a0<| .len 1 eU a1<| .iteN 2 10 ((a0.length:Int)=(a1.length:Int))
  (.ret 7 false)
  (.len 6 eU a0<| .loopR 4 id ⟨_,_,_,_,_,zJj a0 a1 0⟩ fun j1=> .ret 6 true))
end Go.Proofs.YtdgdgfckcnjpfaaGreat.Abs
