/- slices.Chunk's closure gives a list's parts, one after another. Conditions: none. -/
import Derived.RangeFuncBox
import Derived.RangeFuncLeaves
import Derived.Shelf.Abstract
import Derived.WalkKit
import Derived.OwnWalkIn
import Derived.TacticsInMore
import Derived.LoopNIn
import Derived.LoopIn
import Derived.Test.YtnmlihfpenjeiaaGreatAbs6
import Derived.Test.YtnmlihfpenjeiaaGreatProg
namespace Go.Proofs.YtnmlihfpenjeiaaGreat.Abs
open Go Go.RowKit Go.Shelf
attribute [local go_sem] Oper.semAt_some
set_option linter.unusedVariables false
theorem zXS {pr:Nat→Prop} {w:World} {es:List D} {vs:List Value} {b o k n:Nat} (hp:pr b) (h4:∀u∈vs,u.cells.size=1) (h5:zAC w b o (flat vs)) (h6:DRs pr w es vs) (hk:k*n<es.length):
  DR pr w (.lst (zDl n k es)) (.slice (some ⟨b,o+k*n,none⟩) (min n (es.length-k*n)) (min n (es.length-k*n))):=by
 have hlen:(zDl n k es).length=min n (es.length-k*n):=by simp [zDl]
 rw [DR]
 refine .inr ⟨b,o+k*n,min n (es.length-k*n),1,(vs.drop (k*n)).take n,by rw [hlen],by rw [hlen];exact Nat.le_refl _,hp,fun u hu=>h4 u (List.mem_of_mem_drop (List.mem_of_mem_take hu)), ?_,DRs.take _ (DRs.drop _ h6)⟩
 rw [zIP (sz:=1) (fun u hu=>h4 u (List.mem_of_mem_drop hu)),zKj h4,Nat.mul_one,Nat.mul_one]
 exact (h5.drop _).take _
theorem zMN {n len k:Nat} (hn:1≤n):k<zC5 n len↔k*n<len:=by
 unfold zC5
 rw [Nat.lt_div_iff_mul_lt (by omega)]
 omega
set_option maxRecDepth 100000 in
set_option maxHeartbeats 2000000 in
theorem zVS (l N len cap b1 o1 b2 o2 bs os:Nat) (pr:Nat→Prop) (w:World) (J:Nat→World→Prop) (hn1:1≤N) (hn2:N≤4611686018427387904) (hl:len≤4611686018427387904) (hcap:len≤cap)
  (h1:pr b1) (h2:pr b2) (hs:w.cell? ⟨b1,o1,none⟩=some (.slice (some ⟨bs,os,none⟩) len cap)) (hn:w.cell? ⟨b2,o2,none⟩=some (.int .i64 (N:Int)))
  (hdrew:∀k W,J k W→J k W.drew) (hpr:∀k W,J k W→∀b,pr b→W.heap[b]? =w.heap[b]?)
  (hY:∀k W,J k W→k*N<len→YieldAt Fence.wide 0 Tryz.prog l #[.slice (some ⟨bs,os+k*N,none⟩) (min N (len-k*N)) (min N (len-k*N))] W fun e W'=>e= .returned (.bool true)∧J (k+1) W')
  (h0:J 0 w):CallsIn Fence.wide 0 Tryz.prog 259 #[.func (.yield l) #[] #[], .pointer (some ⟨b1,o1,none⟩), .pointer (some ⟨b2,o2,none⟩)] w fun e W'=>(∃v,e= .returned v)∧J (zC5 N len) W':=by
 refine callsIn_of_wp Tryz.func259 rfl trivial ?_ rfl
 simp only [Tryz.ntmps259,List.size_toArray,List.length_cons,List.length_nil,Nat.reduceAdd,Nat.reduceSub,Array.replicate_succ,Array.replicate_zero,List.push_toArray,List.append_toArray,List.nil_append,List.cons_append]
 gi_wp2
 gi_loopw [4] (fun i wr=>∃k:Nat,k≤zC5 N len∧i= .int .i64 ((k*N:Nat):Int)∧J k wr)
  (fun i _=>len+N-(intOf i).toNat)
 case atStart=>exact ⟨0,Nat.zero_le _,by simp,h0⟩
 case round=>
  obtain ⟨k,hk,rfl,hJs⟩:=hrel
  have hs':wr.cell? ⟨b1,o1,none⟩=some (.slice (some ⟨bs,os,none⟩) len cap):=(World.cell?_of_block (hpr k wr hJs b1 h1)).trans hs
  have hn':wr.cell? ⟨b2,o2,none⟩=some (.int .i64 (N:Int)):=(World.cell?_of_block (hpr k wr hJs b2 h2)).trans hn
  by_cases hlt:k*N<len
  ·have hcv:=hY k wr.drew (hdrew k wr hJs) hlt
   have hs2:wr.drew.cell? ⟨b1,o1,none⟩=some (.slice (some ⟨bs,os,none⟩) len cap):=hs'
   have hn2':wr.drew.cell? ⟨b2,o2,none⟩=some (.int .i64 (N:Int)):=hn'
   have hkN:(k+1)*N=k*N+N:=by rw [Nat.add_mul,Nat.one_mul]
   have hk1:k+1≤zC5 N len:=(zMN (k:=k) (len:=len) hn1).2 hlt
   generalize hi:k*N=i at*
   obtain ⟨fn,tmps,assign,body,hy,hR⟩:=hcv
   have hmix:Tryz.prog.follows .mixedOrders=true:=by kernel_rfl
   gi_wp2
   gi_region
   all_goals gi_wp2
   all_goals
    first
     | rw [show ((i:Int)+((len-i:Nat):Int)).toNat-i=min N (len-i) by omega,hy]
     | rw [show ((i:Int)+(N:Int)).toNat-i=min N (len-i) by omega,hy]
    refine ⟨by simp [Fence.wide],RoundIn.mono hR ?_⟩
    rintro e W3 ⟨rfl,hJ3⟩
    have hn3:W3.cell? ⟨b2,o2,none⟩=some (.int .i64 (N:Int)):=(World.cell?_of_block (hpr _ W3 hJ3 b2 h2)).trans hn
    gi_wp2
    refine ⟨⟨k+1,hk1,by rw [hkN];simp,hJ3⟩,by simp [intOf];omega⟩
  ·have:k=zC5 N len:=by
    have:=mt (zMN (k:=k) (len:=len) hn1).1 hlt
    omega
   subst this
   gi_wp2
   go_end0
   exact ⟨⟨_,rfl⟩,hJs⟩
set_option maxRecDepth 100000 in
theorem zTA (l N b1 o1 b2 o2 cap:Nat) (a:Option Addr) (w:World) (J:Nat→World→Prop) (hs:w.cell? ⟨b1,o1,none⟩=some (.slice a 0 cap)) (h0:J 0 w):
  CallsIn Fence.wide 0 Tryz.prog 259 #[.func (.yield l) #[] #[], .pointer (some ⟨b1,o1,none⟩), .pointer (some ⟨b2,o2,none⟩)] w fun e W'=>(∃v,e= .returned v)∧J 0 W':=by
 refine callsIn_of_wp Tryz.func259 rfl trivial ?_ rfl
 simp only [Tryz.ntmps259,List.size_toArray,List.length_cons,List.length_nil,Nat.reduceAdd,Nat.reduceSub,Array.replicate_succ,Array.replicate_zero,List.push_toArray,List.append_toArray,List.nil_append,List.cons_append]
 gi_wp2
 gi_loopw [4] (fun i wr=>i= .int .i64 0∧J 0 wr∧wr=w) (fun _ _=>0)
 case atStart=>exact ⟨rfl,h0,rfl⟩
 case round=>
  obtain ⟨rfl,hJs,rfl⟩:=hrel
  gi_wp2
  go_end0
  exact ⟨⟨_,rfl⟩,hJs⟩
theorem zWA {pr:Nat→Prop} {w:World} {x:D} {v:Value} (h:DR pr w (.cp [x] 0) v):∃b o u,v= .pointer (some ⟨b,o,none⟩)∧pr b∧w.cell? ⟨b,o,none⟩=some u∧DR pr w x u:=by
 rw [DR] at h
 obtain ⟨b,o,vs,rfl,h1,_,h3,h4⟩:=h
 simp only [DRs] at h4
 obtain ⟨u,us,rfl,h5,rfl⟩:=h4
 exact ⟨b,o,u,by simp,h1,by have:=h3 0 u rfl;simpa using this,h5⟩
theorem zNP:zNr Tryz.prog 259 1:=by
 refine ⟨enters_of Tryz.func259 (by kernel_rfl) rfl, ?_⟩
 intro l es n pr w v1 v2 J hn1 hn2 hl hsz hd1 hd2 hdrew hpr hY h0
 obtain ⟨b1,o1,u1,rfl,hp1,hc1,hx1⟩:=zWA hd1
 obtain ⟨b2,o2,u2,rfl,hp2,hc2,hx2⟩:=zWA hd2
 rw [DR] at hx2;subst hx2
 obtain ⟨N,rfl⟩:∃N:Nat,n=(N:Int):=⟨n.toNat,by omega⟩
 simp only [Int.toNat_natCast] at hY⊢
 by_cases hes:es=[]
 ·subst hes
  have h1:∃a c,u1= .slice a 0 c:=by
   rw [DR] at hx1
   rcases hx1 with ⟨_,a,c,rfl⟩ | ⟨b,o,cap,sz,vs,rfl,_⟩
   ·exact ⟨_,_,rfl⟩
   ·exact ⟨_,_,rfl⟩
  obtain ⟨a,c,rfl⟩:=h1
  have hK:zC5 N ([]:List D).length=0:=by
   unfold zC5
   exact Nat.div_eq_of_lt (by simp;omega)
  rw [hK]
  exact callsIn_wide.1 (zTA l N b1 o1 b2 o2 c a w J hc1 h0)
 ·rw [DR] at hx1
  rcases hx1 with ⟨h,_⟩ | ⟨bs,os,cap,sz,vs,rfl,hcap,hpb,h4,h5,h6⟩
  ·exact absurd h hes
  ·have hs1:sz=1:=by
    obtain ⟨e0,he0⟩:∃e0,es[0]? =some e0:=zHD (List.length_pos_iff.2 hes)
    obtain ⟨u0,hu0,hd0⟩:=h6.getElem? he0
    rw [←h4 u0 (List.mem_of_getElem? hu0),hd0.size,hsz e0 (List.mem_of_getElem? he0)]
   subst hs1
   refine callsIn_wide.1 (zVS l N es.length cap b1 o1 b2 o2 bs os pr w J (by omega) (by omega) hl hcap hp1 hp2 hc1 hc2 hdrew hpr (fun k W hj hk=> ?_) h0)
   exact hY k W _ hj ((zMN (by omega)).2 hk) (zXS hpb h4 h5 h6 hk)
end Go.Proofs.YtnmlihfpenjeiaaGreat.Abs
