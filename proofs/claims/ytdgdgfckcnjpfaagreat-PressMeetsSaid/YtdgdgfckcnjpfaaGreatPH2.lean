/- Plain facts on the places that are picked. Conditions: none. -/
import Derived.Test.YtdgdgfckcnjpfaaGreatPH1
import Derived.Test.YtdgdgfckcnjpfaaGreatSrtS
namespace Go.Proofs.YtdgdgfckcnjpfaaGreat.Abs
open Go Go.RowKit Go.IntWalk
set_option linter.unusedVariables false
set_option linter.unusedSimpArgs false
set_option linter.unusedSectionVars false
set_option maxRecDepth 100000
theorem zZU {h:List zAa} (x:zAa) (hl:h.length≤100000) (hh:Hp h h.length):∃h',zB4 h x.F_place x.F_size=some h'∧h'.Perm (h++[x])∧Hp h' h'.length:=by
 have hU:Up (h++[x]) h.length (h.length+1):=by
  refine ⟨fun c c0 c1 c2=> ?_,fun c c0 c1 c2 c3=>by omega⟩
  have e1:∀c,c<h.length→e (h++[x]) c=e h c:=fun c hc=>by simp [e,List.getD_eq_getElem?_getD,List.getElem?_append_left hc]
  rw [e1 c (by omega),e1 _ (by omega)]
  exact hh c c0 (by omega)
 obtain ⟨h',g1,g2,g3⟩:=zXX (h.length+1) (by omega) h.length h.length (h++[x]) (by omega) (by omega) (by simp) hU
 have hlen:h'.length=h.length+1:=by rw [g2.length_eq];simp
 refine ⟨h', ?_,g2,by rw [hlen];exact g3⟩
 rw [zB4,zD3,if_pos (zAcg (by omega) (by simp;omega)),zAb,zBs,zAb,zFz]
 have w:IntKind.i64.wrap (((h++[x]).length:Int)-1)=(h.length:Int):=by rw [i64_in _ (by simp;omega)];simp
 have ex:(⟨x.F_place,x.F_size⟩:zAa)=x:=rfl
 rw [ex,w,g1,zAb,zAb]
theorem zAbB {h:List zAa} (h0:0<h.length) (hl:h.length≤100000) (hh:Hp h h.length):∃a b h',zCy h=some (a,b,h')∧h'.length+1=h.length∧Hp h' h'.length∧h.Perm (h'++[e h 0])∧∀y∈h,¬bh y (e h 0):=by
 obtain ⟨n,hn⟩:∃n,h.length=n+1:=⟨h.length-1,by omega⟩
 have w:IntKind.i64.wrap ((h.length:Int)-1)=(n:Int):=by rw [i64_in _ (by omega)];omega
 have es:=fun c=>zWa (h:=h) (i:=0) (k:=n) (by omega) (by omega) c
 have hD:Dn (zG2 h 0 n) 0 n:=by
  refine ⟨fun c c0 c1 c2=> ?_,fun c c0 c1 c2 c3=>by omega⟩
  rw [es c,es ((c-1)/2),if_neg (by omega),if_neg (by omega),if_neg (by omega),if_neg c2]
  exact hh c c0 (by omega)
 obtain ⟨x,h2,g1,g2,g3,g4⟩:=zZ1 0 n (by omega) n 0 (zG2 h 0 n) (by omega) (by omega) (by rw [zN9];omega) hD
 have hl2:h2.length=n+1:=by rw [g2.length_eq,zN9,hn]
 have en:e h2 n=e h 0:=by rw [g4 n (Nat.le_refl _),es,if_pos rfl]
 have hsplit:h2=h2.take n++[e h 0]:=by
  have h3:h2.drop n=[e h 0]:=by
   rw [List.drop_eq_getElem_cons (by omega),List.drop_of_length_le (by omega),←en,zU5 (by omega)]
  conv=>lhs;rw [←List.take_append_drop n h2,h3]
 have w2:IntKind.i64.wrap ((h2.length:Int)-1)=(n:Int):=by rw [hl2,i64_in _ (by omega)];omega
 refine ⟨(e h2 n).F_place,(e h2 n).F_size,h2.take n, ?_,by simp;omega, ?_, ?_,fun y hy=> ?_⟩
 ·rw [zCy,zBs,zAb,w]
  have s0:=zQP (h:=h) (i:=0) (k:=n) (by omega) (by omega)
  rw [show ((0:Nat):Int)=0 from rfl] at s0 g1
  rw [s0,zAb,zEr,g1,zAb,zAb,zFx]
  dsimp only
  rw [w2]
  have hc:cut' h2 none (some (n:Int))=h2.take n:=by simp [cut']
  rw [if_pos (by simp only [cutOk,Option.getD_none,Option.getD_some];omega),zAb,if_pos (by omega),zAb,hc,e_at]
 ·have e1:∀c,c<n→e (h2.take n) c=e h2 c:=fun c hc=>by simp [e,List.getD_eq_getElem?_getD,List.getElem?_take,hc]
  intro c c0 c1
  have c1':c<n:=by simp at c1;omega
  rw [e1 c c1',e1 _ (by omega)]
  exact g3 c c0 c1'
 ·rw [←hsplit]
  exact (g2.trans (zPy (by omega) (by omega))).symm
 ·obtain ⟨i,hi,rfl⟩:=List.getElem_of_mem hy
  rw [←zU5 hi]
  exact zYc hh i i (Nat.le_refl _) hi
structure Kept (p S R:List zAa) (k:Nat):Prop where
 perm:p.Perm (S++R)
 len:S.length=min k p.length
 best:∀x∈S,∀y∈R,¬bh x y
theorem Kept.step {p S R:List zAa} {k:Nat} (h:Kept p S R k) (hl:p.length≤50000) (hk:k≤50000) (hh:Hp S S.length) (x:zAa):
  ∃S' R',Kept (p++[x]) S' R' k∧Hp S' S'.length∧((zB4 S x.F_place x.F_size)>>=fun r3=>(zBs r3)>>=fun r4=>if r4>(k:Int) then (zCy r3)>>=fun r5=>some r5.2.2 else some r3)=some S':=by
 have hSl:S.length≤50000:=by rw [h.len];omega
 obtain ⟨S1,a1,a2,a3⟩:=zZU (h:=S) x (by omega) hh
 have hl1:S1.length=S.length+1:=by rw [a2.length_eq];simp
 have hR:p.length=S.length+R.length:=by rw [h.perm.length_eq];simp
 rw [a1,zAb,zBs,zAb]
 by_cases hgt:(S1.length:Int)>(k:Int)
 rotate_left
 ·refine ⟨S1,R,⟨?_, ?_, ?_⟩,a3,by rw [if_neg hgt]⟩
  ·have:(p++[x]).Perm ((S++R)++[x]):=h.perm.append_right _
   refine this.trans ?_
   rw [List.append_assoc]
   refine ((List.perm_append_comm (l₁:=R) (l₂:=[x])).append_left S).trans ?_
   rw [←List.append_assoc]
   exact (a2.symm).append_right R
  ·have:=h.len;simp only [List.length_append,List.length_singleton];omega
  ·intro z hz y hy
   have:R.length=0:=by have:=h.len;omega
   rw [List.length_eq_zero_iff.1 this] at hy;simp at hy
 rw [if_pos hgt]
 obtain ⟨a,b,S2,b1,b2,b3,b4,b5⟩:=zAbB (h:=S1) (by omega) (by omega) a3
 rw [b1,zAb]
 have hm:S1.Perm (S2++[e S1 0]):=b4
 generalize e S1 0=m at*
 have hp2:(S++[x]).Perm (S2++[m]):=a2.symm.trans hm
 refine ⟨S2,m::R,⟨?_, ?_, ?_⟩,b3,rfl⟩
 ·have t1:(p++[x]).Perm ((S++R)++[x]):=h.perm.append_right _
  refine t1.trans ?_
  rw [List.append_assoc]
  refine ((List.perm_append_comm (l₁:=R) (l₂:=[x])).append_left S).trans ?_
  rw [←List.append_assoc]
  refine (hp2.append_right R).trans ?_
  rw [List.append_assoc];exact List.Perm.refl _
 ·have:=h.len;simp only [List.length_append,List.length_singleton];omega
 ·intro z hz y hy
  have hz1:z∈S1:=hm.mem_iff.2 (List.mem_append_left _ hz)
  rcases List.mem_cons.1 hy with rfl | hy
  ·exact b5 z hz1
  ·have hzm:=b5 z hz1
   by_cases hmx:m=x
   ·subst hmx
    have hSS:S.Perm S2:=(List.perm_append_right_iff [m]).1 hp2
    exact h.best z (hSS.mem_iff.2 hz) y hy
   ·have hmS:m∈S:=by
     have:m∈S++[x]:=hp2.mem_iff.2 (by simp)
     rcases List.mem_append.1 this with h' | h'
     ·exact h'
     ·exact absurd (by simpa using h') hmx
    exact zSM hzm (h.best m hmS y hy)
theorem zXQ (k:Nat) (hk:k≤50000) (v:List zAa) (hv:v.length≤40000):∀(t:List zAa) (i:Nat) (S R:List zAa),v.drop i=t→Kept (v.take i) S R k→Hp S S.length→
  ∃S' R',zCJ (k:Int) v (i:Int) S=some S'∧Kept v S' R' k
 | [],i,S,R,h,hK,hh=>by
  have hi:v.length≤i:=List.drop_eq_nil_iff.1 h
  refine ⟨S,R,by rw [zCJ,if_neg (zAI h)], ?_⟩
  rwa [List.take_of_length_le hi] at hK
 | x::t,i,S,R,h,hK,hh=>by
  obtain ⟨h1,h2,h3⟩:=zAm h
  obtain ⟨S',R',g1,g2,g3⟩:=hK.step (by simp;omega) hk hh x
  have ht:v.take (i+1)=v.take i++[x]:=by
   have hlt:i<v.length:=by omega
   rw [List.take_add_one,List.getElem?_eq_getElem hlt]
   have:v[i]=x:=by
    have:=List.drop_eq_getElem_cons hlt
    rw [h] at this;exact (List.cons.inj this).1.symm
   rw [this];rfl
  rw [←ht] at g1
  obtain ⟨S2,R2,k1,k2⟩:=zXQ k hk v hv t (i+1) S' R' h3 g1 g2
  refine ⟨S2,R2, ?_,k2⟩
  rw [zCJ,if_pos h1,if_pos ⟨by omega,h1⟩,h2,zA6 (by omega)]
  obtain ⟨r3,p1,p2⟩:=Option.bind_eq_some_iff.1 g3
  rw [p1,zAb]
  rw [zBs,zAb] at p2⊢
  by_cases hg:(r3.length:Int)>(k:Int)
  ·rw [if_pos hg] at p2⊢
   obtain ⟨r5,q1,q2⟩:=Option.bind_eq_some_iff.1 p2
   rw [q1,zAb]
   cases q2
   exact k1
  ·rw [if_neg hg] at p2⊢
   cases p2
   exact k1
end Go.Proofs.YtdgdgfckcnjpfaaGreat.Abs
