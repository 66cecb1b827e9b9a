/- Plain facts on heaps of places: what goes up, and what goes down. Conditions: none. -/
import Derived.Test.YtdgdgfckcnjpfaaGreatPB
import Derived.Test.YtdgdgfckcnjpfaaGreatZM
namespace Go.Proofs.YtdgdgfckcnjpfaaGreat.Abs
open Go Go.RowKit Go.IntWalk
set_option linter.unusedVariables false
set_option linter.unusedSimpArgs false
set_option linter.unusedSectionVars false
set_option maxRecDepth 100000
def bh (x y:zAa):Prop:=x.F_size<y.F_size∨(x.F_size=y.F_size∧y.F_place<x.F_place)
instance (x y:zAa):Decidable (bh x y):=inferInstanceAs (Decidable (_∨_))
theorem zTu {x y:zAa} (h:bh x y):¬bh y x:=by unfold bh at*;omega
theorem zNn (x:zAa):¬bh x x:=by unfold bh;omega
theorem zAbe {x y z:zAa} (h:bh x y) (k:bh y z):bh x z:=by unfold bh at*;omega
theorem zSM {x y z:zAa} (h:¬bh x y) (k:¬bh y z):¬bh x z:=by unfold bh at*;omega
theorem zAdv {x y:zAa} (h:¬bh x y) (k:¬bh y x):x=y:=by
 unfold bh at*
 cases x;cases y
 simp only [zAa.mk.injEq] at*
 omega
theorem cmpU (a b:Int):zDS a b=some (if a<b then -1 else if a>b then 1 else 0):=by
 rw [zDS,zDA,zDA,zAb,zAb,if_neg (by simp),if_neg (by simp)]
 split
 ·rfl
 ·split<;>rfl
theorem cmpI (a b:Int):zE7 a b=some (if a<b then -1 else if a>b then 1 else 0):=by
 rw [zE7,zEJ,zEJ,zAb,zAb,if_neg (by simp),if_neg (by simp)]
 split
 ·rfl
 ·split<;>rfl
theorem zAdP (a b:Int):zH5 [a,b]=some (if a≠0 then a else b):=by
 rw [zH5,zC7,if_pos (by simp),if_pos (by simp),show at' [a,b] 0=a from rfl]
 by_cases ha:a≠0
 ·rw [if_pos ha,zAb,if_pos ha]
 ·rw [if_neg ha,i64_in _ (by omega),zC7,if_pos (by simp),if_pos (by simp),show at' [a,b] (0+1)=b from rfl]
  by_cases hb:b≠0
  ·rw [if_pos hb,zAb,if_neg ha]
  ·rw [if_neg hb,i64_in _ (by omega),zC7,if_neg (by simp),zAb,if_neg ha]
   have:b=0:=by simpa using hb
   rw [this]
theorem zY5 (x y:zAa):∃r,zC3 x y=some r∧decide (r>0)=decide (bh x y):=by
 refine ⟨_,by rw [zC3,cmpU,zAb,cmpI,zAb,zAdP,zAb], ?_⟩
 rw [decide_eq_decide]
 unfold bh
 split<;>split<;>(try split)<;>omega
def e (h:List zAa) (i:Nat):zAa:=h.getD i default
theorem e_at (h:List zAa) (i:Nat):at' h (i:Int)=e h i:=rfl
theorem zU5 {h:List zAa} {i:Nat} (hi:i<h.length):e h i=h[i]:=by simp [e,List.getD_eq_getElem?_getD,List.getElem?_eq_getElem hi]
theorem zQU {h:List zAa} {i k:Nat} (hi:i<h.length) (hk:k<h.length):zBv h (i:Int) (k:Int)=some (decide (bh (e h i) (e h k))):=by
 obtain ⟨r,h1,h2⟩:=zY5 (e h i) (e h k)
 rw [zBv,if_pos ⟨by omega,by omega⟩,if_pos ⟨by omega,by omega⟩,e_at,e_at,h1,zAb,h2]
def zG2 (h:List zAa) (i k:Nat):List zAa:=(h.set i (e h k)).set k (e h i)
theorem zN9 (h:List zAa) (i k:Nat):(zG2 h i k).length=h.length:=by simp [zG2]
theorem zPy {h:List zAa} {i k:Nat} (hi:i<h.length) (hk:k<h.length):(zG2 h i k).Perm h:=by
 rw [zG2,zU5 hi,zU5 hk]
 exact List.set_set_perm hi hk
theorem zWa {h:List zAa} {i k:Nat} (hi:i<h.length) (hk:k<h.length) (c:Nat):e (zG2 h i k) c=if c=k then e h i else if c=i then e h k else e h c:=by
 simp only [e,zG2,List.getD_eq_getElem?_getD,List.getElem?_set,List.length_set]
 by_cases h1:c=k
 ·subst h1;simp [hk]
 ·by_cases h2:c=i
  ·subst h2;simp [h1,hi,Ne.symm h1]
  ·simp [h1,h2,Ne.symm h1,Ne.symm h2]
theorem zQP {h:List zAa} {i k:Nat} (hi:i<h.length) (hk:k<h.length):zBo h (i:Int) (k:Int)=some (zG2 h i k):=by
 rw [zBo,if_pos ⟨by omega,by omega⟩,if_pos ⟨by omega,by omega⟩,if_pos ⟨by omega,by omega⟩,if_pos ⟨by omega,by rw [List.length_set];omega⟩]
 rfl
def Hp (h:List zAa) (n:Nat):Prop:=∀c,0<c→c<n→¬bh (e h c) (e h ((c-1)/2))
theorem zYc {h:List zAa} {n:Nat} (hh:Hp h n):∀(m c:Nat),c≤m→c<n→¬bh (e h c) (e h 0)
 | 0,c,hc,hn=>by
  have:c=0:=by omega
  subst this;exact zNn _
 | m+1,c,hc,hn=>by
  by_cases h0:c=0
  ·subst h0;exact zNn _
  ·exact zSM (hh c (by omega) hn) (zYc hh m ((c-1)/2) (by omega) (by omega))
def Up (h:List zAa) (j n:Nat):Prop:=(∀c,0<c→c<n→c≠j→¬bh (e h c) (e h ((c-1)/2)))∧∀c,0<c→c<n→(c-1)/2=j→0<j→¬bh (e h c) (e h ((j-1)/2))
theorem zXX (n:Nat) (hn:n≤1000000):∀(m j:Nat) (h:List zAa),j≤m→j<n→h.length=n→Up h j n→∃h',zBx (j:Int) h=some h'∧h'.Perm h∧Hp h' n
 | m,0,h,hm,hj,hl,hu=>by
  refine ⟨h, ?_,List.Perm.refl _,fun c h0 h1=>hu.1 c h0 h1 (by omega)⟩
  rw [zBx,if_pos (by decide),zAb,if_pos rfl]
 | 0,j+1,h,hm,hj,hl,hu=>by omega
 | m+1,j+1,h,hm,hj,hl,hu=>by
  have hp:IntKind.i64.wrap (Int.tdiv (IntKind.i64.wrap (((j+1:Nat):Int)-1)) 2)=((j/2:Nat):Int):=by
   have w:IntKind.i64.wrap (((j+1:Nat):Int)-1)=(j:Int):=by rw [i64_in _ (by omega)];omega
   rw [w,Int.tdiv_eq_ediv_of_nonneg (by omega),i64_in _ (by omega)]
   omega
  have hi:j/2<n:=by omega
  rw [zBx,hp,if_neg (by omega),zQU (by omega) (by omega),zAb,zAb]
  by_cases hb:bh (e h (j+1)) (e h (j/2))
  ·rw [if_neg (by simp [hb]),zQP (by omega) (by omega),zAb]
   have es:=fun c=>zWa (h:=h) (i:=j/2) (k:=j+1) (by omega) (by omega) c
   have hU:Up (zG2 h (j/2) (j+1)) (j/2) n:=by
    refine ⟨fun c c0 c1 c2=> ?_,fun c c0 c1 c2 c3=> ?_⟩
    ·rw [es,es]
     by_cases q1:c=j+1
     ·subst q1
      rw [if_pos rfl,if_neg (by omega),if_pos (by omega)]
      exact zTu hb
     ·rw [if_neg q1,if_neg c2]
      by_cases q2:(c-1)/2=j+1
      ·rw [if_pos q2]
       have:=hu.2 c c0 c1 q2 (by omega)
       simpa using this
      ·rw [if_neg q2]
       have h1:=hu.1 c c0 c1 q1
       by_cases q3:(c-1)/2=j/2
       ·rw [if_pos q3]
        intro hc
        rw [q3] at h1
        exact h1 (zAbe hc hb)
       ·rw [if_neg q3];exact h1
    ·rw [es,es,if_neg (show ¬(j/2-1)/2=j+1 by omega),if_neg (show ¬(j/2-1)/2=j/2 by omega)]
     have h1:=hu.1 (j/2) c3 hi (by omega)
     by_cases q1:c=j+1
     ·rw [if_pos q1];exact h1
     ·rw [if_neg q1,if_neg (by omega)]
      have h2:=hu.1 c c0 c1 q1
      rw [c2] at h2
      exact zSM h2 h1
   obtain ⟨h',g1,g2,g3⟩:=zXX n hn m (j/2) (zG2 h (j/2) (j+1)) (by omega) hi (by rw [zN9,hl]) hU
   exact ⟨h',g1,g2.trans (zPy (by omega) (by omega)),g3⟩
  ·rw [if_pos (by simp [hb])]
   refine ⟨h,rfl,List.Perm.refl _,fun c h0 h1=> ?_⟩
   by_cases q:c=j+1
   ·subst q;simpa using hb
   ·exact hu.1 c h0 h1 q
def Dn (h:List zAa) (i n:Nat):Prop:=(∀c,0<c→c<n→(c-1)/2≠i→¬bh (e h c) (e h ((c-1)/2)))∧∀c,0<c→c<n→(c-1)/2=i→0<i→¬bh (e h c) (e h ((i-1)/2))
theorem zZ1 (a1:Int) (n:Nat) (hn:n≤1000000):∀(m i:Nat) (h:List zAa),n≤i+m→i≤n→n≤h.length→Dn h i n→
  ∃x h',zAN a1 (n:Int) (i:Int) h=some (x,h')∧h'.Perm h∧Hp h' n∧∀c,n≤c→e h' c=e h c:=by
 intro m
 induction m with
 | zero=>
  intro i h hm hi hl hd
  refine ⟨(i:Int),h, ?_,List.Perm.refl _,fun c c0 c1=>hd.1 c c0 c1 (by omega),fun _ _=>rfl⟩
  have w1:IntKind.i64.wrap (2*(i:Int))=2*(i:Int):=i64_in _ (by omega)
  have w2:IntKind.i64.wrap (2*(i:Int)+1)=2*(i:Int)+1:=i64_in _ (by omega)
  rw [zAN,w1,w2,if_pos (by omega),zAb,if_pos rfl]
 | succ m ih=>
  intro i h hm hi hl hd
  have w1:IntKind.i64.wrap (2*(i:Int))=2*(i:Int):=i64_in _ (by omega)
  have w2:IntKind.i64.wrap (2*(i:Int)+1)=((2*i+1:Nat):Int):=by rw [i64_in _ (by omega)];omega
  have w3:IntKind.i64.wrap (((2*i+1:Nat):Int)+1)=((2*i+2:Nat):Int):=by rw [i64_in _ (by omega)];omega
  rw [zAN,w1,w2,w3]
  by_cases hj:2*i+1<n
  rotate_left
  ·rw [if_pos (by omega),zAb,if_pos rfl]
   exact ⟨(i:Int),h,rfl,List.Perm.refl _,fun c c0 c1=>hd.1 c c0 c1 (by omega),fun _ _=>rfl⟩
  rw [if_neg (by omega),zAb,if_neg (by simp;omega),zAb]
  have step:∀j,j<n→(j-1)/2=i→0<j→(∀c,0<c→c<n→(c-1)/2=i→¬bh (e h c) (e h j))→
    ∃x h',((zBv h (j:Int) (i:Int))>>=fun r6=>if r6=false then some ((i:Int),h) else (zBo h (i:Int) (j:Int))>>=fun r7=>zAN a1 (n:Int) (j:Int) r7)=some (x,h')∧h'.Perm h∧Hp h' n∧∀c,n≤c→e h' c=e h c:=by
   intro j hjn hji hj0 hmax
   rw [zQU (by omega) (by omega),zAb]
   by_cases hb:bh (e h j) (e h i)
   ·rw [if_neg (by simp [hb]),zQP (by omega) (by omega),zAb]
    have es:=fun c=>zWa (h:=h) (i:=i) (k:=j) (by omega) (by omega) c
    have hD:Dn (zG2 h i j) j n:=by
     refine ⟨fun c c0 c1 c2=> ?_,fun c c0 c1 c2 c3=> ?_⟩
     ·rw [es c,es ((c-1)/2)]
      by_cases q1:c=j
      ·rw [if_pos q1,if_neg c2,if_pos (by rw [q1];exact hji)]
       exact zTu hb
      ·rw [if_neg q1,if_neg c2]
       by_cases q2:(c-1)/2=i
       ·rw [if_pos q2,if_neg (by omega)]
        exact hmax c c0 c1 q2
       ·rw [if_neg q2]
        by_cases q3:c=i
        ·subst q3
         rw [if_pos rfl]
         exact hd.2 j hj0 hjn hji c0
        ·rw [if_neg q3]
         exact hd.1 c c0 c1 q2
     ·rw [es c,es ((j-1)/2),if_neg (by omega),if_neg (by omega),hji,if_neg (by omega),if_pos rfl]
      have:=hd.1 c c0 c1 (by omega)
      rwa [c2] at this
    obtain ⟨x,h',g1,g2,g3,g4⟩:=ih j (zG2 h i j) (by omega) (by omega) (by rw [zN9];exact hl) hD
    refine ⟨x,h',g1,g2.trans (zPy (by omega) (by omega)),g3,fun c hc=> ?_⟩
    rw [g4 c hc,es,if_neg (by omega),if_neg (by omega)]
   ·rw [if_pos (by simp [hb])]
    refine ⟨(i:Int),h,rfl,List.Perm.refl _,fun c c0 c1=> ?_,fun _ _=>rfl⟩
    by_cases q:(c-1)/2=i
    ·rw [q];exact zSM (hmax c c0 c1 q) hb
    ·exact hd.1 c c0 c1 q
  by_cases h2:2*i+2<n
  ·rw [if_pos (by omega),zQU (by omega) (by omega),zAb,zAb]
   by_cases hb:bh (e h (2*i+2)) (e h (2*i+1))
   ·rw [if_pos (by simp [hb])]
    refine step (2*i+2) h2 (by omega) (by omega) fun c c0 c1 c2=> ?_
    rcases (show c=2*i+1∨c=2*i+2 by omega) with rfl | rfl
    ·exact zTu hb
    ·exact zNn _
   ·rw [if_neg (by simp [hb])]
    refine step (2*i+1) hj (by omega) (by omega) fun c c0 c1 c2=> ?_
    rcases (show c=2*i+1∨c=2*i+2 by omega) with rfl | rfl
    ·exact zNn _
    ·exact hb
  ·rw [if_neg (by omega),zAb,if_neg (by simp)]
   refine step (2*i+1) hj (by omega) (by omega) fun c c0 c1 c2=> ?_
   have:c=2*i+1:=by omega
   subst this;exact zNn _
end Go.Proofs.YtdgdgfckcnjpfaaGreat.Abs
