/- Plain facts: how any model is to be bent by samples that go with it (model, and the document's). Conditions: none. -/
import Derived.Test.YtnmlihfpenjeiaaGreatFX15
namespace Go.Proofs.YtnmlihfpenjeiaaGreat.Abs
open Go Go.RowKit Go.IntWalk
set_option linter.unusedVariables false
set_option linter.unusedSimpArgs false
set_option linter.unnecessarySimpa false
set_option maxRecDepth 100000
def zDX (m:zAc) (w:List Int) (l:List zAa):List Int×Int:=
 if (w.length:Int)≠dimN m then ([],4)
 else if m.F_Kind=0 then zFB (lin1 w m.F_Frac) l
 else if m.F_Kind=1 then zFB (zBu (m.F_In+1).toNat m.F_Out.toNat w m.F_Frac) l
 else zFB (mlp1 (m.F_In+1).toNat m.F_Hid.toNat w m.F_Frac) l
def fitL (m:zAc) (l:List zAa):Prop:=(∀s∈l,goes m s=true)∧(1≤l.length∧l.length≤64)∧∀s∈l,sI s
theorem zIx {m:zAc} {l:List zAa} (h:fitL m l):zEj m.F_In l:=⟨fun s hs=>by
 have:=h.1 s hs
 unfold goes at this
 simp only [Bool.and_eq_true,decide_eq_true_eq] at this
 exact this.1,h.2.1⟩
theorem zJx {m:zAc} {l:List zAa} (h:fitL m l) (hk:m.F_Kind=1):zJ0 m.F_In m.F_Out l:=⟨zIx h,fun s hs=>by
 have:=h.1 s hs
 unfold goes at this
 simp only [Bool.and_eq_true,Bool.or_eq_true,decide_eq_true_eq] at this
 exact this.2.resolve_left (fun x=>x hk)⟩
theorem zZi {m:zAc} {w:List Int} {l:List zAa} (hm:zCV m) (h:fitL m l):zDz m w l=some (if (w.length:Int)=dimN m then 0 else 4):=by
 have hs:=zIx h
 obtain ⟨h1,h2,h3⟩:=hm
 rw [zDz,zKS,if_pos ⟨h1,h2,h3⟩,zAb,if_neg (by simp),dimN]
 rcases h3 with ⟨k,_,_⟩ | ⟨k,ho,_⟩ | ⟨k,_,ho⟩
 ·rw [if_neg (by omega),if_neg (by omega),zU0 h1 hs,zAb,if_neg (show ¬m.F_Kind=1 by omega),if_neg (show ¬m.F_Kind=2 by omega)]
 ·rw [if_pos k,zUY h1 ho (zJx h k),zAb,if_pos k]
 ·rw [if_neg (by omega),if_pos k,zUW h1 ho hs,zAb,if_neg (show ¬m.F_Kind=1 by omega),if_pos k]
theorem zOo {one:zAa→List Int×Int} {l:List zAa} {d:Nat} (hl:1≤l.length∧l.length≤64) (h:∀s∈l,I64s (one s).1∧((one s).2=0→(one s).1.length=d)):I64s (zFB one l).1∧((zFB one l).2≠0→(zFB one l).1=[])∧((zFB one l).2=0→(zFB one l).1.length=d):=by
 unfold zFB
 by_cases g:(mapE one l).2≠0
 ·rw [if_pos g];exact ⟨fun y hy=>(by cases hy),fun _=>rfl,fun q=>absurd q g⟩
 ·rw [if_neg g]
  obtain ⟨a1,a2,a3⟩:=zW4 hl.2 h
  refine ⟨zYn,zV1,fun q=>zWk (fun e=> ?_) a3 q⟩
  have:=zB6 one l (by omega)
  rw [e] at this;simp at this;omega
theorem zBL {x:Int} (h:0≤x):((x.toNat:Nat):Int)=x:=by omega
theorem zQ2 {m:zAc} {w:List Int} {l:List zAa} (hm:zCV m) (h:fitL m l):I64s (zDX m w l).1∧((zDX m w l).2≠0→(zDX m w l).1=[])∧((zDX m w l).2=0→((zDX m w l).1.length:Int)=dimN m):=by
 have hs:=zIx h
 obtain ⟨h1,h2,h3⟩:=hm
 unfold zDX
 by_cases g:(w.length:Int)≠dimN m
 ·rw [if_pos g];exact ⟨fun y hy=>(by cases hy),fun _=>rfl,fun q=>by simp at q⟩
 ·rw [if_neg g]
  have g:(w.length:Int)=dimN m:=by omega
  rw [←g]
  rw [dimN] at g
  have hx:∀s∈l,(m.F_In+1).toNat=s.F_X.length+1:=fun s hm=>by have:=hs.1 s hm;omega
  rcases h3 with ⟨k,_,_⟩ | ⟨k,ho,_⟩ | ⟨k,_,ho⟩
  ·rw [if_neg (by omega),if_neg (by omega)] at g
   rw [if_pos k]
   obtain ⟨a1,a2,a3⟩:=zOo (one:=lin1 w m.F_Frac) (d:=w.length) h.2.1 (fun s hm=>⟨zK5.1,fun q=>by rw [zK5.2.2 q];have:=hx s hm;omega⟩)
   exact ⟨a1,a2,fun q=>by rw [a3 q]⟩
  ·rw [if_pos k] at g
   rw [if_neg (by omega),if_pos k]
   obtain ⟨a1,a2,a3⟩:=zOo (one:=zBu (m.F_In+1).toNat m.F_Out.toNat w m.F_Frac) (d:=w.length) h.2.1 (fun s hm=>⟨(zOm (hx s hm)).1,fun q=>by
    rw [(zOm (hx s hm)).2.1 q]
    have:((m.F_Out.toNat*(m.F_In+1).toNat:Nat):Int)=(m.F_In+1)*m.F_Out:=by rw [Int.natCast_mul,zBL (by omega),zBL (by omega),Int.mul_comm]
    omega⟩)
   exact ⟨a1,a2,fun q=>by rw [a3 q]⟩
  ·rw [if_neg (by omega),if_pos k] at g
   rw [if_neg (by omega),if_neg (by omega)]
   have hd:((m.F_Hid.toNat*(m.F_In+1).toNat:Nat):Int)=m.F_Hid*(m.F_In+1):=by rw [Int.natCast_mul,zBL (by omega),zBL (by omega)]
   have hw:w.length=m.F_Hid.toNat*(m.F_In+1).toNat+m.F_Hid.toNat+1:=by omega
   obtain ⟨a1,a2,a3⟩:=zOo (one:=mlp1 (m.F_In+1).toNat m.F_Hid.toNat w m.F_Frac) (d:=w.length) h.2.1 (fun s hm=>⟨(zQJ hw (hx s hm)).1,fun q=>by rw [(zQJ hw (hx s hm)).2 q,←hw]⟩)
   exact ⟨a1,a2,fun q=>by rw [a3 q]⟩
theorem zVG {m:zAc} {w:List Int} {l:List zAa} (hm:zCV m) (hw:I64s w) (h:fitL m l):zGJ m w l=some (zDX m w l):=by
 have hs:=zIx h
 rw [zGJ,zZi hm h,zAb,zDX]
 obtain ⟨h1,h2,h3⟩:=hm
 by_cases g:(w.length:Int)≠dimN m
 ·rw [if_neg g,if_pos (by decide),if_pos g]
 ·rw [if_pos (show (w.length:Int)=dimN m by omega),if_neg (by decide),if_neg g]
  have g:(w.length:Int)=dimN m:=by omega
  rw [dimN] at g
  rcases h3 with ⟨k,_,_⟩ | ⟨k,ho,_⟩ | ⟨k,_,ho⟩
  ·rw [if_neg (show ¬m.F_Kind=1 by omega),if_neg (show ¬m.F_Kind=2 by omega)] at g
   rw [if_neg (by omega),if_neg (by omega),if_pos k,(zQb hw h2 h1 hs h.2.2 g).2];rfl
  ·rw [if_pos k] at g
   have hd:((m.F_Out.toNat*(m.F_In+1).toNat:Nat):Int)=(m.F_In+1)*m.F_Out:=by rw [Int.natCast_mul,zBL (by omega),zBL (by omega),Int.mul_comm]
   have e:=(zS7 (o:=m.F_Out.toNat) (n:=(m.F_In+1).toNat) (w:=w) (f:=m.F_Frac) (l:=l) (by omega) (by omega) (by omega) hw h2 (by rw [zBL (by omega),zBL (by omega),show m.F_In+1-1=m.F_In by omega];exact zJx h k) h.2.2).2
   rw [zBL (show 0≤m.F_Out by omega)] at e
   rw [if_pos k,e,if_neg (by omega),if_pos k];rfl
  ·rw [if_neg (show ¬m.F_Kind=1 by omega),if_pos k] at g
   have hd:((m.F_Hid.toNat*(m.F_In+1).toNat:Nat):Int)=m.F_Hid*(m.F_In+1):=by rw [Int.natCast_mul,zBL (by omega),zBL (by omega)]
   have e:=(zRL (h:=m.F_Hid.toNat) (n:=(m.F_In+1).toNat) (w:=w) (f:=m.F_Frac) (l:=l) (by omega) (by omega) (by omega) hw h2 (by rw [zBL (by omega),show m.F_In+1-1=m.F_In by omega];exact hs) h.2.2).2
   rw [zBL (show 0≤m.F_Hid by omega)] at e
   rw [if_neg (by omega),if_pos k,e,if_neg (by omega),if_neg (by omega)];rfl
theorem zW2 {m:zAc} {w:List Int} {l:List zAa} (hm:zCV m) (hw:I64s w) (h:fitL m l):zHJ m w l=some (zDX m w l):=by
 have hs:=zIx h
 have hm':=hm
 rw [zHJ,zVO hm,zAb,zDX]
 obtain ⟨h1,h2,h3⟩:=hm
 rcases h3 with ⟨k,_,_⟩ | ⟨k,ho,_⟩ | ⟨k,_,ho⟩
 ·have hd:dimN m=m.F_In+1:=by rw [dimN,if_neg (by omega),if_neg (by omega)]
  rw [if_pos k]
  simp only
  rw [if_pos trivial,zBO]
  simp only
  rw [zUL h1 hs,zAb,zAb]
  by_cases g:(w.length:Int)≠dimN m
  ·rw [if_pos g,if_neg (show ¬((w.length:Int)=m.F_In+1) by omega),if_pos (by decide)]
  ·rw [if_neg g,if_pos (show (w.length:Int)=m.F_In+1 by omega),if_neg (by decide),if_pos k,zCE]
   simp only
   rw [(zQb hw h2 h1 hs h.2.2 (by omega)).1];rfl
 ·have hd:dimN m=(m.F_In+1)*m.F_Out:=by rw [dimN,if_pos k]
  rw [if_neg (by omega),if_pos k]
  simp only
  rw [if_pos trivial,zB1]
  simp only
  rw [zR3 h1 ho (zJx h k),zAb,zAb]
  by_cases g:(w.length:Int)≠dimN m
  ·rw [if_pos g,if_neg (show ¬((w.length:Int)=(m.F_In+1)*m.F_Out) by omega),if_pos (by decide)]
  ·have hd2:((m.F_Out.toNat*(m.F_In+1).toNat:Nat):Int)=(m.F_In+1)*m.F_Out:=by rw [Int.natCast_mul,zBL (by omega),zBL (by omega),Int.mul_comm]
   have e:=(zS7 (o:=m.F_Out.toNat) (n:=(m.F_In+1).toNat) (w:=w) (f:=m.F_Frac) (l:=l) (by omega) (by omega) (by omega) hw h2 (by rw [zBL (by omega),zBL (by omega),show m.F_In+1-1=m.F_In by omega];exact zJx h k) h.2.2).1
   rw [zBL (show 0≤m.F_Out by omega)] at e
   rw [if_neg g,if_pos (show (w.length:Int)=(m.F_In+1)*m.F_Out by omega),if_neg (by decide),if_neg (show ¬m.F_Kind=0 by omega),if_pos k,zCU]
   simp only
   rw [e];rfl
 ·have hd:dimN m=m.F_Hid*(m.F_In+1)+m.F_Hid+1:=by rw [dimN,if_neg (by omega),if_pos k]
  rw [if_neg (by omega),if_neg (by omega)]
  simp only
  rw [if_pos trivial,zCa]
  simp only
  rw [zUK h1 ho hs,zAb,zAb]
  by_cases g:(w.length:Int)≠dimN m
  ·rw [if_pos g,if_neg (show ¬((w.length:Int)=m.F_Hid*(m.F_In+1)+m.F_Hid+1) by omega),if_pos (by decide)]
  ·have hd2:((m.F_Hid.toNat*(m.F_In+1).toNat:Nat):Int)=m.F_Hid*(m.F_In+1):=by rw [Int.natCast_mul,zBL (by omega),zBL (by omega)]
   have e:=(zRL (h:=m.F_Hid.toNat) (n:=(m.F_In+1).toNat) (w:=w) (f:=m.F_Frac) (l:=l) (by omega) (by omega) (by omega) hw h2 (by rw [zBL (by omega),show m.F_In+1-1=m.F_In by omega];exact hs) h.2.2).1
   rw [zBL (show 0≤m.F_Hid by omega)] at e
   rw [if_neg g,if_pos (show (w.length:Int)=m.F_Hid*(m.F_In+1)+m.F_Hid+1 by omega),if_neg (by decide),if_neg (show ¬m.F_Kind=0 by omega),if_neg (show ¬m.F_Kind=1 by omega),zDe]
   simp only
   rw [e];rfl
def zLi (m:zAc) (w:List Int) (c:Int) (l:List zAa):List Int×Int:=if (zDX m w l).2≠0 then ([],(zDX m w l).2) else ((zDX m w l).1.map (zGx c),0)
theorem zXu {m:zAc} {w:List Int} {c:Int} {l:List zAa} (hm:zCV m) (hw:I64s w) (h:fitL m l) (hc:0≤c∧J64 c):zHN m w c l=some (zLi m w c l)∧zGP m w c l=some (zLi m w c l):=by
 obtain ⟨a1,a2,a3⟩:=zQ2 (w:=w) hm h
 rw [zHN,zGP,zW2 hm hw h,zVG hm hw h,zAb,zAb,zLi]
 by_cases g:(zDX m w l).2≠0
 ·rw [if_pos g,if_pos g,if_pos g];exact ⟨rfl,rfl⟩
 ·have hd:=zNc hm
  have:=a3 (by omega)
  obtain ⟨c1,c2⟩:=zX0 (v:=(zDX m w l).1) (m:=c) (by omega) hc
  rw [if_neg g,if_neg g,if_neg g,c1,c2];exact ⟨rfl,rfl⟩
end Go.Proofs.YtnmlihfpenjeiaaGreat.Abs
