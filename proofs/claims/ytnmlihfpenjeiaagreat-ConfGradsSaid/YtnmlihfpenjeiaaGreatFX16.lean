/- Plain facts: how any model is to be bent by samples that go with it (model, and the document's). Conditions: none. -/
import Derived.Test.YtnmlihfpenjeiaaGreatFX15
namespace Go.Proofs.YtnmlihfpenjeiaaGreat.Abs
open Go Go.RowKit Go.IntWalk
set_option linter.unusedVariables false
set_option linter.unusedSimpArgs false
set_option linter.unnecessarySimpa false
set_option maxRecDepth 100000
def zD4 (m:zAf) (w:List Int) (l:List zAa):List Int×Int:=
 if (w.length:Int)≠dimN m then ([],4)
 else if m.F_Kind=0 then zF8 (lin1 w m.F_Frac) l
 else if m.F_Kind=1 then zF8 (zBJ (m.F_In+1).toNat m.F_Out.toNat w m.F_Frac) l
 else zF8 (mlp1 (m.F_In+1).toNat m.F_Hid.toNat w m.F_Frac) l
def fitL (m:zAf) (l:List zAa):Prop:=(∀s∈l,goes m s=true)∧(1≤l.length∧l.length≤64)∧∀s∈l,sI s
theorem zJH {m:zAf} {l:List zAa} (h:fitL m l):zEv m.F_In l:=⟨fun s hs=>by
 have:=h.1 s hs
 unfold goes at this
 simp only [Bool.and_eq_true,decide_eq_true_eq] at this
 exact this.1,h.2.1⟩
theorem zKl {m:zAf} {l:List zAa} (h:fitL m l) (hk:m.F_Kind=1):zKX m.F_In m.F_Out l:=⟨zJH h,fun s hs=>by
 have:=h.1 s hs
 unfold goes at this
 simp only [Bool.and_eq_true,Bool.or_eq_true,decide_eq_true_eq] at this
 exact this.2.resolve_left (fun x=>x hk)⟩
theorem zAc5 {m:zAf} {w:List Int} {l:List zAa} (hm:zDr m) (h:fitL m l):zCG m w l=some (if (w.length:Int)=dimN m then 0 else 4):=by
 have hs:=zJH h
 obtain ⟨h1,h2,h3⟩:=hm
 rw [zCG,zLX,if_pos ⟨h1,h2,h3⟩,zAb,if_neg (by simp),dimN]
 rcases h3 with ⟨k,_,_⟩ | ⟨k,ho,_⟩ | ⟨k,_,ho⟩
 ·rw [if_neg (by omega),if_neg (by omega),zYE h1 hs,zAb,if_neg (show ¬m.F_Kind=1 by omega),if_neg (show ¬m.F_Kind=2 by omega)]
 ·rw [if_pos k,zYC h1 ho (zKl h k),zAb,if_pos k]
 ·rw [if_neg (by omega),if_pos k,zX6 h1 ho hs,zAb,if_neg (show ¬m.F_Kind=1 by omega),if_pos k]
theorem zR3 {one:zAa→List Int×Int} {l:List zAa} {d:Nat} (hl:1≤l.length∧l.length≤64) (h:∀s∈l,I64s (one s).1∧((one s).2=0→(one s).1.length=d)):I64s (zF8 one l).1∧((zF8 one l).2≠0→(zF8 one l).1=[])∧((zF8 one l).2=0→(zF8 one l).1.length=d):=by
 unfold zF8
 by_cases g:(mapE one l).2≠0
 ·rw [if_pos g];exact ⟨fun y hy=>(by cases hy),fun _=>rfl,fun q=>absurd q g⟩
 ·rw [if_neg g]
  obtain ⟨a1,a2,a3⟩:=zZM hl.2 h
  refine ⟨zAcA,zAaP,fun q=>zZz (fun e=> ?_) a3 q⟩
  have:=zCk one l (by omega)
  rw [e] at this;simp at this;omega
theorem zBU {x:Int} (h:0≤x):((x.toNat:Nat):Int)=x:=by omega
theorem zUx {m:zAf} {w:List Int} {l:List zAa} (hm:zDr m) (h:fitL m l):I64s (zD4 m w l).1∧((zD4 m w l).2≠0→(zD4 m w l).1=[])∧((zD4 m w l).2=0→((zD4 m w l).1.length:Int)=dimN m):=by
 have hs:=zJH h
 obtain ⟨h1,h2,h3⟩:=hm
 unfold zD4
 by_cases g:(w.length:Int)≠dimN m
 ·rw [if_pos g];exact ⟨fun y hy=>(by cases hy),fun _=>rfl,fun q=>by simp at q⟩
 ·rw [if_neg g]
  have g:(w.length:Int)=dimN m:=by omega
  rw [←g]
  rw [dimN] at g
  have hx:∀s∈l,(m.F_In+1).toNat=s.F_X.length+1:=fun s hm=>by have:=hs.1 s hm;omega
  rcases h3 with ⟨k,_,_⟩ | ⟨k,ho,_⟩ | ⟨k,_,ho⟩
  ·rw [if_neg (by omega),if_neg (by omega)] at g
   rw [if_pos k]
   obtain ⟨a1,a2,a3⟩:=zR3 (one:=lin1 w m.F_Frac) (d:=w.length) h.2.1 (fun s hm=>⟨zMd.1,fun q=>by rw [zMd.2.2 q];have:=hx s hm;omega⟩)
   exact ⟨a1,a2,fun q=>by rw [a3 q]⟩
  ·rw [if_pos k] at g
   rw [if_neg (by omega),if_pos k]
   obtain ⟨a1,a2,a3⟩:=zR3 (one:=zBJ (m.F_In+1).toNat m.F_Out.toNat w m.F_Frac) (d:=w.length) h.2.1 (fun s hm=>⟨(zSb (hx s hm)).1,fun q=>by
    rw [(zSb (hx s hm)).2.1 q]
    have:((m.F_Out.toNat*(m.F_In+1).toNat:Nat):Int)=(m.F_In+1)*m.F_Out:=by rw [Int.natCast_mul,zBU (by omega),zBU (by omega),Int.mul_comm]
    omega⟩)
   exact ⟨a1,a2,fun q=>by rw [a3 q]⟩
  ·rw [if_neg (by omega),if_pos k] at g
   rw [if_neg (by omega),if_neg (by omega)]
   have hd:((m.F_Hid.toNat*(m.F_In+1).toNat:Nat):Int)=m.F_Hid*(m.F_In+1):=by rw [Int.natCast_mul,zBU (by omega),zBU (by omega)]
   have hw:w.length=m.F_Hid.toNat*(m.F_In+1).toNat+m.F_Hid.toNat+1:=by omega
   obtain ⟨a1,a2,a3⟩:=zR3 (one:=mlp1 (m.F_In+1).toNat m.F_Hid.toNat w m.F_Frac) (d:=w.length) h.2.1 (fun s hm=>⟨(zUr hw (hx s hm)).1,fun q=>by rw [(zUr hw (hx s hm)).2 q,←hw]⟩)
   exact ⟨a1,a2,fun q=>by rw [a3 q]⟩
theorem zYP {m:zAf} {w:List Int} {l:List zAa} (hm:zDr m) (hw:I64s w) (h:fitL m l):zFf m w l=some (zD4 m w l):=by
 have hs:=zJH h
 rw [zFf,zAc5 hm h,zAb,zD4]
 obtain ⟨h1,h2,h3⟩:=hm
 by_cases g:(w.length:Int)≠dimN m
 ·rw [if_neg g,if_pos (by decide),if_pos g]
 ·rw [if_pos (show (w.length:Int)=dimN m by omega),if_neg (by decide),if_neg g]
  have g:(w.length:Int)=dimN m:=by omega
  rw [dimN] at g
  rcases h3 with ⟨k,_,_⟩ | ⟨k,ho,_⟩ | ⟨k,_,ho⟩
  ·rw [if_neg (show ¬m.F_Kind=1 by omega),if_neg (show ¬m.F_Kind=2 by omega)] at g
   rw [if_neg (by omega),if_neg (by omega),if_pos k,(zTz hw h2 h1 hs h.2.2 g).2];rfl
  ·rw [if_pos k] at g
   have hd:((m.F_Out.toNat*(m.F_In+1).toNat:Nat):Int)=(m.F_In+1)*m.F_Out:=by rw [Int.natCast_mul,zBU (by omega),zBU (by omega),Int.mul_comm]
   have e:=(zWz (o:=m.F_Out.toNat) (n:=(m.F_In+1).toNat) (w:=w) (f:=m.F_Frac) (l:=l) (by omega) (by omega) (by omega) hw h2 (by rw [zBU (by omega),zBU (by omega),show m.F_In+1-1=m.F_In by omega];exact zKl h k) h.2.2).2
   rw [zBU (show 0≤m.F_Out by omega)] at e
   rw [if_pos k,e,if_neg (by omega),if_pos k];rfl
  ·rw [if_neg (show ¬m.F_Kind=1 by omega),if_pos k] at g
   have hd:((m.F_Hid.toNat*(m.F_In+1).toNat:Nat):Int)=m.F_Hid*(m.F_In+1):=by rw [Int.natCast_mul,zBU (by omega),zBU (by omega)]
   have e:=(zWr (h:=m.F_Hid.toNat) (n:=(m.F_In+1).toNat) (w:=w) (f:=m.F_Frac) (l:=l) (by omega) (by omega) (by omega) hw h2 (by rw [zBU (by omega),show m.F_In+1-1=m.F_In by omega];exact hs) h.2.2).2
   rw [zBU (show 0≤m.F_Hid by omega)] at e
   rw [if_neg (by omega),if_pos k,e,if_neg (by omega),if_neg (by omega)];rfl
theorem zZ6 {m:zAf} {w:List Int} {l:List zAa} (hm:zDr m) (hw:I64s w) (h:fitL m l):zIE m w l=some (zD4 m w l):=by
 have hs:=zJH h
 have hm':=hm
 rw [zIE,zYI hm,zAb,zD4]
 obtain ⟨h1,h2,h3⟩:=hm
 rcases h3 with ⟨k,_,_⟩ | ⟨k,ho,_⟩ | ⟨k,_,ho⟩
 ·have hd:dimN m=m.F_In+1:=by rw [dimN,if_neg (by omega),if_neg (by omega)]
  rw [if_pos k]
  simp only
  rw [if_pos trivial,zB2]
  simp only
  rw [zYz h1 hs,zAb,zAb]
  by_cases g:(w.length:Int)≠dimN m
  ·rw [if_pos g,if_neg (show ¬((w.length:Int)=m.F_In+1) by omega),if_pos (by decide)]
  ·rw [if_neg g,if_pos (show (w.length:Int)=m.F_In+1 by omega),if_neg (by decide),if_pos k,zCY]
   simp only
   rw [(zTz hw h2 h1 hs h.2.2 (by omega)).1];rfl
 ·have hd:dimN m=(m.F_In+1)*m.F_Out:=by rw [dimN,if_pos k]
  rw [if_neg (by omega),if_pos k]
  simp only
  rw [if_pos trivial,zCf]
  simp only
  rw [zVt h1 ho (zKl h k),zAb,zAb]
  by_cases g:(w.length:Int)≠dimN m
  ·rw [if_pos g,if_neg (show ¬((w.length:Int)=(m.F_In+1)*m.F_Out) by omega),if_pos (by decide)]
  ·have hd2:((m.F_Out.toNat*(m.F_In+1).toNat:Nat):Int)=(m.F_In+1)*m.F_Out:=by rw [Int.natCast_mul,zBU (by omega),zBU (by omega),Int.mul_comm]
   have e:=(zWz (o:=m.F_Out.toNat) (n:=(m.F_In+1).toNat) (w:=w) (f:=m.F_Frac) (l:=l) (by omega) (by omega) (by omega) hw h2 (by rw [zBU (by omega),zBU (by omega),show m.F_In+1-1=m.F_In by omega];exact zKl h k) h.2.2).1
   rw [zBU (show 0≤m.F_Out by omega)] at e
   rw [if_neg g,if_pos (show (w.length:Int)=(m.F_In+1)*m.F_Out by omega),if_neg (by decide),if_neg (show ¬m.F_Kind=0 by omega),if_pos k,zDc]
   simp only
   rw [e];rfl
 ·have hd:dimN m=m.F_Hid*(m.F_In+1)+m.F_Hid+1:=by rw [dimN,if_neg (by omega),if_pos k]
  rw [if_neg (by omega),if_neg (by omega)]
  simp only
  rw [if_pos trivial,zCp]
  simp only
  rw [zYl h1 ho hs,zAb,zAb]
  by_cases g:(w.length:Int)≠dimN m
  ·rw [if_pos g,if_neg (show ¬((w.length:Int)=m.F_Hid*(m.F_In+1)+m.F_Hid+1) by omega),if_pos (by decide)]
  ·have hd2:((m.F_Hid.toNat*(m.F_In+1).toNat:Nat):Int)=m.F_Hid*(m.F_In+1):=by rw [Int.natCast_mul,zBU (by omega),zBU (by omega)]
   have e:=(zWr (h:=m.F_Hid.toNat) (n:=(m.F_In+1).toNat) (w:=w) (f:=m.F_Frac) (l:=l) (by omega) (by omega) (by omega) hw h2 (by rw [zBU (by omega),show m.F_In+1-1=m.F_In by omega];exact hs) h.2.2).1
   rw [zBU (show 0≤m.F_Hid by omega)] at e
   rw [if_neg g,if_pos (show (w.length:Int)=m.F_Hid*(m.F_In+1)+m.F_Hid+1 by omega),if_neg (by decide),if_neg (show ¬m.F_Kind=0 by omega),if_neg (show ¬m.F_Kind=1 by omega),zDq]
   simp only
   rw [e];rfl
def zMQ (m:zAf) (w:List Int) (c:Int) (l:List zAa):List Int×Int:=if (zD4 m w l).2≠0 then ([],(zD4 m w l).2) else ((zD4 m w l).1.map (zHg c),0)
theorem zAbn {m:zAf} {w:List Int} {c:Int} {l:List zAa} (hm:zDr m) (hw:I64s w) (h:fitL m l) (hc:0≤c∧J64 c):zIx m w c l=some (zMQ m w c l)∧zFn m w c l=some (zMQ m w c l):=by
 obtain ⟨a1,a2,a3⟩:=zUx (w:=w) hm h
 rw [zIx,zFn,zZ6 hm hw h,zYP hm hw h,zAb,zAb,zMQ]
 by_cases g:(zD4 m w l).2≠0
 ·rw [if_pos g,if_pos g,if_pos g];exact ⟨rfl,rfl⟩
 ·have hd:=zQy hm
  have:=a3 (by omega)
  obtain ⟨c1,c2⟩:=zAaR (v:=(zD4 m w l).1) (m:=c) (by omega) hc
  rw [if_neg g,if_neg g,if_neg g,c1,c2];exact ⟨rfl,rfl⟩
end Go.Proofs.YtnmlihfpenjeiaaGreat.Abs
