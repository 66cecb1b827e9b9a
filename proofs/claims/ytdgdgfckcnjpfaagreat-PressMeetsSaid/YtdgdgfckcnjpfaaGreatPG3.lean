/- Plain facts: frames, part 3. Conditions: none. -/
import Derived.Test.YtdgdgfckcnjpfaaGreatPG2
namespace Go.Proofs.YtdgdgfckcnjpfaaGreat.Abs
open Go Go.RowKit Go.IntWalk Crc
set_option linter.unusedVariables false
set_option linter.unusedSimpArgs false
set_option linter.unusedSectionVars false
set_option linter.unnecessarySimpa false
set_option maxRecDepth 100000
set_option linter.unnecessarySimpa false
set_option linter.unusedSimpArgs false
set_option maxRecDepth 100000
def bitA (b:List Int) (k:Nat):Bool:=(b.getD (k/8) 0).toNat.testBit (7-k % 8)
def setA (b:List Int) (k:Nat) (v:Bool):List Int:=b.set (k/8) ((((b.getD (k/8) 0).toNat ||| (v.toNat <<< (7-k % 8)):Nat)):Int)
theorem zI1 (b:List Int) (k:Nat) (v:Bool):(setA b k v).length=b.length:=by simp [setA]
theorem zAaT {x y:Nat} (hx:x≤255) (hy:y≤255):x ||| y≤255:=by
 have:=Nat.or_lt_two_pow (n:=8) (show x<2 ^ 8 by omega) (show y<2 ^ 8 by omega)
 omega
theorem zXY (v:Bool) (k:Nat):v.toNat <<< (7-k % 8)≤255:=by
 have h:7-k % 8≤7:=by omega
 rw [Nat.shiftLeft_eq]
 have:2 ^ (7-k % 8)≤2 ^ 7:=Nat.pow_le_pow_right (by omega) h
 cases v<;>simp<;>omega
theorem zPN {b:List Int} (h:U8s b) (k:Nat):0≤b.getD k 0∧b.getD k 0≤255:=by
 by_cases hk:k<b.length
 ·have:b.getD k 0=b[k]:=by simp [hk]
  rw [this];exact h _ (List.getElem_mem hk)
 ·simp [hk]
theorem zS7 {b:List Int} (h:U8s b) (k:Nat) (v:Bool):U8s (setA b k v):=by
 intro x hx
 rcases List.mem_or_eq_of_mem_set hx with hx | rfl
 ·exact h x hx
 ·have h1:=(zPN h (k/8)).2
  have:=zAaT (x:=(b.getD (k/8) 0).toNat) (y:=v.toNat <<< (7-k % 8)) (by omega) (zXY v k)
  omega
theorem zAbG {b:List Int} {k:Nat} (hk:k<8*b.length) (v:Bool) (k':Nat):bitA (setA b k v) k'=(bitA b k'||(v&&decide (k=k'))):=by
 unfold bitA setA
 by_cases h:k/8=k'/8
 ·have h1:k/8<b.length:=by omega
  rw [←h]
  have h2:(b.set (k/8) ((((b.getD (k/8) 0).toNat ||| (v.toNat <<< (7-k % 8)):Nat)):Int)).getD (k/8) 0=((((b.getD (k/8) 0).toNat ||| (v.toNat <<< (7-k % 8)):Nat)):Int):=by
   simp [List.getD_eq_getElem?_getD,h1]
  rw [h2,Int.toNat_natCast,Nat.testBit_or,Nat.testBit_shiftLeft]
  congr 1
  by_cases hkk:k=k'
  ·subst hkk;cases v<;>simp
  ·have hm:7-k' % 8≠7-k % 8:=by omega
   cases v with
   | false=>simp
   | true=>
    simp only [Bool.toNat_true,hkk,decide_false,Bool.and_false]
    by_cases hge:7-k % 8≤7-k' % 8
    ·have:7-k' % 8-(7-k % 8)≠0:=by omega
     have h1:Nat.testBit 1 (7-k' % 8-(7-k % 8))=false:=by
      cases ht:Nat.testBit 1 (7-k' % 8-(7-k % 8)) with
      | false=>rfl
      | true=>exact absurd (Nat.testBit_one_eq_true_iff_self_eq_zero.1 ht) this
     rw [h1];simp
    ·simp [hge]
 ·have h2:(b.set (k/8) ((((b.getD (k/8) 0).toNat ||| (v.toNat <<< (7-k % 8)):Nat)):Int)).getD (k'/8) 0=b.getD (k'/8) 0:=by
   simp [List.getD_eq_getElem?_getD,List.getElem?_set,h]
  rw [h2]
  have:k≠k':=fun e=>h (by rw [e])
  simp [this]
def zHo (p:Nat→Nat) (a w:Nat):Nat→List Int→List Int
 | 0,b=>b
 | j+1,b=>zHo p a w j (setA b (p (w-(j+1))) (a.testBit j))
def zHb (p:Nat→Nat→Nat) (w:Nat):List Int→Nat→List Int→List Int
 | [],_,b=>b
 | a::t,e,b=>zHb p w t (e+1) (zHo (p e) a.toNat w w b)
theorem zGN (p:Nat→Nat) (a w:Nat):∀(j:Nat) (b:List Int),(zHo p a w j b).length=b.length
 | 0,b=>rfl
 | j+1,b=>by rw [zHo,zGN p a w j,zI1]
theorem zOt (p:Nat→Nat) (a w:Nat):∀(j:Nat) (b:List Int),U8s b→U8s (zHo p a w j b)
 | 0,b,h=>h
 | j+1,b,h=>zOt p a w j _ (zS7 h _ _)
theorem zRv (p:Nat→Nat→Nat) (w:Nat):∀(t:List Int) (e:Nat) (b:List Int),(zHb p w t e b).length=b.length
 | [],e,b=>rfl
 | a::t,e,b=>by rw [zHb,zRv p w t,zGN]
theorem zT0 (p:Nat→Nat→Nat) (w:Nat):∀(t:List Int) (e:Nat) (b:List Int),U8s b→U8s (zHb p w t e b)
 | [],e,b,h=>h
 | a::t,e,b,h=>zT0 p w t _ _ (zOt _ _ _ _ _ h)
theorem zUl (p:Nat→Nat) (a w:Nat):∀(j:Nat) (b:List Int) (k:Nat),j≤w→(∀i<w,p i<8*b.length)→(bitA (zHo p a w j b) k=true↔bitA b k=true∨∃m<j,p (w-1-m)=k∧a.testBit m=true)
 | 0,b,k,hj,hp=>by simp [zHo]
 | j+1,b,k,hj,hp=>by
  have h1:=hp (w-(j+1)) (by omega)
  rw [zHo,zUl p a w j _ k (by omega) (fun i hi=>by rw [zI1];exact hp i hi),zAbG h1]
  simp only [Bool.or_eq_true,Bool.and_eq_true,decide_eq_true_eq]
  constructor
  ·rintro ((h | ⟨h2,h3⟩) | ⟨m,h2,h3⟩)
   ·exact .inl h
   ·exact .inr ⟨j,by omega,by rw [←h3,show w-1-j=w-(j+1) by omega],h2⟩
   ·exact .inr ⟨m,by omega,h3⟩
  ·rintro (h | ⟨m,h2,h3,h4⟩)
   ·exact .inl (.inl h)
   ·by_cases hm:m=j
    ·subst hm;exact .inl (.inr ⟨h4,by rw [←h3,show w-1-m=w-(m+1) by omega]⟩)
    ·exact .inr ⟨m,by omega,h3,h4⟩
theorem zSd (p:Nat→Nat→Nat) (w:Nat):∀(t:List Int) (e:Nat) (b:List Int) (k:Nat),(∀n<t.length,∀i<w,p (e+n) i<8*b.length)→
  (bitA (zHb p w t e b) k=true↔bitA b k=true∨∃n<t.length,∃m<w,p (e+n) (w-1-m)=k∧(t.getD n 0).toNat.testBit m=true)
 | [],e,b,k,hp=>by simp [zHb]
 | a::t,e,b,k,hp=>by
  rw [zHb,zSd p w t (e+1) _ k (fun n hn i hi=>by
   rw [zGN];have:=hp (n+1) (by simp;omega) i hi;rwa [show e+1+n=e+(n+1) by omega]),zUl _ _ _ _ _ _ (Nat.le_refl _) (fun i hi=>by simpa using hp 0 (by simp) i hi)]
  constructor
  ·rintro ((h | ⟨m,h1,h2,h3⟩) | ⟨n,h1,m,h2,h3,h4⟩)
   ·exact .inl h
   ·exact .inr ⟨0,by simp,m,h1,by simpa using h2,by simpa using h3⟩
   ·exact .inr ⟨n+1,by simp;omega,m,h2,by rw [show e+(n+1)=e+1+n by omega];exact h3,by simpa using h4⟩
  ·rintro (h | ⟨n,h1,m,h2,h3,h4⟩)
   ·exact .inl (.inl h)
   ·cases n with
    | zero=>exact .inl (.inr ⟨m,h2,by simpa using h3,by simpa using h4⟩)
    | succ n=>exact .inr ⟨n,by simp at h1;omega,m,h2,by rw [show e+1+n=e+(n+1) by omega];exact h3,by simpa using h4⟩
def zBP (f:Nat→Bool):Nat→Nat→Nat
 | 0,acc=>acc
 | j+1,acc=>zBP f j (2*acc+(f j).toNat)
theorem zM0 (f:Nat→Bool):∀(j acc:Nat),zBP f j acc/2 ^ j=acc∧∀m<j,(zBP f j acc).testBit m=f m
 | 0,acc=>by simp [zBP]
 | j+1,acc=>by
  obtain ⟨h1,h2⟩:=zM0 f j (2*acc+(f j).toNat)
  rw [zBP]
  constructor
  ·rw [Nat.pow_succ,←Nat.div_div_eq_div_mul,h1]
   cases f j<;>simp<;>omega
  ·intro m hm
   by_cases hmj:m=j
   ·subst hmj
    have:((zBP f m (2*acc+(f m).toNat)).testBit m).toNat=(f m).toNat:=by
     rw [Nat.toNat_testBit,h1]
     cases f m<;>simp<;>omega
    cases h3:(zBP f m (2*acc+(f m).toNat)).testBit m<;>cases h4:f m<;>simp_all
   ·exact h2 m (by omega)
theorem zZG (f:Nat→Bool) (w:Nat):zBP f w 0<2 ^ w:=by
 have:=(zM0 f w 0).1
 exact (Nat.div_eq_zero_iff_lt (Nat.two_pow_pos w)).1 this
theorem zAaC {x w:Nat} (h:x<2 ^ w) {f:Nat→Bool} (hf:∀m<w,f m=x.testBit m):zBP f w 0=x:=by
 refine Nat.eq_of_testBit_eq fun m=> ?_
 by_cases hm:m<w
 ·rw [(zM0 f w 0).2 m hm,hf m hm]
 ·rw [Nat.testBit_lt_two_pow (Nat.lt_of_lt_of_le (zZG f w) (Nat.pow_le_pow_right (by omega) (by omega))),Nat.testBit_lt_two_pow (Nat.lt_of_lt_of_le h (Nat.pow_le_pow_right (by omega) (by omega)))]
structure Plc (p:Nat→Nat→Nat) (w d:Nat):Prop where
 lt:∀e<d,∀i<w,p e i<w*d
 inj:∀e<d,∀i<w,∀e'<d,∀i'<w,p e i=p e' i'→e=e'∧i=i'
 on:∀k<w*d,∃e<d,∃i<w,p e i=k
def pWov (d:Nat) (e i:Nat):Nat:=i*d+e
def zAQ (w:Nat) (e i:Nat):Nat:=e*w+i
theorem zNx (w d : Nat) : Plc (pWov d) w d := by
  refine ⟨fun e he i hi => ?_, fun e he i hi e' he' i' hi' h => ?_, fun k hk => ?_⟩
  · unfold pWov
    have : (i + 1) * d ≤ w * d := Nat.mul_le_mul_right d hi
    rw [Nat.add_mul] at this; omega
  · unfold pWov at h
    have h1 : (i * d + e) % d = e := by rw [Nat.mul_add_mod_self_right, Nat.mod_eq_of_lt he]
    have h2 : (i' * d + e') % d = e' := by rw [Nat.mul_add_mod_self_right, Nat.mod_eq_of_lt he']
    have he : e = e' := by rw [← h1, ← h2, h]
    subst he
    have : i * d = i' * d := by omega
    exact ⟨rfl, Nat.eq_of_mul_eq_mul_right (by omega) this⟩
  · have hd : 0 < d := by rcases Nat.eq_zero_or_pos d with h | h; · subst h; omega
                          · exact h
    exact ⟨k % d, Nat.mod_lt _ hd, k / d, (Nat.div_lt_iff_lt_mul hd).2 hk, by unfold pWov; rw [Nat.mul_comm]; exact Nat.div_add_mod k d⟩
theorem zLK (w d : Nat) : Plc (zAQ w) w d := by
  refine ⟨fun e he i hi => ?_, fun e he i hi e' he' i' hi' h => ?_, fun k hk => ?_⟩
  · unfold zAQ
    have : (e + 1) * w ≤ d * w := Nat.mul_le_mul_right w he
    rw [Nat.add_mul] at this; rw [Nat.mul_comm w d]; omega
  · unfold zAQ at h
    have h1 : (e * w + i) % w = i := by rw [Nat.mul_add_mod_self_right, Nat.mod_eq_of_lt hi]
    have h2 : (e' * w + i') % w = i' := by rw [Nat.mul_add_mod_self_right, Nat.mod_eq_of_lt hi']
    have hi : i = i' := by rw [← h1, ← h2, h]
    subst hi
    have : e * w = e' * w := by omega
    exact ⟨Nat.eq_of_mul_eq_mul_right (by omega) this, rfl⟩
  · have hw : 0 < w := by rcases Nat.eq_zero_or_pos w with h | h; · subst h; omega
                          · exact h
    exact ⟨k / w, (Nat.div_lt_iff_lt_mul hw).2 (by rw [Nat.mul_comm]; exact hk), k % w, Nat.mod_lt _ hw, by unfold zAQ; rw [Nat.mul_comm]; exact Nat.div_add_mod k w⟩
def bytesOf (w d:Nat):Nat:=(w*d+7)/8
def zEK (p:Nat→Nat→Nat) (w d:Nat) (l:List Int):List Int:=zHb p w l 0 (List.replicate (bytesOf w d) 0)
def zAK (p:Nat→Nat→Nat) (w d:Nat) (b:List Int):List Int:=(List.range d).map fun e=>((zBP (fun m=>bitA b (p e (w-1-m))) w 0:Nat):Int)
theorem zAaz (n k:Nat):bitA (List.replicate n 0) k=false:=by
 unfold bitA
 have:(List.replicate n (0:Int)).getD (k/8) 0=0:=by
  simp only [List.getD_eq_getElem?_getD,List.getElem?_replicate];split<;>rfl
 rw [this];simp
theorem zFO (p:Nat→Nat→Nat) (w d:Nat) (l:List Int):(zEK p w d l).length=bytesOf w d:=by simp [zEK,zRv]
theorem zPe (p:Nat→Nat→Nat) (w d:Nat) (l:List Int):U8s (zEK p w d l):=zT0 _ _ _ _ _ (by intro x hx;rw [List.mem_replicate] at hx;omega)
theorem zCX (p:Nat→Nat→Nat) (w d:Nat) (b:List Int):(zAK p w d b).length=d:=by simp [zAK]
theorem zSr {p:Nat→Nat→Nat} {w d:Nat} (hp:Plc p w d) {l:List Int} (hl:l.length=d) (k:Nat):bitA (zEK p w d l) k=true↔∃n<d,∃m<w,p n (w-1-m)=k∧(l.getD n 0).toNat.testBit m=true:=by
 rw [zEK,zSd p w l 0 _ k (fun n hn i hi=>by
  have:=hp.lt n (by omega) i hi
  simp [bytesOf];omega),zAaz,hl]
 simp only [Bool.false_eq_true,false_or,Nat.zero_add]
theorem zVp {p:Nat→Nat→Nat} {w d:Nat} (hp:Plc p w d) {l:List Int} (hl:l.length=d) (hx:∀x∈l,0≤x∧x.toNat<2 ^ w):zAK p w d (zEK p w d l)=l:=by
 apply List.ext_getElem
 ·rw [zCX,hl]
 ·intro e h1 h2
  rw [zCX] at h1
  have hle:=hx l[e] (List.getElem_mem h2)
  have hg:l.getD e 0=l[e]:=by simp [h2]
  simp only [zAK,List.getElem_map,List.getElem_range]
  rw [zAaC hle.2 (fun m hm=> ?_)]
  ·omega
  ·rw [Bool.eq_iff_iff,zSr hp hl]
   constructor
   ·rintro ⟨n,hn,m',hm',h3,h4⟩
    obtain ⟨rfl,h5⟩:=hp.inj n hn (w-1-m') (by omega) e h1 (w-1-m) (by omega) h3
    have:m'=m:=by omega
    subst this
    rw [hg] at h4;exact h4
   ·intro h;exact ⟨e,h1,m,hm,rfl,by rw [hg];exact h⟩
end Go.Proofs.YtdgdgfckcnjpfaaGreat.Abs
