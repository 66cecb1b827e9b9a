/- Plain facts: frames, part 4. Conditions: none. -/
import Derived.Test.YtdgdgfckcnjpfaaGreatPG3
namespace Go.Proofs.YtdgdgfckcnjpfaaGreat.Abs
open Go Go.RowKit Go.IntWalk Crc
set_option linter.unusedVariables false
set_option linter.unusedSimpArgs false
set_option linter.unusedSectionVars false
set_option linter.unnecessarySimpa false
set_option maxRecDepth 100000
set_option linter.unnecessarySimpa false
set_option linter.unusedSimpArgs false
set_option maxRecDepth 100000
theorem zAev {x y:Nat} (hx:x≤255) (hy:y≤255):bOr .u8 (x:Int) (y:Int)=((x ||| y:Nat):Int):=by
 unfold bOr
 have e:IntKind.u8.bits=8:=rfl
 rw [e,BitVec.toNat_or,BitVec.toNat_ofInt,BitVec.toNat_ofInt]
 have e1:((x:Int) % ((2 ^ 8:Nat):Int)).toNat=x:=by omega
 have e2:((y:Int) % ((2 ^ 8:Nat):Int)).toNat=y:=by omega
 rw [e1,e2]
 have:=zYS hx hy
 rw [u8_in _ (by omega)]
theorem and7 {k:Nat} (hk:k≤9223372036854775807):bAnd .i64 (k:Int) 7=((k % 8:Nat):Int):=by
 unfold bAnd
 have e:IntKind.i64.bits=64:=rfl
 rw [e,BitVec.toNat_and,BitVec.toNat_ofInt,BitVec.toNat_ofInt]
 have e1:((k:Int) % ((2 ^ 64:Nat):Int)).toNat=k:=by omega
 have e2:((7:Int) % ((2 ^ 64:Nat):Int)).toNat=2 ^ 3-1:=by decide
 rw [e1,e2,Nat.and_two_pow_sub_one_eq_mod]
 rw [i64_in _ (by omega)]
theorem shr3 (k:Nat):sShr .i64 (k:Int) 3=((k/8:Nat):Int):=by
 simp only [sShr]
 rw [show (2:Int) ^ (min (3:Int).toNat IntKind.i64.bits)=8 from rfl,Int.fdiv_eq_ediv_of_nonneg _ (by omega)];rfl
theorem zAeR (m k:Nat) (hk:k≤8):sShr .u8 (m:Int) (k:Int)=((m/2 ^ k:Nat):Int):=by
 simp only [sShr]
 have h2:(2:Int) ^ (min (k:Int).toNat IntKind.u8.bits)=((2 ^ k:Nat):Int):=by
  have:IntKind.u8.bits=8:=by decide
  rw [this,show min (k:Int).toNat 8=k by omega];simp
 rw [h2,Int.fdiv_eq_ediv_of_nonneg _ (Int.natCast_nonneg _)];rfl
theorem zAeV {v k:Nat} (hv:v≤1) (hk:k≤7):sShl .u8 (v:Int) (k:Int)=((v <<< k:Nat):Int):=by
 simp only [sShl]
 have h2:(2:Int) ^ (min (k:Int).toNat IntKind.u8.bits)=((2 ^ k:Nat):Int):=by
  have:IntKind.u8.bits=8:=by decide
  rw [this,show min (k:Int).toNat 8=k by omega];simp
 have h3:2 ^ k≤2 ^ 7:=Nat.pow_le_pow_right (by omega) hk
 have h4:v*2 ^ k≤1*2 ^ 7:=Nat.mul_le_mul hv h3
 rw [h2,Nat.shiftLeft_eq,u8_in _ (by omega)];norm_cast
theorem zRv (b:List Int) (k:Nat):at' b (k:Int)=b.getD k 0:=rfl
theorem zX8 {b:List Int} (hu:U8s b) {k:Nat} (hb:b.length≤1000000) (hk:k<8*b.length) {a:Int} (ha:0≤a∧a≤18446744073709551615) {s:Nat} (hs:s<64):
  b.set (Int.toNat (sShr .i64 (k:Int) 3)) (bOr .u8 (at' b (sShr .i64 (k:Int) 3)) (sShl .u8 (IntKind.u8.wrap (bAnd .u64 (sShr .u64 a (s:Int)) 1)) (IntKind.i64.wrap (7-(bAnd .i64 (k:Int) 7)))))=setA b k (a.toNat.testBit s):=by
 have e1:bAnd .u64 (sShr .u64 a (s:Int)) 1=(((a.toNat.testBit s).toNat:Nat):Int):=by
  have h1:=shrU a.toNat s (by omega)
  rw [Int.toNat_of_nonneg ha.1] at h1
  rw [h1,and1 (Int.natCast_nonneg _) (by have:=Nat.div_le_self a.toNat (2 ^ s);generalize a.toNat/2 ^ s=q at*;omega),Nat.toNat_testBit];norm_cast
 have hv:(a.toNat.testBit s).toNat≤1:=by cases a.toNat.testBit s<;>simp
 have hg:=zVt hu (k/8)
 have hg2:b.getD (k/8) 0=(((b.getD (k/8) 0).toNat:Nat):Int):=by omega
 rw [e1,shr3,and7 (by omega),show (7:Int)-((k % 8:Nat):Int)=((7-k % 8:Nat):Int) by omega,i64_in _ (by omega),u8_in _ (by omega),zAeV hv (by omega),zRv,Int.toNat_natCast]
 unfold setA
 congr 1
 generalize b.getD (k/8) 0=gx at*
 obtain ⟨q,rfl⟩:=Int.eq_ofNat_of_zero_le hg.1
 rw [zAev (by omega) (zVm _ _)];simp
theorem zYm {w d:Nat} (hw:w≤32) (hd:d≤4096):zGw (w:Int) (d:Int)=some (((bytesOf w d:Nat):Int),0):=by
 have hm:w*d≤32*4096:=Nat.mul_le_mul hw hd
 rw [zGw]
 simp only [orB]
 rw [if_neg (by simp;omega),if_neg (by omega)]
 have:IntKind.i64.wrap (IntKind.i64.wrap ((w:Int)*(d:Int))+7)=((w*d+7:Nat):Int):=by
  rw [show (w:Int)*(d:Int)=((w*d:Nat):Int) by norm_cast,i64_in ((w*d:Nat):Int) (by omega),i64_in _ (by omega)];norm_cast
 rw [this,shr3];rfl
theorem zXy (l:List Int) (hl:l.length≤4611686018427387904) {w:Nat} (hw:w≤32) (hx:∀x∈l,0≤x∧x.toNat<2 ^ w):∀(t:List Int) (k:Nat),l.drop k=t→zAt l (w:Int) (k:Int)=some (.inr ())
 | [],k,h1=>by rw [zAt,if_neg (zAp h1)]
 | x::t,k,h1=>by
  have g1:=zAh h1
  have hm:x∈l:=by
   have:x∈l.drop k:=by rw [h1];simp
   exact List.mem_of_mem_drop this
  have hxx:=hx x hm
  rw [zAt,if_pos g1.1,if_pos (by omega),g1.2.1,zIz,if_pos (by omega),zAb]
  have:sShr .u64 x (w:Int)=0:=by
   have h1:=shrU x.toNat w (by omega)
   rw [Int.toNat_of_nonneg hxx.1] at h1
   rw [h1,Nat.div_eq_of_lt hxx.2];rfl
  rw [this,if_neg (by simp),zAx (by omega)]
  exact zXy l hl hw hx t (k+1) g1.2.2
theorem zYO {l:List Int} (hl:l.length≤4611686018427387904) {w:Nat} (hw:w≤32) (hx:∀x∈l,0≤x∧x.toNat<2 ^ w):zAG l (w:Int)=some false:=by
 rw [zAG,zBx,show (0:Int)=((0:Nat):Int) from rfl,zXy l hl hw hx l 0 rfl];rfl
theorem zAbU {x:Int} {w:Nat} (hw:w≤32) (h:0≤x∧x.toNat<2 ^ w):0≤x∧x≤18446744073709551615:=by
 have:2 ^ w≤2 ^ 32:=Nat.pow_le_pow_right (by omega) hw
 omega
theorem zZ3 {w d:Nat} (hw:w≤32) (hd:d≤4096) {l:List Int} (hl:l.length=d) (hx:∀x∈l,0≤x∧x.toNat<2 ^ w) {e:Nat} (he:e<d):∀(j:Nat) (b:List Int),j≤w→U8s b→b.length≤20000→w*d≤8*b.length→
  zAY (w:Int) l (d:Int) (e:Int) ((w-j:Nat):Int) b=some (zHX (pWov d e) (at' l (e:Int)).toNat w j b)
 | 0,b,hj,hu,hb,hk=>by rw [zAY,if_neg (by omega)];rfl
 | j+1,b,hj,hu,hb,hk=>by
  have hp:=(zVY w d).lt e he (w-(j+1)) (by omega)
  have hle:e<l.length:=by omega
  have hmem:at' l (e:Int)∈l:=by
   rw [zRv];have:l.getD e 0=l[e]:=by simp [hle]
   rw [this];exact List.getElem_mem hle
  have hm:w*d≤32*4096:=Nat.mul_le_mul hw hd
  have e1:zFF (e:Int) ((w-(j+1):Nat):Int) (d:Int)=some ((pWov d e (w-(j+1)):Nat):Int):=by
   rw [zFF]
   unfold pWov at hp⊢
   rw [show ((w-(j+1):Nat):Int)*(d:Int)=(((w-(j+1))*d:Nat):Int) by norm_cast,i64_in ((((w-(j+1))*d:Nat):Int)) (by omega),i64_in _ (by omega)]
   congr 1
  have e2:IntKind.i64.wrap (IntKind.i64.wrap ((w:Int)-1)-((w-(j+1):Nat):Int))=(j:Int):=by
   rw [i64_in ((w:Int)-1) (by omega),i64_in _ (by omega)];omega
  have e3:IntKind.i64.wrap (7-bAnd .i64 ((pWov d e (w-(j+1)):Nat):Int) 7)=((7-pWov d e (w-(j+1)) % 8:Nat):Int):=by
   rw [and7 (by omega),i64_in _ (by omega)];omega
  rw [zAY,if_pos (by omega),e1,zAb,if_pos (by rw [shr3];omega),e2,if_pos (by omega),if_pos (by rw [e3];omega),if_pos (by rw [shr3];omega),zX8 hu (by omega) (by omega) (zAbU hw (hx _ hmem)) (by omega),zAb,zAx (by omega),show (w-(j+1)+1:Nat)=w-j by omega]
  rw [zHX]
  exact zZ3 hw hd hl hx he j _ (by omega) (zNE hu _ _) (by rw [zF4];exact hb) (by rw [zF4];exact hk)
theorem zZv {w d:Nat} (hw:w≤32) (hd:d≤4096) {l:List Int} (hl:l.length=d) (hx:∀x∈l,0≤x∧x.toNat<2 ^ w):∀(t:List Int) (e:Nat) (b:List Int),l.drop e=t→U8s b→b.length≤20000→w*d≤8*b.length→
  zAZ (w:Int) l (d:Int) (e:Int) b=some (zHF (pWov d) w t e b)
 | [],e,b,h1,hu,hb,hk=>by rw [zAZ,if_neg (zAp h1)];rfl
 | x::t,e,b,h1,hu,hb,hk=>by
  have g1:=zAh h1
  have h2:=zZ3 hw hd hl hx (e:=e) (by omega) w b (Nat.le_refl _) hu hb hk
  rw [Nat.sub_self] at h2
  rw [zAZ,if_pos g1.1,if_pos (by omega)]
  erw [h2]
  rw [zAb,zAx (by omega),g1.2.1]
  exact zZv hw hd hl hx t (e+1) _ g1.2.2 (zPn _ _ _ _ _ hu) (by rw [zG4];exact hb) (by rw [zG4];exact hk)
theorem zAdP {w d:Nat} (hw:w≤32) (hd:d≤4096) {l:List Int} (hl:l.length=d) (hx:∀x∈l,0≤x∧x.toNat<2 ^ w):zCW (w:Int) l (d:Int)=some (zE1 (pWov d) w d l,0):=by
 have hm:w*d≤32*4096:=Nat.mul_le_mul hw hd
 have hby:bytesOf w d≤20000∧w*d≤8*bytesOf w d:=by unfold bytesOf;omega
 rw [zCW,hl,zYm hw hd,zAb]
 simp only
 rw [if_neg (by simp),zYO (by omega) hw hx,zAb,if_neg (by simp),if_pos (by omega),zAb,Int.toNat_natCast]
 have:=zZv hw hd hl hx l 0 (List.replicate (bytesOf w d) 0) rfl (by intro x hx;rw [List.mem_replicate] at hx;omega) (by simpa using hby.1) (by simpa using hby.2)
 erw [this];rfl
theorem zZR {w d:Nat} (hw:w≤32) (hd:d≤4096) {l:List Int} (hl:l.length=d) (hx:∀x∈l,0≤x∧x.toNat<2 ^ w) {e:Nat} (he:e<d):∀(j:Nat) (b:List Int),j≤w→U8s b→b.length≤20000→w*d≤8*b.length→
  zA4 (w:Int) l (w:Int) (e:Int) ((w-j:Nat):Int) b=some (zHX (zF1 w e) (at' l (e:Int)).toNat w j b)
 | 0,b,hj,hu,hb,hk=>by rw [zA4,if_neg (by omega)];rfl
 | j+1,b,hj,hu,hb,hk=>by
  have hp:=(zYC w d).lt e he (w-(j+1)) (by omega)
  have hle:e<l.length:=by omega
  have hmem:at' l (e:Int)∈l:=by
   rw [zRv];have:l.getD e 0=l[e]:=by simp [hle]
   rw [this];exact List.getElem_mem hle
  have hm:w*d≤32*4096:=Nat.mul_le_mul hw hd
  have e1:zF3 (e:Int) ((w-(j+1):Nat):Int) (w:Int)=some ((zF1 w e (w-(j+1)):Nat):Int):=by
   rw [zF3]
   unfold zF1 at hp⊢
   rw [show (e:Int)*(w:Int)=((e*w:Nat):Int) by norm_cast,i64_in (((e*w:Nat):Int)) (by omega),i64_in _ (by omega)]
   congr 1
  have e2:IntKind.i64.wrap (IntKind.i64.wrap ((w:Int)-1)-((w-(j+1):Nat):Int))=(j:Int):=by
   rw [i64_in ((w:Int)-1) (by omega),i64_in _ (by omega)];omega
  have e3:IntKind.i64.wrap (7-bAnd .i64 ((zF1 w e (w-(j+1)):Nat):Int) 7)=((7-zF1 w e (w-(j+1)) % 8:Nat):Int):=by
   rw [and7 (by omega),i64_in _ (by omega)];omega
  rw [zA4,if_pos (by omega),e1,zAb,if_pos (by rw [shr3];omega),e2,if_pos (by omega),if_pos (by rw [e3];omega),if_pos (by rw [shr3];omega),zX8 hu (by omega) (by omega) (zAbU hw (hx _ hmem)) (by omega),zAb,zAx (by omega),show (w-(j+1)+1:Nat)=w-j by omega]
  rw [zHX]
  exact zZR hw hd hl hx he j _ (by omega) (zNE hu _ _) (by rw [zF4];exact hb) (by rw [zF4];exact hk)
theorem zZt {w d:Nat} (hw:w≤32) (hd:d≤4096) {l:List Int} (hl:l.length=d) (hx:∀x∈l,0≤x∧x.toNat<2 ^ w):∀(t:List Int) (e:Nat) (b:List Int),l.drop e=t→U8s b→b.length≤20000→w*d≤8*b.length→
  zA3 (w:Int) l (w:Int) (e:Int) b=some (zHF (zF1 w) w t e b)
 | [],e,b,h1,hu,hb,hk=>by rw [zA3,if_neg (zAp h1)];rfl
 | x::t,e,b,h1,hu,hb,hk=>by
  have g1:=zAh h1
  have h2:=zZR hw hd hl hx (e:=e) (by omega) w b (Nat.le_refl _) hu hb hk
  rw [Nat.sub_self] at h2
  rw [zA3,if_pos g1.1,if_pos (by omega)]
  erw [h2]
  rw [zAb,zAx (by omega),g1.2.1]
  exact zZt hw hd hl hx t (e+1) _ g1.2.2 (zPn _ _ _ _ _ hu) (by rw [zG4];exact hb) (by rw [zG4];exact hk)
theorem zAdG {w d:Nat} (hw:w≤32) (hd:d≤4096) {l:List Int} (hl:l.length=d) (hx:∀x∈l,0≤x∧x.toNat<2 ^ w):zC8 (w:Int) l (w:Int)=some (zE1 (zF1 w) w d l,0):=by
 have hm:w*d≤32*4096:=Nat.mul_le_mul hw hd
 have hby:bytesOf w d≤20000∧w*d≤8*bytesOf w d:=by unfold bytesOf;omega
 rw [zC8,hl,zYm hw hd,zAb]
 simp only
 rw [if_neg (by simp),zYO (by omega) hw hx,zAb,if_neg (by simp),if_pos (by omega),zAb,Int.toNat_natCast]
 have:=zZt hw hd hl hx l 0 (List.replicate (bytesOf w d) 0) rfl (by intro x hx;rw [List.mem_replicate] at hx;omega) (by simpa using hby.1) (by simpa using hby.2)
 erw [this];rfl
end Go.Proofs.YtdgdgfckcnjpfaaGreat.Abs
