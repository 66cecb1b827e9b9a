/- Plain facts: frames, part 4. Conditions: none. -/
import Derived.Test.YtdgdgfckcnjpfaaGreatPG3
namespace Go.Proofs.YtdgdgfckcnjpfaaGreat.Abs
open Go Go.RowKit Go.IntWalk Crc
set_option linter.unusedVariables false
set_option linter.unusedSimpArgs false
set_option linter.unusedSectionVars false
set_option linter.unnecessarySimpa false
set_option maxRecDepth 100000
set_option linter.unnecessarySimpa false
set_option linter.unusedSimpArgs false
set_option maxRecDepth 100000
theorem zAdm {x y:Nat} (hx:x≤255) (hy:y≤255):bOr .u8 (x:Int) (y:Int)=((x ||| y:Nat):Int):=by
 unfold bOr
 have e:IntKind.u8.bits=8:=rfl
 rw [e,BitVec.toNat_or,BitVec.toNat_ofInt,BitVec.toNat_ofInt]
 have e1:((x:Int) % ((2 ^ 8:Nat):Int)).toNat=x:=by omega
 have e2:((y:Int) % ((2 ^ 8:Nat):Int)).toNat=y:=by omega
 rw [e1,e2]
 have:=zAaT hx hy
 rw [u8_in _ (by omega)]
theorem zXV {x y:Nat} (hx:x≤255) (hy:y≤255):bAnd .u8 (x:Int) (y:Int)=((x &&& y:Nat):Int):=by
 unfold bAnd
 have e:IntKind.u8.bits=8:=rfl
 rw [e,BitVec.toNat_and,BitVec.toNat_ofInt,BitVec.toNat_ofInt]
 have e1:((x:Int) % ((2 ^ 8:Nat):Int)).toNat=x:=by omega
 have e2:((y:Int) % ((2 ^ 8:Nat):Int)).toNat=y:=by omega
 rw [e1,e2]
 have:x &&& y≤x:=Nat.and_le_left
 rw [u8_in _ (by omega)]
theorem and7 {k:Nat} (hk:k≤9223372036854775807):bAnd .i64 (k:Int) 7=((k % 8:Nat):Int):=by
 unfold bAnd
 have e:IntKind.i64.bits=64:=rfl
 rw [e,BitVec.toNat_and,BitVec.toNat_ofInt,BitVec.toNat_ofInt]
 have e1:((k:Int) % ((2 ^ 64:Nat):Int)).toNat=k:=by omega
 have e2:((7:Int) % ((2 ^ 64:Nat):Int)).toNat=2 ^ 3-1:=by decide
 rw [e1,e2,Nat.and_two_pow_sub_one_eq_mod]
 rw [i64_in _ (by omega)]
theorem shr3 (k:Nat):sShr .i64 (k:Int) 3=((k/8:Nat):Int):=by
 simp only [sShr]
 rw [show (2:Int) ^ (min (3:Int).toNat IntKind.i64.bits)=8 from rfl,Int.fdiv_eq_ediv_of_nonneg _ (by omega)];rfl
theorem zAdJ (m k:Nat) (hk:k≤8):sShr .u8 (m:Int) (k:Int)=((m/2 ^ k:Nat):Int):=by
 simp only [sShr]
 have h2:(2:Int) ^ (min (k:Int).toNat IntKind.u8.bits)=((2 ^ k:Nat):Int):=by
  have:IntKind.u8.bits=8:=by decide
  rw [this,show min (k:Int).toNat 8=k by omega];simp
 rw [h2,Int.fdiv_eq_ediv_of_nonneg _ (Int.natCast_nonneg _)];rfl
theorem zAbV {v k:Nat} (hv:v≤1) (hk:k≤7):sShl .u8 (v:Int) (k:Int)=((v <<< k:Nat):Int):=by
 simp only [sShl]
 have h2:(2:Int) ^ (min (k:Int).toNat IntKind.u8.bits)=((2 ^ k:Nat):Int):=by
  have:IntKind.u8.bits=8:=by decide
  rw [this,show min (k:Int).toNat 8=k by omega];simp
 have h3:2 ^ k≤2 ^ 7:=Nat.pow_le_pow_right (by omega) hk
 have h4:v*2 ^ k≤1*2 ^ 7:=Nat.mul_le_mul hv h3
 rw [h2,Nat.shiftLeft_eq,u8_in _ (by omega)];norm_cast
theorem zCL (b:List Int) (k:Nat):at' b (k:Int)=b.getD k 0:=rfl
theorem zVH {b:List Int} (hu:U8s b) {k:Nat} (hb:b.length≤1000000) (hk:k<8*b.length) {a:Int} (ha:0≤a∧a≤18446744073709551615) {s:Nat} (hs:s<64):
  b.set (Int.toNat (sShr .i64 (k:Int) 3)) (bOr .u8 (at' b (sShr .i64 (k:Int) 3)) (sShl .u8 (IntKind.u8.wrap (bAnd .u64 (sShr .u64 a (s:Int)) 1)) (IntKind.i64.wrap (7-(bAnd .i64 (k:Int) 7)))))=setA b k (a.toNat.testBit s):=by
 have e1:bAnd .u64 (sShr .u64 a (s:Int)) 1=(((a.toNat.testBit s).toNat:Nat):Int):=by
  have h1:=shrU a.toNat s (by omega)
  rw [Int.toNat_of_nonneg ha.1] at h1
  rw [h1,and1 (Int.natCast_nonneg _) (by have:=Nat.div_le_self a.toNat (2 ^ s);generalize a.toNat/2 ^ s=q at*;omega),Nat.toNat_testBit];norm_cast
 have hv:(a.toNat.testBit s).toNat≤1:=by cases a.toNat.testBit s<;>simp
 have hg:=zPN hu (k/8)
 have hg2:b.getD (k/8) 0=(((b.getD (k/8) 0).toNat:Nat):Int):=by omega
 rw [e1,shr3,and7 (by omega),show (7:Int)-((k % 8:Nat):Int)=((7-k % 8:Nat):Int) by omega,i64_in _ (by omega),u8_in _ (by omega),zAbV hv (by omega),zCL,Int.toNat_natCast]
 unfold setA
 congr 1
 generalize b.getD (k/8) 0=gx at*
 obtain ⟨q,rfl⟩:=Int.eq_ofNat_of_zero_le hg.1
 rw [zAdm (by omega) (zXY _ _)];simp
theorem zMG {b:List Int} (hu:U8s b) {k:Nat} (hk:k≤8000000) {acc:Nat} (ha:acc<4611686018427387904):
  bOr .u64 (sShl .u64 (acc:Int) 1) (IntKind.u64.wrap (bAnd .u8 (sShr .u8 (at' b (sShr .i64 (k:Int) 3)) (IntKind.i64.wrap (7-(bAnd .i64 (k:Int) 7)))) 1))=((2*acc+(bitA b k).toNat:Nat):Int):=by
 have hg:=zPN hu (k/8)
 have hg2:b.getD (k/8) 0=(((b.getD (k/8) 0).toNat:Nat):Int):=by omega
 have hd:(b.getD (k/8) 0).toNat/2 ^ (7-k % 8)≤255:=by have:=Nat.div_le_self (b.getD (k/8) 0).toNat (2 ^ (7-k % 8));omega
 have e1:bAnd .u8 (sShr .u8 (at' b (sShr .i64 (k:Int) 3)) (IntKind.i64.wrap (7-(bAnd .i64 (k:Int) 7)))) 1=(((bitA b k).toNat:Nat):Int):=by
  rw [shr3,and7 (by omega),show (7:Int)-((k % 8:Nat):Int)=((7-k % 8:Nat):Int) by omega,i64_in _ (by omega),zCL,hg2,zAdJ _ _ (by omega),show (1:Int)=((1:Nat):Int) from rfl,zXV hd (by omega),Nat.and_one_is_mod]
  unfold bitA
  rw [Nat.toNat_testBit]
 have e2:sShl .u64 (acc:Int) 1=((2*acc:Nat):Int):=by
  simp only [sShl]
  rw [show (2:Int) ^ (min (1:Int).toNat IntKind.u64.bits)=2 from rfl,u64_in _ (by omega)];omega
 have hb:(bitA b k).toNat≤1:=by cases bitA b k<;>simp
 rw [e1,e2,u64_in _ (by omega),zXJ (by omega) (by omega),Int.toNat_natCast,Int.toNat_natCast]
 have:=Nat.shiftLeft_add_eq_or_of_lt (b:=(bitA b k).toNat) (i:=1) (by omega) acc
 rw [Nat.shiftLeft_eq] at this
 congr 1
 rw [show 2*acc=acc*2 ^ 1 by omega];exact this.symm
theorem zLI {w d:Nat} (hw:w≤32) (hd:d≤4096):zDi (w:Int) (d:Int)=some (((bytesOf w d:Nat):Int),0):=by
 have hm:w*d≤32*4096:=Nat.mul_le_mul hw hd
 rw [zDi]
 simp only [orB]
 rw [if_neg (by simp;omega),if_neg (by omega)]
 have:IntKind.i64.wrap (IntKind.i64.wrap ((w:Int)*(d:Int))+7)=((w*d+7:Nat):Int):=by
  rw [show (w:Int)*(d:Int)=((w*d:Nat):Int) by norm_cast,i64_in ((w*d:Nat):Int) (by omega),i64_in _ (by omega)];norm_cast
 rw [this,shr3];rfl
theorem zVG (l:List Int) (hl:l.length≤4611686018427387904) {w:Nat} (hw:w≤32) (hx:∀x∈l,0≤x∧x.toNat<2 ^ w):∀(t:List Int) (k:Nat),l.drop k=t→zAq l (w:Int) (k:Int)=some (.inr ())
 | [],k,h1=>by rw [zAq,if_neg (zAI h1)]
 | x::t,k,h1=>by
  have g1:=zAm h1
  have hm:x∈l:=by
   have:x∈l.drop k:=by rw [h1];simp
   exact List.mem_of_mem_drop this
  have hxx:=hx x hm
  rw [zAq,if_pos g1.1,if_pos (by omega),g1.2.1,zHT,if_pos (by omega),zAb]
  have:sShr .u64 x (w:Int)=0:=by
   have h1:=shrU x.toNat w (by omega)
   rw [Int.toNat_of_nonneg hxx.1] at h1
   rw [h1,Nat.div_eq_of_lt hxx.2];rfl
  rw [this,if_neg (by simp),zA6 (by omega)]
  exact zVG l hl hw hx t (k+1) g1.2.2
theorem zVU {l:List Int} (hl:l.length≤4611686018427387904) {w:Nat} (hw:w≤32) (hx:∀x∈l,0≤x∧x.toNat<2 ^ w):zAC l (w:Int)=some false:=by
 rw [zAC,zBH,show (0:Int)=((0:Nat):Int) from rfl,zVG l hl hw hx l 0 rfl];rfl
theorem zZx {x:Int} {w:Nat} (hw:w≤32) (h:0≤x∧x.toNat<2 ^ w):0≤x∧x≤18446744073709551615:=by
 have:2 ^ w≤2 ^ 32:=Nat.pow_le_pow_right (by omega) hw
 omega
theorem zX8 {w d:Nat} (hw:w≤32) (hd:d≤4096) {l:List Int} (hl:l.length=d) (hx:∀x∈l,0≤x∧x.toNat<2 ^ w) {e:Nat} (he:e<d):∀(j:Nat) (b:List Int),j≤w→U8s b→b.length≤20000→w*d≤8*b.length→
  zBd (w:Int) l (d:Int) (e:Int) ((w-j:Nat):Int) b=some (zHo (pWov d e) (at' l (e:Int)).toNat w j b)
 | 0,b,hj,hu,hb,hk=>by rw [zBd,if_neg (by omega)];rfl
 | j+1,b,hj,hu,hb,hk=>by
  have hp:=(zNx w d).lt e he (w-(j+1)) (by omega)
  have hle:e<l.length:=by omega
  have hmem:at' l (e:Int)∈l:=by
   rw [zCL];have:l.getD e 0=l[e]:=by simp [hle]
   rw [this];exact List.getElem_mem hle
  have hm:w*d≤32*4096:=Nat.mul_le_mul hw hd
  have e1:zBz (e:Int) ((w-(j+1):Nat):Int) (d:Int)=some ((pWov d e (w-(j+1)):Nat):Int):=by
   rw [zBz]
   unfold pWov at hp⊢
   rw [show ((w-(j+1):Nat):Int)*(d:Int)=(((w-(j+1))*d:Nat):Int) by norm_cast,i64_in ((((w-(j+1))*d:Nat):Int)) (by omega),i64_in _ (by omega)]
   congr 1
  have e2:IntKind.i64.wrap (IntKind.i64.wrap ((w:Int)-1)-((w-(j+1):Nat):Int))=(j:Int):=by
   rw [i64_in ((w:Int)-1) (by omega),i64_in _ (by omega)];omega
  have e3:IntKind.i64.wrap (7-bAnd .i64 ((pWov d e (w-(j+1)):Nat):Int) 7)=((7-pWov d e (w-(j+1)) % 8:Nat):Int):=by
   rw [and7 (by omega),i64_in _ (by omega)];omega
  rw [zBd,if_pos (by omega),e1,zAb,if_pos (by rw [shr3];omega),e2,if_pos (by omega),if_pos (by rw [e3];omega),if_pos (by rw [shr3];omega),zVH hu (by omega) (by omega) (zZx hw (hx _ hmem)) (by omega),zAb,zA6 (by omega),show (w-(j+1)+1:Nat)=w-j by omega]
  rw [zHo]
  exact zX8 hw hd hl hx he j _ (by omega) (zS7 hu _ _) (by rw [zI1];exact hb) (by rw [zI1];exact hk)
theorem zXL {w d:Nat} (hw:w≤32) (hd:d≤4096) {l:List Int} (hl:l.length=d) (hx:∀x∈l,0≤x∧x.toNat<2 ^ w):∀(t:List Int) (e:Nat) (b:List Int),l.drop e=t→U8s b→b.length≤20000→w*d≤8*b.length→
  zBg (w:Int) l (d:Int) (e:Int) b=some (zHb (pWov d) w t e b)
 | [],e,b,h1,hu,hb,hk=>by rw [zBg,if_neg (zAI h1)];rfl
 | x::t,e,b,h1,hu,hb,hk=>by
  have g1:=zAm h1
  have h2:=zX8 hw hd hl hx (e:=e) (by omega) w b (Nat.le_refl _) hu hb hk
  rw [Nat.sub_self] at h2
  rw [zBg,if_pos g1.1,if_pos (by omega)]
  erw [h2]
  rw [zAb,zA6 (by omega),g1.2.1]
  exact zXL hw hd hl hx t (e+1) _ g1.2.2 (zOt _ _ _ _ _ hu) (by rw [zGN];exact hb) (by rw [zGN];exact hk)
theorem zAcw {w d:Nat} (hw:w≤32) (hd:d≤4096) {l:List Int} (hl:l.length=d) (hx:∀x∈l,0≤x∧x.toNat<2 ^ w):zCQ (w:Int) l (d:Int)=some (zEK (pWov d) w d l,0):=by
 have hm:w*d≤32*4096:=Nat.mul_le_mul hw hd
 have hby:bytesOf w d≤20000∧w*d≤8*bytesOf w d:=by unfold bytesOf;omega
 rw [zCQ,hl,zLI hw hd,zAb]
 simp only
 rw [if_neg (by simp),zVU (by omega) hw hx,zAb,if_neg (by simp),if_pos (by omega),zAb,Int.toNat_natCast]
 have:=zXL hw hd hl hx l 0 (List.replicate (bytesOf w d) 0) rfl (by intro x hx;rw [List.mem_replicate] at hx;omega) (by simpa using hby.1) (by simpa using hby.2)
 erw [this];rfl
theorem zYv {w d:Nat} (hw:w≤32) (hd:d≤4096) {l:List Int} (hl:l.length=d) (hx:∀x∈l,0≤x∧x.toNat<2 ^ w) {e:Nat} (he:e<d):∀(j:Nat) (b:List Int),j≤w→U8s b→b.length≤20000→w*d≤8*b.length→
  zBm (w:Int) l (w:Int) (e:Int) ((w-j:Nat):Int) b=some (zHo (zAQ w e) (at' l (e:Int)).toNat w j b)
 | 0,b,hj,hu,hb,hk=>by rw [zBm,if_neg (by omega)];rfl
 | j+1,b,hj,hu,hb,hk=>by
  have hp:=(zLK w d).lt e he (w-(j+1)) (by omega)
  have hle:e<l.length:=by omega
  have hmem:at' l (e:Int)∈l:=by
   rw [zCL];have:l.getD e 0=l[e]:=by simp [hle]
   rw [this];exact List.getElem_mem hle
  have hm:w*d≤32*4096:=Nat.mul_le_mul hw hd
  have e1:zBG (e:Int) ((w-(j+1):Nat):Int) (w:Int)=some ((zAQ w e (w-(j+1)):Nat):Int):=by
   rw [zBG]
   unfold zAQ at hp⊢
   rw [show (e:Int)*(w:Int)=((e*w:Nat):Int) by norm_cast,i64_in (((e*w:Nat):Int)) (by omega),i64_in _ (by omega)]
   congr 1
  have e2:IntKind.i64.wrap (IntKind.i64.wrap ((w:Int)-1)-((w-(j+1):Nat):Int))=(j:Int):=by
   rw [i64_in ((w:Int)-1) (by omega),i64_in _ (by omega)];omega
  have e3:IntKind.i64.wrap (7-bAnd .i64 ((zAQ w e (w-(j+1)):Nat):Int) 7)=((7-zAQ w e (w-(j+1)) % 8:Nat):Int):=by
   rw [and7 (by omega),i64_in _ (by omega)];omega
  rw [zBm,if_pos (by omega),e1,zAb,if_pos (by rw [shr3];omega),e2,if_pos (by omega),if_pos (by rw [e3];omega),if_pos (by rw [shr3];omega),zVH hu (by omega) (by omega) (zZx hw (hx _ hmem)) (by omega),zAb,zA6 (by omega),show (w-(j+1)+1:Nat)=w-j by omega]
  rw [zHo]
  exact zYv hw hd hl hx he j _ (by omega) (zS7 hu _ _) (by rw [zI1];exact hb) (by rw [zI1];exact hk)
theorem zX4 {w d:Nat} (hw:w≤32) (hd:d≤4096) {l:List Int} (hl:l.length=d) (hx:∀x∈l,0≤x∧x.toNat<2 ^ w):∀(t:List Int) (e:Nat) (b:List Int),l.drop e=t→U8s b→b.length≤20000→w*d≤8*b.length→
  zBq (w:Int) l (w:Int) (e:Int) b=some (zHb (zAQ w) w t e b)
 | [],e,b,h1,hu,hb,hk=>by rw [zBq,if_neg (zAI h1)];rfl
 | x::t,e,b,h1,hu,hb,hk=>by
  have g1:=zAm h1
  have h2:=zYv hw hd hl hx (e:=e) (by omega) w b (Nat.le_refl _) hu hb hk
  rw [Nat.sub_self] at h2
  rw [zBq,if_pos g1.1,if_pos (by omega)]
  erw [h2]
  rw [zAb,zA6 (by omega),g1.2.1]
  exact zX4 hw hd hl hx t (e+1) _ g1.2.2 (zOt _ _ _ _ _ hu) (by rw [zGN];exact hb) (by rw [zGN];exact hk)
theorem zAct {w d:Nat} (hw:w≤32) (hd:d≤4096) {l:List Int} (hl:l.length=d) (hx:∀x∈l,0≤x∧x.toNat<2 ^ w):zDb (w:Int) l (w:Int)=some (zEK (zAQ w) w d l,0):=by
 have hm:w*d≤32*4096:=Nat.mul_le_mul hw hd
 have hby:bytesOf w d≤20000∧w*d≤8*bytesOf w d:=by unfold bytesOf;omega
 rw [zDb,hl,zLI hw hd,zAb]
 simp only
 rw [if_neg (by simp),zVU (by omega) hw hx,zAb,if_neg (by simp),if_pos (by omega),zAb,Int.toNat_natCast]
 have:=zX4 hw hd hl hx l 0 (List.replicate (bytesOf w d) 0) rfl (by intro x hx;rw [List.mem_replicate] at hx;omega) (by simpa using hby.1) (by simpa using hby.2)
 erw [this];rfl
def zJG (w d:Nat) (b:List Int):Prop:=∀k<8*b.length,w*d≤k→bitA b k=false
instance (w d:Nat) (b:List Int):Decidable (zJG w d b):=by unfold zJG;infer_instance
theorem zRr {w d:Nat} {b:List Int} (h:8*b.length≤w*d):zJG w d b:=fun k h1 h2=>by omega
theorem zMq {w d:Nat} {b:List Int} (hb:b.length=bytesOf w d) (hz:w*d<8*bytesOf w d):zJG w d b↔(b.getD (bytesOf w d-1) 0).toNat % 2 ^ (8*bytesOf w d-w*d)=0:=by
 have h8:8*bytesOf w d≤w*d+7:=by unfold bytesOf;omega
 constructor
 ·intro h
  refine Nat.eq_of_testBit_eq fun j=> ?_
  rw [Nat.testBit_mod_two_pow,Nat.zero_testBit]
  by_cases hj:j<8*bytesOf w d-w*d
  ·have h1:=h (8*bytesOf w d-1-j) (by omega) (by omega)
   unfold bitA at h1
   rw [show (8*bytesOf w d-1-j)/8=bytesOf w d-1 by omega,show 7-(8*bytesOf w d-1-j) % 8=j by omega] at h1
   rw [h1,Bool.and_false]
  ·simp [hj]
 ·intro h k h1 h2
  have h3:((b.getD (bytesOf w d-1) 0).toNat % 2 ^ (8*bytesOf w d-w*d)).testBit (8*bytesOf w d-1-k)=false:=by rw [h];simp
  rw [Nat.testBit_mod_two_pow] at h3
  unfold bitA
  rw [show k/8=bytesOf w d-1 by omega,show 7-k % 8=8*bytesOf w d-1-k by omega]
  have h4:8*bytesOf w d-1-k<8*bytesOf w d-w*d:=by omega
  simpa [h4] using h3
theorem zYi {b:List Int} (hu:U8s b) {n z:Nat} (hz:z≤7) (hn:True):bAnd .u8 (at' b (n:Int)) (IntKind.u8.wrap (sShl .u8 1 (z:Int)-1))=(((b.getD n 0).toNat % 2 ^ z:Nat):Int):=by
 have hg:=zPN hu n
 have hg2:b.getD n 0=(((b.getD n 0).toNat:Nat):Int):=by omega
 have hp:1≤2 ^ z:=Nat.one_le_two_pow
 have h3:2 ^ z≤2 ^ 7:=Nat.pow_le_pow_right (by omega) hz
 rw [show (1:Int)=((1:Nat):Int) from rfl,zAbV (by omega) hz,Nat.shiftLeft_eq,Nat.one_mul,show ((2 ^ z:Nat):Int)-((1:Nat):Int)=((2 ^ z-1:Nat):Int) by omega,u8_in _ (by omega),zCL,hg2,zXV (by omega) (by omega),Nat.and_two_pow_sub_one_eq_mod];simp
theorem zWj {w d:Nat} (hw:w≤32) (hd:d≤4096) {b:List Int} (hu:U8s b) (hb:b.length=bytesOf w d) (y:List Int) {e:Nat} (he:e<d):∀(j:Nat) (out:List Int) (acc:Nat),j≤w→e<out.length→at' out (e:Int)=(acc:Int)→acc<2 ^ (w-j)→
  zA1 (w:Int) b (d:Int) y (e:Int) ((w-j:Nat):Int) out=some (out.set e ((zBP (fun m=>bitA b (pWov d e (w-1-m))) j acc:Nat):Int))
 | 0,out,acc,hj,ho,ha,hacc=>by
  rw [zA1,if_neg (by omega),zBP,←ha,zCL]
  have:out.getD e 0=out[e]:=by simp [ho]
  rw [this,List.set_getElem_self]
 | j+1,out,acc,hj,ho,ha,hacc=>by
  have hp:=(zNx w d).lt e he (w-(j+1)) (by omega)
  have hm:w*d≤32*4096:=Nat.mul_le_mul hw hd
  have hby:w*d≤8*bytesOf w d:=by unfold bytesOf;omega
  have hpw:2 ^ (w-(j+1))≤2 ^ 32:=Nat.pow_le_pow_right (by omega) (by omega)
  have e1:zBz (e:Int) ((w-(j+1):Nat):Int) (d:Int)=some ((pWov d e (w-(j+1)):Nat):Int):=by
   rw [zBz]
   unfold pWov at hp⊢
   rw [show ((w-(j+1):Nat):Int)*(d:Int)=(((w-(j+1))*d:Nat):Int) by norm_cast,i64_in ((((w-(j+1))*d:Nat):Int)) (by omega),i64_in _ (by omega)]
   congr 1
  have e3:IntKind.i64.wrap (7-bAnd .i64 ((pWov d e (w-(j+1)):Nat):Int) 7)=((7-pWov d e (w-(j+1)) % 8:Nat):Int):=by
   rw [and7 (by omega),i64_in _ (by omega)];omega
  rw [zA1,if_pos (by omega),e1,zAb,if_pos (by omega),if_pos (by rw [shr3];omega),if_pos (by rw [e3];omega),if_pos (by omega),ha,zMG hu (by omega) (by omega),zAb,zA6 (by omega),show (w-(j+1)+1:Nat)=w-j by omega,Int.toNat_natCast]
  have hb1:(bitA b (pWov d e (w-(j+1)))).toNat≤1:=by cases bitA b (pWov d e (w-(j+1)))<;>simp
  rw [zWj hw hd hu hb y he j _ (2*acc+(bitA b (pWov d e (w-(j+1)))).toNat) (by omega) (by simpa using ho) (by rw [zCL];simp [List.getD_eq_getElem?_getD,ho]) (by
   rw [show w-j=(w-(j+1))+1 by omega,Nat.pow_succ];omega),List.set_set,zBP,show w-1-j=w-(j+1) by omega]
theorem zWe {w d:Nat} (hw:w≤32) (hd:d≤4096) {b:List Int} (hu:U8s b) (hb:b.length=bytesOf w d) {y:List Int} (hy:y.length=d):∀(j k:Nat),k+j=d→
  zA2 (w:Int) b (d:Int) y (k:Int) ((zAK (pWov d) w d b).take k++List.replicate j 0)=some (zAK (pWov d) w d b)
 | 0,k,h=>by
  rw [zA2,if_neg (by omega),List.take_of_length_le (by rw [zCX];omega)];simp
 | j+1,k,h=>by
  have hT:(zAK (pWov d) w d b).length=d:=zCX _ _ _ _
  have hlen:((zAK (pWov d) w d b).take k++List.replicate (j+1) (0:Int)).length=d:=by simp [hT];omega
  have hz:at' ((zAK (pWov d) w d b).take k++List.replicate (j+1) (0:Int)) (k:Int)=((0:Nat):Int):=by
   rw [zCL,List.getD_eq_getElem?_getD,List.getElem?_append_right (by simp [hT];omega)]
   simp [hT,show min k d=k by omega]
  have h2:=zWj hw hd hu hb y (e:=k) (by omega) w ((zAK (pWov d) w d b).take k++List.replicate (j+1) (0:Int)) 0 (Nat.le_refl _) (by omega) hz (by simp)
  rw [Nat.sub_self] at h2
  rw [zA2,if_pos (by omega)]
  erw [h2]
  rw [zAb,zA6 (by omega)]
  have h3:=zWe hw hd hu hb hy j (k+1) (by omega)
  rw [←h3]
  congr 1
  apply List.ext_getElem?
  intro i
  rw [List.getElem?_set]
  have hk:(zAK (pWov d) w d b)[k]? =some ((zBP (fun m=>bitA b (pWov d k (w-1-m))) w 0:Nat):Int):=by
   simp [zAK,show k<d by omega]
  by_cases hi:k=i
  ·subst hi
   rw [if_pos rfl,if_pos (by omega),List.getElem?_append_left (by simp [hT];omega),List.getElem?_take,if_pos (by omega),hk]
  ·rw [if_neg hi]
   by_cases hik:i<k
   ·rw [List.getElem?_append_left (by simp [hT];omega),List.getElem?_append_left (by simp [hT];omega),List.getElem?_take,List.getElem?_take,if_pos hik,if_pos (by omega)]
   ·rw [List.getElem?_append_right (by simp [hT];omega),List.getElem?_append_right (by simp [hT];omega)]
    simp only [List.getElem?_replicate,List.length_take,hT,show min k d=k by omega,show min (k+1) d=k+1 by omega]
    by_cases h5:i<d
    ·rw [if_pos (by omega),if_pos (by omega)]
    ·rw [if_neg (by omega),if_neg (by omega)]
theorem zWR {w d:Nat} (hw:w≤32) (hd:d≤4096) {b:List Int} (hu:U8s b) (hb:b.length=bytesOf w d) (y:List Int) {e:Nat} (he:e<d):∀(j:Nat) (out:List Int) (acc:Nat),j≤w→e<out.length→at' out (e:Int)=(acc:Int)→acc<2 ^ (w-j)→
  zA5 (w:Int) b (d:Int) y (e:Int) ((w-j:Nat):Int) out=some (out.set e ((zBP (fun m=>bitA b (pWov d e (w-1-m))) j acc:Nat):Int))
 | 0,out,acc,hj,ho,ha,hacc=>by
  rw [zA5,if_neg (by omega),zBP,←ha,zCL]
  have:out.getD e 0=out[e]:=by simp [ho]
  rw [this,List.set_getElem_self]
 | j+1,out,acc,hj,ho,ha,hacc=>by
  have hp:=(zNx w d).lt e he (w-(j+1)) (by omega)
  have hm:w*d≤32*4096:=Nat.mul_le_mul hw hd
  have hby:w*d≤8*bytesOf w d:=by unfold bytesOf;omega
  have hpw:2 ^ (w-(j+1))≤2 ^ 32:=Nat.pow_le_pow_right (by omega) (by omega)
  have e1:zBz (e:Int) ((w-(j+1):Nat):Int) (d:Int)=some ((pWov d e (w-(j+1)):Nat):Int):=by
   rw [zBz]
   unfold pWov at hp⊢
   rw [show ((w-(j+1):Nat):Int)*(d:Int)=(((w-(j+1))*d:Nat):Int) by norm_cast,i64_in ((((w-(j+1))*d:Nat):Int)) (by omega),i64_in _ (by omega)]
   congr 1
  have e3:IntKind.i64.wrap (7-bAnd .i64 ((pWov d e (w-(j+1)):Nat):Int) 7)=((7-pWov d e (w-(j+1)) % 8:Nat):Int):=by
   rw [and7 (by omega),i64_in _ (by omega)];omega
  rw [zA5,if_pos (by omega),e1,zAb,if_pos (by omega),if_pos (by rw [shr3];omega),if_pos (by rw [e3];omega),if_pos (by omega),ha,zMG hu (by omega) (by omega),zAb,zA6 (by omega),show (w-(j+1)+1:Nat)=w-j by omega,Int.toNat_natCast]
  have hb1:(bitA b (pWov d e (w-(j+1)))).toNat≤1:=by cases bitA b (pWov d e (w-(j+1)))<;>simp
  rw [zWR hw hd hu hb y he j _ (2*acc+(bitA b (pWov d e (w-(j+1)))).toNat) (by omega) (by simpa using ho) (by rw [zCL];simp [List.getD_eq_getElem?_getD,ho]) (by
   rw [show w-j=(w-(j+1))+1 by omega,Nat.pow_succ];omega),List.set_set,zBP,show w-1-j=w-(j+1) by omega]
theorem zVw {w d:Nat} (hw:w≤32) (hd:d≤4096) {b:List Int} (hu:U8s b) (hb:b.length=bytesOf w d) {y:List Int} (hy:y.length=d):∀(j k:Nat),k+j=d→
  zA4 (w:Int) b (d:Int) y (k:Int) ((zAK (pWov d) w d b).take k++List.replicate j 0)=some (zAK (pWov d) w d b)
 | 0,k,h=>by
  rw [zA4,if_neg (by omega),List.take_of_length_le (by rw [zCX];omega)];simp
 | j+1,k,h=>by
  have hT:(zAK (pWov d) w d b).length=d:=zCX _ _ _ _
  have hlen:((zAK (pWov d) w d b).take k++List.replicate (j+1) (0:Int)).length=d:=by simp [hT];omega
  have hz:at' ((zAK (pWov d) w d b).take k++List.replicate (j+1) (0:Int)) (k:Int)=((0:Nat):Int):=by
   rw [zCL,List.getD_eq_getElem?_getD,List.getElem?_append_right (by simp [hT];omega)]
   simp [hT,show min k d=k by omega]
  have h2:=zWR hw hd hu hb y (e:=k) (by omega) w ((zAK (pWov d) w d b).take k++List.replicate (j+1) (0:Int)) 0 (Nat.le_refl _) (by omega) hz (by simp)
  rw [Nat.sub_self] at h2
  rw [zA4,if_pos (by omega)]
  erw [h2]
  rw [zAb,zA6 (by omega)]
  have h3:=zVw hw hd hu hb hy j (k+1) (by omega)
  rw [←h3]
  congr 1
  apply List.ext_getElem?
  intro i
  rw [List.getElem?_set]
  have hk:(zAK (pWov d) w d b)[k]? =some ((zBP (fun m=>bitA b (pWov d k (w-1-m))) w 0:Nat):Int):=by
   simp [zAK,show k<d by omega]
  by_cases hi:k=i
  ·subst hi
   rw [if_pos rfl,if_pos (by omega),List.getElem?_append_left (by simp [hT];omega),List.getElem?_take,if_pos (by omega),hk]
  ·rw [if_neg hi]
   by_cases hik:i<k
   ·rw [List.getElem?_append_left (by simp [hT];omega),List.getElem?_append_left (by simp [hT];omega),List.getElem?_take,List.getElem?_take,if_pos hik,if_pos (by omega)]
   ·rw [List.getElem?_append_right (by simp [hT];omega),List.getElem?_append_right (by simp [hT];omega)]
    simp only [List.getElem?_replicate,List.length_take,hT,show min k d=k by omega,show min (k+1) d=k+1 by omega]
    by_cases h5:i<d
    ·rw [if_pos (by omega),if_pos (by omega)]
    ·rw [if_neg (by omega),if_neg (by omega)]
theorem zAbr {w d:Nat} (hw:w≤32) (hd:d≤4096) {b:List Int} (hu:U8s b) (hb:b.length=bytesOf w d):zCF (w:Int) (d:Int) b (d:Int)=some (if zJG w d b then (zAK (pWov d) w d b,0) else ([],6)):=by
 have hm:w*d≤32*4096:=Nat.mul_le_mul hw hd
 have hby:bytesOf w d≤20000∧w*d≤8*bytesOf w d∧8*bytesOf w d≤w*d+7:=by unfold bytesOf;omega
 have ey:IntKind.i64.wrap (IntKind.i64.wrap (8*((bytesOf w d:Nat):Int))-IntKind.i64.wrap ((w:Int)*(d:Int)))=((8*bytesOf w d-w*d:Nat):Int):=by
  rw [show (w:Int)*(d:Int)=((w*d:Nat):Int) by norm_cast,i64_in (8*_) (by omega),i64_in ((w*d:Nat):Int) (by omega),i64_in _ (by omega)];omega
 rw [zCF,zLI hw hd,zAb]
 simp only
 rw [if_neg (by simp),if_neg (by omega),zAb,ey]
 by_cases hz:8*bytesOf w d=w*d
 ·rw [if_neg (by omega),if_pos (by omega),zAb,Int.toNat_natCast]
  have h3:=zVw hw hd hu hb (y:=List.replicate d 0) (by simp) d 0 (by omega)
  simp only [List.take_zero,List.nil_append] at h3
  erw [h3]
  rw [if_pos (zRr (by omega))];rfl
 ·have hlast:((bytesOf w d:Nat):Int)-1=((bytesOf w d-1:Nat):Int):=by omega
  rw [if_pos (by omega),i64_in (((bytesOf w d:Nat):Int)-1) (by omega),hlast,if_pos (by omega),if_pos (by omega),zYi hu (by omega) trivial]
  by_cases ht:(b.getD (bytesOf w d-1) 0).toNat % 2 ^ (8*bytesOf w d-w*d)=0
  ·rw [ht,if_neg (by simp),if_pos (by omega),zAb,Int.toNat_natCast]
   have h3:=zWe hw hd hu hb (y:=List.replicate d 0) (by simp) d 0 (by omega)
   simp only [List.take_zero,List.nil_append] at h3
   erw [h3]
   rw [if_pos ((zMq hb (by omega)).2 ht)];rfl
  ·rw [if_pos (by omega),if_neg (fun h=>ht ((zMq hb (by omega)).1 h))]
theorem zWt {w d:Nat} (hw:w≤32) (hd:d≤4096) {b:List Int} (hu:U8s b) (hb:b.length=bytesOf w d) (y:List Int) {e:Nat} (he:e<d):∀(j:Nat) (out:List Int) (acc:Nat),j≤w→e<out.length→at' out (e:Int)=(acc:Int)→acc<2 ^ (w-j)→
  zBc (w:Int) b (w:Int) y (e:Int) ((w-j:Nat):Int) out=some (out.set e ((zBP (fun m=>bitA b (zAQ w e (w-1-m))) j acc:Nat):Int))
 | 0,out,acc,hj,ho,ha,hacc=>by
  rw [zBc,if_neg (by omega),zBP,←ha,zCL]
  have:out.getD e 0=out[e]:=by simp [ho]
  rw [this,List.set_getElem_self]
 | j+1,out,acc,hj,ho,ha,hacc=>by
  have hp:=(zLK w d).lt e he (w-(j+1)) (by omega)
  have hm:w*d≤32*4096:=Nat.mul_le_mul hw hd
  have hby:w*d≤8*bytesOf w d:=by unfold bytesOf;omega
  have hpw:2 ^ (w-(j+1))≤2 ^ 32:=Nat.pow_le_pow_right (by omega) (by omega)
  have e1:zBG (e:Int) ((w-(j+1):Nat):Int) (w:Int)=some ((zAQ w e (w-(j+1)):Nat):Int):=by
   rw [zBG]
   unfold zAQ at hp⊢
   rw [show (e:Int)*(w:Int)=((e*w:Nat):Int) by norm_cast,i64_in (((e*w:Nat):Int)) (by omega),i64_in _ (by omega)]
   congr 1
  have e3:IntKind.i64.wrap (7-bAnd .i64 ((zAQ w e (w-(j+1)):Nat):Int) 7)=((7-zAQ w e (w-(j+1)) % 8:Nat):Int):=by
   rw [and7 (by omega),i64_in _ (by omega)];omega
  rw [zBc,if_pos (by omega),e1,zAb,if_pos (by omega),if_pos (by rw [shr3];omega),if_pos (by rw [e3];omega),if_pos (by omega),ha,zMG hu (by omega) (by omega),zAb,zA6 (by omega),show (w-(j+1)+1:Nat)=w-j by omega,Int.toNat_natCast]
  have hb1:(bitA b (zAQ w e (w-(j+1)))).toNat≤1:=by cases bitA b (zAQ w e (w-(j+1)))<;>simp
  rw [zWt hw hd hu hb y he j _ (2*acc+(bitA b (zAQ w e (w-(j+1)))).toNat) (by omega) (by simpa using ho) (by rw [zCL];simp [List.getD_eq_getElem?_getD,ho]) (by
   rw [show w-j=(w-(j+1))+1 by omega,Nat.pow_succ];omega),List.set_set,zBP,show w-1-j=w-(j+1) by omega]
theorem zV0 {w d:Nat} (hw:w≤32) (hd:d≤4096) {b:List Int} (hu:U8s b) (hb:b.length=bytesOf w d) {y:List Int} (hy:y.length=d):∀(j k:Nat),k+j=d→
  zBb (w:Int) b (w:Int) y (k:Int) ((zAK (zAQ w) w d b).take k++List.replicate j 0)=some (zAK (zAQ w) w d b)
 | 0,k,h=>by
  rw [zBb,if_neg (by omega),List.take_of_length_le (by rw [zCX];omega)];simp
 | j+1,k,h=>by
  have hT:(zAK (zAQ w) w d b).length=d:=zCX _ _ _ _
  have hlen:((zAK (zAQ w) w d b).take k++List.replicate (j+1) (0:Int)).length=d:=by simp [hT];omega
  have hz:at' ((zAK (zAQ w) w d b).take k++List.replicate (j+1) (0:Int)) (k:Int)=((0:Nat):Int):=by
   rw [zCL,List.getD_eq_getElem?_getD,List.getElem?_append_right (by simp [hT];omega)]
   simp [hT,show min k d=k by omega]
  have h2:=zWt hw hd hu hb y (e:=k) (by omega) w ((zAK (zAQ w) w d b).take k++List.replicate (j+1) (0:Int)) 0 (Nat.le_refl _) (by omega) hz (by simp)
  rw [Nat.sub_self] at h2
  rw [zBb,if_pos (by omega)]
  erw [h2]
  rw [zAb,zA6 (by omega)]
  have h3:=zV0 hw hd hu hb hy j (k+1) (by omega)
  rw [←h3]
  congr 1
  apply List.ext_getElem?
  intro i
  rw [List.getElem?_set]
  have hk:(zAK (zAQ w) w d b)[k]? =some ((zBP (fun m=>bitA b (zAQ w k (w-1-m))) w 0:Nat):Int):=by
   simp [zAK,show k<d by omega]
  by_cases hi:k=i
  ·subst hi
   rw [if_pos rfl,if_pos (by omega),List.getElem?_append_left (by simp [hT];omega),List.getElem?_take,if_pos (by omega),hk]
  ·rw [if_neg hi]
   by_cases hik:i<k
   ·rw [List.getElem?_append_left (by simp [hT];omega),List.getElem?_append_left (by simp [hT];omega),List.getElem?_take,List.getElem?_take,if_pos hik,if_pos (by omega)]
   ·rw [List.getElem?_append_right (by simp [hT];omega),List.getElem?_append_right (by simp [hT];omega)]
    simp only [List.getElem?_replicate,List.length_take,hT,show min k d=k by omega,show min (k+1) d=k+1 by omega]
    by_cases h5:i<d
    ·rw [if_pos (by omega),if_pos (by omega)]
    ·rw [if_neg (by omega),if_neg (by omega)]
theorem zVu {w d:Nat} (hw:w≤32) (hd:d≤4096) {b:List Int} (hu:U8s b) (hb:b.length=bytesOf w d) (y:List Int) {e:Nat} (he:e<d):∀(j:Nat) (out:List Int) (acc:Nat),j≤w→e<out.length→at' out (e:Int)=(acc:Int)→acc<2 ^ (w-j)→
  zBf (w:Int) b (w:Int) y (e:Int) ((w-j:Nat):Int) out=some (out.set e ((zBP (fun m=>bitA b (zAQ w e (w-1-m))) j acc:Nat):Int))
 | 0,out,acc,hj,ho,ha,hacc=>by
  rw [zBf,if_neg (by omega),zBP,←ha,zCL]
  have:out.getD e 0=out[e]:=by simp [ho]
  rw [this,List.set_getElem_self]
 | j+1,out,acc,hj,ho,ha,hacc=>by
  have hp:=(zLK w d).lt e he (w-(j+1)) (by omega)
  have hm:w*d≤32*4096:=Nat.mul_le_mul hw hd
  have hby:w*d≤8*bytesOf w d:=by unfold bytesOf;omega
  have hpw:2 ^ (w-(j+1))≤2 ^ 32:=Nat.pow_le_pow_right (by omega) (by omega)
  have e1:zBG (e:Int) ((w-(j+1):Nat):Int) (w:Int)=some ((zAQ w e (w-(j+1)):Nat):Int):=by
   rw [zBG]
   unfold zAQ at hp⊢
   rw [show (e:Int)*(w:Int)=((e*w:Nat):Int) by norm_cast,i64_in (((e*w:Nat):Int)) (by omega),i64_in _ (by omega)]
   congr 1
  have e3:IntKind.i64.wrap (7-bAnd .i64 ((zAQ w e (w-(j+1)):Nat):Int) 7)=((7-zAQ w e (w-(j+1)) % 8:Nat):Int):=by
   rw [and7 (by omega),i64_in _ (by omega)];omega
  rw [zBf,if_pos (by omega),e1,zAb,if_pos (by omega),if_pos (by rw [shr3];omega),if_pos (by rw [e3];omega),if_pos (by omega),ha,zMG hu (by omega) (by omega),zAb,zA6 (by omega),show (w-(j+1)+1:Nat)=w-j by omega,Int.toNat_natCast]
  have hb1:(bitA b (zAQ w e (w-(j+1)))).toNat≤1:=by cases bitA b (zAQ w e (w-(j+1)))<;>simp
  rw [zVu hw hd hu hb y he j _ (2*acc+(bitA b (zAQ w e (w-(j+1)))).toNat) (by omega) (by simpa using ho) (by rw [zCL];simp [List.getD_eq_getElem?_getD,ho]) (by
   rw [show w-j=(w-(j+1))+1 by omega,Nat.pow_succ];omega),List.set_set,zBP,show w-1-j=w-(j+1) by omega]
theorem zVO {w d:Nat} (hw:w≤32) (hd:d≤4096) {b:List Int} (hu:U8s b) (hb:b.length=bytesOf w d) {y:List Int} (hy:y.length=d):∀(j k:Nat),k+j=d→
  zBe (w:Int) b (w:Int) y (k:Int) ((zAK (zAQ w) w d b).take k++List.replicate j 0)=some (zAK (zAQ w) w d b)
 | 0,k,h=>by
  rw [zBe,if_neg (by omega),List.take_of_length_le (by rw [zCX];omega)];simp
 | j+1,k,h=>by
  have hT:(zAK (zAQ w) w d b).length=d:=zCX _ _ _ _
  have hlen:((zAK (zAQ w) w d b).take k++List.replicate (j+1) (0:Int)).length=d:=by simp [hT];omega
  have hz:at' ((zAK (zAQ w) w d b).take k++List.replicate (j+1) (0:Int)) (k:Int)=((0:Nat):Int):=by
   rw [zCL,List.getD_eq_getElem?_getD,List.getElem?_append_right (by simp [hT];omega)]
   simp [hT,show min k d=k by omega]
  have h2:=zVu hw hd hu hb y (e:=k) (by omega) w ((zAK (zAQ w) w d b).take k++List.replicate (j+1) (0:Int)) 0 (Nat.le_refl _) (by omega) hz (by simp)
  rw [Nat.sub_self] at h2
  rw [zBe,if_pos (by omega)]
  erw [h2]
  rw [zAb,zA6 (by omega)]
  have h3:=zVO hw hd hu hb hy j (k+1) (by omega)
  rw [←h3]
  congr 1
  apply List.ext_getElem?
  intro i
  rw [List.getElem?_set]
  have hk:(zAK (zAQ w) w d b)[k]? =some ((zBP (fun m=>bitA b (zAQ w k (w-1-m))) w 0:Nat):Int):=by
   simp [zAK,show k<d by omega]
  by_cases hi:k=i
  ·subst hi
   rw [if_pos rfl,if_pos (by omega),List.getElem?_append_left (by simp [hT];omega),List.getElem?_take,if_pos (by omega),hk]
  ·rw [if_neg hi]
   by_cases hik:i<k
   ·rw [List.getElem?_append_left (by simp [hT];omega),List.getElem?_append_left (by simp [hT];omega),List.getElem?_take,List.getElem?_take,if_pos hik,if_pos (by omega)]
   ·rw [List.getElem?_append_right (by simp [hT];omega),List.getElem?_append_right (by simp [hT];omega)]
    simp only [List.getElem?_replicate,List.length_take,hT,show min k d=k by omega,show min (k+1) d=k+1 by omega]
    by_cases h5:i<d
    ·rw [if_pos (by omega),if_pos (by omega)]
    ·rw [if_neg (by omega),if_neg (by omega)]
theorem zAa9 {w d:Nat} (hw:w≤32) (hd:d≤4096) {b:List Int} (hu:U8s b) (hb:b.length=bytesOf w d):zCT (w:Int) (d:Int) b (w:Int)=some (if zJG w d b then (zAK (zAQ w) w d b,0) else ([],6)):=by
 have hm:w*d≤32*4096:=Nat.mul_le_mul hw hd
 have hby:bytesOf w d≤20000∧w*d≤8*bytesOf w d∧8*bytesOf w d≤w*d+7:=by unfold bytesOf;omega
 have ey:IntKind.i64.wrap (IntKind.i64.wrap (8*((bytesOf w d:Nat):Int))-IntKind.i64.wrap ((w:Int)*(d:Int)))=((8*bytesOf w d-w*d:Nat):Int):=by
  rw [show (w:Int)*(d:Int)=((w*d:Nat):Int) by norm_cast,i64_in (8*_) (by omega),i64_in ((w*d:Nat):Int) (by omega),i64_in _ (by omega)];omega
 rw [zCT,zLI hw hd,zAb]
 simp only
 rw [if_neg (by simp),if_neg (by omega),zAb,ey]
 by_cases hz:8*bytesOf w d=w*d
 ·rw [if_neg (by omega),if_pos (by omega),zAb,Int.toNat_natCast]
  have h3:=zVO hw hd hu hb (y:=List.replicate d 0) (by simp) d 0 (by omega)
  simp only [List.take_zero,List.nil_append] at h3
  erw [h3]
  rw [if_pos (zRr (by omega))];rfl
 ·have hlast:((bytesOf w d:Nat):Int)-1=((bytesOf w d-1:Nat):Int):=by omega
  rw [if_pos (by omega),i64_in (((bytesOf w d:Nat):Int)-1) (by omega),hlast,if_pos (by omega),if_pos (by omega),zYi hu (by omega) trivial]
  by_cases ht:(b.getD (bytesOf w d-1) 0).toNat % 2 ^ (8*bytesOf w d-w*d)=0
  ·rw [ht,if_neg (by simp),if_pos (by omega),zAb,Int.toNat_natCast]
   have h3:=zV0 hw hd hu hb (y:=List.replicate d 0) (by simp) d 0 (by omega)
   simp only [List.take_zero,List.nil_append] at h3
   erw [h3]
   rw [if_pos ((zMq hb (by omega)).2 ht)];rfl
  ·rw [if_pos (by omega),if_neg (fun h=>ht ((zMq hb (by omega)).1 h))]
end Go.Proofs.YtdgdgfckcnjpfaaGreat.Abs
