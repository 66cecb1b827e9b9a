/- Plain facts: sums of texts. Conditions: none. -/
import Derived.Test.YtdgdgfckcnjpfaaGreatPL3
import Derived.Test.YtdgdgfckcnjpfaaGreatCrcD
namespace Go.Proofs.YtdgdgfckcnjpfaaGreat.Abs
open Go Go.RowKit Go.IntWalk Crc
set_option linter.unusedVariables false
set_option linter.unusedSimpArgs false
set_option linter.unusedSectionVars false
set_option linter.unnecessarySimpa false
set_option maxRecDepth 100000
abbrev Wd:=BitVec 32
def Un (w:Wd):Int:=(w.toNat:Int)
def Yn (y:BitVec 8):Int:=(y.toNat:Int)
def poly:Wd:=0xedb88320#32
def Ab (c:Wd):Wd:=(c >>> 1) ^^^ (if c.getLsbD 0 then poly else 0#32)
def A8 (c:Wd):Wd:=Ab (Ab (Ab (Ab (Ab (Ab (Ab (Ab c)))))))
def feed (c:Wd) (y:BitVec 8):Wd:=A8 (c ^^^ y.setWidth 32)
theorem zAdf (a b:Wd):Ab (a ^^^ b)=Ab a ^^^ Ab b:=by
 unfold Ab
 rw [BitVec.ushiftRight_xor_distrib,BitVec.getLsbD_xor]
 cases a.getLsbD 0<;>cases b.getLsbD 0<;>simp
 ·rw [BitVec.xor_assoc]
 ·rw [BitVec.xor_assoc,BitVec.xor_comm (b >>> 1),BitVec.xor_assoc]
 ·rw [BitVec.xor_assoc,BitVec.xor_comm (b >>> 1),←BitVec.xor_assoc poly];simp
theorem zAdk (a b:Wd):A8 (a ^^^ b)=A8 a ^^^ A8 b:=by simp only [A8,zAdf]
theorem zAcq {c:Wd} (h:c.getLsbD 0=false):Ab c=c >>> 1:=by unfold Ab;rw [h];simp
theorem zAcz (c:Wd):A8 (c <<< 8)=(c <<< 8) >>> 8:=by
 have e:∀k:Nat,k<8→((c <<< 8) >>> k).getLsbD 0=false:=by
  intro k hk
  rw [BitVec.getLsbD_ushiftRight,BitVec.getLsbD_shiftLeft]
  simp;omega
 have s:∀k:Nat,k<8→Ab ((c <<< 8) >>> k)=(c <<< 8) >>> (k+1):=by
  intro k hk
  rw [zAcq (e k hk),←BitVec.shiftRight_add]
 unfold A8
 have h0:=s 0 (by omega)
 rw [BitVec.ushiftRight_zero] at h0
 rw [h0,s 1 (by omega),s 2 (by omega),s 3 (by omega),s 4 (by omega),s 5 (by omega),s 6 (by omega),s 7 (by omega)]
theorem zAcL:(List.range 256).map (fun i=>Un (A8 (BitVec.ofNat 32 i)))=tabL:=by kernel_rfl
theorem zAdb {i:Nat} (h:i<256):at' tabL (i:Int)=Un (A8 (BitVec.ofNat 32 i)):=by
 rw [←zAcL]
 simp [at',h]
theorem zAdX (w:Wd):0≤Un w∧Un w<4294967296:=by unfold Un;have:=w.isLt;omega
theorem zAdM (w:BitVec 8):0≤Yn w∧Yn w<256:=by unfold Yn;have:=w.isLt;omega
theorem zAbZ (w:Wd):BitVec.ofInt 32 (Un w)=w:=by unfold Un;simp
theorem zU9 (w:BitVec 8):BitVec.ofInt 8 (Yn w)=w:=by unfold Yn;simp
theorem zAcH (w:Wd):IntKind.u32.wrap (Un w)=Un w:=by rw [IntKind.wrap_u32];have:=zAdX w;omega
theorem zAa4 (a b:Wd):bXor .u32 (Un a) (Un b)=Un (a ^^^ b):=by
 unfold bXor
 show IntKind.u32.wrap ((BitVec.ofInt 32 (Un a) ^^^ BitVec.ofInt 32 (Un b)).toNat:Int)=_
 rw [zAbZ,zAbZ];exact zAcH _
theorem zAc6 (a b:BitVec 8):bXor .u8 (Yn a) (Yn b)=Yn (a ^^^ b):=by
 unfold bXor
 show IntKind.u8.wrap ((BitVec.ofInt 8 (Yn a) ^^^ BitVec.ofInt 8 (Yn b)).toNat:Int)=_
 rw [zU9,zU9,IntKind.wrap_u8]
 have:=(a ^^^ b).isLt
 unfold Yn
 omega
theorem zPh (w:Wd):IntKind.u8.wrap (Un w)=Yn (w.setWidth 8):=by
 rw [IntKind.wrap_u8];unfold Un Yn;simp
theorem zAa0 (w:Wd) (k:Nat) (hk:k≤32):sShr .u32 (Un w) (k:Int)=Un (w >>> k):=by
 unfold sShr
 have:min (k:Int).toNat IntKind.u32.bits=k:=by show min (k:Int).toNat 32=k;omega
 rw [this]
 unfold Un
 rw [BitVec.toNat_ushiftRight,Nat.shiftRight_eq_div_pow]
 have h2:((2:Int) ^ k)=((2 ^ k:Nat):Int):=by simp
 rw [h2,Int.fdiv_eq_ediv_of_nonneg _ (Int.natCast_nonneg _)]
 norm_cast
theorem zZ6 (w:Wd):zIj (Un w)=Un (~~~ w):=by
 have:zIj (Un w)=bXor .u32 (Un (BitVec.allOnes 32)) (Un w):=rfl
 rw [this,zAa4,BitVec.allOnes_xor]
theorem zYC (c:Wd) (y:BitVec 8):zI8 (Un c) (Yn y)=Un (feed c y):=by
 have h1:zH4 (Un c) (Yn y)=Yn (c.setWidth 8 ^^^ y):=by
  unfold zH4;rw [zPh,zAc6]
 unfold zI8
 rw [h1]
 have h2:at' tabL (Yn (c.setWidth 8 ^^^ y))=Un (A8 (BitVec.ofNat 32 (c.setWidth 8 ^^^ y).toNat)):=zAdb (c.setWidth 8 ^^^ y).isLt
 have h3:=zAa0 c 8 (by omega)
 rw [h2,show sShr .u32 (Un c) 8=Un (c >>> 8) from h3,zAa4]
 congr 1
 unfold feed
 have h4:c ^^^ y.setWidth 32=BitVec.ofNat 32 (c.setWidth 8 ^^^ y).toNat ^^^ ((c >>> 8) <<< 8):=by
  apply BitVec.eq_of_getLsbD_eq
  intro i hi
  simp only [BitVec.getLsbD_xor,BitVec.getLsbD_setWidth,BitVec.getLsbD_shiftLeft,BitVec.getLsbD_ushiftRight,BitVec.ofNat_toNat,hi,decide_true,Bool.true_and]
  by_cases h:i<8
  ·simp [h]
  ·have:8+(i-8)=i:=by omega
   simp [h,this]
   rw [Bool.xor_comm]
 rw [h4,zAdk,zAcz]
 congr 1
 apply BitVec.eq_of_getLsbD_eq
 intro i hi
 simp only [BitVec.getLsbD_shiftLeft,BitVec.getLsbD_ushiftRight]
 by_cases h:8+i<32
 ·simp [h]
 ·have:c.getLsbD (8+i)=false:=BitVec.getLsbD_of_ge _ _ (by omega)
  simp [this]
theorem zAc0 (bs:List (BitVec 8)):∀c:Wd,(bs.map Yn).foldl zI8 (Un c)=Un (bs.foldl feed c):=by
 induction bs with
 | nil=>intro c;rfl
 | cons y bs ih=>intro c;rw [List.map_cons,List.foldl_cons,zYC,ih,List.foldl_cons]
def zVh (s:Wd) (bs:List (BitVec 8)):Wd:= ~~~ (bs.foldl feed (~~~ s))
theorem zAbg (s:Wd) (bs:List (BitVec 8)):zVi (Un s) (bs.map Yn)=Un (zVh s bs):=by
 unfold zVi zVh
 rw [zZ6,zAc0,zZ6]
theorem zZt {s:Wd} {bs:List (BitVec 8)} (h:bs.length<4611686018427387904):zGT (Un s) (bs.map Yn)=some (Un (zVh s bs)):=by
 unfold zGT
 rw [if_pos (by rw [List.length_map];exact h),zAbg]
theorem zAdj {a b:BitVec 8} (h:Yn a=Yn b):a=b:=by rw [←zU9 a,←zU9 b,h]
def sumB (b:List (BitVec 8)):Wd:=zVh 0#32 b
theorem Un0:Un 0#32=0:=rfl
theorem zAdC (b:List (BitVec 8)) (hb:b.length<4611686018427387904):zMK (b.map Yn)=some (Un (sumB b)):=by
 rw [zMK,←Un0,zZt hb,zAb];rfl
def le4 (w:Wd):List (BitVec 8):=[w.setWidth 8,(w >>> 8).setWidth 8,(w >>> 16).setWidth 8,(w >>> 24).setWidth 8]
theorem zS5 (w:Wd):(le4 w).length=4:=rfl
theorem zT7 (b:List (BitVec 8)) (hb:b.length≤140737488355328):zAZ (b.map Yn)=some (b.map Yn):=by
 rw [zAZ,List.nil_append,if_pos (zHl (by rw [List.length_map];exact hb))]
theorem zP3 (w:Wd):sShr .u32 (Un w) 8=Un (w >>> 8):=zAa0 w 8 (by omega)
theorem zAco (w:Wd) (b:List (BitVec 8)) (hb:b.length≤70000):zCh 0 (Un w) (b.map Yn)=some ((b++le4 w).map Yn):=by
 rw [zCh,if_pos (by omega),if_pos (zHl (by simp;omega)),zAb,zPh,zP3,show IntKind.i64.wrap (0+1)=1 from by rw [i64_in _ (by omega)];rfl]
 rw [zCh,if_pos (by omega),if_pos (zHl (by simp;omega)),zAb,zPh,zP3,show IntKind.i64.wrap (1+1)=2 from by rw [i64_in _ (by omega)];rfl]
 rw [zCh,if_pos (by omega),if_pos (zHl (by simp;omega)),zAb,zPh,zP3,show IntKind.i64.wrap (2+1)=3 from by rw [i64_in _ (by omega)];rfl]
 rw [zCh,if_pos (by omega),if_pos (zHl (by simp;omega)),zAb,zPh,zP3,show IntKind.i64.wrap (3+1)=4 from by rw [i64_in _ (by omega)];rfl]
 rw [zCh,if_neg (by omega)]
 simp [le4,←BitVec.shiftRight_add]
def zG0 (b:List (BitVec 8)):List (BitVec 8):=b++le4 (sumB b)
theorem zAck (b:List (BitVec 8)) (hb:b.length≤70000):zEB (b.map Yn)=some (if b.length>65532 then ([],3) else ((zG0 b).map Yn,0)):=by
 rw [zEB]
 by_cases h:b.length>65532
 ·rw [if_pos (by rw [List.length_map];omega),if_pos h]
 ·rw [if_neg (by rw [List.length_map];omega),if_neg h,zT7 _ (by omega),zAb,zAdC _ (by omega),zAb,zAco _ _ hb,zAb];rfl
theorem zYo (b:List (BitVec 8)) (hb:b.length≤65532):zEB (b.map Yn)=some ((zG0 b).map Yn,0):=by
 rw [zAck b (by omega),if_neg (by omega)]
theorem zRW (a b:List (BitVec 8)) (hl:a.length=b.length) (hb:a.length<4611686018427387904):∀(t u:List (BitVec 8)) (k:Nat),a.drop k=t→b.drop k=u→zBn (a.map Yn) (b.map Yn) (k:Int)=some (if t=u then .inr () else .inl false)
 | [],u,k,h1,h2=>by
  have:=List.drop_eq_nil_iff.1 h1
  have h3:u=[]:=by rw [←h2];exact List.drop_eq_nil_of_le (by omega)
  rw [zBn,if_neg (by rw [List.length_map];omega),h3];rfl
 | x::t,[],k,h1,h2=>by
  have:=List.drop_eq_nil_iff.1 h2
  have:=(zAm h1).1
  omega
 | x::t,y::u,k,h1,h2=>by
  have g1:=zAm (show (a.map Yn).drop k=Yn x::t.map Yn by rw [←List.map_drop,h1];rfl)
  have g2:=zAm (show (b.map Yn).drop k=Yn y::u.map Yn by rw [←List.map_drop,h2];rfl)
  have k1:=(zAm h1).2.2
  have k2:=(zAm h2).2.2
  have:=g1.1;have:=g2.1
  rw [List.length_map] at*
  rw [zBn,List.length_map,List.length_map,if_pos (by omega),if_pos (by omega),if_pos (by omega),g1.2.1,g2.2.1,zA6 (by omega),zRW a b hl hb t u (k+1) k1 k2]
  by_cases hxy:x=y
  ·subst hxy;simp
  ·rw [if_pos (fun h=>hxy (zAdj h))];simp [hxy]
theorem zAcK (a b:List (BitVec 8)) (hb:a.length<4611686018427387904):zC1 (a.map Yn) (b.map Yn)=some (decide (a=b)):=by
 rw [zC1,List.length_map,List.length_map]
 by_cases hl:a.length=b.length
 ·have:=zRW a b hl hb a b 0 rfl rfl
  rw [show ((0:Nat):Int)=0 from rfl] at this
  rw [if_neg (by omega),this]
  by_cases h:a=b
  ·simp [h]
  ·simp [h]
 ·rw [if_pos (by omega),decide_eq_false (fun h=>hl (by rw [h]))]
def zOv (b:List (BitVec 8)):List (BitVec 8)×Int:=
 if b.length>65536 then ([],3) else if b.length<4 then ([],5) else if zG0 (b.take (b.length-4))=b then (b.take (b.length-4),0) else ([],7)
theorem zAdK (b:List (BitVec 8)) (h:4≤b.length) (hb:b.length≤70000):cutOk none (some (IntKind.i64.wrap (((b.map Yn).length:Int)-4))) (b.map Yn).length∧cut' (b.map Yn) none (some (IntKind.i64.wrap (((b.map Yn).length:Int)-4)))=(b.take (b.length-4)).map Yn:=by
 rw [List.length_map,i64_in _ (by omega)]
 refine ⟨⟨?_, ?_, ?_⟩, ?_⟩
 ·simp
 ·show (0:Int)≤(b.length:Int)-4;omega
 ·show (b.length:Int)-4≤(b.length:Int);omega
 ·show ((b.map Yn).take ((b.length:Int)-4).toNat).drop 0=_
  rw [List.drop_zero,←List.map_take]
  congr 2
  omega
theorem zAcS (b:List (BitVec 8)) (hb:b.length≤70000):zIi (b.map Yn)=some ((zOv b).1.map Yn,(zOv b).2):=by
 rw [zIi,zOv]
 by_cases h1:b.length>65536
 ·rw [if_pos (by rw [List.length_map];omega),if_pos h1];rfl
 rw [if_neg (by rw [List.length_map];omega),if_neg h1]
 by_cases h2:b.length<4
 ·rw [if_pos (by rw [List.length_map,i64_in _ (by omega)];omega),if_pos h2];rfl
 obtain ⟨c1,c2⟩:=zAdK b (by omega) hb
 rw [if_neg (by rw [List.length_map,i64_in _ (by omega)];omega),if_neg h2,if_pos c1,zAb,c2,zYo _ (by rw [List.length_take];omega),zAb,if_neg (by simp)]
 rw [zAcK _ _ (by simp [zG0,zS5];omega),zAb,zAb]
 by_cases h3:zG0 (b.take (b.length-4))=b
 ·rw [if_neg (by simp [h3]),if_pos h3,if_pos c1,zAb,zT7 _ (by rw [List.length_take];omega),zAb]
 ·rw [if_pos (by simp [h3]),if_neg h3];rfl
theorem zZR {b:List (BitVec 8)} (h:b.length≤65532):zOv (zG0 b)=(b,0):=by
 have hl:(zG0 b).length=b.length+4:=by simp [zG0,zS5]
 have ht:(zG0 b).take ((zG0 b).length-4)=b:=by
  rw [hl,Nat.add_sub_cancel,zG0,List.take_left'];rfl
 rw [zOv,if_neg (by omega),if_neg (by omega),ht,if_pos rfl]
end Go.Proofs.YtdgdgfckcnjpfaaGreat.Abs
