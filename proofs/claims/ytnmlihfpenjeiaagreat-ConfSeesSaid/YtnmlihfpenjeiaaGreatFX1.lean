/- Plain facts: products with bits behind the point (fix.Mul). Conditions: none. -/
import Derived.Test.YtnmlihfpenjeiaaGreatPVf
namespace Go.Proofs.YtnmlihfpenjeiaaGreat.Abs
open Go Go.RowKit Go.IntWalk
set_option linter.unusedVariables false
set_option linter.unusedSimpArgs false
set_option linter.unnecessarySimpa false
set_option maxRecDepth 100000
theorem zZq {x y:Int} (hx:0≤x∧x<18446744073709551616) (hy:0≤y∧y<18446744073709551616):zDx x y=some (x*y/18446744073709551616,x*y % 18446744073709551616):=by
 obtain ⟨a,rfl⟩:∃a:Nat,x=(a:Int):=⟨x.toNat,by omega⟩
 obtain ⟨b,rfl⟩:∃b:Nat,y=(b:Int):=⟨y.toNat,by omega⟩
 rw [zS9 (by omega) (by omega)]
 simp
theorem zKG {a:Int} (h:J64 a) (h0:a<0):IntKind.u64.wrap a=a+18446744073709551616:=by unfold J64 at h;rw [IntKind.wrap_u64];omega
theorem zKw {a:Int} (h:J64 a) (h0:¬a<0):IntKind.u64.wrap a=a:=by unfold J64 at h;rw [IntKind.wrap_u64];omega
theorem zTa {x W y:Int} (hW:0<W):(x+W*y)/W=x/W+y∧(x+W*y) % W=x % W:=
 ⟨Int.add_mul_ediv_left x y (by omega),by rw [Int.add_mul_emod_self_left]⟩
theorem zX3 {a b:Int} (ha:J64 a) (hb:J64 b):zIg a b=some ((a*b/18446744073709551616) % 18446744073709551616,(a*b) % 18446744073709551616):=by
 have hA:0≤IntKind.u64.wrap a∧IntKind.u64.wrap a<18446744073709551616:=by have:=zSP a;omega
 have hB:0≤IntKind.u64.wrap b∧IntKind.u64.wrap b<18446744073709551616:=by have:=zSP b;omega
 rw [zIg,zZq hA hB,zAb]
 simp only
 by_cases h1:a<0
 ·rw [if_pos h1]
  by_cases h2:b<0
  ·rw [if_pos h2,zKG ha h1,zKG hb h2]
   have e:(a+18446744073709551616)*(b+18446744073709551616)=a*b+18446744073709551616*(a+b+18446744073709551616):=by
    rw [Int.add_mul,Int.mul_add,Int.mul_add];omega
   have g:=zTa (x:=a*b) (W:=18446744073709551616) (y:=a+b+18446744073709551616) (by omega)
   rw [e,g.1,g.2]
   generalize a*b/18446744073709551616=h
   congr 2
   simp only [IntKind.wrap_u64]
   omega
  ·rw [if_neg h2,zKG ha h1,zKw hb h2]
   have e:(a+18446744073709551616)*b=a*b+18446744073709551616*b:=by rw [Int.add_mul]
   have g:=zTa (x:=a*b) (W:=18446744073709551616) (y:=b) (by omega)
   rw [e,g.1,g.2]
   generalize a*b/18446744073709551616=h
   congr 2
   simp only [IntKind.wrap_u64]
   omega
 ·rw [if_neg h1]
  by_cases h2:b<0
  ·rw [if_pos h2,zKw ha h1,zKG hb h2]
   have e:a*(b+18446744073709551616)=a*b+18446744073709551616*a:=by rw [Int.mul_add];omega
   have g:=zTa (x:=a*b) (W:=18446744073709551616) (y:=a) (by omega)
   rw [e,g.1,g.2]
   generalize a*b/18446744073709551616=h
   congr 2
   simp only [IntKind.wrap_u64]
   omega
  ·rw [if_neg h2,zKw ha h1,zKw hb h2]
   unfold J64 at ha hb
   have hm:0≤a*b∧a*b≤9223372036854775807*9223372036854775807:=⟨Int.mul_nonneg (by omega) (by omega),Int.mul_le_mul (by omega) (by omega) (by omega) (by omega)⟩
   generalize a*b=p at*
   congr 2
   omega
end Go.Proofs.YtnmlihfpenjeiaaGreat.Abs
