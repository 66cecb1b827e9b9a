/- math.Sqrt of a float, as the machine's library works it out. Conditions: none. -/
import Derived.Test.YtnmlihfpenjeiaaGreatChecked
import Derived.Test.YtnmlihfpenjeiaaGreatAbs6
import Derived.Tactics
import Derived.Tactics2
import Derived.Laws.Externs
namespace Go.Proofs.YtnmlihfpenjeiaaGreat.Abs
open Go Go.RowKit
set_option linter.unusedVariables false
set_option linter.unusedSimpArgs false
set_option maxRecDepth 100000
def zG5 (a0:Nat):Option Nat:=FloatKind.f64.format.sqrt a0
def zHO (v:Nat):PV:= .d (.flt .f64 v)
theorem zXM {x r:Nat} (h:FloatKind.f64.format.sqrt x=some r) (w:World):(callFunc 267 #[.float .f64 x]).run Tryz.prog w= .ok (.value (.float .f64 r)) w:=by
 rw [run_callFunc_extern (e:=Extern.MathSqrt.sqrt) Tryz.func267 (by kernel_rfl) (by kernel_rfl) (by kernel_rfl) (by kernel_rfl)]
 have e:Extern.MathSqrt.sqrt #[.float .f64 x]=(match FloatKind.f64.format.sqrt x with
  | some r=>pure (.float .f64 r)
  | none=>do pure (.float .f64 (←choose (.nanBits .f64 x x)))):=rfl
 rw [e,h];rfl
theorem zVN {x r:Nat} (h:FloatKind.f64.format.sqrt x=some r) (w:World):Calls Tryz.prog 266 #[.float .f64 x] w fun e w'=>e= .returned (.float .f64 r)∧w'=w:=by
 have hl:=zXM h
 go_enter Tryz.func266,Tryz.ntmps266
 go_wp2
 go_ret
 exact ⟨rfl,rfl⟩
theorem zTb (a0:Nat):∀v,zG5 a0=some v→EvF Tryz.prog 266 [.flt .f64 a0] (zHO v):=by
 intro v hv
 refine ⟨⟨_,Tryz.func266,rfl,by kernel_rfl⟩, ?_⟩
 intro pr w vs hp hd
 have hvs:vs= #[.float .f64 a0]:=by
  simp only [DRs] at hd
  obtain ⟨u,us,h1,h2,h3⟩:=hd
  simp only [DR] at h2
  apply Array.toList_inj.1
  rw [h1,h2,h3]
 subst hvs
 refine (zVN hv w).mono ?_
 rintro e w' ⟨rfl,rfl⟩
 refine ⟨_,⟨fun _=>none,fun _=>none,pr⟩,rfl,⟨?_, ?_, ?_, ?_, ?_, ?_⟩,by simp only [zHO,VR,DR], ?_, ?_,fun _ h=>h,fun _ h=> .inl h⟩
 all_goals first | (intros;simp_all;done) | exact hp | exact ⟨Below.refl _ _,Nat.le_refl _⟩ | exact fun b hb=>by simp [Own] at hb
end Go.Proofs.YtnmlihfpenjeiaaGreat.Abs
