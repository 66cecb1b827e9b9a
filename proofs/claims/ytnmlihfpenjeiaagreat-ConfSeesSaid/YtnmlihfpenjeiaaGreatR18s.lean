/- ConfSees: whatever comes in it answers true, and what came in reads as it did. Conditions: none. -/
import Derived.Test.YtnmlihfpenjeiaaGreatEW2
import Derived.Test.YtnmlihfpenjeiaaGreatFX18
import Derived.Test.YtnmlihfpenjeiaaGreatRows
import Derived.Test.YtnmlihfpenjeiaaGreatAbs6
import Derived.JoinedOf
import Derived.OpenShut
namespace Go.Proofs.YtnmlihfpenjeiaaGreat.Abs
open Go Go.RowKit Go.ChangeShapes Go.WideShapes Go.ChangeAt
set_option linter.unusedVariables false
set_option maxRecDepth 100000
theorem zRV (xs:List D) (h:Ty.oks [.agg [.int .i64, .int .i64, .int .i64, .int .i64, .int .i64, .int .i64, .int .i64, .int .i64, .int .i64, .int .i64, .int .i64, .int .i64, .int .i64, .int .i64, .int .u64, .lst 32 (.agg [.lst 8 (.int .i64), .int .i64])], .int .i64, .int .i64, .lst 8 (.int .i64)] xs):EvF Tryz.prog 7 xs (.d (.bool true)):=by
 obtain ⟨x0,ys,rfl,h0,h⟩:=zDB h
 obtain ⟨x1,ys,rfl,h1,h⟩:=zDB h
 obtain ⟨x2,ys,rfl,h2,h⟩:=zDB h
 obtain ⟨x3,ys,rfl,h3,h⟩:=zDB h
 obtain rfl:=zVk h
 simp only [Ty.ok] at h0
 obtain ⟨c0,rfl,h0⟩:=h0
 obtain ⟨x0_0,ys,rfl,h0_0,h0⟩:=zDB h0
 obtain ⟨x0_1,ys,rfl,h0_1,h0⟩:=zDB h0
 obtain ⟨x0_2,ys,rfl,h0_2,h0⟩:=zDB h0
 obtain ⟨x0_3,ys,rfl,h0_3,h0⟩:=zDB h0
 obtain ⟨x0_4,ys,rfl,h0_4,h0⟩:=zDB h0
 obtain ⟨x0_5,ys,rfl,h0_5,h0⟩:=zDB h0
 obtain ⟨x0_6,ys,rfl,h0_6,h0⟩:=zDB h0
 obtain ⟨x0_7,ys,rfl,h0_7,h0⟩:=zDB h0
 obtain ⟨x0_8,ys,rfl,h0_8,h0⟩:=zDB h0
 obtain ⟨x0_9,ys,rfl,h0_9,h0⟩:=zDB h0
 obtain ⟨x0_10,ys,rfl,h0_10,h0⟩:=zDB h0
 obtain ⟨x0_11,ys,rfl,h0_11,h0⟩:=zDB h0
 obtain ⟨x0_12,ys,rfl,h0_12,h0⟩:=zDB h0
 obtain ⟨x0_13,ys,rfl,h0_13,h0⟩:=zDB h0
 obtain ⟨x0_14,ys,rfl,h0_14,h0⟩:=zDB h0
 obtain ⟨x0_15,ys,rfl,h0_15,h0⟩:=zDB h0
 obtain rfl:=zVk h0
 obtain ⟨a0_0,rfl,k0_0⟩:=zDm h0_0
 obtain ⟨a0_1,rfl,k0_1⟩:=zDm h0_1
 obtain ⟨a0_2,rfl,k0_2⟩:=zDm h0_2
 obtain ⟨a0_3,rfl,k0_3⟩:=zDm h0_3
 obtain ⟨a0_4,rfl,k0_4⟩:=zDm h0_4
 obtain ⟨a0_5,rfl,k0_5⟩:=zDm h0_5
 obtain ⟨a0_6,rfl,k0_6⟩:=zDm h0_6
 obtain ⟨a0_7,rfl,k0_7⟩:=zDm h0_7
 obtain ⟨a0_8,rfl,k0_8⟩:=zDm h0_8
 obtain ⟨a0_9,rfl,k0_9⟩:=zDm h0_9
 obtain ⟨a0_10,rfl,k0_10⟩:=zDm h0_10
 obtain ⟨a0_11,rfl,k0_11⟩:=zDm h0_11
 obtain ⟨a0_12,rfl,k0_12⟩:=zDm h0_12
 obtain ⟨a0_13,rfl,k0_13⟩:=zDm h0_13
 obtain ⟨a0_14,rfl,k0_14⟩:=zDm h0_14
 obtain ⟨a0_15,rfl,b0_15,k0_15⟩:=zU2 (enc:=zAa.en) (R:=sI) (fun y hy=>by simp only [Ty.ok] at hy;obtain ⟨cs,rfl,hy⟩:=hy;obtain ⟨z0,ys,rfl,hz0,hy⟩:=zDB hy;obtain ⟨z1,ys,rfl,hz1,hy⟩:=zDB hy;obtain rfl:=zVk hy;obtain ⟨c0,rfl,bz0,kz0⟩:=zUy hz0;obtain ⟨c1,rfl,kz1⟩:=zDm hz1;exact ⟨⟨c0,c1⟩,rfl,⟨fun n hn=>zNq (kz0 n hn),zNq kz1⟩⟩) h0_15
 obtain ⟨a1,rfl,k1⟩:=zDm h1
 obtain ⟨a2,rfl,k2⟩:=zDm h2
 obtain ⟨a3,rfl,b3,k3⟩:=zUy h3
 exact zKR ⟨a0_0,⟨a0_1,a0_2,a0_3,a0_4,a0_5⟩,⟨a0_6,a0_7,a0_8⟩,a0_9,a0_10,a0_11,a0_12,a0_13,a0_14,a0_15⟩ a1 a2 a3 true (zRB _ a1 a2 a3 (by simp only;omega) (fun n hn=>zNq (k3 n hn)) k0_15 (zNq k0_12))
theorem zTp:ownKnob Tryz.prog.godebug=none:=by kernel_rfl
theorem zMb:laidOutB Tryz.prog=true:=by kernel_rfl
theorem zR1:zLj Tryz.prog Tryz.f7.params.toList=some [.agg [.int .i64, .int .i64, .int .i64, .int .i64, .int .i64, .int .i64, .int .i64, .int .i64, .int .i64, .int .i64, .int .i64, .int .i64, .int .i64, .int .i64, .int .u64, .lst 32 (.agg [.lst 8 (.int .i64), .int .i64])], .int .i64, .int .i64, .lst 8 (.int .i64)]:=by kernel_rfl
theorem zUb:Tryz.f7.params.toList.all (fun t=>Tryz.prog.readableRec t&&decide (t<Tryz.prog.types.size))=true:=by kernel_rfl
theorem zPx (os:Os) (started:os.Started) (H:Type) (enc:TypeId×Value→H):ReturnsInHanded {} Tryz.checked os 7 .any (Rows.confSeesSpec.pre6 enc Tryz.prog Tryz.f7 Rows.confSeesRow.domain false) (Rows.confSeesSpec.post enc Tryz.prog Tryz.f7 false true false false):=by
 refine zXU (C:=Tryz.checked) (tb:=4) (ys:=[.agg [.int .i64, .int .i64, .int .i64, .int .i64, .int .i64, .int .i64, .int .i64, .int .i64, .int .i64, .int .i64, .int .i64, .int .i64, .int .i64, .int .i64, .int .u64, .lst 32 (.agg [.lst 8 (.int .i64), .int .i64])], .int .i64, .int .i64, .lst 8 (.int .i64)]) zTp started (by kernel_rfl) Tryz.func7
  (ChangeSpec.witness6 (enc:=enc) (C:=Tryz.checked) false ⟨#[],#[.agg #[.int .i64 0, .int .i64 0, .int .i64 0, .int .i64 0, .int .i64 0, .int .i64 0, .int .i64 0, .int .i64 0, .int .i64 0, .int .i64 0, .int .i64 0, .int .i64 0, .int .i64 0, .int .i64 0, .int .u64 0, .slice none 0 0], .int .i64 0, .int .i64 0, .slice none 0 0],[]⟩ 8 (by kernel_rfl) (by kernel_rfl) (by kernel_rfl) (by kernel_rfl)) rfl (by kernel_rfl) (by kernel_rfl) zMb zUb zR1 ?_ zRV
 intro ds hds
 rw [show Tryz.f7.params.toList.length=4 from by kernel_rfl] at hds
 match ds,hds with
 | [d0,d1,d2,d3],_=>rfl
theorem zK0:Tryz.prog.closure 7=[7,8,17,24,10,11,29,13,31,40,41,43,42,44,45,46,47,48,77,106,132,107,133,108,109,134,110,111,136,165,166,135,156,162,185,157,180,158,181,182,159,183,184,192,160,161,163,164,78,112,114,113,137,49,50,79,115,51,52,80,53,54,55,81,82,99,116,138,167,83,117,118,119,139,85,84,120,140,95,96,97,56,86,121,142,143,141,168,122,144,94,87,57,58,88,59,60,89,123,146,145,169,90,91,61,93,92,62,63,25,27,28,26,39,9,15,30,33,68,20,21,37,73,74,100,102,101]:=by kernel_rfl
theorem zUj:Rows.confSeesRow.inPlace=Tryz.prog.inPlace 7:=by unfold Program.inPlace;rw [zK0];kernel_rfl
theorem zNT:Rows.confSeesRow.unfollowed=Tryz.prog.unfollowed 7:=by unfold Program.unfollowed;rw [zK0];kernel_rfl
theorem zTM:Rows.confSeesRow.recurses=Tryz.prog.recurses 7:=by unfold Program.recurses;rw [←zNT];rfl
theorem zTD:Rows.confSeesRow.named=Tryz.prog.varsNamed 7:=by unfold Program.varsNamed;rw [zK0];kernel_rfl
theorem zTG:mapsRowed Tryz.prog=true:=by kernel_rfl
theorem zT7:joinedFacts Tryz.prog 7 Tryz.f7 Rows.confSeesSpec Rows.confSeesRow=true:=by unfold joinedFacts;rw [zMb,zTG,←zUj,←zNT,←zTM,←zTD];kernel_rfl
theorem confSees_over:Rows.confSeesRow.holds Tryz.pinned (OpenSpec.ofChange Rows.confSeesSpec):=
 OpenClaim.holds_of_wide 7 Tryz.f7 rfl rfl rfl rfl rfl rfl rfl ⟨rfl,rfl,rfl,rfl,rfl⟩ rfl rfl rfl rfl rfl (by kernel_rfl) Tryz.func7 zT7
  (of_decide_eq_true (by kernel_rfl)) (by unfold Func.isWrapper;first | (rw [if_pos (by decide+kernel)];kernel_rfl) | (rw [if_neg (by decide+kernel)];exact ⟨rfl,rfl⟩))
  (fun os started H enc _=>zPx os started H enc)
end Go.Proofs.YtnmlihfpenjeiaaGreat.Abs
namespace Go.Proofs.YtnmlihfpenjeiaaGreat
theorem confSees_holds:Rows.ConfSeesSaid:=Abs.confSees_over
#print axioms confSees_holds
end Go.Proofs.YtnmlihfpenjeiaaGreat
