/- ConfGrads: whatever comes in it answers true, and what came in reads as it did. Conditions: none. -/
import Derived.Test.YtnmlihfpenjeiaaGreatEW2
import Derived.Test.YtnmlihfpenjeiaaGreatFX18
import Derived.Test.YtnmlihfpenjeiaaGreatRows
import Derived.Test.YtnmlihfpenjeiaaGreatAbs6
import Derived.JoinedOf
import Derived.OpenShut
namespace Go.Proofs.YtnmlihfpenjeiaaGreat.Abs
open Go Go.RowKit Go.ChangeShapes Go.WideShapes Go.ChangeAt
set_option linter.unusedVariables false
set_option maxRecDepth 100000
theorem zVd (xs:List D) (h:Ty.oks [.agg [.int .i64, .int .i64, .int .i64, .int .i64, .int .i64, .int .i64, .int .i64, .int .i64, .int .i64, .int .i64, .int .i64, .int .i64, .int .i64, .int .i64, .int .u64, .lst 32 (.agg [.lst 8 (.int .i64), .int .i64])], .int .i64, .int .i64, .lst 8 (.int .i64)] xs):EvF Tryz.prog 6 xs (.d (.bool true)):=by
 obtain ⟨x0,ys,rfl,h0,h⟩:=zDG h
 obtain ⟨x1,ys,rfl,h1,h⟩:=zDG h
 obtain ⟨x2,ys,rfl,h2,h⟩:=zDG h
 obtain ⟨x3,ys,rfl,h3,h⟩:=zDG h
 obtain rfl:=zZi h
 simp only [Ty.ok] at h0
 obtain ⟨c0,rfl,h0⟩:=h0
 obtain ⟨x0_0,ys,rfl,h0_0,h0⟩:=zDG h0
 obtain ⟨x0_1,ys,rfl,h0_1,h0⟩:=zDG h0
 obtain ⟨x0_2,ys,rfl,h0_2,h0⟩:=zDG h0
 obtain ⟨x0_3,ys,rfl,h0_3,h0⟩:=zDG h0
 obtain ⟨x0_4,ys,rfl,h0_4,h0⟩:=zDG h0
 obtain ⟨x0_5,ys,rfl,h0_5,h0⟩:=zDG h0
 obtain ⟨x0_6,ys,rfl,h0_6,h0⟩:=zDG h0
 obtain ⟨x0_7,ys,rfl,h0_7,h0⟩:=zDG h0
 obtain ⟨x0_8,ys,rfl,h0_8,h0⟩:=zDG h0
 obtain ⟨x0_9,ys,rfl,h0_9,h0⟩:=zDG h0
 obtain ⟨x0_10,ys,rfl,h0_10,h0⟩:=zDG h0
 obtain ⟨x0_11,ys,rfl,h0_11,h0⟩:=zDG h0
 obtain ⟨x0_12,ys,rfl,h0_12,h0⟩:=zDG h0
 obtain ⟨x0_13,ys,rfl,h0_13,h0⟩:=zDG h0
 obtain ⟨x0_14,ys,rfl,h0_14,h0⟩:=zDG h0
 obtain ⟨x0_15,ys,rfl,h0_15,h0⟩:=zDG h0
 obtain rfl:=zZi h0
 obtain ⟨a0_0,rfl,k0_0⟩:=zDD h0_0
 obtain ⟨a0_1,rfl,k0_1⟩:=zDD h0_1
 obtain ⟨a0_2,rfl,k0_2⟩:=zDD h0_2
 obtain ⟨a0_3,rfl,k0_3⟩:=zDD h0_3
 obtain ⟨a0_4,rfl,k0_4⟩:=zDD h0_4
 obtain ⟨a0_5,rfl,k0_5⟩:=zDD h0_5
 obtain ⟨a0_6,rfl,k0_6⟩:=zDD h0_6
 obtain ⟨a0_7,rfl,k0_7⟩:=zDD h0_7
 obtain ⟨a0_8,rfl,k0_8⟩:=zDD h0_8
 obtain ⟨a0_9,rfl,k0_9⟩:=zDD h0_9
 obtain ⟨a0_10,rfl,k0_10⟩:=zDD h0_10
 obtain ⟨a0_11,rfl,k0_11⟩:=zDD h0_11
 obtain ⟨a0_12,rfl,k0_12⟩:=zDD h0_12
 obtain ⟨a0_13,rfl,k0_13⟩:=zDD h0_13
 obtain ⟨a0_14,rfl,k0_14⟩:=zDD h0_14
 obtain ⟨a0_15,rfl,b0_15,k0_15⟩:=zYq (enc:=zAa.en) (R:=sI) (fun y hy=>by simp only [Ty.ok] at hy;obtain ⟨cs,rfl,hy⟩:=hy;obtain ⟨z0,ys,rfl,hz0,hy⟩:=zDG hy;obtain ⟨z1,ys,rfl,hz1,hy⟩:=zDG hy;obtain rfl:=zZi hy;obtain ⟨c0,rfl,bz0,kz0⟩:=zYk hz0;obtain ⟨c1,rfl,kz1⟩:=zDD hz1;exact ⟨⟨c0,c1⟩,rfl,⟨fun n hn=>zQr (kz0 n hn),zQr kz1⟩⟩) h0_15
 obtain ⟨a1,rfl,k1⟩:=zDD h1
 obtain ⟨a2,rfl,k2⟩:=zDD h2
 obtain ⟨a3,rfl,b3,k3⟩:=zYk h3
 exact zK4 ⟨a0_0,⟨a0_1,a0_2,a0_3,a0_4,a0_5⟩,⟨a0_6,a0_7,a0_8⟩,a0_9,a0_10,a0_11,a0_12,a0_13,a0_14,a0_15⟩ a1 a2 a3 true (zUf _ a1 a2 a3 (by simp only;omega) (fun n hn=>zQr (k3 n hn)) (by omega) k0_15 (zQr k0_12))
theorem zU3:ownKnob Tryz.prog.godebug=none:=by kernel_rfl
theorem zMx:laidOutB Tryz.prog=true:=by kernel_rfl
theorem zVc:zMH Tryz.prog Tryz.f6.params.toList=some [.agg [.int .i64, .int .i64, .int .i64, .int .i64, .int .i64, .int .i64, .int .i64, .int .i64, .int .i64, .int .i64, .int .i64, .int .i64, .int .i64, .int .i64, .int .u64, .lst 32 (.agg [.lst 8 (.int .i64), .int .i64])], .int .i64, .int .i64, .lst 8 (.int .i64)]:=by kernel_rfl
theorem zVD:Tryz.f6.params.toList.all (fun t=>Tryz.prog.readableRec t&&decide (t<Tryz.prog.types.size))=true:=by kernel_rfl
theorem zR1 (os:Os) (started:os.Started) (H:Type) (enc:TypeId×Value→H):ReturnsInHanded {} Tryz.checked os 6 .any (Rows.confGradsSpec.pre6 enc Tryz.prog Tryz.f6 Rows.confGradsRow.domain false) (Rows.confGradsSpec.post enc Tryz.prog Tryz.f6 false true false false):=by
 refine zAbD (C:=Tryz.checked) (tb:=4) (ys:=[.agg [.int .i64, .int .i64, .int .i64, .int .i64, .int .i64, .int .i64, .int .i64, .int .i64, .int .i64, .int .i64, .int .i64, .int .i64, .int .i64, .int .i64, .int .u64, .lst 32 (.agg [.lst 8 (.int .i64), .int .i64])], .int .i64, .int .i64, .lst 8 (.int .i64)]) zU3 started (by kernel_rfl) Tryz.func6
  (ChangeSpec.witness6 (enc:=enc) (C:=Tryz.checked) false ⟨#[],#[.agg #[.int .i64 0, .int .i64 0, .int .i64 0, .int .i64 0, .int .i64 0, .int .i64 0, .int .i64 0, .int .i64 0, .int .i64 0, .int .i64 0, .int .i64 0, .int .i64 0, .int .i64 0, .int .i64 0, .int .u64 0, .slice none 0 0], .int .i64 0, .int .i64 0, .slice none 0 0],[]⟩ 8 (by kernel_rfl) (by kernel_rfl) (by kernel_rfl) (by kernel_rfl)) rfl (by kernel_rfl) (by kernel_rfl) zMx zVD zVc ?_ zVd
 intro ds hds
 rw [show Tryz.f6.params.toList.length=4 from by kernel_rfl] at hds
 match ds,hds with
 | [d0,d1,d2,d3],_=>rfl
theorem zKS:Tryz.prog.closure 6=[6,8,17,24,10,11,29,13,31,40,41,43,42,44,45,46,47,48,77,106,132,107,133,108,109,134,110,111,136,165,166,135,156,162,185,157,180,158,181,182,159,183,184,192,160,161,163,164,78,112,114,113,137,49,50,79,115,51,52,80,53,54,55,81,82,99,116,138,167,83,117,118,119,139,85,84,120,140,95,96,97,56,86,121,142,143,141,168,122,144,94,87,57,58,88,59,60,89,123,146,145,169,90,91,61,93,92,62,63,25,27,28,26,39,9,21,15,30,33,68,37,73,74,100,102,101,22,16,19,32,64,65,66,67,35,36,70,71,72,34,69,98,124,38,75,103,125,147,126,148,170,154,178,190,149,172,189,188,179,171,186,155,187,193,194,195,175,191,127,128,150,173,174,151,104,129,130,152,176,153,177,105,131,76,23]:=by kernel_rfl
theorem zWb:Rows.confGradsRow.inPlace=Tryz.prog.inPlace 6:=by unfold Program.inPlace;rw [zKS];kernel_rfl
theorem zPB:Rows.confGradsRow.unfollowed=Tryz.prog.unfollowed 6:=by unfold Program.unfollowed;rw [zKS];kernel_rfl
theorem zVG:Rows.confGradsRow.recurses=Tryz.prog.recurses 6:=by unfold Program.recurses;rw [←zPB];rfl
theorem zWn:Rows.confGradsRow.named=Tryz.prog.varsNamed 6:=by unfold Program.varsNamed;rw [zKS];kernel_rfl
theorem zW1:mapsRowed Tryz.prog=true:=by kernel_rfl
theorem zW9:joinedFacts Tryz.prog 6 Tryz.f6 Rows.confGradsSpec Rows.confGradsRow=true:=by unfold joinedFacts;rw [zMx,zW1,←zWb,←zPB,←zVG,←zWn];kernel_rfl
theorem confGrads_over:Rows.confGradsRow.holds Tryz.pinned (OpenSpec.ofChange Rows.confGradsSpec):=
 OpenClaim.holds_of_wide 6 Tryz.f6 rfl rfl rfl rfl rfl rfl rfl ⟨rfl,rfl,rfl,rfl,rfl⟩ rfl rfl rfl rfl rfl (by kernel_rfl) Tryz.func6 zW9
  (of_decide_eq_true (by kernel_rfl)) (by unfold Func.isWrapper;first | (rw [if_pos (by decide+kernel)];kernel_rfl) | (rw [if_neg (by decide+kernel)];exact ⟨rfl,rfl⟩))
  (fun os started H enc _=>zR1 os started H enc)
end Go.Proofs.YtnmlihfpenjeiaaGreat.Abs
namespace Go.Proofs.YtnmlihfpenjeiaaGreat
theorem confGrads_holds:Rows.ConfGradsSaid:=Abs.confGrads_over
#print axioms confGrads_holds
end Go.Proofs.YtnmlihfpenjeiaaGreat
