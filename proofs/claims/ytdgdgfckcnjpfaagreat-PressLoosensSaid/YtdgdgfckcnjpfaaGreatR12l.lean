/- PressLoosens: whatever comes in it answers true, and what came in reads as it did. Conditions: none. -/
import Derived.Test.YtdgdgfckcnjpfaaGreatZW2
import Derived.Test.YtdgdgfckcnjpfaaGreatPX3
import Derived.Test.YtdgdgfckcnjpfaaGreatRows
import Derived.Test.YtdgdgfckcnjpfaaGreatAbs6
import Derived.JoinedOf
import Derived.OpenShut
namespace Go.Proofs.YtdgdgfckcnjpfaaGreat.Abs
open Go Go.RowKit Go.ChangeShapes Go.WideShapes Go.ChangeAt
set_option linter.unusedVariables false
set_option maxRecDepth 100000
theorem zS3 (xs:List D) (h:Ty.oks [.agg [.int .i64, .int .i64, .int .i64], .lst 8 (.int .i64), .agg [.int .i64, .int .i64, .lst 8 (.int .i64), .lst 8 (.int .i64), .int .i64, .int .i64, .lst 8 (.int .u64), .lst 1 (.bool)]] xs):EvF Tryz.prog 7 xs (.d (.bool true)):=by
 obtain ⟨x0,ys,rfl,h0,h⟩:=zGO h
 obtain ⟨x1,ys,rfl,h1,h⟩:=zGO h
 obtain ⟨x2,ys,rfl,h2,h⟩:=zGO h
 obtain rfl:=zAa5 h
 simp only [Ty.ok] at h0
 obtain ⟨c0,rfl,h0⟩:=h0
 obtain ⟨x0_0,ys,rfl,h0_0,h0⟩:=zGO h0
 obtain ⟨x0_1,ys,rfl,h0_1,h0⟩:=zGO h0
 obtain ⟨x0_2,ys,rfl,h0_2,h0⟩:=zGO h0
 obtain rfl:=zAa5 h0
 obtain ⟨a0_0,rfl,k0_0⟩:=zKn h0_0
 obtain ⟨a0_1,rfl,k0_1⟩:=zKn h0_1
 obtain ⟨a0_2,rfl,k0_2⟩:=zKn h0_2
 obtain ⟨a1,rfl,b1,k1⟩:=zRz h1
 simp only [Ty.ok] at h2
 obtain ⟨c2,rfl,h2⟩:=h2
 obtain ⟨x2_0,ys,rfl,h2_0,h2⟩:=zGO h2
 obtain ⟨x2_1,ys,rfl,h2_1,h2⟩:=zGO h2
 obtain ⟨x2_2,ys,rfl,h2_2,h2⟩:=zGO h2
 obtain ⟨x2_3,ys,rfl,h2_3,h2⟩:=zGO h2
 obtain ⟨x2_4,ys,rfl,h2_4,h2⟩:=zGO h2
 obtain ⟨x2_5,ys,rfl,h2_5,h2⟩:=zGO h2
 obtain ⟨x2_6,ys,rfl,h2_6,h2⟩:=zGO h2
 obtain ⟨x2_7,ys,rfl,h2_7,h2⟩:=zGO h2
 obtain rfl:=zAa5 h2
 obtain ⟨a2_0,rfl,k2_0⟩:=zKn h2_0
 obtain ⟨a2_1,rfl,k2_1⟩:=zKn h2_1
 obtain ⟨a2_2,rfl,b2_2,k2_2⟩:=zRz h2_2
 obtain ⟨a2_3,rfl,b2_3,k2_3⟩:=zRz h2_3
 obtain ⟨a2_4,rfl,k2_4⟩:=zKn h2_4
 obtain ⟨a2_5,rfl,k2_5⟩:=zKn h2_5
 obtain ⟨a2_6,rfl,b2_6,k2_6⟩:=zRz h2_6
 obtain ⟨a2_7,rfl,b2_7,k2_7⟩:=zAcO h2_7
 exact zKK ⟨a0_0,a0_1,a0_2⟩ a1 ⟨a2_0,a2_1,a2_2,a2_3,a2_4,a2_5,a2_6,a2_7⟩ true (zSh _ a1 _ (fun x hx=>zVQ (k1 x hx)) ⟨⟨by simp only;omega,by simp only;omega,by simp only;omega,by simp only;omega,fun x hx=>zAdE (k2_6 x hx)⟩,fun x hx=>zVQ (k2_3 x hx),zVQ k2_4⟩)
theorem zTD:ownKnob Tryz.prog.godebug=none:=by kernel_rfl
theorem zKV:laidOutB Tryz.prog=true:=by kernel_rfl
theorem zTB:zNH Tryz.prog Tryz.f7.params.toList=some [.agg [.int .i64, .int .i64, .int .i64], .lst 8 (.int .i64), .agg [.int .i64, .int .i64, .lst 8 (.int .i64), .lst 8 (.int .i64), .int .i64, .int .i64, .lst 8 (.int .u64), .lst 1 (.bool)]]:=by kernel_rfl
theorem zUA:Tryz.f7.params.toList.all (fun t=>Tryz.prog.readableRec t&&decide (t<Tryz.prog.types.size))=true:=by kernel_rfl
theorem zPQ (os:Os) (started:os.Started) (H:Type) (enc:TypeId×Value→H):ReturnsInHanded {} Tryz.checked os 7 .any (Rows.pressLoosensSpec.pre6 enc Tryz.prog Tryz.f7 Rows.pressLoosensRow.domain false) (Rows.pressLoosensSpec.post enc Tryz.prog Tryz.f7 false true false false):=by
 refine zAcA (C:=Tryz.checked) (tb:=4) (ys:=[.agg [.int .i64, .int .i64, .int .i64], .lst 8 (.int .i64), .agg [.int .i64, .int .i64, .lst 8 (.int .i64), .lst 8 (.int .i64), .int .i64, .int .i64, .lst 8 (.int .u64), .lst 1 (.bool)]]) zTD started (by kernel_rfl) Tryz.func7
  (ChangeSpec.witness6 (enc:=enc) (C:=Tryz.checked) false ⟨#[],#[.agg #[.int .i64 0, .int .i64 0, .int .i64 0], .slice none 0 0, .agg #[.int .i64 0, .int .i64 0, .slice none 0 0, .slice none 0 0, .int .i64 0, .int .i64 0, .slice none 0 0, .slice none 0 0]],[]⟩ 8 (by kernel_rfl) (by kernel_rfl) (by kernel_rfl) (by kernel_rfl)) rfl (by kernel_rfl) (by kernel_rfl) zKV zUA zTB ?_ zS3
 intro ds hds
 rw [show Tryz.f7.params.toList.length=3 from by kernel_rfl] at hds
 match ds,hds with
 | [d0,d1,d2],_=>rfl
theorem zIG:Tryz.prog.closure 7=[7,9,13,30,57,59,60,58,11,33,17,34,69,70,72,71,73,47,74,75,76,129,172,198,173,199,174,175,200,176,177,202,219,190,201,210,216,230,211,225,212,226,227,213,228,229,236,214,215,217,218,130,178,180,179,203,77,78,131,181,79,80,132,81,82,83,133,134,46,104,103,135,182,183,184,204,137,136,185,205,220,231,221,84,42,100,153,154,152,189,101,155,145,138,85,86,139,87,88,140,21,45,44,141,142,89,144,143,90,91,20,19,43,102,16,10,23,24,48,105,156,106,49,107,93,50,25,51,98,108,26,52,62,118,119,109,157,191,110,159,158,111,160,170,196,192,126,206,161,193,207,222,112,27,53,113,162,114,163,115,116,164,194,165,117,28,29,18,54,35,92,146,186,149,147,187,15,39,40,41,55,94,148,188,95,56,37,97,151,99]:=by kernel_rfl
theorem zTG:Rows.pressLoosensRow.inPlace=Tryz.prog.inPlace 7:=by unfold Program.inPlace;rw [zIG];kernel_rfl
theorem zMB:Rows.pressLoosensRow.unfollowed=Tryz.prog.unfollowed 7:=by unfold Program.unfollowed;rw [zIG];kernel_rfl
theorem zUX:Rows.pressLoosensRow.recurses=Tryz.prog.recurses 7:=by unfold Program.recurses;rw [←zMB];rfl
theorem zUz:Rows.pressLoosensRow.named=Tryz.prog.varsNamed 7:=by unfold Program.varsNamed;rw [zIG];kernel_rfl
theorem zT0:mapsRowed Tryz.prog=true:=by kernel_rfl
theorem zUu:joinedFacts Tryz.prog 7 Tryz.f7 Rows.pressLoosensSpec Rows.pressLoosensRow=true:=by unfold joinedFacts;rw [zKV,zT0,←zTG,←zMB,←zUX,←zUz];kernel_rfl
theorem pressLoosens_over:Rows.pressLoosensRow.holds Tryz.pinned (OpenSpec.ofChange Rows.pressLoosensSpec):=
 OpenClaim.holds_of_wide 7 Tryz.f7 rfl rfl rfl rfl rfl rfl rfl ⟨rfl,rfl,rfl,rfl,rfl⟩ rfl rfl rfl rfl rfl (by kernel_rfl) Tryz.func7 zUu
  (of_decide_eq_true (by kernel_rfl)) (by unfold Func.isWrapper;first | (rw [if_pos (by decide+kernel)];kernel_rfl) | (rw [if_neg (by decide+kernel)];exact ⟨rfl,rfl⟩))
  (fun os started H enc _=>zPQ os started H enc)
end Go.Proofs.YtdgdgfckcnjpfaaGreat.Abs
namespace Go.Proofs.YtdgdgfckcnjpfaaGreat
theorem pressLoosens_holds:Rows.PressLoosensSaid:=Abs.pressLoosens_over
#print axioms pressLoosens_holds
end Go.Proofs.YtdgdgfckcnjpfaaGreat
