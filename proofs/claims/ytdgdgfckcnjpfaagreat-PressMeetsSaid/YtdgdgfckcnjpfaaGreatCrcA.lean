/- The library's lock, once: world level. -/
import Derived.Test.YtdgdgfckcnjpfaaGreatChecked
import Derived.Tactics
import Derived.Tactics2
import Derived.Defers
import Derived.Laws.Pointers
import Derived.Laws.LoneSync
import Derived.RegionTactic
import Derived.RegionCalls
import Derived.ChangeAlike
namespace Go.Proofs.YtdgdgfckcnjpfaaGreat.Crc
open Go
set_option maxRecDepth 100000
set_option maxHeartbeats 1600000
theorem disable (w:World):(callFunc 241 #[]).run Tryz.prog w= .ok (.value (.tuple #[])) w:=run_call_mark0 Tryz.func241 (by kernel_rfl) (by kernel_rfl) (by kernel_rfl) .disable (by kernel_rfl) w
theorem enable (w:World):(callFunc 243 #[]).run Tryz.prog w= .ok (.value (.tuple #[])) w:=run_call_mark0 Tryz.func243 (by kernel_rfl) (by kernel_rfl) (by kernel_rfl) .enable (by kernel_rfl) w
theorem acquire (a:Addr) (w:World):(callFunc 244 #[.pointer (some a)]).run Tryz.prog w= .ok (.value (.tuple #[])) w:=run_call_marked Tryz.func244 (by kernel_rfl) (by kernel_rfl) (by kernel_rfl) .acquire (by kernel_rfl) a w
theorem releaseMerge (a:Addr) (w:World):(callFunc 246 #[.pointer (some a)]).run Tryz.prog w= .ok (.value (.tuple #[])) w:=run_call_marked Tryz.func246 (by kernel_rfl) (by kernel_rfl) (by kernel_rfl) .releaseMerge (by kernel_rfl) a w
theorem store_deferred (a:Addr) (x:Value) (u:FrameMode) (w:World) (hc:w.cell? a=some x) (hz:w.frozen? a=false):
  CallsD Tryz.prog 235 #[.pointer (some a), .bool true] u w fun e u' w'=>u'=u∧(e= .returned (.tuple #[])∧w'=w.drew.setCell a (.int .u32 1)):=by
 have hc':w.drew.cell? a=some x:=by go_simp
 have hz':w.drew.frozen? a=false:=by go_simp
 have hst:=run_call_store (P:=Tryz.prog) Tryz.func239 (by kernel_rfl) (by kernel_rfl) (by kernel_rfl) (by kernel_rfl) (k:= .u32) (y:=1) hc' hz'
 go_enter_d Tryz.func235,Tryz.ntmps235
 go_wp2
 go_region_calls
 all_goals (go_end0;exact ⟨rfl,rfl⟩)
theorem unlock_deferred (a:Addr) (u:FrameMode) (w:World) (hc:w.cell? a=some (.int .i32 1)) (hz:w.frozen? a=false):
  CallsD Tryz.prog 234 #[.pointer (some a)] u w fun e u' w'=>u'=u∧(e= .returned (.tuple #[])∧w'=w.setCell a (.int .i32 0)):=by
 have hd:=disable
 have he:=enable
 have hr:=releaseMerge
 have hadd:=run_call_add (P:=Tryz.prog) Tryz.func247 (by kernel_rfl) (by kernel_rfl) (by kernel_rfl) .i32 (by kernel_rfl) (y:= -1) (s:=0) hc hz (by simp [go_sem];rfl)
 have hcv:=run_convert_to_unsafe (P:=Tryz.prog) (src:=247) (dst:=251) Tryz.underlying247 Tryz.underlying251 (by kernel_rfl) hc
 go_enter_d Tryz.func234,Tryz.ntmps234
 go_wp2
 go_end0
 go_wp2
 go_end0
 exact ⟨rfl,rfl⟩
theorem lock_free (a:Addr) (w:World) (hc:w.cell? a=some (.int .i32 0)) (hz:w.frozen? a=false):
  Calls Tryz.prog 233 #[.pointer (some a)] w fun e w'=>e= .returned (.tuple #[])∧w'=w.setCell a (.int .i32 1):=by
 have hd:=disable
 have he:=enable
 have ha:=acquire
 have hcas:=run_call_cas_hit (P:=Tryz.prog) Tryz.func242 (by kernel_rfl) (by kernel_rfl) (by kernel_rfl) .i32 (by kernel_rfl) (y:=1) hc hz
 have hc':(w.setCell a (.int .i32 1)).cell? a=some (.int .i32 1):=World.cell?_setCell_same w a _ hc
 have hcv:=run_convert_to_unsafe (P:=Tryz.prog) (src:=247) (dst:=251) Tryz.underlying247 Tryz.underlying251 (by kernel_rfl) hc'
 go_enter Tryz.func233,Tryz.ntmps233
 go_wp2
 first | go_end0 | (simp only [Exit.inBlock,Exit.then];refine bodyPost_ret (results_none rfl _ _ _) rfl ?_) | refine bodyPost_ret (results_none rfl _ _ _) rfl ?_
 go_wp2
 go_end0
 exact ⟨rfl,rfl⟩
theorem load_is (a:Addr) (x:Int) (w:World) (hc:w.cell? a=some (.int .u32 x)):
  Calls Tryz.prog 223 #[.pointer (some a)] w fun e w'=>e= .returned (.bool (x !=0))∧w'=w:=by
 have hl:=run_call_load (P:=Tryz.prog) Tryz.func232 (by kernel_rfl) (by kernel_rfl) (by kernel_rfl) .u32 (by kernel_rfl) hc
 go_enter Tryz.func223,Tryz.ntmps223
 go_wp2
 go_ret
 exact ⟨rfl,rfl⟩
theorem slow_any (b:Nat) (pl:Addr) (w:World) (Q:World→Prop)
  (h0:w.cell? ⟨b,0,none⟩=some (.int .u32 0)) (h1:w.cell? ⟨b,1,none⟩=some (.int .i32 0)) (f1:w.frozen? ⟨b,1,none⟩=false)
  (hf:Calls Tryz.prog 209 #[.pointer (some pl)] (w.setCell ⟨b,1,none⟩ (.int .i32 1)) fun e w'=>e= .returned (.tuple #[])∧Q w')
  (q0:∀w',Q w'→w'.cell? ⟨b,0,none⟩=some (.int .u32 0)) (q1:∀w',Q w'→w'.cell? ⟨b,1,none⟩=some (.int .i32 1))
  (g0:∀w',Q w'→w'.frozen? ⟨b,0,none⟩=false) (g1:∀w',Q w'→w'.frozen? ⟨b,1,none⟩=false):
  Calls Tryz.prog 224 #[.pointer (some ⟨b,0,none⟩), .func (.func 209) #[] #[.pointer (some pl)]] w fun e w'=>e= .returned (.tuple #[])∧
   ∃w2,Q w2∧w'=(w2.drew.setCell ⟨b,0,none⟩ (.int .u32 1)).setCell ⟨b,1,none⟩ (.int .i32 0):=by
 have hl0:(w.setCell ⟨b,1,none⟩ (.int .i32 1)).cell? ⟨b,0,none⟩=some (.int .u32 0):=(World.cell?_setCell_other _ ⟨b,1,none⟩ ⟨b,0,none⟩ _ (by simp)).trans h0
 have hnot:∀(x:Bool) (w:World),(Op.unary .not (.bool x)).run Tryz.prog w= .ok (.bool (!x)) w:=fun _ _=>rfl
 go_enter_defers Tryz.func224,Tryz.ntmps224
 go_wp2_with (first | (go_at_call 233;refine (lock_free ⟨b,0+1,none⟩ _ h1 f1).mono ?_;rintro e w' ⟨rfl,rfl⟩) | (go_at_call 223;refine (load_is _ 0 _ hl0).mono ?_;rintro e w' ⟨rfl,rfl⟩) | (go_at_call 209;refine hf.mono ?_;rintro e w2 ⟨rfl,hq⟩))
 refine leaves_cons (f:=235) (args:= #[.pointer (some ⟨b,0,none⟩), .bool true]) (by simp) (by simp [go_sem]) ?_
 refine (store_deferred ⟨b,0,none⟩ (.int .u32 0) .returning _ (q0 _ hq) (g0 _ hq)).mono ?_
 rintro e u' w'' ⟨rfl,rfl,rfl⟩
 refine leaves_cons (f:=234) (args:= #[.pointer (some ⟨b,1,none⟩)]) (by simp [settle]) (by simp [go_sem]) ?_
 have fz:∀(w:World) (o:Nat) (v:Value),(w.drew.setCell ⟨b,0,none⟩ v).frozen? ⟨b,1,none⟩=w.frozen? ⟨b,1,none⟩:=fun w o v=>by go_simp
 refine (unlock_deferred ⟨b,1,none⟩ _ _ ?_ ?_).mono ?_
 ·refine (World.cell?_setCell_other _ ⟨b,0,none⟩ ⟨b,1,none⟩ _ (by simp)).trans ?_
  rw [World.cell?_drew]
  exact q1 _ hq
 ·rw [fz _ 0];exact g1 _ hq
 rintro e u' w'' ⟨rfl,rfl,rfl⟩
 simp [Leaves,settle,results,Tryz.results224]
 exact ⟨_,hq,rfl⟩
theorem do_first (b:Nat) (pl:Addr) (w:World) (Q:World→Prop)
  (h0:w.cell? ⟨b,0,none⟩=some (.int .u32 0)) (h1:w.cell? ⟨b,1,none⟩=some (.int .i32 0)) (f1:w.frozen? ⟨b,1,none⟩=false)
  (hf:Calls Tryz.prog 209 #[.pointer (some pl)] (w.setCell ⟨b,1,none⟩ (.int .i32 1)) fun e w'=>e= .returned (.tuple #[])∧Q w')
  (q0:∀w',Q w'→w'.cell? ⟨b,0,none⟩=some (.int .u32 0)) (q1:∀w',Q w'→w'.cell? ⟨b,1,none⟩=some (.int .i32 1))
  (g0:∀w',Q w'→w'.frozen? ⟨b,0,none⟩=false) (g1:∀w',Q w'→w'.frozen? ⟨b,1,none⟩=false):
  Calls Tryz.prog 208 #[.pointer (some ⟨b,0,none⟩), .func (.func 209) #[] #[.pointer (some pl)]] w fun e w'=>e= .returned (.tuple #[])∧
   ∃w2,Q w2∧w'=(w2.drew.setCell ⟨b,0,none⟩ (.int .u32 1)).setCell ⟨b,1,none⟩ (.int .i32 0):=by
 have hnot:∀(x:Bool) (w:World),(Op.unary .not (.bool x)).run Tryz.prog w= .ok (.bool (!x)) w:=fun _ _=>rfl
 go_enter Tryz.func208,Tryz.ntmps208
 go_wp2_with (first | (go_at_call 224;refine (slow_any b pl w Q h0 h1 f1 hf q0 q1 g0 g1).mono ?_;rintro e w' ⟨rfl,hw'⟩) | (go_at_call 223;refine (load_is _ 0 _ h0).mono ?_;rintro e w' ⟨rfl,hw⟩;obtain rfl:=hw.symm))
 go_end0
 exact ⟨rfl,hw'⟩
end Go.Proofs.YtdgdgfckcnjpfaaGreat.Crc
