/- Calls that are handed rows and boxes, values by a name, and strings of bytes, in walks. Conditions: none. -/
import Derived.Test.YtaghpancpfpnhaaAbsG4
namespace Go.Proofs.Ytaghpancpfpnhaa.Abs
open Go Go.RowKit
set_option linter.unusedVariables false
set_option linter.unusedSimpArgs false

section
variable {P : Program} {N : Nat} {Q : Kd → St → Prop}
variable {β γ : Type} {m m1 m2 : Option β} {R : β → Kd → St → Prop} {ks ks' : List Fr} {k k' : Kd} {st st' : St}

theorem L_callG {mc : Option γ} {kk : γ → Option β} {enR : γ → PV} {bx' : γ → List (Tg × List PV)} {ps : List PV} {bx : List (Tg × List PV)} (ρ : List (Tg × Tg)) (F : List Tg) {q : Bool} {dst : Option Nat} {g : Option (Nat × Bool)} {n f : Nat} {args : List Opd} {r : List AOper}
    (hm : ∀ v, mc = some v → EvG P f ps bx (enR v) (bx' v)) (hg : gok g st) (h1 : nodupT (ρ.map Prod.snd) = true) (h2 : upIn ρ bx = true) (h3 : ∀ v, (enR v).gok ρ = true) (h4 : ∀ v, gokB ρ (bx' v) = true)
    (h5 : ∀ v, (valsO (((gst g st).frz F).rebinds n ((enR v).tags ++ tagsB (bx' v))).val args).bind (fun as => cvL (gvR ρ) (gvB ρ) as ps) = some ps)
    (h6 : ∀ v, cvBx (gvR ρ) (gvB ρ) (((gst g st).frz F).rebinds n ((enR v).tags ++ tagsB (bx' v))) bx = some bx)
    (next : ∀ v, Ok (kk v) fun b => go P N (R b) (.o q r :: ks) .norm (((((gst g st).frz F).rebinds n ((enR v).tags ++ tagsB (bx' v))).give ρ n (bx' v)).putO dst ((enR v).mapT (sgF ρ n)))) :
    Ok (mc >>= kk) fun b => go P N (R b) (.o q (⟨dst, g, n, .call f args⟩ :: r) :: ks) .norm st := by
  intro b hb
  obtain ⟨v, hv, hk⟩ := Option.bind_eq_some_iff.1 hb
  refine ops_step hg (show stepK P n (.call f args) (gst g st) _ from ?_)
  unfold stepK
  simp only [rop, wop, callK]
  refine use_G (hm v hv) ρ F (nodupT_sound h1) h2 (h3 v) (h4 v) ?_ (cvBx_le (h6 v)) (next v b hk)
  have := h5 v
  obtain ⟨as, g1, g2⟩ := Option.bind_eq_some_iff.1 this
  rw [g1]
  exact cvL_le _ _ g2

/-- Values that are handed in, as data or by names. -/
def cvA (gs : List Tg) (ρ β : Nm) : List PV → List PV → Option (List PV)
  | as, [] => match as with
    | [] => some []
    | _ => none
  | as, q :: qs => match as with
    | [] => none
    | a :: as => match q with
      | .d _ => bif a.tags.all (fun t => !(decide (t ∈ gs))) then (match a.toD, cvA gs ρ β as qs with
        | some y, some z => some (.d y :: z)
        | _, _ => none) else none
      | q => match cvP ρ β a q, cvA gs ρ β as qs with
        | some y, some z => some (y :: z)
        | _, _ => none

theorem cvA_ok {gs : List Tg} {ρ β : Nm} : ∀ (qs as : List PV), cvA gs ρ β as qs = some qs → argsB gs ρ β as qs
  | [], as, h => by
    unfold cvA at h
    split at h
    · trivial
    · cases h
  | q :: qs, as, h => by
    unfold cvA at h
    split at h
    · cases h
    · rename_i a as
      split at h
      · rename_i y
        cases hb : a.tags.all (fun t => !(decide (t ∈ gs))) with
        | false => rw [hb] at h; cases h
        | true =>
          rw [hb] at h
          simp only [cond_true] at h
          split at h
          · rename_i z w h1 h2
            simp only [Option.some.injEq, List.cons.injEq, PV.d.injEq] at h
            obtain ⟨rfl, rfl⟩ := h
            refine ⟨⟨h1, fun t ht => ?_⟩, cvA_ok _ _ h2⟩
            have := List.all_eq_true.1 hb t ht
            simpa using this
          · cases h
      · rename_i hq
        split at h
        · rename_i z w h1 h2
          simp only [Option.some.injEq, List.cons.injEq] at h
          obtain ⟨rfl, rfl⟩ := h
          refine ⟨?_, cvA_ok _ _ h2⟩
          have := cvP_le _ _ h1
          cases z <;> first | exact this | exact absurd rfl (hq _)
        · cases h

theorem L_callB {mc : Option γ} {kk : γ → Option β} {enR : γ → PV} {bx' : γ → List (Tg × List PV)} {ps : List PV} {bx : List (Tg × List PV)} (ρ : List (Tg × Tg)) {q : Bool} {dst : Option Nat} {g : Option (Nat × Bool)} {n f : Nat} {args : List Opd} {r : List AOper}
    (hm : ∀ v, mc = some v → EvG P f ps bx (enR v) (bx' v)) (hg : gok g st) (h1 : nodupT (ρ.map Prod.snd) = true) (h2 : upIn ρ bx = true) (h3 : ∀ v, (enR v).gok ρ = true) (h4 : ∀ v, gokB ρ (bx' v) = true)
    (h5 : ∀ v, (valsO ((gst g st).rebinds n ((enR v).tags ++ tagsB (bx' v))).val args).bind (fun as => cvA (ρ.map Prod.snd) (gvR ρ) (gvB ρ) as ps) = some ps)
    (h6 : ∀ v, cvBx (gvR ρ) (gvB ρ) ((gst g st).rebinds n ((enR v).tags ++ tagsB (bx' v))) bx = some bx) (h8 : ∀ v, (enR v).noLst) (h9 : ∀ v, noLstB (bx' v))
    (next : ∀ v, Ok (kk v) fun b => go P N (R b) (.o q r :: ks) .norm ((((gst g st).rebinds n ((enR v).tags ++ tagsB (bx' v))).give ρ n (bx' v)).putO dst ((enR v).mapT (sgF ρ n)))) :
    Ok (mc >>= kk) fun b => go P N (R b) (.o q (⟨dst, g, n, .call f args⟩ :: r) :: ks) .norm st := by
  intro b hb
  obtain ⟨v, hv, hk⟩ := Option.bind_eq_some_iff.1 hb
  refine ops_step hg (show stepK P n (.call f args) (gst g st) _ from ?_)
  unfold stepK
  simp only [rop, wop, callK]
  refine use_B (hm v hv) ρ (nodupT_sound h1) h2 (h3 v) (h4 v) ?_ (cvBx_le (h6 v)) (h8 v) (h9 v) (next v b hk)
  have := h5 v
  obtain ⟨as, g1, g2⟩ := Option.bind_eq_some_iff.1 this
  rw [g1]
  exact cvA_ok _ _ g2

/-- Steps, and a value by a name. -/
theorem Al {α : Type} {e : α} {kk : α → Option β} (n : Nat) (ks' : List Fr) (k' : Kd) (F : α → St) (next : ∀ y, Ok (kk y) fun r => go P N (R r) ks' k' (F y)) (h : advF n ks k st (F e) = some (ks', k', F e) := by kernel_rfl) :
    Ok (some e >>= kk) fun r => go P N (R r) ks k st := by
  intro r hr
  have : kk e = some r := hr
  exact advF_sound h (next e r this)

/-- A truth inside a drawn region: both ways. -/
theorem L_splitE {b : Bool} {p : Prop} [Decidable p] (F : Bool → St) (hb : b = decide p) (h1 : p → Ok m1 fun r => go P N (R r) ks k (F true)) (h0 : ¬ p → Ok m2 fun r => go P N (R r) ks k (F false)) :
    Ok (if p then m1 else m2) fun r => go P N (R r) ks k (F b) := by
  intro r hr
  by_cases hp : p
  · rw [if_pos hp] at hr
    rw [hb, decide_eq_true hp]; exact h1 hp r hr
  · rw [if_neg hp] at hr
    rw [hb, decide_eq_false hp]; exact h0 hp r hr

/-- A text of bytes. -/
def strB (l : List Int) : ByteArray := strOf (l.map (D.int .u8))

theorem L_convS {l : List Int} {q : Bool} {dst : Option Nat} {g : Option (Nat × Bool)} {n : Nat} {x : Opd} {r : List AOper} (hg : gok g st) (hx : (gst g st).val x = some (.d (.lst (l.map (D.int .u8)))) ∨ ∃ t off, (gst g st).val x = some (.sl t 1 off (l.map (D.int .u8))))
    (next : Ok m fun b => go P N (R b) (.o q r :: ks) .norm ((gst g st).putO dst (.d (.str (strB l))))) : Ok m fun b => go P N (R b) (.o q (⟨dst, g, n, .convS x⟩ :: r) :: ks) .norm st := by
  refine next.mono fun b hb => ops_step hg ?_
  have hu : ∀ e ∈ l.map (D.int .u8), e.isU8 := by
    intro e he
    obtain ⟨z, _, rfl⟩ := List.mem_map.1 he
    trivial
  rcases hx with hx | ⟨t, off, hx⟩
  · exact stepR (c := ∀ e ∈ l.map (D.int .u8), e.isU8) (by simp only [rop, hx, strB]) hu hb
  · exact stepR (c := ∀ e ∈ l.map (D.int .u8), e.isU8) (by simp only [rop, hx, strB]) hu hb

/-- A row is held against nil: an empty one may be nil or not. -/
theorem L_nil {α : Type} {enc : α → D} {l : List α} {q : Bool} {dst : Option Nat} {g : Option (Nat × Bool)} {n : Nat} {op : BinOp} {e : Bool} {x : Opd} {r : List AOper} (hg : gok g st) (h : ambNil op .slice ((gst g st).val x) (some .nils) = some (e, l.map enc)) (hq : l.length = 0 → m1 = m2)
    (h1 : Ok m1 fun b => go P N (R b) (.o q r :: ks) .norm ((gst g st).putO dst (.d (.bool (!e))))) (h2 : Ok m2 fun b => go P N (R b) (.o q r :: ks) .norm ((gst g st).putO dst (.d (.bool e)))) :
    Ok m1 fun b => go P N (R b) (.o q (⟨dst, g, n, .bin op .slice x (.c .nils)⟩ :: r) :: ks) .norm st := by
  intro b hb
  refine ops_step hg (show stepK P n (.bin op .slice x (.c .nils)) (gst g st) _ from ?_)
  have hr : rop (.bin op .slice x (.c .nils)) (gst g st).val (gst g st).box = none := by
    simp only [rop]
    unfold ambNil at h
    split at h
    · rename_i hx hy
      rw [hx]; rfl
    · rename_i hx hy
      rw [hx]; rfl
    · rename_i hx hy
      rw [hx]; rfl
    · rename_i hx hy
      rw [hx]; rfl
    · cases h
  unfold stepK
  rw [hr]
  simp only [wop, callK]
  have hv : St.val (gst g st) (.c .nils) = some .nils := rfl
  rw [hv, h]
  refine ⟨fun _ => h1 b hb, fun he c => ?_⟩
  have hl : l.length = 0 := by have := congrArg List.length he; simpa using this
  cases c <;> cases e <;> first | exact h1 b hb | (have := hq hl; rw [this] at hb; exact h2 b hb)
end

namespace Z
abbrev nI (x : Int) : PV := .d (.int .i64 x)
abbrev nU (x : Int) : PV := .d (.int .u64 x)
abbrev nY (x : Int) : PV := .d (.int .u8 x)
abbrev nW (x : Int) : PV := .d (.int .u32 x)
abbrev bB (x : Bool) : PV := .d (.bool x)
abbrev lI (l : List Int) : PV := .d (.lst (List.map (D.int .i64) l))
abbrev lU (l : List Int) : PV := .d (.lst (List.map (D.int .u64) l))
abbrev lY (l : List Int) : PV := .d (.lst (List.map (D.int .u8) l))
abbrev lB (l : List Bool) : PV := .d (.lst (List.map D.bool l))
abbrev sI (t : Tg) (l : List Int) : PV := .sl t 1 0 (List.map (D.int .i64) l)
abbrev sU (t : Tg) (l : List Int) : PV := .sl t 1 0 (List.map (D.int .u64) l)
abbrev sY (t : Tg) (l : List Int) : PV := .sl t 1 0 (List.map (D.int .u8) l)
abbrev sB (t : Tg) (l : List Bool) : PV := .sl t 1 0 (List.map D.bool l)
abbrev mv (d n s : Nat) : AOper := ⟨some d, none, n, .mov (.t s)⟩
abbrev mi (d n : Nat) (x : Int) : AOper := ⟨some d, none, n, .mov (.c (.d (.int .i64 x)))⟩
abbrev mb (d n : Nat) (x : Bool) : AOper := ⟨some d, none, n, .mov (.c (.d (.bool x)))⟩
abbrev gv (d t : Nat) (b : Bool) (n s : Nat) : AOper := ⟨some d, some (t, b), n, .mov (.t s)⟩
abbrev ln (d n s : Nat) : AOper := ⟨some d, none, n, .len (.t s)⟩
abbrev xt (d n s j : Nat) : AOper := ⟨some d, none, n, .extract (.t s) j⟩
abbrev bi (d n : Nat) (op : BinOp) (a b : Nat) : AOper := ⟨some d, none, n, .bin op .int (.t a) (.t b)⟩
abbrev bc (d n : Nat) (op : BinOp) (a : Nat) (x : Int) : AOper := ⟨some d, none, n, .bin op .int (.t a) (.c (.d (.int .i64 x)))⟩
abbrev pk (d n c a : Nat) (x : Bool) : AOper := ⟨some d, none, n, .pick (.t c) (.t a) (.c (.d (.bool x)))⟩
abbrev pz (d n c a : Nat) (x : Bool) : AOper := ⟨some d, none, n, .pick (.t c) (.c (.d (.bool x))) (.t a)⟩
abbrev ld (d n a : Nat) : AOper := ⟨some d, none, n, .load false 1 (.t a)⟩
abbrev cl' (d n f : Nat) (as : List Opd) : AOper := ⟨some d, none, n, .call f as⟩
end Z
end Go.Proofs.Ytaghpancpfpnhaa.Abs
