/- Whatever operation reads comes to what is told. Conditions: none. -/
import Derived.Test.YtaghpancpfpnhaaAbsI
namespace Go.Proofs.Ytaghpancpfpnhaa.Abs
open Go Go.RowKit
set_option linter.unusedVariables false
set_option linter.unusedSimpArgs false

section
variable {P : Program} {E : Env} {w : World} {ρ : Operand → Value} {f : Opd → Option PV} {bx : Tg → Option (List PV)}

/-- Is it an operation that only reads? -/
def AOp.reads : AOp → Bool
  | .alloc .. | .box .. | .bslice .. | .mkS .. | .store .. | .app .. | .copy .. | .call .. | .callv .. | .invk .. => false
  | _ => true

theorem VR.orUnk {o : Option PV} {v : Value} (h : ∀ p, o = some p → VR E w p v) : VR E w (o.getD .unk) v := by
  cases o with
  | none => simp [VR]
  | some p => exact h p rfl

set_option maxHeartbeats 1000000 in
theorem rop_sound (hO : OpdR E w ρ f) (hB : BxR E w bx) {o : Oper} {ao : AOp} (ht : trOp P o.op = some ao) {c : Prop} {v : PV} (hr : rop ao f bx = some (c, v)) (hc : c) :
    Gives P E w (execOp ρ o) v := by
  obtain ⟨dst, op, type, pos, after, guard⟩ := o
  simp only at ht
  cases op with
  | move x =>
    simp only [trOp, Option.map_eq_some_iff] at ht
    obtain ⟨y, h1, rfl⟩ := ht
    simp only [rop, Option.some.injEq, Prod.mk.injEq] at hr; obtain ⟨rfl, rfl⟩ := hr
    exact ⟨ρ x, by simp [execOp], VR.orUnk fun p hp => hO _ _ _ h1 hp⟩
  | assign x =>
    simp only [trOp, Option.map_eq_some_iff] at ht
    obtain ⟨y, h1, rfl⟩ := ht
    simp only [rop, Option.some.injEq, Prod.mk.injEq] at hr; obtain ⟨rfl, rfl⟩ := hr
    exact ⟨ρ x, by simp [execOp], VR.orUnk fun p hp => hO _ _ _ h1 hp⟩
  | pick cc a b =>
    simp only [trOp] at ht
    split at ht
    · rename_i c' a' b' h1 h2 h3
      simp only [Option.some.injEq] at ht; subst ht
      simp only [rop] at hr
      split at hr
      · rename_i t h4
        simp only [Option.some.injEq, Prod.mk.injEq] at hr; obtain ⟨rfl, rfl⟩ := hr
        have := hO _ _ _ h1 h4
        simp only [VR, DR] at this
        refine ⟨if t then ρ a else ρ b, by simp [execOp, this, asBool], ?_⟩
        cases t
        · exact VR.orUnk fun p hp => hO _ _ _ h3 hp
        · exact VR.orUnk fun p hp => hO _ _ _ h2 hp
      · cases hr
    · cases ht
  | binOp op t x y yt =>
    simp only [trOp] at ht
    split at ht
    · rename_i u x' y' h1 h2 h3
      simp only [Option.some.injEq] at ht; subst ht
      simp only [rop] at hr
      split at hr
      · rename_i a b h4 h5
        obtain ⟨z, h6, h7⟩ := absBin_sound (x := x) (y := y) h1 hr hc (hO _ _ _ h2 h4) (hO _ _ _ h3 h5)
        exact gives_of h6 h7
      · cases hr
    · cases ht
  | unOp op t x =>
    simp only [trOp, Option.map_eq_some_iff] at ht
    obtain ⟨y, h1, rfl⟩ := ht
    simp only [rop] at hr
    split at hr
    · rename_i a h2
      obtain ⟨z, h6, h7⟩ := absUn_sound (P := P) hr (hO _ _ _ h1 h2)
      exact gives_of h6 h7
    · cases hr
  | convert s d x =>
    simp only [trOp] at ht
    split at ht
    · rename_i k0 k x' h1 h2 h3
      simp only [Option.some.injEq] at ht; subst ht
      simp only [rop] at hr
      split at hr
      · rename_i k' n h4
        simp only [Option.some.injEq, Prod.mk.injEq] at hr; obtain ⟨rfl, rfl⟩ := hr
        have := hO _ _ _ h3 h4
        simp only [VR, DR] at this
        refine gives_of (u := .int k (k.wrap n)) ?_ (by simp [VR, DR])
        rw [this]
        simp [convert, run_underlying h1, run_underlying h2, Conv.intToInt]
      · cases hr
    · rename_i e x' h1 h2 h3
      split at ht
      · rename_i h4
        simp only [Option.some.injEq] at ht; subst ht
        exact convS_sound h1 h2 h4 (fun p hp => hO _ _ _ h3 hp) hr hc
      · cases ht
    · cases ht
  | nilCheck x =>
    simp only [trOp, Option.map_eq_some_iff] at ht
    obtain ⟨y, h1, rfl⟩ := ht
    simp only [rop] at hr
    split at hr
    · rename_i k oo h2
      simp only [Option.some.injEq, Prod.mk.injEq] at hr; obtain ⟨rfl, rfl⟩ := hr
      have h3 := hO _ _ _ h1 h2
      have h4 := h3
      simp only [VR] at h3
      obtain ⟨b, _, h5⟩ := h3
      exact ⟨ρ x, by simp [execOp, h5], h4⟩
    · rename_i t sz i g e h2
      simp only [Option.some.injEq, Prod.mk.injEq] at hr; obtain ⟨rfl, rfl⟩ := hr
      have h3 := hO _ _ _ h1 h2
      have h4 := h3
      simp only [VR] at h3
      obtain ⟨b, o, cc, el, fr, _, h5, _⟩ := h3
      exact ⟨ρ x, by simp [execOp, h5], h4⟩
    · rename_i cs g h2
      simp only [Option.some.injEq, Prod.mk.injEq] at hr; obtain ⟨rfl, rfl⟩ := hr
      have h3 := hO _ _ _ h1 h2
      have h4 := h3
      simp only [VR, DR] at h3
      obtain ⟨b, o, vs, h5, _⟩ := h3
      exact ⟨ρ x, by simp [execOp, h5], h4⟩
    · cases hr
  | makeInterface t x =>
    simp only [trOp] at ht
    split at ht
    · cases ht
    · rename_i u x' hne h1 h2
      simp only [Option.some.injEq] at ht; subst ht
      have run : (Instr.makeInterface t (ρ x)).run P w = .ok (.iface t (ρ x)) w := by
        simp only [Instr.makeInterface, Sem.run_bind, run_underlying h1, Result.andThen_ok]
        cases u <;> first | rfl | (exfalso; exact hne _ _ h1 h2)
      simp only [rop] at hr
      split at hr
      · rename_i y h3
        simp only [Option.some.injEq, Prod.mk.injEq] at hr; obtain ⟨rfl, rfl⟩ := hr
        have := hO _ _ _ h2 h3
        refine gives_of run ?_
        simp only [VR, DR] at this ⊢
        exact ⟨_, rfl, this⟩
      · rename_i p hp h3
        simp only [Option.some.injEq, Prod.mk.injEq] at hr; obtain ⟨rfl, rfl⟩ := hr
        have := hO _ _ _ h2 h3
        refine gives_of run ?_
        simp only [VR]
        exact ⟨_, rfl, this⟩
      · cases hr
    · cases ht
  | makeFunc fn a b =>
    simp only [trOp] at ht
    split at ht
    · rename_i a' b' h1 h2
      simp only [Option.some.injEq] at ht; subst ht
      have hb : ∀ ps, valsO f b' = some ps → VRs E w ps (b.map ρ).toList := fun ps hp => by simpa using trOs_sound hO h2 hp
      have ha : ∀ ps, valsO f a' = some ps → VRs E w ps (a.map ρ).toList := fun ps hp => by simpa using trOs_sound hO h1 hp
      have run : (Instr.makeFunc fn (a.map ρ) (b.map ρ)).run P w = .ok (.func fn (a.map ρ) (b.map ρ)) w := rfl
      simp only [rop] at hr
      split at hr
      · rename_i h3 h4
        simp only [Option.some.injEq, Prod.mk.injEq] at hr; obtain ⟨rfl, rfl⟩ := hr
        refine gives_of run ?_
        have e1 := ha _ h3
        have e2 := hb _ h4
        simp only [VRs] at e1 e2
        simp only [VR, DR, DRs]
        exact ⟨_, _, rfl, e1, e2⟩
      · rename_i pa pb hne h3 h4
        simp only [Option.some.injEq, Prod.mk.injEq] at hr; obtain ⟨rfl, rfl⟩ := hr
        refine gives_of run ?_
        simp only [VR]
        exact ⟨_, _, rfl, ha _ h3, hb _ h4⟩
      · cases hr
    · cases ht
  | fieldAddr s x i =>
    simp only [trOp] at ht
    split at ht
    · rename_i fs x' h1 h2
      split at ht
      · rename_i fd h3
        split at ht
        · rename_i j h4
          split at ht
          · cases ht
          · rename_i hz
            simp only [Option.some.injEq] at ht; subst ht
            have run : ∀ b o, (Instr.fieldAt s (.pointer (some ⟨b, o, none⟩)) i).run P w = .ok (.pointer (some ⟨b, o + fd.offset, none⟩)) w := by
              intro b o
              simp [Instr.fieldAt, run_underlying h1, h3, Instr.sureAddr, fieldPlace, run_sizeOf' h4, hz, Addr.add_mk]
            simp only [rop] at hr
            split at hr
            · rename_i k oo h5
              simp only [Option.some.injEq, Prod.mk.injEq] at hr; obtain ⟨rfl, rfl⟩ := hr
              have h6 := hO _ _ _ h2 h5
              simp only [VR] at h6
              obtain ⟨b, h7, h8⟩ := h6
              refine gives_of (by rw [h8]; exact run b oo) ?_
              simp only [VR]; exact ⟨b, h7, rfl⟩
            · rename_i t sz ii g e h5
              simp only [Option.some.injEq, Prod.mk.injEq] at hr; obtain ⟨rfl, rfl⟩ := hr
              have h6 := hO _ _ _ h2 h5
              simp only [VR] at h6
              obtain ⟨b, o, cc, el, fr, g1, h8, g3⟩ := h6
              refine gives_of (by rw [h8]; exact run b _) ?_
              simp only [VR]; exact ⟨b, o, cc, el, fr, g1, by simp only [Option.getD_some]; rw [Nat.add_assoc], g3⟩
            · rename_i cs g h5
              simp only [Option.some.injEq, Prod.mk.injEq] at hr; obtain ⟨rfl, rfl⟩ := hr
              have h6 := hO _ _ _ h2 h5
              simp only [VR, DR] at h6
              obtain ⟨b, o, vs, h8, g3⟩ := h6
              refine gives_of (by rw [h8]; exact run b _) ?_
              simp only [VR, DR]; exact ⟨b, o, vs, by rw [Nat.add_assoc], g3⟩
            · cases hr
        · cases ht
      · cases ht
    · cases ht
  | field s x i =>
    simp only [trOp] at ht
    split at ht
    · rename_i fs x' h1 h2
      split at ht
      · rename_i fd h3
        split at ht
        · rename_i j u h4 h5
          simp only [Option.some.injEq] at ht; subst ht
          have run : ∀ arr, (Instr.field s (.agg arr) i).run P w = (part fd.type arr fd.offset).run P w := by
            intro arr
            simp [Instr.field, run_underlying h1, h3, asAgg]
          simp only [rop] at hr
          split at hr
          · rename_i cs h6
            have h7 := hO _ _ _ h2 h6
            simp only [VR, DR] at h7
            obtain ⟨arr, h8, h80, h9⟩ := h7
            obtain ⟨q1, q2⟩ := part_d (P := P) (off := fd.offset) h5 h4 h80 h9
            split at hr
            · rename_i hag
              simp only [Option.some.injEq, Prod.mk.injEq] at hr; obtain ⟨rfl, rfl⟩ := hr
              obtain ⟨y, r1, r2⟩ := q1 hag
              exact gives_of (by rw [h8, run]; exact r1) r2
            · rename_i hag
              simp only [Option.some.injEq, Prod.mk.injEq] at hr; obtain ⟨rfl, rfl⟩ := hr
              obtain ⟨y, r1, r2⟩ := q2 (by simpa using hag) hc
              exact gives_of (by rw [h8, run]; exact r1) r2
          · rename_i cs h6
            have h7 := hO _ _ _ h2 h6
            simp only [VR] at h7
            obtain ⟨arr, h8, h80, h9⟩ := h7
            obtain ⟨q1, q2⟩ := part_p (P := P) (off := fd.offset) h5 h4 h80 h9
            split at hr
            · rename_i hag
              simp only [Option.some.injEq, Prod.mk.injEq] at hr; obtain ⟨rfl, rfl⟩ := hr
              obtain ⟨y, r1, r2⟩ := q1 hag
              exact gives_of (by rw [h8, run]; exact r1) r2
            · rename_i hag
              simp only [Option.some.injEq, Prod.mk.injEq] at hr; obtain ⟨rfl, rfl⟩ := hr
              obtain ⟨y, r1, r2⟩ := q2 (by simpa using hag) hc
              exact gives_of (by rw [h8, run]; exact r1) r2
          · cases hr
        · cases ht
      · cases ht
    · cases ht
  | indexAddr t x i =>
    simp only [trOp] at ht
    split at ht
    · rename_i e x' i' h1 h2 h3
      simp only [Option.map_eq_some_iff] at ht
      obtain ⟨j, h4, rfl⟩ := ht
      exact idxA_sound h1 h4 (fun p hp => hO _ _ _ h2 hp) (fun k n hk => ix_sound hO h3 hk) hr hc
    · rename_i m e x' i' h1 h2 h3
      simp only [Option.map_eq_some_iff] at ht
      obtain ⟨j, h4, rfl⟩ := ht
      exact idxAr_sound h1 h4 (fun p hp => hO _ _ _ h2 hp) (fun k n hk => ix_sound hO h3 hk) hr hc
    · cases ht
  | index t x i =>
    simp only [trOp] at ht
    split at ht
    · rename_i x' i' h1 h2 h3
      simp only [Option.some.injEq] at ht; subst ht
      simp only [rop] at hr
      split at hr
      · rename_i s k n h4 h5
        simp only [Option.some.injEq, Prod.mk.injEq] at hr; obtain ⟨rfl, rfl⟩ := hr
        have h6 := hO _ _ _ h2 h4
        simp only [VR, DR] at h6
        have h7 := ix_sound hO h3 h5
        have h8 : n.toNat < s.data.size := by have := hc.2; simp only [ByteArray.size] at this; omega
        refine gives_of (u := .int .u8 ((s.data.getD n.toNat 0).toNat : Int)) ?_ (by simp [VR, DR])
        rw [h6, h7]
        have h9 : s[n.toNat]? = some (s.data.getD n.toNat 0) := by
          have : n.toNat < s.size := h8
          rw [getElem?_pos s n.toNat this]
          simp [Array.getD_eq_getD_getElem?, Array.getElem?_eq_getElem h8]; rfl
        simp [Instr.index, asIntOf, run_underlying h1, hc.1, h9]
      · cases hr
    · rename_i m e x' i' h1 h2 h3
      split at ht
      · rename_i j u h4 h5
        simp only [Option.some.injEq] at ht; subst ht
        have run : ∀ arr k n, 0 ≤ n → n < (m : Int) → (Instr.index t (.agg arr) (.int k n)).run P w = (part e arr (n.toNat * j.size)).run P w := by
          intro arr k n g1 g2
          simp [Instr.index, asIntOf, run_underlying h1, g1, g2, run_sizeOf' h4]
        simp only [rop] at hr
        split at hr
        · rename_i cs k n h6 h6'
          have h7 := hO _ _ _ h2 h6
          simp only [VR, DR] at h7
          obtain ⟨arr, h8, h80, h9⟩ := h7
          obtain ⟨q1, q2⟩ := part_d (P := P) (off := n.toNat * j.size) h5 h4 h80 h9
          split at hr
          · rename_i hag
            simp only [Option.some.injEq, Prod.mk.injEq] at hr; obtain ⟨rfl, rfl⟩ := hr
            obtain ⟨y, r1, r2⟩ := q1 hag
            exact gives_of (by rw [h8, ix_sound hO h3 h6', run _ _ _ hc.1 hc.2.1]; exact r1) r2
          · rename_i hag
            simp only [Option.some.injEq, Prod.mk.injEq] at hr; obtain ⟨rfl, rfl⟩ := hr
            obtain ⟨y, r1, r2⟩ := q2 (by simpa using hag) hc.2.2
            exact gives_of (by rw [h8, ix_sound hO h3 h6', run _ _ _ hc.1 hc.2.1]; exact r1) r2
        · rename_i cs k n h6 h6'
          have h7 := hO _ _ _ h2 h6
          simp only [VR] at h7
          obtain ⟨arr, h8, h80, h9⟩ := h7
          obtain ⟨q1, q2⟩ := part_p (P := P) (off := n.toNat * j.size) h5 h4 h80 h9
          split at hr
          · rename_i hag
            simp only [Option.some.injEq, Prod.mk.injEq] at hr; obtain ⟨rfl, rfl⟩ := hr
            obtain ⟨y, r1, r2⟩ := q1 hag
            exact gives_of (by rw [h8, ix_sound hO h3 h6', run _ _ _ hc.1 hc.2.1]; exact r1) r2
          · rename_i hag
            simp only [Option.some.injEq, Prod.mk.injEq] at hr; obtain ⟨rfl, rfl⟩ := hr
            obtain ⟨y, r1, r2⟩ := q2 (by simpa using hag) hc.2.2
            exact gives_of (by rw [h8, ix_sound hO h3 h6', run _ _ _ hc.1 hc.2.1]; exact r1) r2
        · cases hr
      · cases ht
    · cases ht
  | load t x =>
    simp only [trOp] at ht
    split at ht
    · rename_i u j x' h1 h2 h3
      simp only [Option.some.injEq] at ht; subst ht
      exact load_sound h1 h2 hB (fun p hp => hO _ _ _ h3 hp) hr hc
    · cases ht
  | slice t x lo hi mx =>
    simp only [trOp] at ht
    split at ht
    · rename_i e x' lo' hi' h1 h2 h3 h4
      simp only [Option.map_eq_some_iff] at ht
      obtain ⟨j, h5, rfl⟩ := ht
      exact sliceS_sound h1 h5 hO h2 h3 h4 hr hc
    · cases ht
  | extract x i =>
    simp only [trOp, Option.map_eq_some_iff] at ht
    obtain ⟨y, h1, rfl⟩ := ht
    simp only [rop] at hr
    split at hr
    · rename_i vs h2
      split at hr
      · rename_i p h3
        simp only [Option.some.injEq, Prod.mk.injEq] at hr; obtain ⟨rfl, rfl⟩ := hr
        have h4 := hO _ _ _ h1 h2
        simp only [VR] at h4
        obtain ⟨arr, h5, h6⟩ := h4
        obtain ⟨z, h7, h8⟩ := h6.getElem? h3
        refine gives_of (u := z) ?_ h8
        rw [h5]
        have h9 : arr[i]? = some z := by simpa using h7
        simp [Instr.extract, h9]
      · cases hr
    · cases hr
  | build t parts =>
    simp only [trOp] at ht
    split at ht
    · rename_i u z ps h1 h2 h3
      split at ht
      · rename_i h4
        simp only [Option.some.injEq] at ht; subst ht
        rw [Bool.and_eq_true] at h4
        exact build_sound h1 h4.1 h4.2 h2 hO h3 hr
      · cases ht
    · cases ht
  | typeAssert x xt t ok =>
    simp only [trOp] at ht
    split at ht
    · cases ht
    · rename_i u x' hne h1 h2
      simp only [Option.some.injEq] at ht; subst ht
      have run : ∀ y, (Instr.typeAssert (.iface t y) xt t ok).run P w = .ok (if ok then .tuple #[y, .bool true] else y) w := by
        intro y
        simp only [Instr.typeAssert, Sem.run_bind, run_underlying h1, Result.andThen_ok]
        cases u <;> first | (simp; done) | (exfalso; exact hne _ _ h1 h2)
      simp only [rop] at hr
      split at hr
      · rename_i u' y h3
        split at hr
        · rename_i he; subst he
          simp only [Option.some.injEq, Prod.mk.injEq] at hr; obtain ⟨rfl, rfl⟩ := hr
          have h4 := hO _ _ _ h2 h3
          simp only [VR, DR] at h4
          obtain ⟨z, h5, h6⟩ := h4
          refine gives_of (by rw [h5]; exact run z) ?_
          cases ok
          · simpa [VR] using h6
          · simp only [if_true, VR, VRs, DR]
            exact ⟨_, rfl, _, _, rfl, h6, _, _, rfl, rfl, rfl⟩
        · cases hr
      · rename_i u' y h3
        split at hr
        · rename_i he; subst he
          simp only [Option.some.injEq, Prod.mk.injEq] at hr; obtain ⟨rfl, rfl⟩ := hr
          have h4 := hO _ _ _ h2 h3
          simp only [VR] at h4
          obtain ⟨z, h5, h6⟩ := h4
          refine gives_of (by rw [h5]; exact run z) ?_
          cases ok
          · simpa using h6
          · simp only [if_true, VR, VRs, DR]
            exact ⟨_, rfl, _, _, rfl, h6, _, _, rfl, rfl, rfl⟩
        · cases hr
      · cases hr
    · cases ht
  | call cl =>
    obtain ⟨callee, args, argTypes⟩ := cl
    simp only [trOp] at ht
    split at ht
    · split at ht
      · rename_i t x g1 g2
        have e1 : argTypes = #[t] := by cases argTypes; simp_all
        have e2 : args = #[x] := by cases args; simp_all
        subst e1; subst e2
        split at ht
        · rename_i e x' h1 h2
          simp only [Option.some.injEq] at ht; subst ht
          have run : ∀ a n cp, ρ x = .slice a n cp → Gives P E w (execOp ρ ⟨dst, .call ⟨.builtin .len, #[x], #[t]⟩, type, pos, after, guard⟩) (.d (.int .i64 n)) := by
            intro a n cp hx
            refine ⟨goInt n, ?_, by simp [VR, DR, goInt]⟩
            simp [execOp, resolve, invoke, builtin, Builtin.len_, hx, run_underlying h1]
          simp only [rop] at hr
          split at hr
          · rename_i es h3
            simp only [Option.some.injEq, Prod.mk.injEq] at hr; obtain ⟨rfl, rfl⟩ := hr
            have h4 := hO _ _ _ h2 h3
            simp only [VR, DR] at h4
            rcases h4 with ⟨rfl, a, c0, h5⟩ | ⟨b, o, cap, sz, vs, h5, _⟩
            · exact run _ _ _ h5
            · exact run _ _ _ h5
          · rename_i tt sz off es h3
            simp only [Option.some.injEq, Prod.mk.injEq] at hr; obtain ⟨rfl, rfl⟩ := hr
            have h4 := hO _ _ _ h2 h3
            simp only [VR] at h4
            rcases h4 with ⟨rfl, a, h5⟩ | ⟨b, o, cap, cc, el, fr, vs, _, h5, _⟩
            · exact run _ _ _ h5
            · exact run _ _ _ h5
          · rename_i h3
            simp only [Option.some.injEq, Prod.mk.injEq] at hr; obtain ⟨rfl, rfl⟩ := hr
            have h4 := hO _ _ _ h2 h3
            simp only [VR] at h4
            exact run _ _ _ h4
          · cases hr
        · rename_i x' h1 h2
          simp only [Option.some.injEq] at ht; subst ht
          simp only [rop] at hr
          split at hr
          · rename_i s h3
            simp only [Option.some.injEq, Prod.mk.injEq] at hr; obtain ⟨rfl, rfl⟩ := hr
            have h4 := hO _ _ _ h2 h3
            simp only [VR, DR] at h4
            refine ⟨goInt s.size, ?_, by simp [VR, DR, goInt]⟩
            simp [execOp, resolve, invoke, builtin, Builtin.len_, h4, run_underlying h1]
          · cases hr
        · cases ht
      · cases ht
    · split at ht
      · rename_i x y g1
        have e2 : args = #[x, y] := by cases args; simp_all
        subst e2
        split at ht
        · rename_i x' y' h1 h2
          simp only [Option.some.injEq] at ht; subst ht
          simp only [rop] at hr
          split at hr
          · rename_i k a k' b h3 h4
            simp only [Option.some.injEq, Prod.mk.injEq] at hr; obtain ⟨rfl, rfl⟩ := hr
            have h5 := hO _ _ _ h1 h3
            have h6 := hO _ _ _ h2 h4
            simp only [VR, DR] at h5 h6
            refine ⟨.int k (if b > a then b else a), ?_, by simp [VR, DR]⟩
            simp [execOp, resolve, invoke, builtin, h5, h6, run_max_int2]
          · cases hr
        · cases ht
      · cases ht
    · split at ht
      · rename_i x y g1
        have e2 : args = #[x, y] := by cases args; simp_all
        subst e2
        split at ht
        · rename_i x' y' h1 h2
          simp only [Option.some.injEq] at ht; subst ht
          simp only [rop] at hr
          split at hr
          · rename_i k a k' b h3 h4
            simp only [Option.some.injEq, Prod.mk.injEq] at hr; obtain ⟨rfl, rfl⟩ := hr
            have h5 := hO _ _ _ h1 h3
            have h6 := hO _ _ _ h2 h4
            simp only [VR, DR] at h5 h6
            refine ⟨.int k (if b < a then b else a), ?_, by simp [VR, DR]⟩
            simp [execOp, resolve, invoke, builtin, h5, h6, run_min_int2]
          · cases hr
        · cases ht
      · cases ht
    all_goals (repeat' split at ht) <;> first | (cases ht; done) | (simp only [Option.map_eq_some_iff, Option.some.injEq] at ht; obtain ⟨_, _, rfl⟩ := ht; cases hr; done) | (simp only [Option.some.injEq] at ht; subst ht; cases hr; done)
  | _ =>
    simp only [trOp] at ht
    (repeat' split at ht) <;> first | (cases ht; done) | (simp only [Option.map_eq_some_iff, Option.some.injEq] at ht; obtain ⟨_, _, rfl⟩ := ht; cases hr; done) | (simp only [Option.some.injEq] at ht; subst ht; cases hr; done)

end
end Go.Proofs.Ytaghpancpfpnhaa.Abs
