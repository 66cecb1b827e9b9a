/- All operations that read come to what is told. Conditions: none. -/
import Derived.Test.YtaghpancpfpnhaaAbsH
namespace Go.Proofs.Ytaghpancpfpnhaa.Abs
open Go Go.RowKit
set_option linter.unusedVariables false
set_option linter.unusedSimpArgs false

section
variable {P : Program} {E : Env} {w : World} {ρ : Operand → Value} {f : Opd → Option PV} {bx : Tg → Option (List PV)}

theorem run_part_agg {t : TypeId} {u : TypeDesc} {i : TypeInfo} (hu : P.underlying t = some u) (hi : P.info? t = some i) (hg : aggT u = true) (cs : Array Value) (off : Nat) :
    (part t cs off).run P w = .ok (.agg (cs.extract off (off + i.size))) w := by
  simp only [part, Sem.run_bind, run_isAgg' hu, Result.andThen_ok, hg, if_true, run_sizeOf' hi, Sem.run_pure]
theorem run_part_one {t : TypeId} {u : TypeDesc} (hu : P.underlying t = some u) (hg : aggT u = false) (cs : Array Value) (off : Nat) {v : Value} (h : cs[off]? = some v) :
    (part t cs off).run P w = .ok v w := by
  simp only [part, Sem.run_bind, run_isAgg' hu, Result.andThen_ok, hg, Bool.false_eq_true, if_false, h, Sem.run_pure]

theorem extract_toList (cs : Array Value) (o n : Nat) : (cs.extract o (o + n)).toList = (cs.toList.drop o).take n := by
  simp [Array.toList_extract, List.extract]

/-- A part of a struct's value, or of an array's. -/
theorem part_d {t : TypeId} {u : TypeDesc} {i : TypeInfo} (hu : P.underlying t = some u) (hi : P.info? t = some i) {cs : List D} {arr : Array Value} (h0 : OneC arr.toList) (h : DRs E.prot w cs arr.toList) {off : Nat} :
    (aggT u = true → ∃ y, (part t arr off).run P w = .ok y w ∧ VR E w (.d (.agg ((cs.drop off).take i.size))) y) ∧
    (aggT u = false → off < cs.length → ∃ y, (part t arr off).run P w = .ok y w ∧ VR E w (.d (getD' cs off)) y) := by
  refine ⟨fun hg => ⟨_, run_part_agg hu hi hg arr off, ?_⟩, fun hg ho => ?_⟩
  · simp only [VR, DR]
    exact ⟨_, rfl, by rw [extract_toList]; exact h0.slice _ _, by rw [extract_toList]; exact DRs.slice h _ _⟩
  · obtain ⟨y, h1, h2⟩ := h.at ho
    exact ⟨y, run_part_one hu hg arr off (by simpa using h1), by simpa only [VR] using h2⟩

theorem part_p {t : TypeId} {u : TypeDesc} {i : TypeInfo} (hu : P.underlying t = some u) (hi : P.info? t = some i) {cs : List PV} {arr : Array Value} (h0 : OneC arr.toList) (h : VRs E w cs arr.toList) {off : Nat} :
    (aggT u = true → ∃ y, (part t arr off).run P w = .ok y w ∧ VR E w (.agg ((cs.drop off).take i.size)) y) ∧
    (aggT u = false → off < cs.length → ∃ y, (part t arr off).run P w = .ok y w ∧ VR E w (cs.getD off .unk) y) := by
  refine ⟨fun hg => ⟨_, run_part_agg hu hi hg arr off, ?_⟩, fun hg ho => ?_⟩
  · simp only [VR]
    exact ⟨_, rfl, by rw [extract_toList]; exact h0.slice _ _, by rw [extract_toList]; exact VRs.take _ (VRs.drop _ h)⟩
  · obtain ⟨y, h1, h2⟩ := h.at ho
    exact ⟨y, run_part_one hu hg arr off (by simpa using h1), h2⟩

theorem strOf_cons (e : D) (es : List D) : strOf (e :: es) = ⟨#[e.byte] ++ (strOf es).data⟩ := by
  simp [strOf]

theorem bytes_loop {pr : Nat → Prop} : ∀ (es : List D) (vs : List Value) (s : ByteArray), DRs pr w es vs → (∀ e ∈ es, e.isU8) →
    (forIn vs s (fun c (s : ByteArray) => (do
      let .int .u8 n := c | stuck "bytesToString: byte expected"
      let s := s.push (UInt8.ofNat n.toNat)
      pure (ForInStep.yield s) : Sem (ForInStep ByteArray)))).run P w = .ok ⟨s.data ++ (strOf es).data⟩ w
  | [], vs, s, h, _ => by simp only [DRs] at h; subst h; simp [strOf]
  | e :: es, vs, s, h, h8 => by
    simp only [DRs] at h
    obtain ⟨u, us, rfl, h1, h2⟩ := h
    have he := h8 e (by simp)
    cases e with
    | int k n =>
      cases k <;> simp only [D.isU8] at he
      simp only [DR] at h1; subst h1
      have ih := bytes_loop es us (s.push (UInt8.ofNat n.toNat)) h2 fun x hx => h8 x (by simp [hx])
      simp only [List.forIn_cons, Sem.run_bind, Sem.run_pure, Result.andThen_ok]
      refine Eq.trans ih ?_
      rw [strOf_cons]
      congr 2
      simp [ByteArray.push, D.byte]
    | _ => simp only [D.isU8] at he

theorem convS_sound {s d e : TypeId} (hs : P.underlying s = some (.slice e)) (hd : P.underlying d = some .string) (he : P.underlying e = some (.int .u8)) {x : Opd} {vx : Value} {c : Prop} {v : PV}
    (hx : ∀ p, f x = some p → VR E w p vx) (hr : rop (.convS x) f bx = some (c, v)) (hc : c) : Gives P E w (do pure (.value (← convert s d vx))) v := by
  have conv : ∀ a n cp, (convert s d (.slice a n cp)).run P w = (Conv.bytesToString (.slice a n cp)).run P w := by
    intro a n cp
    simp [convert, run_underlying hs, run_underlying hd, run_underlying he]
  have some_ : ∀ (b o cap : Nat) (es : List D) (vs : List Value), CellsAt w b o (flat vs) → DRs E.prot w es vs → (∀ e ∈ es, e.isU8) →
      (Conv.bytesToString (.slice (some ⟨b, o, none⟩) es.length cap)).run P w = .ok (.string (strOf es)) w := by
    intro b o cap es vs h2 h3 h4
    have hfl : ∀ (es : List D) (vs : List Value), DRs E.prot w es vs → (∀ e ∈ es, e.isU8) → flat vs = vs := by
      intro es
      induction es with
      | nil => intro vs h _; simp only [DRs] at h; subst h; rfl
      | cons e es ih =>
        intro vs h k
        simp only [DRs] at h
        obtain ⟨u, us, rfl, g1, g2⟩ := h
        have he := k e (by simp)
        have := ih us g2 fun x hx => k x (by simp [hx])
        cases e with
        | int kk n =>
          simp only [DR] at g1; subst g1
          simp only [flat, List.flatMap_cons] at this ⊢
          rw [this]; simp [Value.cells]
        | _ => simp only [D.isU8] at he
    rw [hfl es vs h3 h4] at h2
    have hl : vs.length = es.length := h3.length
    simp only [Conv.bytesToString, Sem.run_bind]
    rw [← hl, run_loadCells_at h2]
    simp only [Result.andThen_ok]
    have := bytes_loop (P := P) es vs ByteArray.empty h3 h4
    rw [List.forIn_toArray]
    refine (congrArg (fun r => Result.andThen r _) this).trans ?_
    have he : (⟨ByteArray.empty.data ++ (strOf es).data⟩ : ByteArray) = strOf es := by
      have : ByteArray.empty.data = #[] := rfl
      rw [this]; simp
    simp only [Result.andThen_ok, Sem.run_pure, he]
  simp only [rop] at hr
  split at hr
  · rename_i es h1
    simp only [Option.some.injEq, Prod.mk.injEq] at hr; obtain ⟨rfl, rfl⟩ := hr
    have hv := hx _ h1
    simp only [VR, DR] at hv
    rcases hv with ⟨rfl, a, c0, rfl⟩ | ⟨b, o, cap, sz, vs, rfl, h2, h3, h4, h5, h6⟩
    · refine gives_of (u := .string (strOf [])) ?_ (by simp [VR, DR])
      rw [conv]
      cases a <;> simp [Conv.bytesToString, loadCells, loadCellsFrom, strOf] <;> rfl
    · refine gives_of (u := .string (strOf es)) ?_ (by simp [VR, DR])
      rw [conv]
      exact some_ b o cap es vs h5 h6 hc
  · rename_i t off es h1
    simp only [Option.some.injEq, Prod.mk.injEq] at hr; obtain ⟨rfl, rfl⟩ := hr
    have hv := hx _ h1
    simp only [VR] at hv
    rcases hv with ⟨rfl, a, rfl⟩ | ⟨b, o, cap, cc, el, fr, vs, k1, rfl, k3, k4, k5, k6, k7, k8, k9⟩
    · refine gives_of (u := .string (strOf [])) ?_ (by simp [VR, DR])
      rw [conv]
      cases a <;> simp [Conv.bytesToString, loadCells, loadCellsFrom, strOf] <;> rfl
    · refine gives_of (u := .string (strOf es)) ?_ (by simp [VR, DR])
      rw [conv]
      exact some_ b _ cap es vs k8 k9 hc
  · rename_i h1
    simp only [Option.some.injEq, Prod.mk.injEq] at hr; obtain ⟨rfl, rfl⟩ := hr
    have hv := hx _ h1
    simp only [VR] at hv; subst hv
    refine gives_of (u := .string (strOf [])) ?_ (by simp [VR, DR])
    rw [conv]
    simp [Conv.bytesToString, strOf]; rfl
  · cases hr

end
end Go.Proofs.Ytaghpancpfpnhaa.Abs
