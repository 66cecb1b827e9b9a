/- Steps of a walk, computed; states fitted to what is wanted. Conditions: none. -/
import Derived.Test.YtaghpancpfpnhaaAbsG2
namespace Go.Proofs.Ytaghpancpfpnhaa.Abs
open Go Go.RowKit
set_option linter.unusedVariables false
set_option linter.unusedSimpArgs false

/-- One step that can be computed. -/
def mst : List Fr → Kd → St → Option (List Fr × Kd × St)
  | [], _, _ => none
  | f :: ks, k, st => match k with
    | .norm => match f with
      | .c a => match a with
        | .skip => some (ks, .norm, st)
        | .seq x y => some (.c x :: .c y :: ks, .norm, st)
        | .block i x => some (.c x :: .b i :: ks, .norm, st)
        | .exit i => some (ks, .exit i, st)
        | .ret => some (ks, .ret, st)
        | .reg ops => some (.o false ops :: ks, .norm, st)
        | .draw its => (plainD its).map fun os => (.o true os :: ks, .norm, st)
        | .cond o x y => match st.val o with
          | some (.d (.bool t)) => some (.c (bif t then x else y) :: ks, .norm, st.litO o t)
          | _ => none
        | .loop x => some (.l x :: ks, .norm, st)
      | .l a => some (.c a :: .l a :: ks, .norm, st)
      | .o q ops => match ops with
        | [] => some (ks, .norm, st)
        | o :: r => match o.guard with
          | none => (qop o.n o.op st).map fun vs => (.o q r :: ks, .norm, vs.2.putO o.dst vs.1)
          | some (t, b) => match st.get t with
            | some (.d (.bool g)) => bif g == b then (qop o.n o.op (st.lit t b)).map fun vs => (.o q r :: ks, .norm, vs.2.putO o.dst vs.1)
              else some (.o q r :: ks, .norm, (st.lit t (!b)).putO o.dst (.tup []))
            | some (.tup []) => some (.o q r :: ks, .norm, st.putO o.dst (.tup []))
            | _ => none
      | .b _ => some (ks, .norm, st)
    | .exit i => match f with
      | .b j => some (ks, bif i == j then .norm else .exit i, st)
      | _ => some (ks, .exit i, st)
    | .ret => some (ks, .ret, st)

/-- So many steps. -/
def adv : Nat → List Fr → Kd → St → Option (List Fr × Kd × St)
  | 0, ks, k, st => some (ks, k, st)
  | n + 1, ks, k, st => match mst ks k st with
    | some x => adv n x.1 x.2.1 x.2.2
    | none => none

section
variable {P : Program} {N : Nat} {Q : Kd → St → Prop}

theorem mst_sound {ks ks' : List Fr} {k k' : Kd} {st st' : St} (h : mst ks k st = some (ks', k', st')) (hg : go P N Q ks' k' st') : go P N Q ks k st := by
  cases ks with
  | nil => simp [mst] at h
  | cons f ks =>
    cases k with
    | ret =>
      simp only [mst, Option.some.injEq, Prod.mk.injEq] at h
      obtain ⟨rfl, rfl, rfl⟩ := h
      cases f <;> exact hg
    | exit i =>
      cases f with
      | b j =>
        simp only [mst, Option.some.injEq, Prod.mk.injEq] at h
        obtain ⟨rfl, rfl, rfl⟩ := h
        simp only [go]
        by_cases hij : i = j
        · subst hij; simpa using hg
        · rw [if_neg hij]
          have : (i == j) = false := by simpa using hij
          rw [this] at hg; exact hg
      | c a => simp only [mst, Option.some.injEq, Prod.mk.injEq] at h; obtain ⟨rfl, rfl, rfl⟩ := h; exact hg
      | o q a => simp only [mst, Option.some.injEq, Prod.mk.injEq] at h; obtain ⟨rfl, rfl, rfl⟩ := h; exact hg
      | l a => simp only [mst, Option.some.injEq, Prod.mk.injEq] at h; obtain ⟨rfl, rfl, rfl⟩ := h; exact hg
    | norm =>
      cases f with
      | b j => simp only [mst, Option.some.injEq, Prod.mk.injEq] at h; obtain ⟨rfl, rfl, rfl⟩ := h; exact hg
      | l a =>
        simp only [mst, Option.some.injEq, Prod.mk.injEq] at h; obtain ⟨rfl, rfl, rfl⟩ := h
        refine EvL_unroll ((show EvC P N a st (go P N Q (.l a :: ks)) from hg).mono fun k s hk => ?_)
        cases k <;> exact hk
      | c a =>
        simp only [go]
        cases a with
        | skip => simp only [mst, Option.some.injEq, Prod.mk.injEq] at h; obtain ⟨rfl, rfl, rfl⟩ := h; exact EvC_skip hg
        | seq x y =>
          simp only [mst, Option.some.injEq, Prod.mk.injEq] at h; obtain ⟨rfl, rfl, rfl⟩ := h
          refine EvC_seq ((show EvC P N x st (go P N Q (.c y :: ks)) from hg).mono fun k s hk => ?_)
          cases k <;> exact hk
        | block i x =>
          simp only [mst, Option.some.injEq, Prod.mk.injEq] at h; obtain ⟨rfl, rfl, rfl⟩ := h
          refine EvC_block ((show EvC P N x st (go P N Q (.b i :: ks)) from hg).mono fun k s hk => ?_)
          cases k with
          | exit j => simpa only [go] using hk
          | norm => exact hk
          | ret => exact hk
        | exit i => simp only [mst, Option.some.injEq, Prod.mk.injEq] at h; obtain ⟨rfl, rfl, rfl⟩ := h; exact EvC_exit hg
        | ret => simp only [mst, Option.some.injEq, Prod.mk.injEq] at h; obtain ⟨rfl, rfl, rfl⟩ := h; exact EvC_ret hg
        | reg ops => simp only [mst, Option.some.injEq, Prod.mk.injEq] at h; obtain ⟨rfl, rfl, rfl⟩ := h; exact EvC_reg hg
        | loop x => simp only [mst, Option.some.injEq, Prod.mk.injEq] at h; obtain ⟨rfl, rfl, rfl⟩ := h; exact EvC_loop hg
        | draw its =>
          simp only [mst, Option.map_eq_some_iff, Prod.mk.injEq] at h
          obtain ⟨os, h1, rfl, rfl, rfl⟩ := h
          exact EvC_draw_plain h1 hg
        | cond o x y =>
          simp only [mst] at h
          split at h
          · rename_i t ht
            simp only [Option.some.injEq, Prod.mk.injEq] at h; obtain ⟨rfl, rfl, rfl⟩ := h
            cases t with
            | true => exact EvC_cond ht (fun _ => hg) (fun e => by cases e)
            | false => exact EvC_cond ht (fun e => by cases e) (fun _ => hg)
          · cases h
      | o q ops =>
        cases ops with
        | nil =>
          simp only [mst, Option.some.injEq, Prod.mk.injEq] at h; obtain ⟨rfl, rfl, rfl⟩ := h
          cases q
          · exact EvO_nil hg
          · exact hg
        | cons o r =>
          simp only [mst] at h
          split at h
          · rename_i ho
            simp only [Option.map_eq_some_iff, Prod.mk.injEq] at h
            obtain ⟨⟨v, s⟩, h1, rfl, rfl, rfl⟩ := h
            cases q
            · exact EvO_step ho (qop_sound h1 hg)
            · simp only [go, cond_true, vcOps, ho]
              exact qop_sound h1 hg
          · rename_i t b ho
            split at h
            · rename_i g hget
              cases hgb : g == b with
              | true =>
                rw [hgb] at h
                simp only [cond_true, Option.map_eq_some_iff, Prod.mk.injEq] at h
                obtain ⟨⟨v, s⟩, h1, rfl, rfl, rfl⟩ := h
                have hne : g = !b → False := fun e => by rw [e] at hgb; cases b <;> simp at hgb
                cases q
                · exact EvO_guard ho hget (fun e => qop_sound h1 hg) (fun e => (hne e).elim)
                · simp only [go, cond_true, vcOps, ho, hget]
                  exact ⟨fun e => qop_sound h1 hg, fun e => (hne e).elim⟩
              | false =>
                rw [hgb] at h
                simp only [cond_false, Option.some.injEq, Prod.mk.injEq] at h
                obtain ⟨rfl, rfl, rfl⟩ := h
                have hne : g = b → False := fun e => by rw [e] at hgb; simp at hgb
                cases q
                · exact EvO_guard ho hget (fun e => (hne e).elim) (fun e => hg)
                · simp only [go, cond_true, vcOps, ho, hget]
                  exact ⟨fun e => (hne e).elim, fun e => hg⟩
            · rename_i hget
              simp only [Option.some.injEq, Prod.mk.injEq] at h; obtain ⟨rfl, rfl, rfl⟩ := h
              cases q
              · exact EvO_undef ho hget hg
              · simp only [go, cond_true, vcOps, ho, hget]
                exact hg
            · cases h

theorem adv_sound : ∀ {n : Nat} {ks ks' : List Fr} {k k' : Kd} {st st' : St}, adv n ks k st = some (ks', k', st') → go P N Q ks' k' st' → go P N Q ks k st
  | 0, ks, ks', k, k', st, st', h, hg => by simp only [adv, Option.some.injEq, Prod.mk.injEq] at h; obtain ⟨rfl, rfl, rfl⟩ := h; exact hg
  | n + 1, ks, ks', k, k', st, st', h, hg => by
    simp only [adv] at h
    split at h
    · rename_i x hx
      exact mst_sound hx (adv_sound h hg)
    · cases h

end

/-- What is there once only. -/
def dd {α : Type} [DecidableEq α] : List α → List α
  | [] => []
  | x :: xs => if x ∈ xs then dd xs else x :: dd xs

theorem mem_dd {α : Type} [DecidableEq α] {y : α} : ∀ {l : List α}, y ∈ dd l ↔ y ∈ l
  | [] => by simp [dd]
  | x :: xs => by
    simp only [dd]
    split
    · rename_i h
      rw [mem_dd]
      constructor
      · intro h'; exact List.mem_cons_of_mem _ h'
      · intro h'; rcases List.mem_cons.1 h' with rfl | h'
        · exact h
        · exact h'
    · simp only [List.mem_cons, mem_dd]

mutual
/-- Which names stand for which. -/
def nmP : PV → PV → List (Tg × Tg)
  | p, .sl t' _ _ _ => match p with
    | .sl t _ _ _ => [(t', t)]
    | _ => []
  | p, .ptr t' _ => match p with
    | .ptr t _ => [(t', t)]
    | _ => []
  | p, .ep t' _ _ _ _ => match p with
    | .ep t _ _ _ _ => [(t', t)]
    | _ => []
  | p, .agg cs' => match p with
    | .agg cs => nmL cs cs'
    | _ => []
  | p, .clo _ a' b' => match p with
    | .clo _ a b => nmL a a' ++ nmL b b'
    | _ => []
  | p, .ifc _ x' => match p with
    | .ifc _ x => nmP x x'
    | _ => []
  | p, .tup xs' => match p with
    | .tup xs => nmL xs xs'
    | _ => []
  | _, _ => []
def nmL : List PV → List PV → List (Tg × Tg)
  | ps, [] => []
  | ps, y :: ys => match ps with
    | p :: ps => nmP p y ++ nmL ps ys
    | [] => []
end

mutual
/-- Which rows are to stay from now on. -/
def fzP : PV → PV → List Tg
  | p, .d _ => p.tags
  | p, .agg cs' => match p with
    | .agg cs => fzL cs cs'
    | _ => []
  | p, .clo _ a' b' => match p with
    | .clo _ a b => fzL a a' ++ fzL b b'
    | _ => []
  | p, .ifc _ x' => match p with
    | .ifc _ x => fzP x x'
    | _ => []
  | p, .tup xs' => match p with
    | .tup xs => fzL xs xs'
    | _ => []
  | _, _ => []
def fzL : List PV → List PV → List Tg
  | ps, [] => []
  | ps, y :: ys => match ps with
    | p :: ps => fzP p y ++ fzL ps ys
    | [] => []
end

mutual
/-- A value in another one's form. -/
def cvP (ρ β : Nm) : PV → PV → Option PV
  | p, .unk => some .unk
  | p, .d _ => match p.tags with
    | [] => p.toD.map .d
    | _ => none
  | p, .nils => match p with
    | .nils => some .nils
    | _ => none
  | p, .sl t' sz' off' es' => match p with
    | .nils => some (.sl t' sz' off' [])
    | .sl t sz off es => if ρ t' = some t then some (.sl t' sz off es) else none
    | _ => none
  | p, .ptr k' o' => match p with
    | .ptr k o => if β k' = some k then some (.ptr k' o) else none
    | _ => none
  | p, .ep t' sz' i' f' e' => match p with
    | .ep t sz i f e => if ρ t' = some t then some (.ep t' sz i f e) else none
    | _ => none
  | p, .agg cs' => match p with
    | .agg cs => (cvL ρ β cs cs').map .agg
    | _ => none
  | p, .clo fn' a' b' => match p with
    | .clo fn a b => match cvL ρ β a a', cvL ρ β b b' with
      | some x, some y => some (.clo fn x y)
      | _, _ => none
    | _ => none
  | p, .ifc t' x' => match p with
    | .ifc t x => (cvP ρ β x x').map (.ifc t)
    | _ => none
  | p, .tup xs' => match p with
    | .tup xs => (cvL ρ β xs xs').map .tup
    | _ => none
def cvL (ρ β : Nm) : List PV → List PV → Option (List PV)
  | ps, [] => match ps with
    | [] => some []
    | _ => none
  | ps, y :: ys => match ps with
    | p :: ps => match cvP ρ β p y, cvL ρ β ps ys with
      | some a, some b => some (a :: b)
      | _, _ => none
    | [] => none
end

mutual
theorem cvP_le {ρ β : Nm} : ∀ (q p : PV), cvP ρ β p q = some q → PV.le ρ β p q
  | .unk, p, h => by simp [PV.le]
  | .d y, p, h => by
    unfold cvP at h
    split at h
    · rename_i ht
      simp only [Option.map_eq_some_iff] at h
      obtain ⟨x, h1, h2⟩ := h
      cases h2
      simp only [PV.le]; exact ⟨ht, h1⟩
    · cases h
  | .nils, p, h => by
    unfold cvP at h
    split at h
    · simp [PV.le]
    · cases h
  | .sl t' sz' off' es', p, h => by
    unfold cvP at h
    split at h
    · simp only [Option.some.injEq, PV.sl.injEq] at h
      simp only [PV.le]; exact h.2.2.2.symm
    · split at h
      · rename_i hr
        simp only [Option.some.injEq, PV.sl.injEq] at h
        simp only [PV.le]; exact ⟨⟨hr, h.2.1, h.2.2.1⟩, h.2.2.2⟩
      · cases h
    · cases h
  | .ptr k' o', p, h => by
    unfold cvP at h
    split at h
    · split at h
      · rename_i hr
        simp only [Option.some.injEq, PV.ptr.injEq] at h
        simp only [PV.le]; exact ⟨hr, h.2⟩
      · cases h
    · cases h
  | .ep t' sz' i' f' e', p, h => by
    unfold cvP at h
    split at h
    · split at h
      · rename_i hr
        simp only [Option.some.injEq, PV.ep.injEq] at h
        simp only [PV.le]; exact ⟨hr, h.2⟩
      · cases h
    · cases h
  | .agg cs', p, h => by
    unfold cvP at h
    split at h
    · simp only [Option.map_eq_some_iff] at h
      obtain ⟨x, h1, h2⟩ := h
      cases h2
      simp only [PV.le]; exact cvL_le _ _ h1
    · cases h
  | .clo fn' a' b', p, h => by
    unfold cvP at h
    split at h
    · split at h
      · rename_i h1 h2
        simp only [Option.some.injEq, PV.clo.injEq] at h
        obtain ⟨rfl, rfl, rfl⟩ := h
        simp only [PV.le]; exact ⟨trivial, cvL_le _ _ h1, cvL_le _ _ h2⟩
      · cases h
    · cases h
  | .ifc t' x', p, h => by
    unfold cvP at h
    split at h
    · simp only [Option.map_eq_some_iff] at h
      obtain ⟨x, h1, h2⟩ := h
      cases h2
      simp only [PV.le]; exact ⟨trivial, cvP_le _ _ h1⟩
    · cases h
  | .tup xs', p, h => by
    unfold cvP at h
    split at h
    · simp only [Option.map_eq_some_iff] at h
      obtain ⟨x, h1, h2⟩ := h
      cases h2
      simp only [PV.le]; exact cvL_le _ _ h1
    · cases h
theorem cvL_le {ρ β : Nm} : ∀ (qs ps : List PV), cvL ρ β ps qs = some qs → PV.leL ρ β ps qs
  | [], ps, h => by
    unfold cvL at h
    split at h
    · simp [PV.leL]
    · cases h
  | y :: ys, ps, h => by
    unfold cvL at h
    split at h
    · split at h
      · rename_i h1 h2
        simp only [Option.some.injEq, List.cons.injEq] at h
        obtain ⟨rfl, rfl⟩ := h
        simp only [PV.leL]; exact ⟨cvP_le _ _ h1, cvL_le _ _ h2⟩
      · cases h
    · cases h
end

def nmTm (st : St) : List (Nat × PV) → List (Tg × Tg)
  | [] => []
  | (d, q) :: r => (match st.get d with
    | some p => nmP p q
    | none => []) ++ nmTm st r
def fzTm (st : St) : List (Nat × PV) → List Tg
  | [] => []
  | (d, q) :: r => (match st.get d with
    | some p => fzP p q
    | none => []) ++ fzTm st r
/-- Names in boxes that are named. -/
def nmBx (st : St) (ρ : List (Tg × Tg)) : List (Tg × List PV) → List (Tg × Tg)
  | [] => []
  | (k, qs) :: r => (match srcB ρ k with
    | some s => match st.box s with
      | some ps => nmL ps qs
      | none => []
    | none => []) ++ nmBx st ρ r
def fzBx (st : St) (ρ : List (Tg × Tg)) : List (Tg × List PV) → List Tg
  | [] => []
  | (k, qs) :: r => (match srcB ρ k with
    | some s => match st.box s with
      | some ps => fzL ps qs
      | none => []
    | none => []) ++ fzBx st ρ r
def cvTm (ρ β : Nm) (st : St) : List (Nat × PV) → Option (List (Nat × PV))
  | [] => some []
  | (d, q) :: r => match st.get d with
    | some p => match cvP ρ β p q, cvTm ρ β st r with
      | some a, some b => some ((d, a) :: b)
      | _, _ => none
    | none => none
def cvBx (ρ β : Nm) (st : St) : List (Tg × List PV) → Option (List (Tg × List PV))
  | [] => some []
  | (k, qs) :: r => match β k with
    | some s => match st.box s with
      | some ps => match cvL ρ β ps qs, cvBx ρ β st r with
        | some a, some b => some ((k, a) :: b)
        | _, _ => none
      | none => none
    | none => none

theorem cvTm_le {ρ β : Nm} {st : St} : ∀ {l : List (Nat × PV)}, cvTm ρ β st l = some l → leTm ρ β st l
  | [], h => by simp [leTm]
  | (d, q) :: r, h => by
    simp only [cvTm] at h
    split at h
    · rename_i p hp
      split at h
      · rename_i a b h1 h2
        simp only [Option.some.injEq, List.cons.injEq, Prod.mk.injEq, true_and] at h
        obtain ⟨rfl, rfl⟩ := h
        simp only [leTm, hp]
        exact ⟨cvP_le _ _ h1, cvTm_le h2⟩
      · cases h
    · cases h

theorem cvBx_le {ρ β : Nm} {st : St} : ∀ {l : List (Tg × List PV)}, cvBx ρ β st l = some l → leBx ρ β st l
  | [], h => by simp [leBx]
  | (d, q) :: r, h => by
    simp only [cvBx] at h
    split at h
    · rename_i s hs
      split at h
      · rename_i p hp
        split at h
        · rename_i a b h1 h2
          simp only [Option.some.injEq, List.cons.injEq, Prod.mk.injEq, true_and] at h
          obtain ⟨rfl, rfl⟩ := h
          simp only [leBx, hs, hp]
          exact ⟨cvL_le _ _ h1, cvBx_le h2⟩
        · cases h
      · cases h
    · cases h

def nodupT : List Tg → Bool
  | [] => true
  | x :: xs => !(decide (x ∈ xs)) && nodupT xs
theorem nodupT_sound : ∀ {l : List Tg}, nodupT l = true → l.Nodup
  | [], _ => List.nodup_nil
  | x :: xs, h => by
    simp only [nodupT, Bool.and_eq_true, Bool.not_eq_true', decide_eq_false_iff_not] at h
    exact List.nodup_cons.2 ⟨h.1, nodupT_sound h.2⟩

/-- THE FIT: a state in another one's form: rows that are wanted as data stay from now on, names become the other's, what is not wanted is forgotten. -/
def fit (st st' : St) : Option St :=
  let F := dd (fzTm st st'.tm ++ fzBx st (nmTm st st'.tm) st'.bx)
  let s2 := st.frz F
  let ρ0 := nmTm s2 st'.tm
  let ρ := dd (ρ0 ++ nmBx s2 ρ0 st'.bx)
  bif nodupT (ρ.map Prod.snd) then
    match cvTm (fun t => lookT t ρ) (srcB ρ) s2 st'.tm, cvBx (fun t => lookT t ρ) (srcB ρ) s2 st'.bx with
    | some a, some b => some ⟨a, b⟩
    | _, _ => none
  else none

theorem fit_sub {st st' : St} (h : fit st st' = some st') : Sub st st' := by
  unfold fit at h
  simp only at h
  refine (Sub.frz st (dd (fzTm st st'.tm ++ fzBx st (nmTm st st'.tm) st'.bx))).trans ?_
  generalize st.frz (dd (fzTm st st'.tm ++ fzBx st (nmTm st st'.tm) st'.bx)) = s2 at h ⊢
  generalize dd (nmTm s2 st'.tm ++ nmBx s2 (nmTm s2 st'.tm) st'.bx) = ρ at h
  cases hn : nodupT (ρ.map Prod.snd) with
  | false => rw [hn] at h; cases h
  | true =>
    rw [hn] at h
    simp only [cond_true] at h
    split at h
    · rename_i a b h1 h2
      cases st' with
      | mk tm bx =>
        simp only [Option.some.injEq, St.mk.injEq] at h
        obtain ⟨rfl, rfl⟩ := h
        exact Sub.le (ρ := ρ) ⟨nodupT_sound hn, cvTm_le h1, cvBx_le h2⟩
    · cases h

/-- So many steps, and what comes of them fitted. -/
def advF (n : Nat) (ks : List Fr) (k : Kd) (st st' : St) : Option (List Fr × Kd × St) :=
  match adv n ks k st with
  | some x => match fit x.2.2 st' with
    | some s => bif cl x.1 x.2.1 then some (x.1, x.2.1, s) else none
    | none => none
  | none => none

theorem advF_sound {P : Program} {N : Nat} {Q : Kd → St → Prop} {n : Nat} {ks ks' : List Fr} {k k' : Kd} {st st' : St} (h : advF n ks k st st' = some (ks', k', st')) (hg : go P N Q ks' k' st') : go P N Q ks k st := by
  unfold advF at h
  split at h
  · rename_i x hx
    split at h
    · rename_i s hs
      cases hc : cl x.1 x.2.1 with
      | false => rw [hc] at h; cases h
      | true =>
        rw [hc] at h
        simp only [cond_true, Option.some.injEq, Prod.mk.injEq] at h
        obtain ⟨rfl, rfl, rfl⟩ := h
        exact adv_sound hx (go_sub hc hg (fit_sub hs))
    · cases h
  · cases h

end Go.Proofs.Ytaghpancpfpnhaa.Abs
