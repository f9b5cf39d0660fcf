/- Loops of the evaluator: big steps; what comes in; small laws. Conditions: none; checked here. -/
import Derived.Test.YthiaaaedfidnjaaAmC
import Derived.ChangeArms
import Derived.DataReads
import Derived.ChangeShapes
import Derived.WalkKit
import Derived.ProofKit
import Derived.WideShapes
set_option linter.unusedVariables false
set_option linter.unusedSimpArgs false

namespace Go.Proofs.Ythiaaaedfidnjaa.Am
open Go Go.RowKit

/-! # Loops, told by their live slots -/
theorem maskL_idem {keep : List Nat} : ∀ {xs : List S} {i : Nat}, maskL keep i (maskL keep i xs) = maskL keep i xs
  | [], _ => rfl
  | s :: r, i => by
    simp only [maskL, maskL_idem]
    cases memN i keep <;> rfl
theorem noPtrs_take : ∀ {bx : List (List C)} {n : Nat}, noPtrs bx = true → noPtrs (bx.take n) = true
  | [], n, _ => by simp [noPtrs]
  | x :: r, 0, _ => by simp [noPtrs]
  | x :: r, n + 1, h => by
    simp only [noPtrs, Bool.and_eq_true] at h
    simp only [List.take_succ_cons, noPtrs, Bool.and_eq_true]
    exact ⟨h.1, noPtrs_take h.2⟩
/-- Dead slots are dead, and no box is left that nothing points to. -/
structure Kept (np : Nat) (keep : List Nat) (st : St) : Prop where
  dead : maskL keep 0 st.sl = st.sl
  box : keepBx np st.sl st.bx = st.bx
theorem kept_mask {np : Nat} {keep : List Nat} {st : St} : Kept np keep ⟨maskL keep 0 st.sl, keepBx np (maskL keep 0 st.sl) st.bx⟩ := by
  refine ⟨maskL_idem, ?_⟩
  show keepBx np (maskL keep 0 st.sl) (keepBx np (maskL keep 0 st.sl) st.bx) = keepBx np (maskL keep 0 st.sl) st.bx
  simp only [keepBx]
  cases h : noPtrs st.bx with
  | false =>
    simp only [cond_false]
    rw [h]
    rfl
  | true =>
    have h2 : noPtrs (st.bx.take (Nat.max np (topL (maskL keep 0 st.sl)))) = true := noPtrs_take h
    simp only [cond_true]
    rw [h2, cond_true, List.take_take, Nat.min_self]
/-- Tags alone are turned. -/
def TagF (f : C → C) : Prop := ∀ c, (f c).av = c.av
theorem tag_relinq (h : Nat) : TagF (C.relinq h) := fun c => by
  obtain ⟨t, av⟩ := c
  cases t with
  | ro => rfl
  | own g s => show (bif Nat.beq h g then (⟨.ro, av⟩ : C) else ⟨.own g s, av⟩).av = av; cases Nat.beq h g <;> rfl
theorem tag_ren (g h : Nat) : TagF (C.ren g h) := fun c => by
  obtain ⟨t, av⟩ := c
  cases t with
  | ro => rfl
  | own g' s => show (bif Nat.beq g g' then (⟨.own h s, av⟩ : C) else ⟨.own g' s, av⟩).av = av; cases Nat.beq g g' <;> rfl
section
variable {f : C → C} (hf : TagF f)
theorem ptrTop_tag {f : C → C} (hf : TagF f) : ∀ cs : List C, ptrTop (mapL f cs) = ptrTop cs
  | [] => rfl
  | c :: r => by
    have h := hf c
    have ih := ptrTop_tag hf r
    show ptrTop (f c :: mapL f r) = _
    obtain ⟨t, av⟩ := c
    generalize f ⟨t, av⟩ = d at h
    obtain ⟨t', av'⟩ := d
    change av' = av at h
    subst h
    cases av' <;> simp only [ptrTop, ih]
theorem noPtr_tag {f : C → C} (hf : TagF f) : ∀ cs : List C, noPtr (mapL f cs) = noPtr cs
  | [] => rfl
  | c :: r => by
    have h := hf c
    have ih := noPtr_tag hf r
    show noPtr (f c :: mapL f r) = _
    obtain ⟨t, av⟩ := c
    generalize f ⟨t, av⟩ = d at h
    obtain ⟨t', av'⟩ := d
    change av' = av at h
    subst h
    cases av' <;> simp only [noPtr, ih]
theorem noPtrs_tag {f : C → C} (hf : TagF f) : ∀ l : List (List C), noPtrs (mapL (mapL f) l) = noPtrs l
  | [] => rfl
  | x :: r => by simp only [mapL, noPtrs, noPtr_tag hf, noPtrs_tag hf r]
theorem topT_tag {f : C → C} (hf : TagF f) : ∀ l : List S1, topT (mapL (S1.map f) l) = topT l
  | [] => rfl
  | x :: r => by simp only [mapL, topT, topT_tag hf r, cells_map, ptrTop_tag hf]
theorem top_tag {f : C → C} (hf : TagF f) (s : S) : (s.map f).top = s.top := by
  cases s with
  | s x => show ptrTop (x.map f).cells = _; rw [cells_map, ptrTop_tag hf]; rfl
  | tup xs => exact topT_tag hf xs
  | dead => rfl
theorem topL_tag {f : C → C} (hf : TagF f) : ∀ l : List S, topL (mapL (S.map f) l) = topL l
  | [] => rfl
  | x :: r => by simp only [mapL, topL, topL_tag hf r, top_tag hf]
theorem maskL_map {f : C → C} {keep : List Nat} : ∀ {l : List S} {i : Nat}, maskL keep i (mapL (S.map f) l) = mapL (S.map f) (maskL keep i l)
  | [], _ => rfl
  | s :: r, i => by
    simp only [mapL, maskL, maskL_map]
    cases memN i keep <;> rfl
theorem mapLTake {α β : Type} {f : α → β} : ∀ {l : List α} {n : Nat}, (mapL f l).take n = mapL f (l.take n)
  | _, 0 => by simp [mapL]
  | [], n + 1 => rfl
  | x :: r, n + 1 => by simp only [mapL, List.take_succ_cons, mapLTake (l := r)]
theorem Kept.map {f : C → C} {np : Nat} {keep : List Nat} {st : St} (h : Kept np keep st) (hf : TagF f) : Kept np keep (st.map f) := by
  refine ⟨?_, ?_⟩
  · show maskL keep 0 (mapL (S.map f) st.sl) = mapL (S.map f) st.sl
    rw [maskL_map, h.dead]
  · show keepBx np (mapL (S.map f) st.sl) (mapL (mapL f) st.bx) = mapL (mapL f) st.bx
    have hb := h.box
    unfold keepBx at hb ⊢
    rw [noPtrs_tag hf, topL_tag hf, mapLTake]
    cases hp : noPtrs st.bx with
    | false => rfl
    | true =>
      rw [hp] at hb
      simp only [cond_true] at hb ⊢
      rw [hb]
theorem topL_set {x : S} : ∀ {l : List S} {i : Nat} {y : S}, l[i]? = some y → x.top = y.top → topL (l.set i x) = topL l
  | [], _, _, h, _ => by simp at h
  | s :: r, 0, y, h, hx => by
    simp at h
    subst h
    show Nat.max x.top (topL r) = Nat.max s.top (topL r)
    rw [hx]
  | s :: r, i + 1, y, h, hx => by
    show Nat.max s.top (topL (r.set i x)) = Nat.max s.top (topL r)
    rw [topL_set (l := r) (by simpa using h) hx]
theorem maskL_set {keep : List Nat} {x : S} : ∀ {l : List S} {j i : Nat} {y : S}, maskL keep j l = l → l[i]? = some y → y ≠ .dead → maskL keep j (l.set i x) = l.set i x
  | [], _, _, _, _, h, _ => by simp at h
  | s :: r, j, 0, y, hm, h, hy => by
    simp at h
    subst h
    simp only [maskL, List.cons.injEq] at hm
    show (bif memN j keep then x else junkS) :: maskL keep (j + 1) r = x :: r
    rw [hm.2]
    cases hk : memN j keep with
    | true => rfl
    | false =>
      rw [hk] at hm
      exact absurd hm.1.symm hy
  | s :: r, j, i + 1, y, hm, h, hy => by
    simp only [maskL, List.cons.injEq] at hm
    show (bif memN j keep then s else junkS) :: maskL keep (j + 1) (r.set i x) = s :: r.set i x
    rw [hm.1, maskL_set (l := r) hm.2 (by simpa using h) hy]
theorem Kept.put {np : Nat} {keep : List Nat} {st : St} {i : Nat} {x y : S} (h : Kept np keep st) (hs : st.sl[i]? = some y) (hy : y ≠ .dead) (hx : x.top = y.top) : Kept np keep (st.put i x) := by
  refine ⟨maskL_set h.dead hs hy, ?_⟩
  have hb := h.box
  show keepBx np (st.sl.set i x) st.bx = st.bx
  unfold keepBx at hb ⊢
  rw [topL_set hs hx]
  exact hb
theorem sl_map {f : C → C} {st : St} {i : Nat} : (st.map f).sl[i]? = (st.sl[i]?).map (S.map f) := by
  show (mapL (S.map f) st.sl)[i]? = _
  rw [mapL_eq, List.getElem?_map]
theorem Kept.canOne {np : Nat} {keep : List Nat} {st : St} {c : CanOp} (h : Kept np keep st) : Kept np keep (canOne c st) := by
  cases c with
  | nil i e k =>
    show Kept np keep (canNil i e k st)
    unfold canNil
    split
    · rename_i t hs
      refine (h.map (tag_relinq k)).put (y := (S.s (.c ⟨t, .nilv⟩)).map (C.relinq k)) (by rw [sl_map, hs]; rfl) (by simp [S.map]) ?_
      rw [top_tag (tag_relinq k)]
      rfl
    · exact h
  | nilR i e =>
    show Kept np keep (canNilR i e st)
    unfold canNilR
    split
    · rename_i t hs
      exact h.put hs (by simp) rfl
    · exact h
  | rel g => exact h.map (tag_relinq g)
  | ren g k =>
    show Kept np keep (bif noMemSt st [g] then st else (st.map (C.relinq k)).map (C.ren g k))
    cases noMemSt st [g] with
    | true => exact h
    | false => exact (h.map (tag_relinq k)).map (tag_ren g k)
theorem Kept.canGo {np : Nat} {keep : List Nat} : ∀ {l : List CanOp} {st : St}, Kept np keep st → Kept np keep (canGo l st)
  | [], _, h => h
  | c :: r, st, h => Kept.canGo (l := r) h.canOne
end
/-- What is not there. -/
theorem noC_map {f : C → C} {g : Nat} (hf : ∀ c, noMemC g [c] = true → noMemC g [f c] = true) : ∀ {cs : List C}, noMemC g cs = true → noMemC g (mapL f cs) = true
  | [], _ => rfl
  | c :: r, h => by
    have hc : noMemC g [c] = true ∧ noMemC g r = true := by
      obtain ⟨t, av⟩ := c
      cases t with
      | ro => exact ⟨rfl, by simpa [noMemC] using h⟩
      | own g' s => simpa [noMemC] using h
    have h1 := hf c hc.1
    have h2 := noC_map hf hc.2
    show noMemC g (f c :: mapL f r) = true
    generalize f c = d at h1
    obtain ⟨t, av⟩ := d
    cases t with
    | ro => simpa [noMemC] using h2
    | own g' s =>
      simp only [noMemC, Bool.and_true] at h1
      simp only [noMemC, h1, h2, Bool.and_self]
theorem noC_all {f : C → C} {g : Nat} (hf : ∀ c, noMemC g [f c] = true) : ∀ {cs : List C}, noMemC g (mapL f cs) = true
  | [] => rfl
  | c :: r => by
    have h1 := hf c
    have h2 := noC_all hf (cs := r)
    show noMemC g (f c :: mapL f r) = true
    generalize f c = d at h1
    obtain ⟨t, av⟩ := d
    cases t with
    | ro => simpa [noMemC] using h2
    | own g' s =>
      simp only [noMemC, Bool.and_true] at h1
      simp only [noMemC, h1, h2, Bool.and_self]
def NoG (g : Nat) (st : St) : Prop := noMemL g st.sl = true ∧ noMemB g st.bx = true
theorem noG_iff {g : Nat} {st : St} : noMemSt st [g] = true ↔ NoG g st := by
  unfold NoG
  simp only [noMemSt, Bool.and_true, Bool.and_eq_true]
theorem noL_map {f : C → C} {g : Nat} (hf : ∀ cs, noMemC g cs = true → noMemC g (mapL f cs) = true) : ∀ {l : List S}, noMemL g l = true → noMemL g (mapL (S.map f) l) = true
  | [], _ => rfl
  | s :: r, h => by
    simp only [noMemL, Bool.and_eq_true] at h
    simp only [mapL, noMemL, sCells_map, hf _ h.1, noL_map hf h.2, Bool.and_self]
theorem noB_map {f : C → C} {g : Nat} (hf : ∀ cs, noMemC g cs = true → noMemC g (mapL f cs) = true) : ∀ {l : List (List C)}, noMemB g l = true → noMemB g (mapL (mapL f) l) = true
  | [], _ => rfl
  | s :: r, h => by
    simp only [noMemB, Bool.and_eq_true] at h
    simp only [mapL, noMemB, hf _ h.1, noB_map hf h.2, Bool.and_self]
theorem NoG.map {f : C → C} {g : Nat} {st : St} (h : NoG g st) (hf : ∀ c, noMemC g [c] = true → noMemC g [f c] = true) : NoG g (st.map f) :=
  ⟨noL_map (fun _ hc => noC_map hf hc) h.1, noB_map (fun _ hc => noC_map hf hc) h.2⟩
theorem noL_all {f : C → C} {g : Nat} (hf : ∀ cs, noMemC g (mapL f cs) = true) : ∀ {l : List S}, noMemL g (mapL (S.map f) l) = true
  | [] => rfl
  | s :: r => by simp only [mapL, noMemL, sCells_map, hf, noL_all hf (l := r), Bool.and_self]
theorem noB_all {f : C → C} {g : Nat} (hf : ∀ cs, noMemC g (mapL f cs) = true) : ∀ {l : List (List C)}, noMemB g (mapL (mapL f) l) = true
  | [] => rfl
  | s :: r => by simp only [mapL, noMemB, hf, noB_all hf (l := r), Bool.and_self]
theorem NoG.all {f : C → C} {g : Nat} {st : St} (hf : ∀ c, noMemC g [f c] = true) : NoG g (st.map f) :=
  ⟨noL_all fun _ => noC_all hf, noB_all fun _ => noC_all hf⟩
theorem beq_ne {a b : Nat} (h : a ≠ b) : Nat.beq a b = false := by
  cases hb : Nat.beq a b with
  | false => rfl
  | true => exact absurd (Nat.eq_of_beq_eq_true hb) h
theorem relinq_no {g k : Nat} (c : C) (h : noMemC g [c] = true) : noMemC g [C.relinq k c] = true := by
  obtain ⟨t, av⟩ := c
  cases t with
  | ro => rfl
  | own g' s =>
    show noMemC g [bif Nat.beq k g' then (⟨.ro, av⟩ : C) else ⟨.own g' s, av⟩] = true
    cases Nat.beq k g' with
    | true => rfl
    | false => exact h
theorem ren_no {g q k : Nat} (hk : g ≠ k) (c : C) (h : noMemC g [c] = true) : noMemC g [C.ren q k c] = true := by
  obtain ⟨t, av⟩ := c
  cases t with
  | ro => rfl
  | own g' s =>
    show noMemC g [bif Nat.beq q g' then (⟨.own k s, av⟩ : C) else ⟨.own g' s, av⟩] = true
    cases Nat.beq q g' with
    | true =>
      show (!(Nat.beq g k) && true) = true
      rw [beq_ne hk]
      rfl
    | false => exact h
theorem ren_all {g k : Nat} (hk : g ≠ k) (c : C) : noMemC g [C.ren g k c] = true := by
  obtain ⟨t, av⟩ := c
  cases t with
  | ro => rfl
  | own g' s =>
    show noMemC g [bif Nat.beq g g' then (⟨.own k s, av⟩ : C) else ⟨.own g' s, av⟩] = true
    cases hb : Nat.beq g g' with
    | true =>
      show (!(Nat.beq g k) && true) = true
      rw [beq_ne hk]
      rfl
    | false =>
      show (!(Nat.beq g g') && true) = true
      rw [hb]
      rfl
theorem noL_set {g : Nat} {x : S} (hx : noMemC g (sCells x) = true) : ∀ {l : List S} {i : Nat}, noMemL g l = true → noMemL g (l.set i x) = true
  | [], _, h => h
  | s :: r, 0, h => by
    simp only [noMemL, Bool.and_eq_true] at h
    simp only [List.set_cons_zero, noMemL, hx, h.2, Bool.and_self]
  | s :: r, i + 1, h => by
    simp only [noMemL, Bool.and_eq_true] at h
    simp only [List.set_cons_succ, noMemL, h.1, noL_set hx h.2, Bool.and_self]
theorem relinq_all {g : Nat} (c : C) : noMemC g [C.relinq g c] = true := by
  obtain ⟨t, av⟩ := c
  cases t with
  | ro => rfl
  | own g' s =>
    show noMemC g [bif Nat.beq g g' then (⟨.ro, av⟩ : C) else ⟨.own g' s, av⟩] = true
    cases hb : Nat.beq g g' with
    | true => rfl
    | false =>
      show (!(Nat.beq g g') && true) = true
      rw [hb]
      rfl
def Fx : CanOp → St → Prop
  | .nil i _ _, st => ∀ t, st.sl[i]? ≠ some (.s (.c ⟨t, .nilv⟩))
  | .nilR i _, st => ∀ t, st.sl[i]? ≠ some (.s (.c ⟨t, .nilv⟩))
  | .ren g _, st => NoG g st
  | .rel g, st => NoG g st
def canTgt : CanOp → List Nat
  | .nil _ _ h => [h]
  | .ren _ h => [h]
  | _ => []
def canSrc : CanOp → List Nat
  | .ren g _ => [g]
  | .rel g => [g]
  | _ => []
theorem Fx.fix {c : CanOp} {st : St} (h : Fx c st) : canOne c st = st := by
  cases c with
  | nil i e k =>
    show canNil i e k st = st
    unfold canNil
    split
    · rename_i t hs
      exact absurd hs (h t)
    · rfl
  | nilR i e =>
    show canNilR i e st = st
    unfold canNilR
    split
    · rename_i t hs
      exact absurd hs (h t)
    · rfl
  | rel g =>
    show st.map (C.relinq g) = st
    exact noMem_freshen h
  | ren g k =>
    show (bif noMemSt st [g] then st else _) = st
    rw [noG_iff.2 h]
    rfl
theorem notNil_map {f : C → C} (hf : TagF f) {st : St} {i : Nat} (h : ∀ t, st.sl[i]? ≠ some (.s (.c ⟨t, .nilv⟩))) : ∀ t, (st.map f).sl[i]? ≠ some (.s (.c ⟨t, .nilv⟩)) := by
  intro t ht
  rw [sl_map] at ht
  cases hs : st.sl[i]? with
  | none => rw [hs] at ht; simp at ht
  | some s =>
    rw [hs] at ht
    simp only [Option.map_some, Option.some.injEq] at ht
    cases s with
    | s x =>
      cases x with
      | c x =>
        obtain ⟨t', av⟩ := x
        have h1 : (f ⟨t', av⟩) = ⟨t, .nilv⟩ := by simpa [S.map, S1.map] using ht
        have h2 := hf ⟨t', av⟩
        rw [h1] at h2
        change AV.nilv = av at h2
        subst h2
        exact h t' hs
      | agg xs => simp [S.map, S1.map] at ht
    | tup xs => simp [S.map] at ht
    | dead => simp [S.map] at ht
theorem notNil_put {st : St} {i j : Nat} {e : CL} {tg : Tag} (h : ∀ t, st.sl[j]? ≠ some (.s (.c ⟨t, .nilv⟩))) : ∀ t, (st.put i (.s (.c ⟨tg, .sl e true []⟩))).sl[j]? ≠ some (.s (.c ⟨t, .nilv⟩)) := by
  intro t' ht
  have ht : (st.sl.set i (.s (.c ⟨tg, .sl e true []⟩)))[j]? = some (.s (.c ⟨t', .nilv⟩)) := ht
  rw [List.getElem?_set] at ht
  split at ht
  · split at ht
    · simp at ht
    · simp at ht
  · exact h t' ht
theorem isNil_put {st : St} {i : Nat} {e : CL} {tg : Tag} : ∀ t, (st.put i (.s (.c ⟨tg, .sl e true []⟩))).sl[i]? ≠ some (.s (.c ⟨t, .nilv⟩)) := by
  intro t' ht
  have ht : (st.sl.set i (.s (.c ⟨tg, .sl e true []⟩)))[i]? = some (.s (.c ⟨t', .nilv⟩)) := ht
  rw [List.getElem?_set] at ht
  split at ht
  · split at ht
    · simp at ht
    · simp at ht
  · rename_i hn; exact hn rfl
theorem Fx.map {c : CanOp} {st : St} {f : C → C} (h : Fx c st) (hf : TagF f) (hg : ∀ g ∈ canSrc c, ∀ x, noMemC g [x] = true → noMemC g [f x] = true) : Fx c (st.map f) := by
  cases c with
  | nil i e k => exact notNil_map hf h
  | nilR i e => exact notNil_map hf h
  | ren g k => exact NoG.map h (hg g (by simp [canSrc]))
  | rel g => exact NoG.map h (hg g (by simp [canSrc]))
theorem Fx.put {c : CanOp} {st : St} {i : Nat} {e : CL} {tg : Tag} (h : Fx c st) (hg : ∀ g ∈ canSrc c, noMemC g [⟨tg, .sl e true []⟩] = true) : Fx c (st.put i (.s (.c ⟨tg, .sl e true []⟩))) := by
  cases c with
  | nil i e k => exact notNil_put h
  | nilR i e => exact notNil_put h
  | ren g k => exact ⟨noL_set (hg g (by simp [canSrc])) h.1, h.2⟩
  | rel g => exact ⟨noL_set (hg g (by simp [canSrc])) h.1, h.2⟩
theorem Fx.one {c d : CanOp} {st : St} (h : Fx c st) (hd : ∀ g ∈ canSrc c, ∀ k ∈ canTgt d, g ≠ k) : Fx c (canOne d st) := by
  cases d with
  | nil i e k =>
    show Fx c (canNil i e k st)
    unfold canNil
    split
    · refine (h.map (tag_relinq k) fun g hg x hx => relinq_no x hx).put fun g hg => ?_
      show (!(Nat.beq g k) && true) = true
      rw [beq_ne (hd g hg k (by simp [canTgt]))]
      rfl
    · exact h
  | nilR i e =>
    show Fx c (canNilR i e st)
    unfold canNilR
    split
    · exact h.put fun g hg => rfl
    · exact h
  | rel g => exact h.map (tag_relinq g) fun g hg x hx => relinq_no x hx
  | ren q k =>
    show Fx c (bif noMemSt st [q] then st else (st.map (C.relinq k)).map (C.ren q k))
    cases noMemSt st [q] with
    | true => exact h
    | false => exact (h.map (tag_relinq k) fun g hg x hx => relinq_no x hx).map (tag_ren q k) fun g hg x hx => ren_no (hd g hg k (by simp [canTgt])) x hx
theorem Fx.own {c : CanOp} {st : St} (hd : ∀ g ∈ canSrc c, ∀ k ∈ canTgt c, g ≠ k) : Fx c (canOne c st) := by
  cases c with
  | nil i e k =>
    show ∀ t, (canNil i e k st).sl[i]? ≠ some (.s (.c ⟨t, .nilv⟩))
    unfold canNil
    split
    · exact isNil_put
    · rename_i hn
      intro t ht
      exact hn t ht
  | nilR i e =>
    show ∀ t, (canNilR i e st).sl[i]? ≠ some (.s (.c ⟨t, .nilv⟩))
    unfold canNilR
    split
    · exact isNil_put
    · rename_i hn
      intro t ht
      exact hn t ht
  | rel g => exact NoG.all fun c => relinq_all c
  | ren g k =>
    show NoG g (bif noMemSt st [g] then st else (st.map (C.relinq k)).map (C.ren g k))
    cases hn : noMemSt st [g] with
    | true => exact noG_iff.1 hn
    | false => exact NoG.all (fun c => ren_all (hd g (by simp [canSrc]) k (by simp [canTgt])) c)
theorem Fx.go {c : CanOp} : ∀ {l : List CanOp} {st : St}, Fx c st → (∀ d ∈ l, ∀ g ∈ canSrc c, ∀ k ∈ canTgt d, g ≠ k) → Fx c (canGo l st)
  | [], _, h, _ => h
  | d :: r, st, h, hd => Fx.go (l := r) (h.one (hd d (by simp))) fun x hx => hd x (by simp [hx])
theorem canGo_all : ∀ {l : List CanOp} {st : St}, (∀ c ∈ l, ∀ d ∈ l, ∀ g ∈ canSrc c, ∀ k ∈ canTgt d, g ≠ k) → ∀ c ∈ l, Fx c (canGo l st)
  | [], _, _, c, h => by simp at h
  | d :: r, st, hd, c, h => by
    rcases List.mem_cons.1 h with rfl | h
    · exact Fx.go (l := r) (Fx.own (hd c (by simp) c (by simp))) fun x hx => hd c (by simp) x (by simp [hx])
    · exact canGo_all (l := r) (fun a ha b hb => hd a (by simp [ha]) b (by simp [hb])) c h
theorem canGo_fix : ∀ {l : List CanOp} {st : St}, (∀ c ∈ l, Fx c st) → canGo l st = st
  | [], _, _ => rfl
  | c :: r, st, h => by
    show canGo r (canOne c st) = st
    rw [(h c (by simp)).fix]
    exact canGo_fix (l := r) fun x hx => h x (by simp [hx])
theorem canTo_mem : ∀ {l : List CanOp} {d : CanOp}, d ∈ l → ∀ k ∈ canTgt d, k ∈ canTo l
  | c :: r, d, hd, k, hk => by
    rcases List.mem_cons.1 hd with rfl | hd
    · cases d <;> simp_all [canTgt, canTo]
    · have := canTo_mem (l := r) hd k hk
      cases c <;> simp [canTo, this]
theorem canFrom_mem : ∀ {l : List CanOp} {d : CanOp}, d ∈ l → ∀ g ∈ canSrc d, g ∈ canFrom l
  | c :: r, d, hd, g, hg => by
    rcases List.mem_cons.1 hd with rfl | hd
    · cases d <;> simp_all [canSrc, canFrom]
    · have := canFrom_mem (l := r) hd g hg
      cases c <;> simp [canFrom, this]
theorem memN_yes : ∀ {l : List Nat} {n : Nat}, n ∈ l → memN n l = true
  | m :: r, n, h => by
    rcases List.mem_cons.1 h with rfl | h
    · simp [memN]
    · simp [memN, memN_yes h]
theorem disj_ne : ∀ {l k : List Nat}, disjointN l k = true → ∀ a ∈ l, ∀ b ∈ k, a ≠ b
  | x :: r, k, h, a, ha, b, hb => by
    simp only [disjointN, Bool.and_eq_true, Bool.not_eq_true'] at h
    rcases List.mem_cons.1 ha with rfl | ha
    · rintro rfl
      rw [memN_yes hb] at h
      simp at h
    · exact disj_ne h.2 a ha b hb
theorem canAll_idem {l : List CanOp} {st : St} : canAll l (canAll l st) = canAll l st := by
  unfold canAll
  cases h : disjointN (canFrom l) (canTo l) with
  | false => rfl
  | true =>
    have hd := disj_ne h
    exact canGo_fix (canGo_all fun c hc d hdl g hg k hk => hd g (canFrom_mem hc g hg) k (canTo_mem hdl k hk))
theorem Kept.canAll {np : Nat} {keep : List Nat} {l : List CanOp} {st : St} (h : Kept np keep st) : Kept np keep (canAll l st) := by
  unfold Am.canAll
  cases disjointN (canFrom l) (canTo l) with
  | true => exact h.canGo
  | false => exact h
theorem Kept.mask {np : Nat} {m : MK} {st : St} (h : Kept np m.keep st) : st.mask np (some m) = Am.canAll m.can st := by
  show Am.canAll m.can ⟨maskL m.keep 0 st.sl, keepBx np (maskL m.keep 0 st.sl) st.bx⟩ = _
  rw [h.dead, h.box]
theorem mask_idem {np : Nat} {m : Option MK} {st : St} : (st.mask np m).mask np m = st.mask np m := by
  cases m with
  | none => rfl
  | some m =>
    have hk : Kept np m.keep (st.mask np (some m)) := (kept_mask (np := np) (keep := m.keep) (st := st)).canAll
    rw [hk.mask]
    exact canAll_idem
def headR : Code → Option Nat
  | .region id _ _ => some id
  | .seq a _ => headR a
  | .block _ b => headR b
  | .loop b => headR b
  | _ => none
/-- What begins with a region looks at its live slots alone. -/
theorem head_mask {V : Env} {rec : Rec} {f : FuncId} {id : Nat} : ∀ {c : Code}, headR c = some id → ∀ {st : St} {k : K}, evF V rec f c st k = evF V rec f c (st.mask (V.np f) (V.mask f id)) k
  | .region i ops d, h, st, k => by
    simp only [headR, Option.some.injEq] at h
    subst h
    cases d <;> simp only [evF, mask_idem]
  | .seq a b, h, st, k => by simp only [evF]; exact head_mask (c := a) h
  | .block i b, h, st, k => by simp only [evF]; exact head_mask (c := b) h
  | .loop b, h, st, k => by simp only [evF]; exact head_mask (c := b) h
  | .skip, h, _, _ => by simp [headR] at h
  | .cond _ _ _, h, _, _ => by simp [headR] at h
  | .rangeFunc _ _ _ _, h, _, _ => by simp [headR] at h
  | .exit _, h, _, _ => by simp [headR] at h
  | .scope _, h, _, _ => by simp [headR] at h
  | .label _, h, _, _ => by simp [headR] at h
  | .goto _, h, _, _ => by simp [headR] at h
  | .ret, h, _, _ => by simp [headR] at h
  | .refuse _, h, _, _ => by simp [headR] at h
theorem head_mask_ev {V : Env} {n : Nat} {f : FuncId} {id : Nat} {c : Code} (h : headR c = some id) {st : St} {k : K} : ev V n f c st k = ev V n f c (st.mask (V.np f) (V.mask f id)) k := by
  cases n with
  | zero => rfl
  | succ n => exact head_mask h

def pickS (l : List (Nat × S)) (i : Nat) : S := match l with
  | [] => junkS
  | x :: r => bif Nat.beq x.1 i then x.2 else pickS r i
def mkSl (l : List (Nat × S)) : Nat → Nat → List S
  | _, 0 => []
  | i, n + 1 => pickS l i :: mkSl l (i + 1) n
/-- n slots, junk but for some. -/
def mkSt (n : Nat) (l : List (Nat × S)) (bx : List (List C)) : St := ⟨mkSl l 0 n, bx⟩

end Go.Proofs.Ythiaaaedfidnjaa.Am

namespace Go.Proofs.Ythiaaaedfidnjaa.Am
open Go Go.RowKit

/-! # Loops in their surroundings -/
/-- What surrounds a place of a code, the innermost first. -/
inductive Fr where
  | seq (b : Code)
  | block (id : Nat)

def ctxK (V : Env) (rec : Rec) (f : FuncId) : List Fr → K → K
  | [], k => k
  | .seq b :: r, k => seqK (evF V rec f b) (ctxK V rec f r k)
  | .block id :: r, k => blockK id (ctxK V rec f r k)

/-- The outermost loops of a code, each with what surrounds it. -/
def subsOf : Code → List Fr → List (List Fr × Code)
  | .loop b, fs => [(fs, b)]
  | .seq a b, fs => subsOf a (.seq b :: fs) ++ subsOf b fs
  | .block id b, fs => subsOf b (.block id :: fs)
  | .cond _ a b, fs => subsOf a fs ++ subsOf b fs
  | _, _ => []
def nLoops : Code → Nat
  | .loop _ => 1
  | .seq a b => nLoops a + nLoops b
  | .block _ b => nLoops b
  | .cond _ a b => nLoops a + nLoops b
  | _ => 0
/-- The code with its loops cut out: each an exit of its own. -/
def cut : Nat → Code → Code
  | n, .loop _ => .exit (1000 + n)
  | n, .seq a b => .seq (cut n a) (cut (n + nLoops a) b)
  | n, .block id b => .block id (cut n b)
  | n, .cond c a b => .cond c (cut n a) (cut (n + nLoops a) b)
  | _, c => c
def subsCut : Nat → Code → List Fr → List (List Fr)
  | _, .loop _, fs => [fs]
  | n, .seq a b, fs => subsCut n a (.seq (cut (n + nLoops a) b) :: fs) ++ subsCut (n + nLoops a) b fs
  | n, .block id b, fs => subsCut n b (.block id :: fs)
  | n, .cond _ a b, fs => subsCut n a fs ++ subsCut (n + nLoops a) b fs
  | _, _, _ => []
def smallC : Code → Bool
  | .exit j => Nat.blt j 1000
  | .seq a b => smallC a && smallC b
  | .block id b => Nat.blt id 1000 && smallC b
  | .cond _ a b => smallC a && smallC b
  | _ => true

structure CutOK (L : Nat → St → Option Res) (k k' : K) : Prop where
  normal : ∀ st, k .normal st = k' .normal st
  ret : ∀ st, k .ret st = k' .ret st
  exit : ∀ j st, j < 1000 → k (.exit j) st = k' (.exit j) st
  loop : ∀ j st, k' (.exit (1000 + j)) st = L j st

theorem subsOf_len : ∀ {c : Code} {fs : List Fr}, (subsOf c fs).length = nLoops c
  | .loop _, _ => rfl
  | .seq a b, fs => by simp only [subsOf, nLoops, List.length_append, subsOf_len (c := a), subsOf_len (c := b)]
  | .block _ b, fs => by simp only [subsOf, nLoops, subsOf_len (c := b)]
  | .cond _ a b, fs => by simp only [subsOf, nLoops, List.length_append, subsOf_len (c := a), subsOf_len (c := b)]
  | .skip, _ => rfl
  | .region _ _ _, _ => rfl
  | .rangeFunc _ _ _ _, _ => rfl
  | .exit _, _ => rfl
  | .scope _, _ => rfl
  | .label _, _ => rfl
  | .goto _, _ => rfl
  | .ret, _ => rfl
  | .refuse _, _ => rfl

theorem blockK_cut {L : Nat → St → Option Res} {k k' : K} {id : Nat} (h : CutOK L k k') (hid : id < 1000) : CutOK L (blockK id k) (blockK id k') := by
  refine ⟨h.normal, h.ret, fun j st hj => ?_, fun j st => ?_⟩
  · simp only [blockK]
    cases Nat.beq j id with
    | true => exact h.normal st
    | false => exact h.exit j st hj
  · simp only [blockK]
    have : Nat.beq (1000 + j) id = false := by
      cases h : Nat.beq (1000 + j) id with
      | false => rfl
      | true => exact absurd (Nat.eq_of_beq_eq_true h) (by omega)
    rw [this]
    exact h.loop j st
theorem cut_sound {V : Env} {rec : Rec} {f : FuncId} {kp : K} {L : Nat → St → Option Res} :
    ∀ {c : Code} {fs : List Fr} {n : Nat} {st : St} {k' : K}, smallC c = true →
      (∀ j x, (subsOf c fs)[j]? = some x → ∀ st, evF V rec f (.loop x.2) st (ctxK V rec f x.1 kp) = L (n + j) st) →
      CutOK L (ctxK V rec f fs kp) k' → evF V rec f c st (ctxK V rec f fs kp) = evF V rec f (cut n c) st k'
  | .loop b, fs, n, st, k', _, hL, hk => by
    show _ = k' (.exit (1000 + n)) st
    rw [hk.loop]
    exact hL 0 (fs, b) rfl st
  | .seq a b, fs, n, st, k', hs, hL, hk => by
    simp only [smallC, Bool.and_eq_true] at hs
    show evF V rec f a st (ctxK V rec f (.seq b :: fs) kp) = evF V rec f (cut n a) st (seqK (evF V rec f (cut (n + nLoops a) b)) k')
    refine cut_sound hs.1 (fun j x hx => hL j x ?_) ⟨fun st => ?_, hk.ret, hk.exit, hk.loop⟩
    · simp only [subsOf]
      rw [List.getElem?_append_left (List.getElem?_eq_some_iff.1 hx).1]
      exact hx
    · refine cut_sound hs.2 (fun j x hx st => ?_) hk
      have := hL (nLoops a + j) x (by
        simp only [subsOf]
        rw [List.getElem?_append_right (by rw [subsOf_len]; omega), subsOf_len, Nat.add_sub_cancel_left]
        exact hx) st
      rw [this]
      congr 1
      omega
  | .block id b, fs, n, st, k', hs, hL, hk => by
    simp only [smallC, Bool.and_eq_true] at hs
    show evF V rec f b st (ctxK V rec f (.block id :: fs) kp) = evF V rec f (cut n b) st (blockK id k')
    exact cut_sound hs.2 (fun j x hx => hL j x hx) (blockK_cut hk (Nat.le_of_ble_eq_true hs.1))
  | .cond c a b, fs, n, st, k', hs, hL, hk => by
    simp only [smallC, Bool.and_eq_true] at hs
    simp only [evF, cut]
    cases st.getBool c with
    | none => rfl
    | some t =>
      simp only
      rw [cut_sound (c := a) hs.1 (fun j x hx => hL j x (by
        simp only [subsOf]
        rw [List.getElem?_append_left (List.getElem?_eq_some_iff.1 hx).1]
        exact hx)) hk, cut_sound (c := b) (n := n + nLoops a) hs.2 (fun j x hx st => by
        have := hL (nLoops a + j) x (by
          simp only [subsOf]
          rw [List.getElem?_append_right (by rw [subsOf_len]; omega), subsOf_len, Nat.add_sub_cancel_left]
          exact hx) st
        rw [this]
        congr 1
        omega) hk]
  | .skip, fs, n, st, k', _, _, hk => hk.normal st
  | .region id ops d, fs, n, st, k', _, _, hk => by
    have : (fun st' => ctxK V rec f fs kp .normal st') = fun st' => k' .normal st' := funext hk.normal
    cases d <;> simp only [evF, cut, this]
  | .rangeFunc _ _ _ _, _, _, _, _, _, _, _ => rfl
  | .exit j, fs, n, st, k', hs, _, hk => hk.exit j st (Nat.le_of_ble_eq_true hs)
  | .scope _, _, _, _, _, _, _, _ => rfl
  | .label _, fs, n, st, k', _, _, hk => hk.normal st
  | .goto _, _, _, _, _, _, _, _ => rfl
  | .ret, fs, n, st, k', _, _, hk => hk.ret st
  | .refuse _, _, _, _, _, _, _, _ => rfl
/-- What surrounds a loop, cut the same way. -/
theorem subs_cut {V : Env} {rec : Rec} {f : FuncId} {kp : K} {L : Nat → St → Option Res} :
    ∀ {c : Code} {fs fs' : List Fr} {n : Nat} {k' : K}, smallC c = true →
      (∀ j x, (subsOf c fs)[j]? = some x → ∀ st, evF V rec f (.loop x.2) st (ctxK V rec f x.1 kp) = L (n + j) st) →
      CutOK L (ctxK V rec f fs kp) (ctxK V rec f fs' k') → ∀ {j : Nat} {x : List Fr × Code} {y : List Fr}, (subsOf c fs)[j]? = some x → (subsCut n c fs')[j]? = some y →
      CutOK L (ctxK V rec f x.1 kp) (ctxK V rec f y k')
  | .loop b, fs, fs', n, k', _, hL, hk, j, x, y, hx, hy => by
    cases j with
    | zero =>
      cases hx
      cases hy
      exact hk
    | succ j => cases hx
  | .seq a b, fs, fs', n, k', hs, hL, hk, j, x, y, hx, hy => by
    simp only [smallC, Bool.and_eq_true] at hs
    have lenc : ∀ {n : Nat} {c : Code} {fs : List Fr}, (subsCut n c fs).length = nLoops c := subsCut_len
    have hLa : ∀ j x, (subsOf a (.seq b :: fs))[j]? = some x → ∀ st, evF V rec f (.loop x.2) st (ctxK V rec f x.1 kp) = L (n + j) st := fun j x hx => hL j x (by
      simp only [subsOf]
      rw [List.getElem?_append_left (List.getElem?_eq_some_iff.1 hx).1]
      exact hx)
    have hLb : ∀ j x, (subsOf b fs)[j]? = some x → ∀ st, evF V rec f (.loop x.2) st (ctxK V rec f x.1 kp) = L (n + nLoops a + j) st := fun j x hx st => by
      have := hL (nLoops a + j) x (by
        simp only [subsOf]
        rw [List.getElem?_append_right (by rw [subsOf_len]; omega), subsOf_len, Nat.add_sub_cancel_left]
        exact hx) st
      rw [this]
      congr 1
      omega
    simp only [subsOf] at hx
    simp only [subsCut] at hy
    by_cases hj : j < nLoops a
    · rw [List.getElem?_append_left (by rw [subsOf_len]; exact hj)] at hx
      rw [List.getElem?_append_left (by rw [lenc]; exact hj)] at hy
      exact subs_cut (fs' := .seq (cut (n + nLoops a) b) :: fs') hs.1 hLa ⟨fun st => cut_sound hs.2 hLb hk, hk.ret, hk.exit, hk.loop⟩ hx hy
    · rw [List.getElem?_append_right (by rw [subsOf_len]; omega), subsOf_len] at hx
      rw [List.getElem?_append_right (by rw [lenc]; omega), lenc] at hy
      exact subs_cut hs.2 hLb hk hx hy
  | .block id b, fs, fs', n, k', hs, hL, hk, j, x, y, hx, hy => by
    simp only [smallC, Bool.and_eq_true] at hs
    exact subs_cut (c := b) (fs' := .block id :: fs') hs.2 hL (blockK_cut hk (Nat.le_of_ble_eq_true hs.1)) hx hy
  | .cond c a b, fs, fs', n, k', hs, hL, hk, j, x, y, hx, hy => by
    simp only [smallC, Bool.and_eq_true] at hs
    have lenc : ∀ {n : Nat} {c : Code} {fs : List Fr}, (subsCut n c fs).length = nLoops c := subsCut_len
    simp only [subsOf] at hx
    simp only [subsCut] at hy
    by_cases hj : j < nLoops a
    · rw [List.getElem?_append_left (by rw [subsOf_len]; exact hj)] at hx
      rw [List.getElem?_append_left (by rw [lenc]; exact hj)] at hy
      exact subs_cut hs.1 (fun j x hx => hL j x (by
        simp only [subsOf]
        rw [List.getElem?_append_left (List.getElem?_eq_some_iff.1 hx).1]
        exact hx)) hk hx hy
    · rw [List.getElem?_append_right (by rw [subsOf_len]; omega), subsOf_len] at hx
      rw [List.getElem?_append_right (by rw [lenc]; omega), lenc] at hy
      exact subs_cut hs.2 (fun j x hx st => by
        have := hL (nLoops a + j) x (by
          simp only [subsOf]
          rw [List.getElem?_append_right (by rw [subsOf_len]; omega), subsOf_len, Nat.add_sub_cancel_left]
          exact hx) st
        rw [this]
        congr 1
        omega) hk hx hy
  | .skip, _, _, _, _, _, _, _, _, _, _, hx, _ => by simp [subsOf] at hx
  | .region _ _ _, _, _, _, _, _, _, _, _, _, _, hx, _ => by simp [subsOf] at hx
  | .rangeFunc _ _ _ _, _, _, _, _, _, _, _, _, _, _, hx, _ => by simp [subsOf] at hx
  | .exit _, _, _, _, _, _, _, _, _, _, _, hx, _ => by simp [subsOf] at hx
  | .scope _, _, _, _, _, _, _, _, _, _, _, hx, _ => by simp [subsOf] at hx
  | .label _, _, _, _, _, _, _, _, _, _, _, hx, _ => by simp [subsOf] at hx
  | .goto _, _, _, _, _, _, _, _, _, _, _, hx, _ => by simp [subsOf] at hx
  | .ret, _, _, _, _, _, _, _, _, _, _, hx, _ => by simp [subsOf] at hx
  | .refuse _, _, _, _, _, _, _, _, _, _, _, hx, _ => by simp [subsOf] at hx
  where subsCut_len : ∀ {n : Nat} {c : Code} {fs : List Fr}, (subsCut n c fs).length = nLoops c
  | _, .loop _, _ => rfl
  | n, .seq a b, fs => by simp only [subsCut, nLoops, List.length_append, subsCut_len (c := a), subsCut_len (c := b)]
  | n, .block _ b, fs => by simp only [subsCut, nLoops, subsCut_len (c := b)]
  | n, .cond _ a b, fs => by simp only [subsCut, nLoops, List.length_append, subsCut_len (c := a), subsCut_len (c := b)]
  | _, .skip, _ => rfl
  | _, .region _ _ _, _ => rfl
  | _, .rangeFunc _ _ _ _, _ => rfl
  | _, .exit _, _ => rfl
  | _, .scope _, _ => rfl
  | _, .label _, _ => rfl
  | _, .goto _, _ => rfl
  | _, .ret, _ => rfl
  | _, .refuse _, _ => rfl

/-! live slots -/
theorem maskL_get {keep : List Nat} : ∀ {xs : List S} {i t : Nat}, memN (i + t) keep = true → (maskL keep i xs)[t]? = xs[t]?
  | [], _, _, _ => rfl
  | s :: r, i, 0, h => by
    show some (bif memN i keep then s else junkS) = some s
    rw [show memN i keep = true from h]
    rfl
  | s :: r, i, t + 1, h => by
    show (maskL keep (i + 1) r)[t]? = r[t]?
    exact maskL_get (by rw [show i + 1 + t = i + (t + 1) by omega]; exact h)
theorem memN_of_mem : ∀ {l : List Nat} {n : Nat}, n ∈ l → memN n l = true
  | m :: r, n, h => by
    rcases List.mem_cons.1 h with rfl | h
    · simp [memN]
    · simp [memN, memN_of_mem h]
theorem mapL_mem {α β : Type} {g : α → β} : ∀ {l : List α} {x : α}, x ∈ l → g x ∈ mapL g l
  | y :: r, x, h => by
    rcases List.mem_cons.1 h with rfl | h
    · exact List.mem_cons_self
    · exact List.mem_cons_of_mem _ (mapL_mem h)
theorem topL_get : ∀ {xs : List S} {i b o : Nat} {t : Tag}, xs[i]? = some (.s (.c ⟨t, .ptr b o⟩)) → b < topL xs
  | [], _, _, _, _, h => by simp at h
  | x :: r, 0, b, o, t, h => by
    simp at h
    subst h
    show b < Nat.max (Nat.max (b + 1) 0) (topL r)
    exact Nat.lt_of_lt_of_le (Nat.lt_of_lt_of_le (Nat.lt_succ_self b) (Nat.le_max_left _ _)) (Nat.le_max_left _ _)
  | x :: r, i + 1, b, o, t, h => Nat.lt_of_lt_of_le (topL_get (xs := r) (by simpa using h)) (Nat.le_max_right _ _)
theorem keepBx_get {np : Nat} {sl : List S} {bx : List (List C)} {i b o : Nat} {t : Tag} (h : sl[i]? = some (.s (.c ⟨t, .ptr b o⟩))) : (keepBx np sl bx)[b]? = bx[b]? := by
  unfold keepBx
  cases noPtrs bx with
  | false => rfl
  | true => exact List.getElem?_take_of_lt (Nat.lt_of_lt_of_le (topL_get h) (Nat.le_max_right _ _))
/-- The slots that are looked at; and whether no box is. -/
abbrev Lv := Option MK × Bool
def St.cut (st : St) (np : Nat) (m : Lv) : St := match m.2 with
  | true => ⟨(st.mask np m.1).sl, (st.mask np m.1).bx.take np⟩
  | false => st.mask np m.1
def allTmp : List ResultVar → Bool
  | [] => true
  | .tmp _ :: r => allTmp r
  | .cell _ _ :: _ => false
theorem resL_nobx {P : Program} {sl : List S} {bx bx' : List (List C)} : ∀ {l : List ResultVar}, allTmp l = true → resL P ⟨sl, bx⟩ l = resL P ⟨sl, bx'⟩ l
  | [], _ => rfl
  | .tmp t :: r, h => by
    simp only [resL, resOne, resL_nobx (bx := bx) (bx' := bx') (l := r) h]
  | .cell _ _ :: _, h => by simp [allTmp] at h
/-- What follows an end looks at these slots alone. -/
def KOK (np : Nat) (lv : X → Lv) (k : K) : Prop := ∀ e st, k e st = k e (st.cut np (lv e))
def lvFin (can : List CanOp) (fn : Func) : X → Lv
  | .exit _ => (none, false)
  | _ => (some ⟨resTmps fn, can⟩, allTmp fn.results.toList)
theorem finS_congr {np : Nat} {o : List Bool} {xs : List S1} {bx bx' : List (List C)} (h1 : bx'.take np = bx.take np) (h2 : np ≤ bx'.length ↔ np ≤ bx.length) : finS np o xs bx' = finS np o xs bx := by
  unfold finS
  have : Nat.ble np bx'.length = Nat.ble np bx.length := by
    cases hb : Nat.ble np bx.length with
    | true => exact Nat.ble_eq_true_of_le (h2.2 (Nat.le_of_ble_eq_true hb))
    | false =>
      cases hb' : Nat.ble np bx'.length with
      | false => rfl
      | true =>
        have := Nat.ble_eq_true_of_le (h2.1 (Nat.le_of_ble_eq_true hb'))
        rw [hb] at this
        simp at this
  rw [h1, this]
theorem canAll_fx {l : List CanOp} {st : St} (h : disjointN (canFrom l) (canTo l) = true) : ∀ c ∈ l, Fx c (canAll l st) := by
  unfold canAll
  rw [h]
  have hd := disj_ne h
  exact canGo_all fun c hc d hdl g hg k hk => hd g (canFrom_mem hc g hg) k (canTo_mem hdl k hk)
theorem noB_take {g : Nat} : ∀ {l : List (List C)} {n : Nat}, noMemB g l = true → noMemB g (l.take n) = true
  | _, 0, _ => by simp [noMemB]
  | [], n + 1, _ => rfl
  | x :: r, n + 1, h => by
    simp only [noMemB, Bool.and_eq_true] at h
    simp only [List.take_succ_cons, noMemB, h.1, noB_take h.2, Bool.and_self]
theorem finK_ok {P : Program} {np : Nat} {o : List Bool} {can : List CanOp} {fn : Func} : KOK np (lvFin can fn) (finK P np o can fn) := by
  have main : ∀ st : St, finM P np o fn.results.toList (st.mask np (some ⟨resTmps fn, can⟩)) = finM P np o fn.results.toList ((st.cut np (some ⟨resTmps fn, can⟩, allTmp fn.results.toList)).mask np (some ⟨resTmps fn, can⟩)) := fun st => by
    unfold St.cut
    cases h : allTmp fn.results.toList with
    | false => exact congrArg _ mask_idem.symm
    | true =>
      show finM _ _ _ _ (st.mask np (some ⟨resTmps fn, can⟩)) = finM _ _ _ _ ((⟨(st.mask np (some ⟨resTmps fn, can⟩)).sl, (st.mask np (some ⟨resTmps fn, can⟩)).bx.take np⟩ : St).mask np (some ⟨resTmps fn, can⟩))
      have hk : Kept np (resTmps fn) (st.mask np (some ⟨resTmps fn, can⟩)) := (kept_mask (np := np) (keep := resTmps fn) (st := st)).canAll
      have hc : disjointN (canFrom can) (canTo can) = true → ∀ c ∈ can, Fx c (st.mask np (some ⟨resTmps fn, can⟩)) := fun hd => canAll_fx hd
      generalize st.mask np (some ⟨resTmps fn, can⟩) = st1 at hk hc
      have hk2 : Kept np (resTmps fn) ⟨st1.sl, st1.bx.take np⟩ := by
        refine ⟨hk.dead, ?_⟩
        show keepBx np st1.sl (st1.bx.take np) = st1.bx.take np
        unfold keepBx
        cases noPtrs (st1.bx.take np) with
        | false => rfl
        | true =>
          show (st1.bx.take np).take (Nat.max np (topL st1.sl)) = _
          rw [List.take_take, Nat.min_eq_right (Nat.le_max_left _ _)]
      have e : (⟨st1.sl, st1.bx.take np⟩ : St).mask np (some ⟨resTmps fn, can⟩) = ⟨st1.sl, st1.bx.take np⟩ := by
        refine hk2.mask.trans ?_
        show canAll can _ = _
        unfold canAll
        cases hd : disjointN (canFrom can) (canTo can) with
        | false => rfl
        | true =>
          refine canGo_fix fun c hcm => ?_
          have := hc hd c hcm
          cases c with
          | nil i e k => exact this
          | nilR i e => exact this
          | rel g => exact ⟨this.1, noB_take this.2⟩
          | ren g k => exact ⟨this.1, noB_take this.2⟩
      rw [e]
      unfold finM
      rw [resL_nobx (sl := st1.sl) (bx := st1.bx.take np) (bx' := st1.bx) h]
      show (match resL P st1 fn.results.toList with | none => none | some xs => finS np o xs st1.bx) = match resL P st1 fn.results.toList with | none => none | some xs => finS np o xs (st1.bx.take np)
      cases resL P st1 fn.results.toList with
      | none => rfl
      | some xs =>
        refine (finS_congr (bx' := st1.bx.take np) ?_ ?_).symm
        · rw [List.take_take, Nat.min_self]
        · rw [List.length_take]
          omega
  intro e st
  cases e with
  | exit j => rfl
  | normal => exact main st
  | ret => exact main st
def headM (V : Env) (f : FuncId) (c : Code) : Lv := match headR c with
  | some id => (V.mask f id, false)
  | none => (none, false)
theorem headM_evF {V : Env} {rec : Rec} {f : FuncId} {c : Code} {st : St} {k : K} : evF V rec f c st k = evF V rec f c (st.cut (V.np f) (headM V f c)) k := by
  unfold headM
  split
  · rename_i id h
    exact head_mask h
  · rfl
theorem headM_ev {V : Env} {n : Nat} {f : FuncId} {c : Code} {st : St} {k : K} : ev V n f c st k = ev V n f c (st.cut (V.np f) (headM V f c)) k := by
  cases n with
  | zero => rfl
  | succ n => exact headM_evF
def lvLoop (V : Env) (f : FuncId) (b : Code) (lv : X → Lv) : X → Lv
  | .normal => headM V f (.loop b)
  | e => lv e
theorem loopK_ok {V : Env} {n : Nat} {f : FuncId} {b : Code} {lv : X → Lv} {k : K} (h : KOK (V.np f) lv k) : KOK (V.np f) (lvLoop V f b lv) (loopK (ev V n) f b k) := by
  intro e st
  cases e with
  | normal => exact headM_ev
  | exit j => exact h (.exit j) st
  | ret => exact h .ret st
/-- What is looked at behind an end, in surroundings. -/
def lvCtx (V : Env) (f : FuncId) (lv : X → Lv) : List Fr → X → Lv
  | [], e => lv e
  | .seq b :: _, .normal => headM V f b
  | .seq _ :: r, e => lvCtx V f lv r e
  | .block id :: r, .exit j => bif Nat.beq j id then lvCtx V f lv r .normal else lvCtx V f lv r (.exit j)
  | .block _ :: r, e => lvCtx V f lv r e
theorem ctxK_ok {V : Env} {rec : Rec} {f : FuncId} {lv : X → Lv} {kf : K} (hf : KOK (V.np f) lv kf) : ∀ {fs : List Fr}, KOK (V.np f) (lvCtx V f lv fs) (ctxK V rec f fs kf)
  | [], e, st => hf e st
  | .seq b :: r, .normal, st => headM_evF
  | .seq b :: r, .exit j, st => ctxK_ok hf (fs := r) (.exit j) st
  | .seq b :: r, .ret, st => ctxK_ok hf (fs := r) .ret st
  | .block id :: r, .normal, st => ctxK_ok hf (fs := r) .normal st
  | .block id :: r, .exit j, st => by
    simp only [ctxK, blockK, lvCtx]
    cases Nat.beq j id with
    | true => exact ctxK_ok hf (fs := r) .normal st
    | false => exact ctxK_ok hf (fs := r) (.exit j) st
  | .block id :: r, .ret, st => ctxK_ok hf (fs := r) .ret st

/-- A place where code runs round: a function's body, a loop's body; what is looked at behind it. -/
structure Pl where
  body : Code
  lv : X → Lv
def funcOf (p : Program) (f : Nat) : Func := match p.funcs[f]? with
  | some fn => fn
  | none => default
def codeOf (p : Program) (f : Nat) : Code := match (funcOf p f).body with
  | some c => c
  | none => .skip
def fnPl (V : Env) (f : Nat) : Pl := ⟨codeOf V.P f, lvFin (V.fin f) (funcOf V.P f)⟩
def Pl.sub (q : Pl) (j : Nat) : List Fr × Code := (subsOf q.body []).getD j ([], .skip)
def Pl.subF (q : Pl) (j : Nat) : List Fr := (q.sub j).1
def Pl.subB (q : Pl) (j : Nat) : Code := (q.sub j).2
/-- The place of a loop within a place. -/
def Pl.at (q : Pl) (V : Env) (f j : Nat) : Pl := ⟨q.subB j, lvLoop V f (q.subB j) (lvCtx V f q.lv (q.subF j))⟩
def plK (V : Env) (f : Nat) (q : Pl) (H : K) (L : Nat → St → Option Res) : K := fun e st => match e with
  | .exit j => bif Nat.ble 1000 j then L (j - 1000) (st.cut (V.np f) (headM V f (.loop (q.subB (j - 1000))))) else H (.exit j) (st.cut (V.np f) (q.lv (.exit j)))
  | .normal => H .normal (st.cut (V.np f) (q.lv .normal))
  | .ret => H .ret (st.cut (V.np f) (q.lv .ret))
/-- The place's code, once, up to its loops. -/
def Pl.run (q : Pl) (V : Env) (rec : Rec) (f : Nat) (H : K) (L : Nat → St → Option Res) (st : St) : Option Res := evF V rec f (cut 0 q.body) st (plK V f q H L)
/-- Behind a loop of the place. -/
def Pl.behind (q : Pl) (V : Env) (rec : Rec) (f j : Nat) (H : K) (L : Nat → St → Option Res) : K := ctxK V rec f ((subsCut 0 q.body []).getD j []) (plK V f q H L)
/-- How a place goes on at a loop. -/
def Pl.go (q : Pl) (V : Env) (rec : Rec) (f : Nat) (k : K) : Nat → St → Option Res := fun j st => evF V rec f (.loop (q.subB j)) st (ctxK V rec f (q.subF j) k)
theorem plK_ok {V : Env} {rec : Rec} {f : Nat} {q : Pl} {k : K} (hk : KOK (V.np f) q.lv k) : CutOK (q.go V rec f k) k (plK V f q k (q.go V rec f k)) := by
  refine ⟨fun st => hk .normal st, fun st => hk .ret st, fun j st hj => ?_, fun j st => ?_⟩
  · show _ = bif Nat.ble 1000 j then _ else _
    rw [show Nat.ble 1000 j = false from by
      cases h : Nat.ble 1000 j with
      | false => rfl
      | true => exact absurd (Nat.le_of_ble_eq_true h) (by omega)]
    exact hk (.exit j) st
  · show (bif Nat.ble 1000 (1000 + j) then q.go V rec f k (1000 + j - 1000) (st.cut (V.np f) (headM V f (.loop (q.subB (1000 + j - 1000))))) else _) = _
    rw [show Nat.ble 1000 (1000 + j) = true from Nat.ble_eq_true_of_le (by omega), Nat.add_sub_cancel_left]
    exact headM_evF.symm
theorem Pl.go_ok {V : Env} {rec : Rec} {f : Nat} {q : Pl} {k : K} : ∀ j x, (subsOf q.body [])[j]? = some x → ∀ st, evF V rec f (.loop x.2) st (ctxK V rec f x.1 k) = q.go V rec f k (0 + j) st := by
  intro j x hx st
  rw [Nat.zero_add]
  show _ = evF V rec f (.loop ((subsOf q.body []).getD j ([], .skip)).2) st (ctxK V rec f ((subsOf q.body []).getD j ([], .skip)).1 k)
  rw [List.getD_eq_getElem?_getD, hx]
  rfl
theorem Pl.run_eq {V : Env} {rec : Rec} {f : Nat} {q : Pl} {k : K} {st : St} (hk : KOK (V.np f) q.lv k) (hs : smallC q.body = true) : evF V rec f q.body st k = q.run V rec f k (q.go V rec f k) st :=
  cut_sound (fs := []) hs Pl.go_ok (plK_ok hk)
theorem Pl.behind_eq {V : Env} {rec : Rec} {f j : Nat} {q : Pl} {k : K} {e : X} {st : St} (hk : KOK (V.np f) q.lv k) (hs : smallC q.body = true) (hj : j < nLoops q.body) (he : ∀ i, e = .exit i → i < 1000) :
    ctxK V rec f (q.subF j) k e st = q.behind V rec f j k (q.go V rec f k) e st := by
  have h1 : (subsOf q.body [])[j]? = some (q.sub j) := by
    rw [Pl.sub, List.getD_eq_getElem?_getD, List.getElem?_eq_getElem (by rw [subsOf_len]; exact hj)]
    rfl
  have h2 : (subsCut 0 q.body [])[j]? = some ((subsCut 0 q.body []).getD j []) := by
    rw [List.getD_eq_getElem?_getD, List.getElem?_eq_getElem (by rw [subs_cut.subsCut_len]; exact hj)]
    rfl
  have := subs_cut (fs := []) (fs' := []) hs (Pl.go_ok (V := V) (rec := rec) (f := f) (k := k)) (plK_ok hk) h1 h2
  cases e with
  | normal => exact this.normal st
  | ret => exact this.ret st
  | exit i => exact this.exit i st (he i rfl)
/-- A call's beginning. -/
theorem call_run {V : Env} {n f : Nat} {xs : List S1} {bx : List (List C)} (hbx : bx.length = V.np f) (hb : (match V.P.funcs[f]? with | some fn => fn.body.isSome | none => false) = true) (hs : smallC (fnPl V f).body = true) :
    callB V (n + 1) f xs bx = (fnPl V f).run V (ev V n) f (finK V.P (V.np f) (V.sig f) (V.fin f) (funcOf V.P f)) ((fnPl V f).go V (ev V n) f (finK V.P (V.np f) (V.sig f) (V.fin f) (funcOf V.P f))) (enterSt (funcOf V.P f) xs bx) := by
  rw [← Pl.run_eq (q := fnPl V f) finK_ok hs]
  show callWith V (ev V (n + 1)) f xs bx = _
  unfold callWith
  have h1 : ∀ fn, V.P.funcs[f]? = some fn → funcOf V.P f = fn := fun fn h => by unfold funcOf; rw [h]
  cases h : V.P.funcs[f]? with
  | none => rw [h] at hb; simp at hb
  | some fn =>
    rw [h] at hb
    simp only at hb ⊢
    show _ = evF V (ev V n) f (codeOf V.P f) (enterSt (funcOf V.P f) xs bx) (finK V.P (V.np f) (V.sig f) (V.fin f) (funcOf V.P f))
    unfold codeOf
    rw [h1 fn h]
    cases h2 : fn.body with
    | none => rw [h2] at hb; simp at hb
    | some c =>
      show (bif Nat.beq bx.length (V.np f) then _ else none) = _
      rw [hbx, Nat.beq_refl]
      rfl
/-- One round of a loop. -/
theorem loop_run {V : Env} {n f j : Nat} {q : Pl} {k : K} {st : St} (hk : KOK (V.np f) (lvCtx V f q.lv (q.subF j)) k) (hs : smallC (q.subB j) = true) :
    ev V (n + 1) f (.loop (q.subB j)) st k = (q.at V f j).run V (ev V n) f (loopK (ev V n) f (q.subB j) k) ((q.at V f j).go V (ev V n) f (loopK (ev V n) f (q.subB j) k)) st :=
  Pl.run_eq (q := q.at V f j) (loopK_ok hk) hs
end Go.Proofs.Ythiaaaedfidnjaa.Am

namespace Go.Proofs.Ythiaaaedfidnjaa.Am
open Go Go.RowKit

/-! # Where code goes: big steps -/
abbrev Way := Rec → K → (Nat → St → Option Res) → Option Res
/-- From here on the place's code ends so. -/
def Goes (V : Env) (f : Nat) (q : Pl) (F : Way) (e : X) (st' : St) : Prop :=
  ∃ m, ∀ n, m ≤ n → ∀ k, KOK (V.np f) q.lv k → F (ev V n) k (q.go V (ev V n) f k) = k e st'
/-- The place's loop ends so. -/
def Loops (V : Env) (f : Nat) (q : Pl) (j : Nat) (st : St) (e : X) (st' : St) : Prop :=
  ∃ m, ∀ n, m ≤ n → ∀ k, KOK (V.np f) (lvCtx V f q.lv (q.subF j)) k → ev V n f (.loop (q.subB j)) st k = k e st'
def Pl.way (q : Pl) (V : Env) (f : Nat) (st : St) : Way := fun rec H L => q.run V rec f H L st
def Pl.past (q : Pl) (V : Env) (f j : Nat) (e : X) (st : St) : Way := fun rec H L => q.behind V rec f j H L e st

variable {V : Env} {f : Nat} {q : Pl} {F F' : Way} {e e1 : X} {st st1 st' : St} {j : Nat}
theorem Goes.of (h : ∀ rec H L, F rec H L = F' rec H L) (g : Goes V f q F' e st') : Goes V f q F e st' :=
  have ⟨m, hm⟩ := g
  ⟨m, fun n hn k hk => (h _ _ _).trans (hm n hn k hk)⟩
theorem Goes.here : Goes V f q (fun _ H _ => H e st') e st' := ⟨0, fun _ _ _ _ => rfl⟩
theorem Goes.now (h : ∀ rec H L, F rec H L = H e st') : Goes V f q F e st' := Goes.of h .here
def lowX : X → Bool
  | .exit j => Nat.ble (j + 1) 1000
  | _ => true
theorem Goes.loop (hl : Loops V f q j st e1 st1) (hb : Goes V f q (q.past V f j e1 st1) e st') (hs : smallC q.body = true) (hj : Nat.ble (j + 1) (nLoops q.body) = true) (he : lowX e1 = true) :
    Goes V f q (fun _ _ L => L j st) e st' := by
  obtain ⟨m1, h1⟩ := hl
  obtain ⟨m2, h2⟩ := hb
  refine ⟨max m1 m2, fun n hn k hk => ?_⟩
  show ev V (n + 1) f (.loop (q.subB j)) st (ctxK V (ev V n) f (q.subF j) k) = _
  rw [h1 (n + 1) (by omega) _ (ctxK_ok hk), Pl.behind_eq hk hs (Nat.le_of_ble_eq_true hj) (fun i hi => by subst hi; exact Nat.le_of_ble_eq_true he)]
  exact h2 n (by omega) k hk
theorem Loops.step (h1 : Goes V f (q.at V f j) ((q.at V f j).way V f st) .normal st1) (h2 : Loops V f q j st1 e st') (hs : smallC (q.subB j) = true) : Loops V f q j st e st' := by
  obtain ⟨m1, h1⟩ := h1
  obtain ⟨m2, h2⟩ := h2
  refine ⟨max m1 m2 + 1, fun n hn k hk => ?_⟩
  obtain ⟨n, rfl⟩ : ∃ n', n = n' + 1 := ⟨n - 1, by omega⟩
  rw [loop_run hk hs]
  refine (h1 n (by omega) _ (loopK_ok hk)).trans ?_
  exact h2 n (by omega) k hk
theorem Loops.done (h1 : Goes V f (q.at V f j) ((q.at V f j).way V f st) e st') (he : e ≠ .normal) (hs : smallC (q.subB j) = true) : Loops V f q j st e st' := by
  obtain ⟨m1, h1⟩ := h1
  refine ⟨m1 + 1, fun n hn k hk => ?_⟩
  obtain ⟨n, rfl⟩ : ∃ n', n = n' + 1 := ⟨n - 1, by omega⟩
  rw [loop_run hk hs]
  refine (h1 n (by omega) _ (loopK_ok hk)).trans ?_
  cases e with
  | normal => exact absurd rfl he
  | exit i => rfl
  | ret => rfl
def fnWayB (V : Env) (f : Nat) (xs : List S1) (bx : List (List C)) : Way := (fnPl V f).way V f (enterSt (funcOf V.P f) xs bx)
abbrev fnWay (V : Env) (f : Nat) (xs : List S1) : Way := fnWayB V f xs []
def okFn (V : Env) (f : Nat) : Bool := (match V.P.funcs[f]? with | some fn => fn.body.isSome | none => false) && smallC (fnPl V f).body
theorem Goes.callB {xs : List S1} {bx : List (List C)} {r : Res} (g : Goes V f (fnPl V f) (fnWayB V f xs bx) e st') (hr : finK V.P (V.np f) (V.sig f) (V.fin f) (funcOf V.P f) e st' = some r) (hok : okFn V f = true) (hbx : bx.length = V.np f) : ∃ n, callB V n f xs bx = some r := by
  simp only [okFn, Bool.and_eq_true] at hok
  obtain ⟨m, hm⟩ := g
  exact ⟨m + 1, (call_run hbx hok.1 hok.2).trans ((hm m (Nat.le_refl _) _ finK_ok).trans hr)⟩
theorem Goes.call {xs : List S1} {r : Res} (g : Goes V f (fnPl V f) (fnWay V f xs) e st') (hr : finK V.P (V.np f) (V.sig f) (V.fin f) (funcOf V.P f) e st' = some r) (hok : okFn V f = true) (hnp : V.np f = 0 := by rfl) : ∃ n, call V n f xs = some r :=
  Goes.callB g hr hok hnp.symm
theorem br_t {a b : Option Res} : br true a b = a := rfl
theorem br_f {a b : Option Res} : br false a b = b := rfl
end Go.Proofs.Ythiaaaedfidnjaa.Am

namespace Go.Proofs.Ythiaaaedfidnjaa.Am
open Go Go.RowKit

theorem w64_id {x : Int} (h1 : -9223372036854775808 ≤ x) (h2 : x < 9223372036854775808) : IntKind.i64.wrap x = x := by
  simp [IntKind.wrap, IntKind.bits, IntKind.signed]
  split <;> omega
theorem wu8_eq (x : Int) : IntKind.u8.wrap x = x % 256 := by
  simp [IntKind.wrap, IntKind.bits, IntKind.signed]
theorem wu16_eq (x : Int) : IntKind.u16.wrap x = x % 65536 := by
  simp [IntKind.wrap, IntKind.bits, IntKind.signed]
theorem wu32_eq (x : Int) : IntKind.u32.wrap x = x % 4294967296 := by
  simp [IntKind.wrap, IntKind.bits, IntKind.signed]
theorem wu64_eq (x : Int) : IntKind.u64.wrap x = x % 18446744073709551616 := by
  simp [IntKind.wrap, IntKind.bits, IntKind.signed]

theorem inR_yes {i : Int} {n : Nat} (h1 : 0 ≤ i) (h2 : i < (n : Int)) : inR i n = true := by simp [inR, h1, h2]
theorem leR_yes {i : Int} {n : Nat} (h1 : 0 ≤ i) (h2 : i ≤ (n : Int)) : leR i n = true := by simp [leR, h1, h2]

/-- What is reckoned step by step. -/
def itr {α : Type} (g : Nat → α → α) (a : α) : Nat → α
  | 0 => a
  | n + 1 => g n (itr g a n)

theorem itr_append {α : Type} {g : Nat → α} : ∀ {n : Nat} {xs : List α}, (itr (fun i o => o ++ [g i]) xs n).length = xs.length + n
  | 0, _ => rfl
  | n + 1, xs => by simp only [itr, List.length_append, itr_append (n := n), List.length_singleton]; omega
theorem br_pos {c : Bool} {a b : Option Res} (h : c = true) : br c a b = a := by rw [h]; rfl
theorem br_neg {c : Bool} {a b : Option Res} (h : c = false) : br c a b = b := by rw [h]; rfl
theorem br_if {c : Bool} {α : Type} {F : α → Option Res} {a b : α} : br c (F a) (F b) = F (bif c then a else b) := by cases c <;> rfl
theorem br_eqs {c : Bool} {a b r : Option Res} (h1 : c = true → a = r) (h2 : c = false → b = r) : br c a b = r := by
  cases c with
  | true => exact h1 rfl
  | false => exact h2 rfl
variable {V : Env} {f : Nat} {q : Pl} {e : X} {st' : St} {j : Nat}
theorem Loops.many {S : Nat → St} {n : Nat} (hs : smallC (q.subB j) = true) (h1 : ∀ i, i < n → Goes V f (q.at V f j) ((q.at V f j).way V f (S i)) .normal (S (i + 1))) (h2 : Loops V f q j (S n) e st') :
    ∀ d i, i + d = n → Loops V f q j (S i) e st'
  | 0, i, h => by
    obtain rfl : i = n := by omega
    exact h2
  | d + 1, i, h => Loops.step (h1 i (by omega)) (Loops.many hs h1 h2 d (i + 1) (by omega)) hs
theorem Loops.count {S : Nat → St} {n : Nat} (hs : smallC (q.subB j) = true) (h1 : ∀ i, i < n → Goes V f (q.at V f j) ((q.at V f j).way V f (S i)) .normal (S (i + 1)))
    (h2 : Goes V f (q.at V f j) ((q.at V f j).way V f (S n)) e st') (he : e ≠ .normal) : Loops V f q j (S 0) e st' :=
  Loops.many hs h1 (Loops.done h2 he hs) n 0 (by omega)
end Go.Proofs.Ythiaaaedfidnjaa.Am

namespace Go.Proofs.Ythiaaaedfidnjaa.Am
open Go Go.RowKit

/-! # What comes in from outside: rows and structs of words -/
/-- The cells of one element. -/
def valsC : (c : CL) → c.den → List Value
  | .int k, n => [.int k n]
  | .bool, b => [.bool b]
  | .str, s => [.string s]
  | .sl _, _ => []
  | .cons c r, x => valsC c x.1 ++ valsC r x.2
/-- Whole numbers in their ranges. -/
def okd : (c : CL) → c.den → Prop
  | .int k, n => (Lit.int k n).wf = true
  | .bool, _ => True
  | .str, s => s.size ≤ maxLen
  | .sl _, _ => True
  | .cons c r, x => okd c x.1 ∧ okd r x.2
def fieldsOK (P : Program) (f : TypeId → CL → Bool) : List Field → Nat → CL → Bool
  | [x], o, c => Nat.beq x.offset o && f x.type c && Nat.beq (P.cellsOf x.type) c.size
  | x :: y :: r, o, .cons c d => Nat.beq x.offset o && f x.type c && Nat.beq (P.cellsOf x.type) c.size && fieldsOK P f (y :: r) (o + c.size) d
  | _, _, _ => false
/-- A type is made so, of words alone, each behind the other. -/
def flatOK (P : Program) : Nat → TypeId → CL → Bool
  | 0, _, _ => false
  | n + 1, t, c => match P.underlying t with
    | some (.int k) => (match c with | .int k' => ikBeq k k' | _ => false)
    | some .bool => (match c with | .bool => true | _ => false)
    | some .string => (match c with | .str => true | _ => false)
    | some (.struct fs) => Nat.beq (P.cellsOf t) c.size && fieldsOK P (flatOK P n) fs.toList 0 c
    | _ => false
section
variable {H : Type} {enc : TypeId × Value → H} {P : Program} {w : World} {base : Nat} {spare : Nat → Bool} {held : Bool}
theorem drop_take_split {α : Type} (l : List α) (o a b : Nat) : (l.drop o).take (a + b) = (l.drop o).take a ++ (l.drop (o + a)).take b := by
  rw [List.take_add, List.drop_drop]
theorem fields_vals {f : TypeId → CL → Bool} {n : Nat} {cs : List Value}
    (hf : ∀ {t : TypeId} {c : CL} {ds : List Value} {x : DataW H × List MemPlace}, f t c = true → DataW.trod enc P w base spare held n t ds = some x → ∃ y : c.den, ds = valsC c y ∧ okd c y) :
    ∀ {fs : List Field} {o : Nat} {c : CL}, fieldsOK P f fs o c = true → (∀ x ∈ fs, ∃ y, DataW.trod enc P w base spare held n x.type ((cs.drop x.offset).take (P.cellsOf x.type)) = some y) →
      ∃ y : c.den, (cs.drop o).take c.size = valsC c y ∧ okd c y
  | [x], o, c, h, hx => by
    simp only [fieldsOK, Bool.and_eq_true] at h
    obtain ⟨z, hz⟩ := hx x (by simp)
    rw [Nat.eq_of_beq_eq_true h.1.1, Nat.eq_of_beq_eq_true h.2] at hz
    exact hf h.1.2 hz
  | x :: y :: r, o, .cons c d, h, hx => by
    simp only [fieldsOK, Bool.and_eq_true] at h
    obtain ⟨z, hz⟩ := hx x (by simp)
    rw [Nat.eq_of_beq_eq_true h.1.1.1, Nat.eq_of_beq_eq_true h.1.2] at hz
    obtain ⟨y1, h1, k1⟩ := hf h.1.1.2 hz
    obtain ⟨y2, h2, k2⟩ := fields_vals hf h.2 fun z hz => hx z (List.mem_cons_of_mem _ hz)
    refine ⟨(y1, y2), ?_, k1, k2⟩
    show (cs.drop o).take (c.size + d.size) = valsC c y1 ++ valsC d y2
    rw [drop_take_split, h1, h2]
  | [], _, _, h, _ => by simp [fieldsOK] at h
  | _ :: _ :: _, _, .int _, h, _ => by simp [fieldsOK] at h
  | _ :: _ :: _, _, .bool, h, _ => by simp [fieldsOK] at h
  | _ :: _ :: _, _, .str, h, _ => by simp [fieldsOK] at h
  | _ :: _ :: _, _, .sl _, h, _ => by simp [fieldsOK] at h
theorem flat_vals : ∀ {m : Nat} {t : TypeId} {c : CL} {n : Nat} {cs : List Value} {x : DataW H × List MemPlace}, flatOK P m t c = true → DataW.trod enc P w base spare held n t cs = some x →
    ∃ y : c.den, cs = valsC c y ∧ okd c y
  | 0, _, _, _, _, _, h, _ => by simp [flatOK] at h
  | m + 1, t, c, n, cs, x, h, hd => by
    unfold flatOK at h
    split at h
    · rename_i k ht
      split at h
      · rename_i k'
        obtain ⟨z, rfl, _, hw⟩ := DataW.trod_int ht hd
        rw [ikBeq_eq h] at *
        exact ⟨z, rfl, hw⟩
      · simp at h
    · rename_i ht
      split at h
      · obtain ⟨z, rfl, _⟩ := DataW.trod_bool ht hd
        exact ⟨z, rfl, trivial⟩
      · simp at h
    · rename_i ht
      split at h
      · obtain ⟨z, rfl, _, hs⟩ := DataW.trod_string ht hd
        exact ⟨z, rfl, hs⟩
      · simp at h
    · rename_i fs ht
      simp only [Bool.and_eq_true] at h
      obtain ⟨xs, k, rfl, _, hl, hxs, hf⟩ := DataW.trod_struct ht hd
      obtain ⟨y, hy, ky⟩ := fields_vals (enc := enc) (w := w) (base := base) (spare := spare) (held := held) (n := k) (cs := cs) (fun h1 h2 => flat_vals h1 h2) h.2 fun z hz => by
        obtain ⟨i, hi, rfl⟩ := List.getElem_of_mem hz
        have hi' : i < fs.size := by simpa using hi
        have := hf i fs[i] (by rw [Array.getElem?_eq_getElem hi'])
        refine ⟨xs[i], ?_⟩
        rw [Array.getElem_toList, this, List.getElem?_eq_getElem (by omega)]
      refine ⟨y, ?_, ky⟩
      rw [← hy, List.drop_zero, ← Nat.eq_of_beq_eq_true h.1, ← hl, List.take_length]
    · simp at h
theorem vals_sees {M : Mem} {b : Nat} : ∀ {c : CL} {y : c.den} {o : Nat}, c.flat = true → (∀ i v, (valsC c y)[i]? = some v → memOf w b (o + i) = some v) → (valsC c y).length = c.size → c.sees (memOf w) M b o y
  | .int k, n, o, _, h, _ => h 0 _ rfl
  | .bool, x, o, _, h, _ => h 0 _ rfl
  | .str, s, o, _, h, _ => h 0 _ rfl
  | .sl e, _, _, hf, _, _ => by simp [CL.flat] at hf
  | .cons c r, y, o, hf, h, _ => by
    simp only [CL.flat, Bool.and_eq_true] at hf
    have l1 : (valsC c y.1).length = c.size := vals_size hf.1
    refine ⟨vals_sees hf.1 (fun i v hv => h i v ?_) l1, vals_sees hf.2 (fun i v hv => ?_) (vals_size hf.2)⟩
    · show (valsC c y.1 ++ valsC r y.2)[i]? = some v
      rw [List.getElem?_append_left (List.getElem?_eq_some_iff.1 hv).1]
      exact hv
    · have := h (c.size + i) v (by
        show (valsC c y.1 ++ valsC r y.2)[c.size + i]? = some v
        rw [List.getElem?_append_right (by omega), l1, Nat.add_sub_cancel_left]
        exact hv)
      rw [← Nat.add_assoc] at this
      exact this
  where vals_size : ∀ {c : CL} {y : c.den}, c.flat = true → (valsC c y).length = c.size
  | .int k, n, _ => rfl
  | .bool, x, _ => rfl
  | .str, s, _ => rfl
  | .sl e, _, hf => by simp [CL.flat] at hf
  | .cons c r, y, hf => by
    simp only [CL.flat, Bool.and_eq_true] at hf
    show (valsC c y.1 ++ valsC r y.2).length = c.size + r.size
    rw [List.length_append, vals_size hf.1, vals_size hf.2]
theorem addr_addN (b o n : Nat) : (⟨b, o, none⟩ : Addr).add n = ⟨b, o + n, none⟩ := by
  unfold Addr.add
  split
  · rename_i h
    subst h
    rfl
  · rfl
/-- A row that came in. -/
theorem row_in {t e : TypeId} {c : CL} {n : Nat} {cs : List Value} {x : DataW H × List MemPlace} (ht : P.underlying t = some (.slice e)) (hc : flatOK P 8 e c = true) (hfl : c.flat = true) (hsz : P.cellsOf e = c.size)
    (hspot : ∀ a len cap, cs = [.slice (some a) len cap] → a.spot = none) (h : DataW.trod enc P w base spare held n t cs = some x) :
    ∃ nl xs u, cs = [u] ∧ IsRow (c.sees (memOf w) (memOf w)) c.size nl xs u ∧ (∀ y ∈ xs, okd c y) ∧ xs.length ≤ maxLen := by
  rcases DataW.trod_slice ht h with ⟨rfl, _⟩ | ⟨a, len, cap, elems, rest, k, _, rfl, _, hb, hl, hm, hlen, hel, _, _⟩
  · exact ⟨true, [], _, rfl, .inl ⟨rfl, rfl, rfl⟩, fun _ h => by simp at h, Nat.zero_le _⟩
  · have each : ∀ i, i < len → ∃ y : c.den, w.cells? base (a.add (i * c.size)) c.size = some (valsC c y) ∧ okd c y := by
      intro i hi
      have := hel i hi
      rw [List.getElem?_eq_getElem (by omega), hsz, Option.bind_eq_some_iff] at this
      obtain ⟨ds, h1, h2⟩ := this
      obtain ⟨y, rfl, hy⟩ := flat_vals hc h2
      exact ⟨y, h1, hy⟩
    have hsp := hspot a len cap rfl
    obtain ⟨b, o, s⟩ := a
    change s = none at hsp
    subst hsp
    have hex : ∀ m, m ≤ len → ∃ xs : List c.den, xs.length = m ∧ ∀ i y, xs[i]? = some y → w.cells? base ((⟨b, o, none⟩ : Addr).add (i * c.size)) c.size = some (valsC c y) ∧ okd c y := by
      intro m
      induction m with
      | zero => exact fun _ => ⟨[], rfl, fun i y h => by simp at h⟩
      | succ m ih =>
        intro hm'
        obtain ⟨xs, h1, h2⟩ := ih (by omega)
        obtain ⟨y, hy⟩ := each m (by omega)
        refine ⟨xs ++ [y], by simp [h1], fun i z hz => ?_⟩
        by_cases hi : i < xs.length
        · rw [List.getElem?_append_left hi] at hz
          exact h2 i z hz
        · rw [List.getElem?_append_right (by omega)] at hz
          have : i - xs.length = 0 := by
            have := (List.getElem?_eq_some_iff.1 hz).1
            simp at this
            omega
          rw [this] at hz
          simp at hz
          subst hz
          rw [show i = m by omega]
          exact hy
    obtain ⟨xs, h1, h2⟩ := hex len (Nat.le_refl _)
    subst h1
    refine ⟨false, xs, _, rfl, .inr ⟨rfl, b, o, cap, rfl, hl, fun i y hy => ?_⟩, fun y hy => ?_, by omega⟩
    · obtain ⟨h3, _⟩ := h2 i y hy
      obtain ⟨_, _, h4⟩ := World.cells?_some h3
      refine vals_sees hfl (fun j v hv => ?_) (vals_sees.vals_size hfl)
      have hj : j < c.size := by
        rw [← vals_sees.vals_size (y := y) hfl]
        exact (List.getElem?_eq_some_iff.1 hv).1
      have := h4 j hj
      rw [hv] at this
      rw [← this]
      rw [addr_addN, addr_addN]
      rfl
    · obtain ⟨i, hi⟩ := List.getElem?_of_mem hy
      exact (h2 i y hi).2
theorem spot_of {r : Reach} {b0 : Nat} {t e : TypeId} {v : Value} (ht : P.underlying t = some (.slice e)) (hv : Value.okWide P w r b0 t v) : ∀ a len cap, v.cells.toList = [.slice (some a) len cap] → a.spot = none := by
  intro a len cap hc
  obtain ⟨a', len', cap', rfl⟩ := Go.WideShapes.okWide_slice ht hv
  have hc' : ([.slice a' len' cap'] : List Value) = [.slice (some a) len cap] := hc
  simp only [List.cons.injEq, Value.slice.injEq, and_true] at hc'
  obtain ⟨rfl, rfl, rfl⟩ := hc'
  unfold Value.okWide at hv
  rw [ht] at hv
  simp only [Cell.okWide, Cell.ok, ht] at hv
  exact hv.2.2.2.1
end
end Go.Proofs.Ythiaaaedfidnjaa.Am

namespace Go.Proofs.Ythiaaaedfidnjaa.Am
open Go Go.RowKit

/-! small words for contracts -/
abbrev bS (nl : Bool) (xs : List Int) : S1 := .c ⟨.ro, .sl (.int .u8) nl xs⟩
abbrev wS (k : IntKind) (n : Int) : S1 := .c (vC (.int k n))
abbrev tS (b : Bool) : S1 := .c (vC (.bool b))
abbrev ok (s : S) : Tree := .leaf (some (s, []))
abbrev okB (s : S) (bx : List (List C)) : Tree := .leaf (some (s, bx))
abbrev no : Tree := .leaf none
theorem leaf_none {r : Res} {p : Prop} (h : (no : Tree).den = some r) : p := by cases h
theorem ok_some {s : S} {bx : List (List C)} {r : Res} (h : (okB s bx).den = some r) : r = (s, bx) := by cases h; rfl
theorem tree_br {c : Bool} {a b : Tree} {r : Res} (h : (Tree.br c a b).den = some r) : (c = true ∧ a.den = some r) ∨ (c = false ∧ b.den = some r) := by
  cases c with
  | true => exact .inl ⟨rfl, h⟩
  | false => exact .inr ⟨rfl, h⟩
theorem tree_yes {c : Bool} {a : Tree} {r : Res} (h : (Tree.br c a no).den = some r) : c = true ∧ a.den = some r := by
  rcases tree_br h with h | ⟨_, h⟩
  · exact h
  · exact leaf_none h
theorem tree_not {c : Bool} {a : Tree} {r : Res} (h : (Tree.br c no a).den = some r) : c = false ∧ a.den = some r := by
  rcases tree_br h with ⟨_, h⟩ | h
  · exact leaf_none h
  · exact h
theorem notT {b : Bool} (h : b = true) : (!b) = false := by rw [h]; rfl
theorem notF {b : Bool} (h : b = false) : (!b) = true := by rw [h]; rfl
theorem fits_small {n b : Nat} (h : n ≤ 1000000000) (hb : b ≤ 64) : fits n b = true := decide_eq_true (by
  have := Nat.mul_le_mul h hb
  unfold LIM
  omega)
theorem itr1 {α : Type} (g : Nat → α → α) (a : α) : itr g a 1 = g 0 a := rfl
theorem itr_head {α : Type} {g : Nat → α → α} {a : α} : ∀ n, itr g a (n + 1) = itr (fun i => g (i + 1)) (g 0 a) n
  | 0 => rfl
  | n + 1 => by
    rw [itr, itr_head n]
    rfl
abbrev SOKP (P : Program) (l : Stubs) : Prop := ∀ V' : Env, V'.P = P → V'.stub = Stubs.look l → StubOK V'
end Go.Proofs.Ythiaaaedfidnjaa.Am

namespace Go.Proofs.Ythiaaaedfidnjaa.Am
open Go Go.RowKit
/-! # Small laws of words and bytes -/
abbrev w8 := IntKind.u8.wrap
abbrev w32 := IntKind.u32.wrap
abbrev w64u := IntKind.u64.wrap
def inB (xs : List Int) : Prop := ∀ x ∈ xs, 0 ≤ x ∧ x < 256
theorem w8_id {x : Int} (h1 : 0 ≤ x) (h2 : x < 256) : w8 x = x := by
  show IntKind.u8.wrap x = x
  rw [wu8_eq]
  exact Int.emod_eq_of_lt h1 h2
theorem w32_id {x : Int} (h1 : 0 ≤ x) (h2 : x < 4294967296) : w32 x = x := by
  show IntKind.u32.wrap x = x
  rw [wu32_eq]
  exact Int.emod_eq_of_lt h1 h2
theorem w64u_id {x : Int} (h1 : 0 ≤ x) (h2 : x < 18446744073709551616) : w64u x = x := by
  show IntKind.u64.wrap x = x
  rw [wu64_eq]
  exact Int.emod_eq_of_lt h1 h2
theorem w64u_lt (x : Int) : w64u x < 18446744073709551616 := by
  show IntKind.u64.wrap x < _
  rw [wu64_eq]
  exact Int.emod_lt_of_pos _ (by decide)
theorem w64u_ge (x : Int) : 0 ≤ w64u x := by
  show 0 ≤ IntKind.u64.wrap x
  rw [wu64_eq]
  exact Int.emod_nonneg _ (by decide)
theorem w32_ge (x : Int) : 0 ≤ w32 x := by
  show 0 ≤ IntKind.u32.wrap x
  rw [wu32_eq]
  exact Int.emod_nonneg _ (by decide)
theorem w32_lt (x : Int) : w32 x < 4294967296 := by
  show IntKind.u32.wrap x < _
  rw [wu32_eq]
  exact Int.emod_lt_of_pos _ (by decide)
theorem w8_ge (x : Int) : 0 ≤ w8 x := by
  show 0 ≤ IntKind.u8.wrap x
  rw [wu8_eq]
  exact Int.emod_nonneg _ (by decide)
theorem w8_lt (x : Int) : w8 x < 256 := by
  show IntKind.u8.wrap x < _
  rw [wu8_eq]
  exact Int.emod_lt_of_pos _ (by decide)
theorem baLoop_eq (bs : ByteArray) : ∀ (d i : Nat) (r : List UInt8), i + d = bs.size → ByteArray.toList.loop bs i r = r.reverse ++ bs.data.toList.drop i
  | 0, i, r, h => by
    rw [ByteArray.toList.loop, if_neg (by omega), List.drop_of_length_le (by rw [Array.length_toList]; show bs.size ≤ i; omega), List.append_nil]
  | d + 1, i, r, h => by
    have hi : i < bs.data.toList.length := by rw [Array.length_toList]; show i < bs.size; omega
    rw [ByteArray.toList.loop, if_pos (by omega), baLoop_eq bs d (i + 1) _ (by omega), List.reverse_cons, List.append_assoc, List.drop_eq_getElem_cons hi]
    have e : bs.get! i = bs.data.toList[i] := by
      show bs.data[i]! = _
      rw [getElem!_pos bs.data i (by rw [Array.length_toList] at hi; exact hi)]
      simp
    rw [e]
    rfl
theorem baOf_list (xs : List Int) : (baOf xs).toList = xs.map fun n => UInt8.ofNat n.toNat := by
  have h : (baOf xs).toList = (baOf xs).data.toList := by
    unfold ByteArray.toList
    rw [baLoop_eq (baOf xs) (baOf xs).size 0 [] (by omega)]
    rfl
  rw [h]
  rfl
theorem baOf_inj {xs ys : List Int} (h1 : inB xs) (h2 : inB ys) (h : (baOf xs).toList = (baOf ys).toList) : xs = ys := by
  rw [baOf_list, baOf_list] at h
  have hu : ∀ x : Int, 0 ≤ x → x < 256 → ((UInt8.ofNat x.toNat).toNat : Int) = x := fun x h0 h1 => by
    rw [UInt8.toNat_ofNat']
    omega
  induction xs generalizing ys with
  | nil => cases ys with
    | nil => rfl
    | cons y t => simp at h
  | cons x r ih => cases ys with
    | nil => simp at h
    | cons y t =>
      simp only [List.map_cons, List.cons.injEq] at h
      have hx := h1 x (by simp)
      have hy := h2 y (by simp)
      have : x = y := by
        rw [← hu x hx.1 hx.2, ← hu y hy.1 hy.2, h.1]
      rw [this, ih (fun z hz => h1 z (by simp [hz])) (fun z hz => h2 z (by simp [hz])) h.2]
theorem baL {xs ys : List Int} (h : xs = ys) : ((baOf xs).toList == (baOf ys).toList) = true := by rw [h, beq_self_eq_true]
theorem baNe {xs ys : List Int} (h : xs.length ≠ ys.length) : ((baOf xs).toList == (baOf ys).toList) = false := by
  cases hb : ((baOf xs).toList == (baOf ys).toList) with
  | false => rfl
  | true =>
    exfalso
    have h1 := congrArg List.length (eq_of_beq hb)
    rw [baOf_list, baOf_list, List.length_map, List.length_map] at h1
    exact h h1
theorem baBeq {xs ys : List Int} (h1 : inB xs) (h2 : inB ys) : ((baOf xs).toList == (baOf ys).toList) = decide (xs = ys) := by
  by_cases h : xs = ys
  · rw [decide_eq_true h, baL h]
  · rw [decide_eq_false h]
    cases hb : ((baOf xs).toList == (baOf ys).toList) with
    | false => rfl
    | true => exact absurd (baOf_inj h1 h2 (eq_of_beq hb)) h
theorem wf_u8 {x : Int} (h : (Lit.int .u8 x).wf = true) : 0 ≤ x ∧ x < 256 := by
  have : 0 ≤ x ∧ x ≤ 255 := by simpa [Lit.wf, IntKind.min, IntKind.max, IntKind.signed, IntKind.bits] using h
  omega
theorem wf_u16 {x : Int} (h : (Lit.int .u16 x).wf = true) : 0 ≤ x ∧ x < 65536 := by
  have : 0 ≤ x ∧ x ≤ 65535 := by simpa [Lit.wf, IntKind.min, IntKind.max, IntKind.signed, IntKind.bits] using h
  omega
theorem wf_u32 {x : Int} (h : (Lit.int .u32 x).wf = true) : 0 ≤ x ∧ x < 4294967296 := by
  have : 0 ≤ x ∧ x ≤ 4294967295 := by simpa [Lit.wf, IntKind.min, IntKind.max, IntKind.signed, IntKind.bits] using h
  omega
theorem wf_u64 {x : Int} (h : (Lit.int .u64 x).wf = true) : 0 ≤ x ∧ x < 18446744073709551616 := by
  have : 0 ≤ x ∧ x ≤ 18446744073709551615 := by simpa [Lit.wf, IntKind.min, IntKind.max, IntKind.signed, IntKind.bits] using h
  omega
theorem wf_i64 {x : Int} (h : (Lit.int .i64 x).wf = true) : -9223372036854775808 ≤ x ∧ x < 9223372036854775808 := by
  have : -9223372036854775808 ≤ x ∧ x ≤ 9223372036854775807 := by simpa [Lit.wf, IntKind.min, IntKind.max, IntKind.signed, IntKind.bits] using h
  omega
theorem fin_nat {p : Nat → Prop} {n : Nat} (h : ∀ i : Fin n, p i.val) : ∀ k, k < n → p k := fun k hk => h ⟨k, hk⟩
theorem nth_drop {e : CL} {xs : List e.den} {i : Nat} (h : i < xs.length) : xs.drop i = nth e xs i :: xs.drop (i + 1) := by
  rw [List.drop_eq_getElem_cons h]
  congr 1
  unfold nth
  rw [List.getD_eq_getElem?_getD, List.getElem?_eq_getElem h]
  rfl
theorem fdiv_pos (v : Int) {d : Int} (h : 0 ≤ d) : v.fdiv d = v / d := Int.fdiv_eq_ediv_of_nonneg v h
theorem u8_id {x : Int} (h1 : 0 ≤ x) (h2 : x < 256) : IntKind.u8.wrap x = x := w8_id h1 h2
theorem u32_id {x : Int} (h1 : 0 ≤ x) (h2 : x < 4294967296) : IntKind.u32.wrap x = x := w32_id h1 h2
theorem u64_id {x : Int} (h1 : 0 ≤ x) (h2 : x < 18446744073709551616) : IntKind.u64.wrap x = x := w64u_id h1 h2
theorem tmod_id {a k : Int} (h : 0 ≤ a) : a.tmod k = a % k := Int.tmod_eq_emod_of_nonneg h
theorem len1 {α : Type} {o : List α} {x : α} : o.length + [x].length = o.length + 1 := rfl
end Go.Proofs.Ythiaaaedfidnjaa.Am

namespace Go.Proofs.Ythiaaaedfidnjaa.Am
open Go Go.RowKit
/-! # Answers told less finely -/
def headO : List (List (Option CL)) → List (Option CL)
  | [] => []
  | o :: _ => o
def coRet (os : List (List (Option CL))) : S → S
  | .s x => .s (coS (headO os) x)
  | .tup xs => .tup (coArgs os xs)
  | .dead => .dead
theorem groups_cons (c : C) (l l' : List C) (h : (groupsC l).Sublist (groupsC l')) (o : Option CL) : (groupsC (coC o c :: l)).Sublist (groupsC (c :: l')) := by
  unfold coC
  split
  · rename_i e t
    cases t with
    | ro => exact h
    | own g s => exact .cons _ h
  · obtain ⟨t, av⟩ := c
    cases t with
    | ro => exact h
    | own g s => exact .cons_cons _ h
theorem groups_coCs : ∀ {os : List (Option CL)} {cs : List C}, (groupsC (coCs os cs)).Sublist (groupsC cs)
  | [], _ => .refl _
  | _ :: _, [] => .refl _
  | o :: os, c :: cs => groups_cons c _ _ groups_coCs o
theorem groups_app : ∀ {a b : List C}, groupsC (a ++ b) = groupsC a ++ groupsC b
  | [], _ => rfl
  | ⟨.ro, _⟩ :: a, b => groups_app (a := a)
  | ⟨.own g s, _⟩ :: a, b => by
    show g :: groupsC (a ++ b) = g :: (groupsC a ++ groupsC b)
    rw [groups_app]
theorem groups_coS {os : List (Option CL)} {x : S1} : (groupsC (coS os x).cells).Sublist (groupsC x.cells) := by
  cases x with
  | c x => cases os with
    | nil => exact .refl _
    | cons o r => exact groups_cons x [] [] (.refl _) o
  | agg xs => cases os <;> exact groups_coCs
theorem groups_coArgs : ∀ {os : List (List (Option CL))} {xs : List S1}, (groupsC (cellsAll (coArgs os xs))).Sublist (groupsC (cellsAll xs))
  | [], _ => .refl _
  | _ :: _, [] => .refl _
  | o :: os, x :: xs => by
    show (groupsC ((coS o x).cells ++ cellsAll (coArgs os xs))).Sublist (groupsC (x.cells ++ cellsAll xs))
    rw [groups_app, groups_app]
    exact groups_coS.append groups_coArgs
theorem groups_coRet {os : List (List (Option CL))} {s : S} : (groupsC (cellsOfS (coRet os s))).Sublist (groupsC (cellsOfS s)) := by
  cases s with
  | s x => exact groups_coS
  | tup xs => exact groups_coArgs
  | dead => exact .refl _
theorem noBox_sub {np : Nat} : ∀ {l l' : List Nat}, l.Sublist l' → noBox np l' = true → noBox np l = true
  | _, _, .slnil, _ => rfl
  | _, _, .cons a h, hb => by
    simp only [noBox, Bool.and_eq_true] at hb
    exact noBox_sub h hb.2
  | _, _, .cons_cons a h, hb => by
    simp only [noBox, Bool.and_eq_true] at hb ⊢
    exact ⟨hb.1, noBox_sub h hb.2⟩
theorem coRet_rel {g : G} {w : World} {os : List (List (Option CL))} {s : S} {u : Value} (h : RelS g w s u) : RelS g w (coRet os s) u := by
  cases s with
  | s x => exact coS_rel (s := x) h
  | tup xs =>
    obtain ⟨us, h1, h2⟩ := h
    exact ⟨us, h1, coArgs_rel h2⟩
  | dead => exact h
/-- What is known, told less finely: nil is an empty slice. -/
theorem known_weak {P : Program} {f : FuncId} {h h2 : Stub} (os : List (List (Option CL))) (k : Known P f h) (hw : ∀ as bx s bx', (h2 as bx).den = some (s, bx') → ∃ s0, (h as bx).den = some (s0, bx') ∧ s = coRet os s0) : Known P f h2 := by
  intro as bx s bx' hd args w g0 F hE ha
  obtain ⟨s0, h1, rfl⟩ := hw as bx s bx' hd
  refine (k as bx s0 bx' h1 args w g0 F hE ha).mono ?_
  rintro e w' ⟨v, rfl, g, r1, r2, r3, r4, r5, r6⟩
  exact ⟨v, rfl, g, r1, coRet_rel r2, r3.sublist groups_coRet, r4, r5, noBox_sub groups_coRet r6⟩
theorem look_app (l l' : Stubs) (f : FuncId) : Stubs.look (l ++ l') f = match Stubs.look l f with | some h => some h | none => Stubs.look l' f := by
  induction l with
  | nil => rfl
  | cons x r ih =>
    show (bif Nat.beq x.1 f then some x.2 else Stubs.look (r ++ l') f) = match (bif Nat.beq x.1 f then some x.2 else Stubs.look r f) with | some h => some h | none => Stubs.look l' f
    cases Nat.beq x.1 f with
    | true => rfl
    | false => exact ih
theorem sok_app {P : Program} {l l' : Stubs} (h : SOKP P l) (h' : SOKP P l') : SOKP P (l ++ l') := by
  intro V hP hV f as bx s bx' hc
  replace hc : (match Stubs.look (l ++ l') f with | some h => h as bx | none => .leaf none : Tree).den = some (s, bx') := by rw [hV] at hc; exact hc
  rw [look_app] at hc
  cases hl : Stubs.look l f with
  | some q =>
    rw [hl] at hc
    have hS : StubOK { V with stub := Stubs.look l } := h { V with stub := Stubs.look l } hP rfl
    exact hS f as bx s bx' (by show (match Stubs.look l f with | some h => h as bx | none => .leaf none : Tree).den = _; rw [hl]; exact hc)
  | none =>
    rw [hl] at hc
    have hS : StubOK { V with stub := Stubs.look l' } := h' { V with stub := Stubs.look l' } hP rfl
    exact hS f as bx s bx' hc
theorem isNil_app {α : Type} (a b : List α) : (isNilL a && isNilL b) = isNilL (a ++ b) := by cases a <;> rfl
theorem isNil_snoc {α : Type} (l : List α) (x : α) : isNilL (l ++ [x]) = false := by cases l <;> rfl
end Go.Proofs.Ythiaaaedfidnjaa.Am
