/- The evaluator of typed values and its soundness, part 3. Conditions: none; checked here. -/
import Derived.Test.YthiaaaedfidnjaaAmB
set_option linter.unusedVariables false
set_option linter.unusedSimpArgs false

namespace Go.Proofs.Ythiaaaedfidnjaa.Am
open Go Go.RowKit
section
variable {w0 : Base} {M0 : Mem} {g : G} {st : St} {a : Act} {w : World}

theorem wp_good {P : Program} {o : Oper} {next : Act → World → Prop} {Q : Exit → Act → World → Prop} {k : KO} {r : Res} {prog : Sem Value} (h : OpGood P w0 M0 a w k r prog)
    (he : execOp a.eval o = (do pure (.value (← prog)) : Sem Next)) (hk : ∀ s st' g' u w', k s st' = some r → Inv w0 M0 g' st' a w' → RelS g' w' s u → next (a.put o.dst u) w') : o.wp P a w next Q := by
  obtain ⟨s, st', g', u, w', h1, h2, h3, h4⟩ := h
  refine wp_value ?_ (hk s st' g' u w' h1 h2 h3)
  rw [he]
  simp [h4]
theorem wp_good_un {P : Program} {o : Oper} {next : Act → World → Prop} {Q : Exit → Act → World → Prop} {k : KO} {r : Res} {prog : Sem Unit} (h : UnGood P w0 M0 a w k r prog)
    (he : execOp a.eval o = (do prog; pure .skip : Sem Next)) (hk : ∀ s st' g' u w', k s st' = some r → Inv w0 M0 g' st' a w' → RelS g' w' s u → next (a.put o.dst u) w') : o.wp P a w next Q := by
  obtain ⟨st', g', w', h1, h2, h4⟩ := h
  refine wp_skipOp ?_ (hk junkS st' g' undef w' h1 h2 trivial)
  rw [he]
  simp [h4]

theorem alloc_sound {P : Program} {T : TypeId} {z : S1} {k : KO} {r : Res} (hz : zeroS1 P T = some z) (inv : Inv w0 M0 g st a w) (h : k (.s (.c ⟨.ro, .ptr st.bx.length 0⟩)) ⟨st.sl, st.bx ++ [z.cells]⟩ = some r) :
    OpGood P w0 M0 a w k r (Instr.alloc T true (.tuple #[])) := by
  obtain ⟨i, zv, hi, hzv, hzs, hr⟩ := zeroS1_sound (g := g) (w := w) hz
  have inv1 := inv.newBox (T := T) (us := zv.cells) (S1.rel_cells hr)
  refine ⟨_, _, _, _, _, h, inv1, ptr_rel inv, ?_⟩
  simp [Instr.alloc, zeroValue, typeInfo, hi, hzv, newVar, newRow]

theorem box_sound {P : Program} {T : TypeId} {s : S1} {v : Value} {k : KO} {r : Res} (inv : Inv w0 M0 g st a w) (hv : RelS1 g w s v) (h : k (.s (.c ⟨.ro, .ptr st.bx.length 0⟩)) (adopt st.bx.length 0 s.cells ⟨st.sl, st.bx ++ [s.cells]⟩) = some r) :
    OpGood P w0 M0 a w k r (Instr.box T v) := by
  have inv1 := inv.newBox (T := T) (us := v.cells) (S1.rel_cells hv)
  obtain ⟨g', inv2, hβ⟩ := inv1.adopt (cs := s.cells) (b := st.bx.length) (o := 0)
  have hrun : (Instr.box T v).run P w = .ok (.pointer (some ⟨w.heap.size, 0, none⟩)) (w.alloc (.cells v.cells T)) := by simp [Instr.box, newVar, newRow]
  refine ⟨_, _, _, _, _, h, inv2, ?_, hrun⟩
  obtain ⟨blk, h1, h2⟩ := ptr_rel inv (w' := w.alloc (.cells v.cells T))
  exact ⟨blk, by rw [hβ]; exact h1, h2⟩

theorem pickK_sound {P : Program} {c : Bool} {x y : S} {k : KO} {r : Res} {vx vy : Value} (inv : Inv w0 M0 g st a w) (hx : RelS g w x vx) (hy : RelS g w y vy) (h : pickK c x y st k = some r) :
    ∃ s st' g' w', k s st' = some r ∧ Inv w0 M0 g' st' a w' ∧ RelS g' w' s (if c then vx else vy) ∧ w' = w := by
  unfold pickK at h
  split at h
  · rename_i t1 b1 t2 b2
    refine ⟨_, st, g, w, h, inv, ?_, rfl⟩
    have h1 : vx = .bool b1 := by cases t1 <;> exact hx.1
    have h2 : vy = .bool b2 := by cases t2 <;> exact hy.1
    subst h1; subst h2
    cases c <;> exact ⟨rfl, rfl⟩
  · rcases br_some h with ⟨rfl, h⟩ | ⟨rfl, h⟩
    · exact ⟨x, st, g, w, h, inv, hx, rfl⟩
    · exact ⟨y, st, g, w, h, inv, hy, rfl⟩

theorem opK_sound {V : Env} {callF : FuncId → List S1 → List (List C) → Tree} (hcall : CallOK V callF) {o : Oper} {k : KO} {r : Res} (inv : Inv w0 M0 g st a w) (h : opK V callF o st k = some r) {next : Act → World → Prop} {Q : Exit → Act → World → Prop}
    (hk : ∀ s st' g' u w', k s st' = some r → Inv w0 M0 g' st' a w' → RelS g' w' s u → next (a.put o.dst u) w') : o.wp V.P a w next Q := by
  obtain ⟨dst, op, type, pos, after, guard⟩ := o
  cases op <;> simp only [opK] at h <;> try (simp at h; done)
  case move x =>
    split at h
    · rename_i s hs
      exact wp_value (w' := w) (by simp [execOp]) (hk _ _ _ _ _ h inv (get_rel inv hs))
    · simp at h
  case assign x =>
    split at h
    · rename_i s hs
      exact wp_value (w' := w) (by simp [execOp]) (hk _ _ _ _ _ h inv (get_rel inv hs))
    · simp at h
  case pick c x y =>
    split at h
    · rename_i t s1 s2 hc h1 h2
      obtain ⟨s, st', g', w', q1, q2, q3, rfl⟩ := pickK_sound (P := V.P) inv (get_rel inv h1) (get_rel inv h2) h
      exact wp_value (w' := w') (by simp [execOp, getBool_rel inv hc, asBool]) (hk _ _ _ _ _ q1 q2 q3)
    · simp at h
  case alloc T =>
    split at h
    · rename_i z hz
      exact wp_good (alloc_sound hz inv h) (by simp [execOp]) hk
    · simp at h
  case box T x =>
    split at h
    · rename_i s hs
      exact wp_good (box_sound (P := V.P) (T := T) inv (get1_rel inv hs) h) (by simp [execOp]) hk
    · simp at h
  case build T ps =>
    exact wp_good (buildK_sound inv h) (by simp [execOp]) hk
  case buildSlice T n ps =>
    exact wp_good (buildSliceK_sound inv h) (by simp [execOp]) hk
  case load T x =>
    split at h
    · rename_i c hc
      exact wp_good (loadK_sound inv (getC_rel inv hc) h) (by simp [execOp]) hk
    · simp at h
  case store T x y =>
    split at h
    · rename_i c s hc hs
      exact wp_good_un (storeK_sound inv (getC_rel inv hc) (get1_rel inv hs) h) (by simp [execOp]) hk
    · simp at h
  case binOp op T x y yT =>
    split at h
    · rename_i s t hs ht
      obtain ⟨v, h1, h2, h3⟩ := binK_sound (x := x) (y := y) h (get1_rel inv hs) (get1_rel inv ht)
      refine wp_value (v := v) (w' := w) ?_ (hk _ _ _ _ _ h1 inv (vS_rel h2))
      simp only [execOp, Sem.run_bind] at h3 ⊢
      rw [h3]
      rfl
    · simp at h
  case unOp op T x =>
    split at h
    · rename_i t v hc
      split at h
      · rename_i u hu
        have hx := getC_rel inv hc
        have hx' : a.eval x = v := by cases t <;> exact hx.1
        obtain ⟨h1, h2⟩ := unV_sound (P := V.P) (w := w) hu
        exact wp_value (v := u) (w' := w) (by simp [execOp, hx', h2]) (hk _ _ _ _ _ h inv (vS_rel h1))
      · simp at h
    · simp at h
  case convert s t x =>
    split at h
    · rename_i c hc
      exact wp_good (convertK_sound inv (getC_rel inv hc) h) (by simp [execOp]) hk
    · simp at h
  case makeSlice T l c =>
    split at h
    · rename_i kl m kc n hl hc
      exact wp_good (makeSliceK_sound (kl := kl) (kc := kc) inv h) (by simp [execOp, getInt_rel inv hl, getInt_rel inv hc]) hk
    · simp at h
  case slice T x lo hi mx =>
    split at h
    · rename_i c l hh m hc hl hh' hm
      obtain ⟨kl, el⟩ := ints_opt inv hl
      obtain ⟨kh, eh⟩ := ints_opt inv hh'
      obtain ⟨km, em⟩ := ints_opt inv hm
      exact wp_good (sliceK_sound (kl := kl) (kh := kh) (km := km) inv (getC_rel inv hc) h) (by simp [execOp, el, eh, em]) hk
    · simp at h
  case fieldAddr T x f =>
    split at h
    · rename_i c hc
      exact wp_good (fieldAddrK_sound inv (getC_rel inv hc) h) (by simp [execOp]) hk
    · simp at h
  case field T x f =>
    split at h
    · rename_i s hs
      exact wp_good (fieldK_sound inv (get1_rel inv hs) h) (by simp [execOp]) hk
    · simp at h
  case indexAddr T x i =>
    split at h
    · rename_i c ik n hc hi
      exact wp_good (indexAddrK_sound (ik := ik) inv (getC_rel inv hc) h) (by simp [execOp, getInt_rel inv hi]) hk
    · simp at h
  case index T x i =>
    split at h
    · rename_i t s ik n hT hc hi
      have hx := getC_rel inv hc
      have hx' : a.eval x = .string s := by cases t <;> exact hx.1
      exact wp_good (indexStr_sound (ik := ik) hT inv h) (by simp [execOp, getInt_rel inv hi, hx']) hk
    · simp at h
  case extract t i =>
    split at h
    · rename_i xs ht
      split at h
      · rename_i s hs
        obtain ⟨v, h1, h2⟩ := extract_sound (P := V.P) (get_rel inv ht) hs
        exact wp_value (v := v) (w' := w) (by simp [execOp, h1]) (hk _ _ _ _ _ h inv h2)
      · simp at h
    · simp at h
  case nilCheck x =>
    split at h
    · rename_i t b o hc
      have hx := getC_rel inv hc
      have hx' : ∃ blk, g.β[b]? = some blk ∧ a.eval x = .pointer (some ⟨blk, o, none⟩) := by cases t <;> exact hx
      obtain ⟨blk, _, hv⟩ := hx'
      exact wp_value (v := a.eval x) (w' := w) (by simp [execOp, hv]) (hk _ _ _ _ _ h inv hx)
    · rename_i t e xs i o hc
      have hx := getC_rel inv hc
      obtain ⟨b, o', hv, _⟩ := ea_cells inv hx
      exact wp_value (v := a.eval x) (w' := w) (by simp [execOp, hv]) (hk _ _ _ _ _ h inv hx)
    · simp at h
  case call c =>
    obtain ⟨callee, args, argTypes⟩ := c
    cases callee with
    | builtin b =>
      simp only at h
      have hb : ∀ {prog : Sem Value}, OpGood V.P w0 M0 a w k r prog → (∀ cs w, (builtin b argTypes type cs (args.map a.eval)).run V.P w = (do pure (.value (← prog)) : Sem Next).run V.P w) →
          Oper.wp V.P { dst := dst, op := .call { callee := .builtin b, args := args, argTypes := argTypes }, type := type, pos := pos, after := after, guard := guard } a w next Q := by
        intro prog hg he
        obtain ⟨s, st', g', u, w', h1, h2, h3, h4⟩ := hg
        refine wp_value (v := u) (w' := w') ?_ (hk s st' g' u w' h1 h2 h3)
        simp only [execOp, resolve, Sem.run_bind, Sem.run_pure, Result.andThen_ok, invoke]
        rw [he]
        simp [h4]
      unfold builtinK at h
      split at h
      · rename_i T x hT hx
        have hT' : argTypes = #[T] := by rw [← Array.toArray_toList (xs := argTypes), hT]
        have hx' : args = #[x] := by rw [← Array.toArray_toList (xs := args), hx]
        subst hT'; subst hx'
        split at h
        · rename_i c hc
          exact hb (lenK_sound (ty := type) inv (getC_rel inv hc) h) (fun cs w => by simp [builtin])
        · simp at h
      · rename_i T T2 x y hT hx
        have hT' : argTypes = #[T, T2] := by rw [← Array.toArray_toList (xs := argTypes), hT]
        have hx' : args = #[x, y] := by rw [← Array.toArray_toList (xs := args), hx]
        subst hT'; subst hx'
        split at h
        · rename_i c1 c2 h1 h2
          exact hb (appendK_sound (ty := type) inv (getC_rel inv h1) (getC_rel inv h2) h) (fun cs w => by simp [builtin])
        · simp at h
      · rename_i T T2 x y hT hx
        have hT' : argTypes = #[T, T2] := by rw [← Array.toArray_toList (xs := argTypes), hT]
        have hx' : args = #[x, y] := by rw [← Array.toArray_toList (xs := args), hx]
        subst hT'; subst hx'
        split at h
        · rename_i c1 c2 h1 h2
          exact hb (copyK_sound (ty := type) inv (getC_rel inv h1) (getC_rel inv h2) h) (fun cs w => by simp [builtin])
        · simp at h
      · rename_i x rs hx
        have hx' : args = (x :: rs).toArray := by rw [← hx]
        subst hx'
        split at h
        · rename_i kd m hm
          split at h
          · rename_i kd' n hn
            have hf := foldMM_sound (P := V.P) inv hn
            refine hb (prog := Builtin.max_ argTypes type (((x :: rs).toArray).map a.eval)) ⟨_, st, g, .int kd' n, w, h, inv, vS_rel rfl, ?_⟩ (fun cs w => by simp [builtin])
            simpa [Builtin.max_, getInt_rel inv hm] using hf
          · simp at h
        · simp at h
      · rename_i x rs hx
        have hx' : args = (x :: rs).toArray := by rw [← hx]
        subst hx'
        split at h
        · rename_i kd m hm
          split at h
          · rename_i kd' n hn
            have hf := foldMM_sound (P := V.P) inv hn
            refine hb (prog := Builtin.min_ argTypes type (((x :: rs).toArray).map a.eval)) ⟨_, st, g, .int kd' n, w, h, inv, vS_rel rfl, ?_⟩ (fun cs w => by simp [builtin])
            simpa [Builtin.min_, getInt_rel inv hm] using hf
          · simp at h
        · simp at h
      · simp at h
    | invoke rc m => simp at h
    | value f =>
      simp only at h
      split at h
      · rename_i t fid hf
        have hx := getC_rel inv hf
        have hx' : a.eval f = .func (.func fid) #[] #[] := by cases t <;> exact hx.2
        obtain ⟨⟨fn, h1, h2, h3⟩, hc⟩ : (∃ fn, V.P.funcs[fid]? = some fn ∧ fn.name ≠ "runtime.NumGoroutine" ∧ fn.body.isNone = false) ∧
            ∀ args' : Array Value, args'.toList = args.toList.map a.eval → Calls V.P fid args' w fun e w' => ∃ s st' g' u, e = .returned u ∧ k s st' = some r ∧ Inv w0 M0 g' st' a w' ∧ RelS g' w' s u := by
          split at h
          · exact callK_sound hcall inv h
          · exact callPK_sound hcall inv h
        have hc := hc (args.map a.eval) (by simp)
        have h3' : ¬ (fn.body = none) := fun e => by simp [e] at h3
        have hrun : (execOp a.eval { dst := dst, op := .call { callee := .value f, args := args, argTypes := argTypes }, type := type, pos := pos, after := after, guard := guard }).run V.P w = .ok (.enter fid (args.map a.eval)) w := by
          simp [execOp, resolve, hx', Deferred.ofValue, invoke, callFunc, h1, h2, h3']
        unfold Oper.wp
        rw [hrun]
        refine hc.mono ?_
        rintro e w' ⟨s, st', g', u, rfl, q1, q2, q3⟩
        exact hk _ _ _ _ _ q1 q2 q3
      · simp at h
end
end Go.Proofs.Ythiaaaedfidnjaa.Am

namespace Go.Proofs.Ythiaaaedfidnjaa.Am
open Go Go.RowKit
section
variable {w0 : Base} {M0 : Mem} {g : G} {st : St} {a : Act} {w : World}

theorem All2.set_left {α β : Type} {R : α → β → Prop} : ∀ {xs : List α} {ys : List β} (n : Nat) {x : α}, All2 R xs ys → (∀ y, ys[n]? = some y → R x y) → All2 R (xs.set n x) ys
  | [], [], _, _, _, _ => trivial
  | _ :: _, _ :: _, 0, _, h, hx => ⟨hx _ rfl, h.2⟩
  | _ :: _, _ :: _, n + 1, _, h, hx => ⟨h.1, All2.set_left n h.2 fun y hy => hx y (by simpa using hy)⟩
  | [], _ :: _, _, _, h, _ => h.elim
  | _ :: _, [], _, _, h, _ => h.elim

/-- A test's outcome, told to the slot that holds it. -/
theorem Inv.know {t : Nat} {b : Bool} (inv : Inv w0 M0 g st a w) (h : a.eval (.tmp t) = .bool b) : Inv w0 M0 g (st.know t b) a w := by
  refine ⟨inv.ok, ⟨?_, inv.rel.boxes, inv.rel.blen⟩, inv.defs⟩
  refine inv.rel.slots.set_left t fun y hy => ?_
  have : a.eval (.tmp t) = y := by
    have : a.tmps[t]? = some y := by rw [← hy]; simp
    simp [Act.eval, Array.getD_eq_getD_getElem?, this]
  rw [← this, h]
  exact ⟨rfl, rfl⟩

theorem maskL_rel {keep : List Nat} : ∀ {xs : List S} {us : List Value} {i : Nat}, All2 (RelS g w) xs us → All2 (RelS g w) (maskL keep i xs) us
  | [], [], _, _ => trivial
  | s :: xs, u :: us, i, h => by
    refine ⟨?_, maskL_rel h.2⟩
    cases memN i keep with
    | true => exact h.1
    | false => trivial
  | [], _ :: _, _, h => h.elim
  | _ :: _, [], _, h => h.elim
/-- With fewer boxes. -/
def G.cut (g : G) (n : Nat) : G := { g with β := g.β.take n }
theorem RelC.cut {n : Nat} {c : C} {u : Value} (h : RelC g w c u) (hn : ∀ b o, c.av = .ptr b o → b < n) : RelC (g.cut n) w c u := by
  obtain ⟨t, av⟩ := c
  cases av with
  | ptr b o =>
    have hb := hn b o rfl
    have h' : ∃ blk, g.β[b]? = some blk ∧ u = .pointer (some ⟨blk, o, none⟩) := by cases t <;> exact h
    obtain ⟨blk, h1, h2⟩ := h'
    have : ∃ blk, (g.β.take n)[b]? = some blk ∧ u = .pointer (some ⟨blk, o, none⟩) := ⟨blk, by rw [List.getElem?_take_of_lt hb]; exact h1, h2⟩
    cases t <;> exact this
  | v x => cases t <;> exact h
  | sl e nl xs => cases t <;> exact h
  | slf e xs => cases t <;> exact h
  | nilv => cases t <;> exact h
  | fn f caps => cases t <;> exact h
  | ea e xs i o => cases t <;> exact h
  | junk => cases t <;> exact h
theorem cells_cut {n : Nat} : ∀ {cs : List C} {us : List Value}, All2 (RelC g w) cs us → ptrTop cs ≤ n → All2 (RelC (g.cut n) w) cs us
  | [], [], _, _ => trivial
  | c :: cs, u :: us, h, hn => by
    have h1 : (∀ b o, c.av = .ptr b o → b < n) ∧ ptrTop cs ≤ n := by
      obtain ⟨t, av⟩ := c
      cases av with
      | ptr b o =>
        have : Nat.max (b + 1) (ptrTop cs) ≤ n := hn
        have h2 := Nat.le_trans (Nat.le_max_left _ _) this
        exact ⟨fun b' o' hb => by injection hb with hb; omega, Nat.le_trans (Nat.le_max_right _ _) this⟩
      | v x => exact ⟨(fun _ _ hb => by cases hb), hn⟩
      | sl e nl xs => exact ⟨(fun _ _ hb => by cases hb), hn⟩
      | slf e xs => exact ⟨(fun _ _ hb => by cases hb), hn⟩
      | nilv => exact ⟨(fun _ _ hb => by cases hb), hn⟩
      | fn f caps => exact ⟨(fun _ _ hb => by cases hb), hn⟩
      | ea e xs i o => exact ⟨(fun _ _ hb => by cases hb), hn⟩
      | junk => exact ⟨(fun _ _ hb => by cases hb), hn⟩
    exact ⟨h.1.cut h1.1, cells_cut h.2 h1.2⟩
  | [], _ :: _, h, _ => h.elim
  | _ :: _, [], h, _ => h.elim
theorem RelS1.cut {n : Nat} {s : S1} {u : Value} (h : RelS1 g w s u) (hn : ptrTop s.cells ≤ n) : RelS1 (g.cut n) w s u := by
  cases s with
  | c x => exact (cells_cut (cs := [x]) (us := [u]) ⟨h, trivial⟩ hn).1
  | agg xs =>
    obtain ⟨us, rfl, h⟩ := h
    exact ⟨us, rfl, cells_cut h hn⟩
theorem tup_cut {n : Nat} : ∀ {xs : List S1} {us : List Value}, All2 (RelS1 g w) xs us → topT xs ≤ n → All2 (RelS1 (g.cut n) w) xs us
  | [], [], _, _ => trivial
  | x :: xs, u :: us, h, hn => ⟨h.1.cut (Nat.le_trans (Nat.le_max_left _ _) hn), tup_cut h.2 (Nat.le_trans (Nat.le_max_right _ _) hn)⟩
  | [], _ :: _, h, _ => h.elim
  | _ :: _, [], h, _ => h.elim
theorem RelS.cut {n : Nat} {s : S} {u : Value} (h : RelS g w s u) (hn : s.top ≤ n) : RelS (g.cut n) w s u := by
  cases s with
  | s x => exact RelS1.cut h hn
  | tup xs =>
    obtain ⟨us, rfl, h⟩ := h
    exact ⟨us, rfl, tup_cut h hn⟩
  | dead => trivial
theorem slots_cut {n : Nat} : ∀ {xs : List S} {us : List Value}, All2 (RelS g w) xs us → topL xs ≤ n → All2 (RelS (g.cut n) w) xs us
  | [], [], _, _ => trivial
  | x :: xs, u :: us, h, hn => ⟨h.1.cut (Nat.le_trans (Nat.le_max_left _ _) hn), slots_cut h.2 (Nat.le_trans (Nat.le_max_right _ _) hn)⟩
  | [], _ :: _, h, _ => h.elim
  | _ :: _, [], h, _ => h.elim
theorem noPtr_top : ∀ {cs : List C}, noPtr cs = true → ptrTop cs = 0
  | [], _ => rfl
  | ⟨t, av⟩ :: r, h => by
    cases av with
    | ptr b o => simp [noPtr] at h
    | v x => exact noPtr_top (cs := r) h
    | sl e nl xs => exact noPtr_top (cs := r) h
    | slf e xs => exact noPtr_top (cs := r) h
    | nilv => exact noPtr_top (cs := r) h
    | fn f caps => exact noPtr_top (cs := r) h
    | ea e xs i o => exact noPtr_top (cs := r) h
    | junk => exact noPtr_top (cs := r) h
theorem noPtrs_mem : ∀ {bx : List (List C)} {b : Nat} {cs : List C}, noPtrs bx = true → bx[b]? = some cs → noPtr cs = true
  | [], _, _, _, h => by simp at h
  | x :: r, 0, cs, h, hb => by
    simp only [noPtrs, Bool.and_eq_true] at h
    simp at hb
    rw [← hb]
    exact h.1
  | x :: r, b + 1, cs, h, hb => by
    simp only [noPtrs, Bool.and_eq_true] at h
    exact noPtrs_mem h.2 (by simpa using hb)
theorem GOK.cut {n : Nat} (h : GOK w0 M0 g w) (hn : w0.β.length ≤ n) : GOK w0 M0 (g.cut n) w := by
  have hsub : ∀ b, b ∈ g.β.take n → b ∈ g.β := fun b hb => List.mem_of_mem_take hb
  have hget : ∀ i b, (g.β.take n)[i]? = some b → g.β[i]? = some b := fun i b hi => by
    rw [List.getElem?_take] at hi
    split at hi
    · exact hi
    · simp at hi
  refine ⟨h.le, h.old, fun b o u hu => ⟨(h.mem b o u hu).1, fun hb => (h.mem b o u hu).2.1 (hsub b hb), (h.mem b o u hu).2.2⟩, fun i j b hi hj => ?_, h.odist, fun r b hr hb => h.obox r b hr (hsub b hb), fun b hb => h.newb b (hsub b hb), h.newo, h.frame, ?_⟩
  · exact h.bdist i j b (hget i b hi) (hget j b hj)
  · obtain ⟨t, ht⟩ := h.pre
    refine ⟨t.take (n - w0.β.length), ?_⟩
    show g.β.take n = _
    rw [ht, List.take_append, List.take_of_length_le hn]
theorem Inv.mask0 (inv : Inv w0 M0 g st a w) {np : Nat} (hnp : w0.β.length ≤ np) (keep : List Nat) : ∃ g', Inv w0 M0 g' ⟨maskL keep 0 st.sl, keepBx np (maskL keep 0 st.sl) st.bx⟩ a w := by
  have hs := maskL_rel (keep := keep) (i := 0) inv.rel.slots
  simp only [keepBx]
  cases hp : noPtrs st.bx with
  | false => exact ⟨g, inv.ok, ⟨hs, inv.rel.boxes, inv.rel.blen⟩, inv.defs⟩
  | true =>
    refine ⟨g.cut (Nat.max np (topL (maskL keep 0 st.sl))), inv.ok.cut (Nat.le_trans hnp (Nat.le_max_left _ _)), ⟨slots_cut hs (Nat.le_max_right _ _), fun b cs hb => ?_, ?_⟩, inv.defs⟩
    · simp only [cond_true] at hb
      rw [List.getElem?_take] at hb
      split at hb
      · rename_i hlt
        obtain ⟨blk, us, T, h1, h2, h3⟩ := inv.rel.boxes b cs hb
        refine ⟨blk, us, T, ?_, h2, cells_cut h3 (by rw [noPtr_top (noPtrs_mem hp hb)]; exact Nat.zero_le _)⟩
        show (g.β.take _)[b]? = _
        rw [List.getElem?_take_of_lt hlt]
        exact h1
      · simp at hb
    · show (g.β.take _).length = (st.bx.take _).length
      rw [List.length_take, List.length_take, inv.rel.blen]

theorem Inv.canOne (inv : Inv w0 M0 g st a w) (c : CanOp) : ∃ g', Inv w0 M0 g' (canOne c st) a w := by
  cases c with
  | nil i e h =>
    show ∃ g', Inv w0 M0 g' (canNil i e h st) a w
    unfold canNil
    split
    · rename_i t hs
      obtain ⟨u, hu, hr⟩ := inv.rel.slots.get i _ hs
      have hr : u = .slice none 0 0 := by cases t <;> exact hr
      have inv1 := inv.relinq h
      refine ⟨_, inv1.ok, ⟨?_, inv1.rel.boxes, inv1.rel.blen⟩, inv1.defs⟩
      refine inv1.rel.slots.set_left i fun y hy => ?_
      rw [hu] at hy
      injection hy with hy
      rw [← hy, hr]
      exact .inl ⟨rfl, rfl, rfl⟩
    · exact ⟨g, inv⟩
  | nilR i e =>
    show ∃ g', Inv w0 M0 g' (canNilR i e st) a w
    unfold canNilR
    split
    · rename_i t hs
      obtain ⟨u, hu, hr⟩ := inv.rel.slots.get i _ hs
      have hr : u = .slice none 0 0 := by cases t <;> exact hr
      refine ⟨_, inv.ok, ⟨?_, inv.rel.boxes, inv.rel.blen⟩, inv.defs⟩
      refine inv.rel.slots.set_left i fun y hy => ?_
      rw [hu] at hy
      injection hy with hy
      rw [← hy, hr]
      exact .inl ⟨rfl, rfl, rfl⟩
    · exact ⟨g, inv⟩
  | rel q => exact ⟨_, inv.relinq q⟩
  | ren q h =>
    show ∃ g', Inv w0 M0 g' (bif noMemSt st [q] then st else (st.map (C.relinq h)).map (C.ren q h)) a w
    cases noMemSt st [q] with
    | true => exact ⟨g, inv⟩
    | false => exact ⟨_, (inv.relinq h).ren q h (by simp [G.relinq])⟩
theorem Inv.canGo : ∀ {l : List CanOp} {g : G} {st : St}, Inv w0 M0 g st a w → ∃ g', Inv w0 M0 g' (canGo l st) a w
  | [], g, _, inv => ⟨g, inv⟩
  | c :: r, g, st, inv => by
    obtain ⟨g1, h1⟩ := inv.canOne c
    exact Inv.canGo (l := r) h1
theorem Inv.mask (inv : Inv w0 M0 g st a w) {np : Nat} (hnp : w0.β.length ≤ np) (m : Option MK) : ∃ g', Inv w0 M0 g' (st.mask np m) a w := by
  cases m with
  | none => exact ⟨g, inv⟩
  | some m =>
    obtain ⟨g1, h1⟩ := inv.mask0 hnp m.keep
    show ∃ g', Inv w0 M0 g' (canAll m.can _) a w
    unfold canAll
    cases disjointN (canFrom m.can) (canTo m.can) with
    | true => exact h1.canGo
    | false => exact ⟨g1, h1⟩

theorem yielded_eq {ops : Array Oper} {j t : Nat} {b : Bool} (inv : Inv w0 M0 g st a w) (hj : (match ops.toList[j]? with | some p => p.dst | none => none) = some t) (hb : st.getBool (.tmp t) = some b) : yielded ops a.tmps j = some b := by
  have hv := getBool_rel inv hb
  have h1 : (ops[j]?).bind (·.dst) = some t := by
    have : ops.toList[j]? = ops[j]? := by simp
    rw [this] at hj
    cases ho : ops[j]? with
    | none => rw [ho] at hj; simp at hj
    | some p => rw [ho] at hj; simpa using hj
  have h2 : a.tmps[t]? = some (.bool b) := by
    unfold St.getBool St.getC St.get at hb
    simp only [Act.eval] at hv
    rw [Array.getD_eq_getD_getElem?] at hv
    cases ht : a.tmps[t]? with
    | none => rw [ht] at hv; simp [undef] at hv
    | some u => rw [ht] at hv; simp at hv; rw [hv]
  unfold yielded
  rw [h1]
  simp [h2]

theorem guard_some {st : St} {t : Nat} {b : Bool} (h : st.guard t = some (some b)) : st.getBool (.tmp t) = some b := by
  unfold St.guard at h
  split at h
  · simp at h
  · split at h
    · rename_i hb; injection h with h; injection h with h; rw [← h]; exact hb
    · simp at h
theorem guard_none {st : St} {t : Nat} (h : st.guard t = some none) : st.sl[t]? = some undefS := by
  unfold St.guard at h
  split at h
  · rename_i hs; exact hs
  · split at h <;> simp at h
theorem yielded_none {ops : Array Oper} {j t : Nat} (inv : Inv w0 M0 g st a w) (hj : (match ops.toList[j]? with | some p => p.dst | none => none) = some t) (hb : st.sl[t]? = some undefS) : yielded ops a.tmps j = none := by
  have h1 : (ops[j]?).bind (·.dst) = some t := by
    have : ops.toList[j]? = ops[j]? := by simp
    rw [this] at hj
    cases ho : ops[j]? with
    | none => rw [ho] at hj; simp at hj
    | some p => rw [ho] at hj; simpa using hj
  obtain ⟨u, hu, us, rfl, hus⟩ := inv.rel.slots.get t _ hb
  unfold yielded
  rw [h1]
  have : a.tmps[t]? = some (.tuple us) := by rw [← hu]; simp
  simp [this]
theorem opsK_sound {V : Env} {callF : FuncId → List S1 → List (List C) → Tree} (hcall : CallOK V callF) {ops : Array Oper} {Q : Exit → Act → World → Prop} {k : St → Option Res} {r : Res}
    (hQ : ∀ st' g' a' w', k st' = some r → Inv w0 M0 g' st' a' w' → Q .normal a' w') : ∀ {l : List Oper} {i : Nat} {g : G} {st : St} {a : Act} {w : World}, ops.toList.drop i = l → opsK V callF ops.toList l st k = some r → Inv w0 M0 g st a w →
      wpOps V.P ops Q (List.range' i l.length) a w
  | [], i, g, st, a, w, _, h, inv => by
    simp only [opsK] at h
    exact hQ _ _ _ _ h inv
  | o :: l, i, g, st, a, w, hl, h, inv => by
    have ho : ops[i]? = some o := by
      have : (ops.toList.drop i)[0]? = some o := by rw [hl]; rfl
      rw [List.getElem?_drop] at this
      simpa using this
    have hl' : ops.toList.drop (i + 1) = l := by
      have : (ops.toList.drop i).drop 1 = l := by rw [hl]; rfl
      rwa [List.drop_drop] at this
    simp only [List.length_cons, List.range'_succ, wpOps, ho]
    simp only [opsK] at h
    cases hg : o.guard with
    | none =>
      rw [hg] at h
      simp only at h
      rw [if_pos (by simp [Region.wanted, hg])]
      exact .inl (opK_sound hcall inv h fun s st' g' u w' h1 h2 h3 => opsK_sound hcall hQ hl' h1 (h2.put o.dst h3))
    | some jw =>
      obtain ⟨j, want⟩ := jw
      rw [hg] at h
      simp only at h
      split at h
      · simp at h
      · rename_i t ht
        split at h
        · simp at h
        · rename_i hgd
          have hy := yielded_none inv ht (guard_none hgd)
          rw [if_neg (by simp [Region.wanted, hg, hy])]
          exact opsK_sound hcall hQ hl' h (inv.put o.dst (s := undefS) (u := undef) ⟨#[], rfl, trivial⟩)
        · rename_i b hgd
          have hb := guard_some hgd
          have hy := yielded_eq inv ht hb
          have hv := getBool_rel inv hb
          have hw : Region.wanted o (yielded ops a.tmps) = (b == want) := by
            simp only [Region.wanted, hg, hy]
            cases b <;> cases want <;> rfl
          rcases br_some h with ⟨h1, h9⟩ | ⟨h1, h9⟩
          · clear h
            have hbw : b = want := by cases want <;> simp_all
            subst hbw
            rw [if_pos (by rw [hw]; simp)]
            exact .inl (opK_sound hcall (inv.know hv) h9 fun s st' g' u w' h1 h2 h3 => opsK_sound hcall hQ hl' h1 (h2.put o.dst h3))
          · clear h
            have hbw : b = !want := by cases want <;> cases b <;> simp_all
            subst hbw
            rw [if_neg (by rw [hw]; cases want <;> simp)]
            exact opsK_sound hcall hQ hl' h9 ((inv.know hv).put o.dst (s := undefS) (u := undef) ⟨#[], rfl, trivial⟩)

/-! ## code -/
def ExM : Exit → X → Prop
  | .normal, .normal => True
  | .exit i, .exit j => i = j
  | .ret, .ret => True
  | _, _ => False

/-- What the code's end must come to. -/
def Post (w0 : Base) (M0 : Mem) (k : K) (r : Res) (e : Exit) (a : Act) (w : World) : Prop := ∃ x st g, ExM e x ∧ Inv w0 M0 g st a w ∧ k x st = some r
def RecOK (V : Env) (rec : Rec) : Prop :=
  ∀ (f : FuncId) (c : Code) (st : St) (k : K) (r : Res), rec f c st k = some r → ∀ (w0 : Base) (M0 : Mem) (g : G) (a : Act) (w : World), w0.β.length ≤ V.np f → Inv w0 M0 g st a w → c.wp V.P (Post w0 M0 k r) a w

theorem Post.mono {k k' : K} {r : Res} {e : Exit} (h : Post w0 M0 k r e a w) (hk : ∀ x st, k x st = some r → k' x st = some r) : Post w0 M0 k' r e a w := by
  obtain ⟨x, st, g, h1, h2, h3⟩ := h
  exact ⟨x, st, g, h1, h2, hk _ _ h3⟩

theorem drawK_placeholder : True := trivial

/-- The loop, round by round. -/
theorem loop_sound {V : Env} {rec : Nat → Rec} (hrec : ∀ n f c st k, rec (n + 1) f c st k = evF V (rec n) f c st k) (h0 : ∀ f c st k, rec 0 f c st k = none) {f : FuncId} {b : Code} {k : K} {r : Res}
    (N : Nat) (hbody : ∀ n, n < N → ∀ (st : St) (k : K) (r : Res), evF V (rec n) f b st k = some r → ∀ (g : G) (a : Act) (w : World), Inv w0 M0 g st a w → b.wp V.P (Post w0 M0 k r) a w)
    (inv : Inv w0 M0 g st a w) {n : Nat} (hn : n ≤ N) (h : rec n f (.loop b) st k = some r) : (Code.loop b).wp V.P (Post w0 M0 k r) a w := by
  have key : ∀ (a : Act) (w : World), (∃ n st g, n ≤ N ∧ rec n f (.loop b) st k = some r ∧ Inv w0 M0 g st a w) → ∃ n, n ≤ N ∧ (∃ st g, rec n f (.loop b) st k = some r ∧ Inv w0 M0 g st a w) ∧ ∀ m, (∃ st g, m ≤ N ∧ rec m f (.loop b) st k = some r ∧ Inv w0 M0 g st a w) → n ≤ m := by
    intro a w ⟨n, st, g, h1, h2, h3⟩
    induction n using Nat.strongRecOn generalizing st g with
    | _ n ih =>
      by_cases hex : ∃ m, m < n ∧ ∃ st g, m ≤ N ∧ rec m f (.loop b) st k = some r ∧ Inv w0 M0 g st a w
      · obtain ⟨m, hm, st', g', q1, q2, q3⟩ := hex
        exact ih m hm st' g' q1 q2 q3
      · refine ⟨n, h1, ⟨st, g, h2, h3⟩, fun m hm => ?_⟩
        rcases Nat.lt_or_ge m n with h | h
        · obtain ⟨st', g', q1, q2, q3⟩ := hm
          exact (hex ⟨m, h, st', g', q1, q2, q3⟩).elim
        · exact h
  classical
  refine wp_loop (fun a w => ∃ n st g, n ≤ N ∧ rec n f (.loop b) st k = some r ∧ Inv w0 M0 g st a w) (fun a w => if h : ∃ n st g, n ≤ N ∧ rec n f (.loop b) st k = some r ∧ Inv w0 M0 g st a w then (key a w h).choose else 0) ⟨n, st, g, hn, h, inv⟩ ?_
  intro a w hI
  obtain ⟨m, hm1, ⟨st, g, hm2, hm3⟩, hmin⟩ := key a w hI
  have hμ : (if h : ∃ n st g, n ≤ N ∧ rec n f (.loop b) st k = some r ∧ Inv w0 M0 g st a w then (key a w h).choose else 0) = m := by
    rw [dif_pos hI]
    have h1 := (key a w hI).choose_spec
    have h2 := hmin _ (by obtain ⟨q1, ⟨st', g', q2, q3⟩, _⟩ := h1; exact ⟨st', g', q1, q2, q3⟩)
    have h3 := h1.2.2 m ⟨st, g, hm1, hm2, hm3⟩
    omega
  rw [hμ]
  cases m with
  | zero => rw [h0] at hm2; simp at hm2
  | succ m =>
    rw [hrec] at hm2
    simp only [evF] at hm2
    refine wp_mono (hbody m (by omega) st _ r hm2 g a w hm3) ?_
    rintro e a' w' ⟨x, st', g', h1, h2, h3⟩
    cases e <;> cases x <;> simp only [ExM] at h1
    · simp only [loopK] at h3
      have hI' : ∃ n st g, n ≤ N ∧ rec n f (.loop b) st k = some r ∧ Inv w0 M0 g st a' w' := ⟨m, st', g', by omega, h3, h2⟩
      refine ⟨hI', ?_⟩
      rw [dif_pos hI']
      have h4 := (key a' w' hI').choose_spec.2.2 m ⟨st', g', by omega, h3, h2⟩
      omega
    · exact ⟨.exit _, st', g', h1, h2, h3⟩
    · exact ⟨.ret, st', g', trivial, h2, h3⟩
end
end Go.Proofs.Ythiaaaedfidnjaa.Am

namespace Go.Proofs.Ythiaaaedfidnjaa.Am
open Go Go.RowKit
section
variable {w0 : Base} {M0 : Mem} {g : G} {st : St} {a : Act} {w : World}

def resVal (tmps : Array Value) : ResultVar → Sem Value
  | .tmp t => pure (tmps.getD t undef)
  | .cell x t => do loadVar t (← asAddr (tmps.getD x undef))
def oneOr : List Value → Value
  | [u] => u
  | l => .tuple l.toArray
theorem results_eq (fn : Func) (tmps : Array Value) : results fn tmps = (do let vs ← fn.results.mapM (resVal tmps); pure (if h : vs.size = 1 then vs[0] else .tuple vs) : Sem Value) := by
  unfold results
  congr 1
theorem resOne_sound {P : Program} {rv : ResultVar} {s : S1} (inv : Inv w0 M0 g st a w) (h : resOne P st rv = some s) :
    ∃ u, (resVal a.tmps rv).run P w = .ok u w ∧ RelS1 g w s u := by
  unfold resOne at h
  split at h
  · rename_i t
    split at h
    · rename_i x hx
      simp at h
      subst h
      have : st.get (.tmp t) = some (.s x) := hx
      exact ⟨_, rfl, get_rel inv this⟩
    · simp at h
  · rename_i x t
    split at h
    · rename_i tg b o hx
      split at h
      · rename_i cs hcs
        have : st.get (.tmp x) = some (.s (.c ⟨tg, .ptr b o⟩)) := hx
        have hv := get_rel inv this
        have hv' : ∃ blk, g.β[b]? = some blk ∧ a.eval (.tmp x) = .pointer (some ⟨blk, o, none⟩) := by cases tg <;> exact hv
        obtain ⟨blk, h1, h2⟩ := hv'
        obtain ⟨blk', h3, h4⟩ := box_cells inv hcs
        rw [h1] at h3
        obtain rfl := Option.some.inj h3
        obtain ⟨u, hu, hr⟩ := load_sound h h4
        rw [Nat.zero_add] at hu
        refine ⟨u, ?_, hr⟩
        simp only [Act.eval] at h2
        simp only [Instr.loadAt, Instr.sureAddr, Sem.run_bind, Sem.run_pure, Result.andThen_ok] at hu
        simp only [resVal, h2, asAddr, Sem.run_bind, Sem.run_pure, Result.andThen_ok]
        exact hu
      · simp at h
    · simp at h

theorem resL_sound {P : Program} (inv : Inv w0 M0 g st a w) : ∀ {rs : List ResultVar} {xs : List S1}, resL P st rs = some xs →
    ∃ us, (rs.mapM (resVal a.tmps)).run P w = .ok us w ∧ All2 (RelS1 g w) xs us
  | [], xs, h => by simp [resL] at h; subst h; exact ⟨[], by simp, trivial⟩
  | rv :: rs, xs, h => by
    simp only [resL] at h
    split at h
    · simp at h
    · rename_i x hx
      split at h
      · simp at h
      · rename_i l hl
        simp at h
        subst h
        obtain ⟨u, h1, h2⟩ := resOne_sound (P := P) inv hx
        obtain ⟨us, h3, h4⟩ := resL_sound (P := P) inv hl
        refine ⟨u :: us, ?_, h2, h4⟩
        simp only [List.mapM_cons, Sem.run_bind, h1, Result.andThen_ok, h3, Sem.run_pure]

theorem results_run {P : Program} {fn : Func} {tmps : Array Value} {us : List Value} (h : (fn.results.toList.mapM (resVal tmps)).run P w = .ok us w) : (results fn tmps).run P w = .ok (oneOr us) w := by
  rw [results_eq, Array.mapM_eq_mapM_toList]
  simp only [Sem.run_bind, Sem.run_map, h]
  match us with
  | [] => rfl
  | [u] => rfl
  | u :: v :: l => simp [oneOr, Result.andThen]

theorem dup_false : ∀ {l : List Nat}, dup l = false → l.Nodup
  | [], _ => List.nodup_nil
  | g :: r, h => by
    simp [dup] at h
    exact List.nodup_cons.2 ⟨memN_false h.1, dup_false h.2⟩
theorem disjointN_out : ∀ {l m : List Nat}, disjointN l m = true → ∀ r ∈ l, r ∉ m
  | g :: l, m, h, r, hr => by
    simp [disjointN] at h
    simp at hr
    rcases hr with rfl | hr
    · exact memN_false h.1
    · exact disjointN_out h.2 r hr
theorem groupsC_append : ∀ (xs ys : List C), groupsC (xs ++ ys) = groupsC xs ++ groupsC ys
  | [], ys => rfl
  | ⟨.ro, _⟩ :: r, ys => by simp only [List.cons_append, groupsC]; exact groupsC_append r ys
  | ⟨.own g _, _⟩ :: r, ys => by simp only [List.cons_append, groupsC]; rw [groupsC_append r ys]
theorem groupsC_toRo : ∀ cs : List C, groupsC (mapL C.toRo cs) = []
  | [] => rfl
  | ⟨.ro, _⟩ :: r => by simp only [mapL, C.toRo, groupsC]; exact groupsC_toRo r
  | ⟨.own _ _, _⟩ :: r => by simp only [mapL, C.toRo, groupsC]; exact groupsC_toRo r
theorem cells_map (f : C → C) (s : S1) : (s.map f).cells = mapL f s.cells := by cases s <;> rfl
theorem outRets_groups : ∀ (o : List Bool) (xs : List S1), groupsC (cellsAll (outRets o xs)) = retGroups true o xs
  | _, [] => rfl
  | o, s :: r => by
    simp only [outRets, cellsAll, retGroups, groupsC_append]
    rw [outRets_groups o.tail r]
    cases headB o with
    | true => rfl
    | false => simp only [cells_map, groupsC_toRo]; rfl

theorem keep_own {g1 : G} {gs : List Nat} (h7 : ∀ c u, RelC g w c u → RelC g1 w (gs.foldl (fun c g => C.relinq g c) c) u) : ∀ {cs : List C} {us : List Value}, (∀ r ∈ groupsC cs, r ∉ gs) → All2 (RelC g w) cs us → All2 (RelC g1 w) cs us
  | [], [], _, _ => trivial
  | ⟨.ro, av⟩ :: cs, u :: us, hn, h => by
    have := h7 _ _ h.1
    rw [foldl_relinq_ro] at this
    exact ⟨this, keep_own h7 (fun r hr => hn r (by simpa [groupsC] using hr)) h.2⟩
  | ⟨.own q s, av⟩ :: cs, u :: us, hn, h => by
    have := h7 _ _ h.1
    rw [foldl_relinq_other _ _ _ _ (hn q (by simp [groupsC]))] at this
    exact ⟨this, keep_own h7 (fun r hr => hn r (by simp [groupsC, hr])) h.2⟩
  | [], _ :: _, _, h => h.elim
  | _ :: _, [], _, h => h.elim

theorem S1.rel_of_cells {g g1 : G} {s s' : S1} {u : Value} (hr : RelS1 g w s u) (hform : (∃ c c', s = .c c ∧ s' = .c c') ∨ (∃ cs cs', s = .agg cs ∧ s' = .agg cs')) (hc : All2 (RelC g1 w) s'.cells u.cells.toList) : RelS1 g1 w s' u := by
  rcases hform with ⟨c, c', rfl, rfl⟩ | ⟨cs, cs', rfl, rfl⟩
  · have h1 := RelC.one (show RelC g w c u from hr)
    have : u.cells = #[u] := by cases u <;> first | rfl | simp [Value.oneCell'] at h1
    rw [this] at hc
    exact hc.1
  · obtain ⟨us, rfl, _⟩ := hr
    exact ⟨us, rfl, hc⟩

theorem outRets_rel {g1 : G} {gs : List Nat} (h7 : ∀ c u, RelC g w c u → RelC g1 w (gs.foldl (fun c g => C.relinq g c) c) u) : ∀ {o : List Bool} {xs : List S1} {us : List Value}, (∀ r ∈ retGroups true o xs, r ∉ gs) → (∀ r ∈ retGroups false o xs, r ∈ gs) →
    All2 (RelS1 g w) xs us → All2 (RelS1 g1 w) (outRets o xs) us
  | o, [], [], _, _, _ => trivial
  | o, s :: xs, u :: us, hn, hy, h => by
    simp only [retGroups, List.mem_append] at hn hy
    refine ⟨?_, outRets_rel h7 (fun r hr => hn r (.inr hr)) (fun r hr => hy r (.inr hr)) h.2⟩
    have hcs := S1.rel_cells h.1
    cases hb : headB o with
    | true =>
      simp only
      have hn' : ∀ r ∈ groupsC s.cells, r ∉ gs := fun r hr => hn r (.inl (by rw [hb]; exact hr))
      exact S1.rel_of_cells (s' := s) h.1 (by cases s; exact .inl ⟨_, _, rfl, rfl⟩; exact .inr ⟨_, _, rfl, rfl⟩) (keep_own h7 hn' hcs)
    | false =>
      simp only
      have hy' : ∀ r ∈ groupsC s.cells, r ∈ gs := fun r hr => hy r (.inl (by rw [hb]; exact hr))
      have hlg := All2.let_go h7 hy' hcs
      refine S1.rel_of_cells (s' := s.map C.toRo) h.1 (by cases s; exact .inl ⟨_, _, rfl, rfl⟩; exact .inr ⟨_, _, rfl, rfl⟩) ?_
      rw [cells_map]
      refine hlg.map C.toRo fun c u hc => ?_
      obtain ⟨t, av⟩ := c
      cases t <;> exact hc
  | _, [], _ :: _, _, _, h => h.elim
  | _, _ :: _, [], _, _, h => h.elim

theorem outBx_get : ∀ {l l' : List (List C)} {i : Nat}, outBx i l = some l' → l'.length = l.length ∧ ∀ (j : Nat) (cs' : List C), l'[j]? = some cs' → ∃ cs, l[j]? = some cs ∧ reBox (i + j) (i + j) 0 cs = some cs'
  | [], l', i, h => by
    simp [outBx] at h
    subst h
    exact ⟨rfl, fun j cs' hc => by simp at hc⟩
  | c :: r, l', i, h => by
    simp only [outBx] at h
    split at h
    · simp at h
    · rename_i c' hc'
      split at h
      · simp at h
      · rename_i l hl
        simp at h
        subst h
        obtain ⟨h1, h2⟩ := outBx_get hl
        refine ⟨by simp [h1], fun j cs' hc => ?_⟩
        cases j with
        | zero =>
          simp at hc
          subst hc
          exact ⟨c, rfl, hc'⟩
        | succ j =>
          obtain ⟨cs, q1, q2⟩ := h2 j cs' (by simpa using hc)
          exact ⟨cs, by simpa using q1, by rw [show i + (j + 1) = i + 1 + j by omega]; exact q2⟩
theorem finK_sound {V : Env} {f : FuncId} {fn : Func} {s : S} {bx : List (List C)} {e : Exit} (hlen : w0.β.length = V.np f) (h : Post w0 M0 (finK V.P (V.np f) (V.sig f) (V.fin f) fn) (s, bx) e a w) :
    bodyPost V.P fn (fun e w' => ∃ v, e = .returned v ∧ RetOK w0 M0 s bx v w') e a w := by
  obtain ⟨x, st0, g0, hx, inv0, hk⟩ := h
  obtain ⟨g, inv⟩ := inv0.mask (Nat.le_of_eq hlen) (some ⟨resTmps fn, V.fin f⟩)
  have main : finM V.P (V.np f) (V.sig f) fn.results.toList (st0.mask (V.np f) (some ⟨resTmps fn, V.fin f⟩)) = some (s, bx) → a.defers = [] ∧ ∃ v, (results fn a.tmps).run V.P w = .ok v w ∧ ∃ v', Ending.returned v = .returned v' ∧ RetOK w0 M0 s bx v' w := by
    generalize st0.mask (V.np f) (some ⟨resTmps fn, V.fin f⟩) = st at inv
    intro hk
    refine ⟨inv.defs, ?_⟩
    simp only [finM] at hk
    split at hk
    · simp at hk
    · rename_i xs hxs
      obtain ⟨us, h1, h2⟩ := resL_sound (P := V.P) inv hxs
      unfold finS at hk
      have h3 := (bif_some hk).1
      replace hk := (bif_some hk).2
      simp only [Bool.and_eq_true] at h3
      obtain ⟨⟨⟨⟨h3, h3d⟩, hb1⟩, hb2⟩, hb3⟩ := h3
      have hb3 := Nat.le_of_ble_eq_true hb3
      split at hk
      · rename_i l hl
        simp only [Option.some.injEq, Prod.mk.injEq] at hk
        obtain ⟨hs, hbx⟩ := hk
        subst hbx
        simp at h3
        obtain ⟨g1, inv1, hβ1, hM1, _, h6, h7, _⟩ := relinqAll_inv (retGroups false (V.sig f) xs) inv
        have hout := outRets_rel h7 (fun r hr => disjointN_out h3d r hr) (fun r hr => hr) h2
        have hgr : groupsC (cellsOfS s) = retGroups true (V.sig f) xs := by
          rw [← outRets_groups]
          subst hs
          match outRets (V.sig f) xs with
          | [] => rfl
          | [s1] => simp [cellsOfS, cellsAll]
          | s1 :: s2 :: l => rfl
        obtain ⟨o1, o2⟩ := outBx_get hl
        refine ⟨_, results_run h1, _, rfl, g1, inv1.ok, ?_, ?_, fun i cs' hcs' => ?_, ?_, ?_⟩
        · subst hs
          match outRets (V.sig f) xs, us, hout with
          | [], [], _ => exact ⟨#[], rfl, trivial⟩
          | [s1], [u], hout => exact hout.1
          | s1 :: s2 :: l, u1 :: u2 :: us, hout => exact ⟨(u1 :: u2 :: us).toArray, rfl, hout⟩
        · rw [hgr]
          exact dup_false h3.2
        · obtain ⟨cs, q1, q2⟩ := o2 i cs' hcs'
          rw [List.getElem?_take] at q1
          split at q1
          · rename_i hi
            obtain ⟨blk, us', T, r1, r2, r3⟩ := inv.rel.boxes i cs q1
            refine ⟨blk, us', T, by rw [hβ1]; exact r1, r2, reBox_rel (gA := g) (gB := g1) hM1 (fun o ho => ?_) q2 r3⟩
            rw [Nat.zero_add]
            refine h6 _ fun hm => ?_
            rcases noBox_get hb2 hm with h | h
            · have := grpB_odd i o
              omega
            · rw [grpB_div ho] at h
              omega
          · simp at q1
        · rw [o1, List.length_take, hlen]
          omega
        · rw [hgr, hlen]
          exact hb1
      · simp at hk
  cases e <;> cases x <;> simp only [ExM] at hx
  · obtain ⟨h1, v, h2, v', h3, h4⟩ := main hk
    exact ⟨h1, v, h2, v', h3, h4⟩
  · simp [finK] at hk
  · obtain ⟨h1, v, h2, v', h3, h4⟩ := main hk
    exact ⟨h1, v, h2, v', h3, h4⟩
end
end Go.Proofs.Ythiaaaedfidnjaa.Am

namespace Go.Proofs.Ythiaaaedfidnjaa.Am
open Go Go.RowKit

/-! # What an operation's value hangs on -/
section
variable {X : St} {N : St → Prop} {K : S → Option Res} {r : Res}

/-- The value is the same in every state that agrees; the state goes by. -/
def Tr (X : St) (N : St → Prop) (K : S → Option Res) (r : Res) (F : St → KO → Option Res) : Prop :=
  F X (fun s _ => K s) = some r → ∃ s, K s = some r ∧ ∀ (Y : St), N Y → ∀ k' : KO, F Y k' = k' s Y

theorem tr_br {b : Bool} {F : St → KO → Option Res} (h : Tr X N K r F) : Tr X N K r (fun st k => br b (F st k) none) := by
  intro h1
  rcases br_some h1 with ⟨rfl, h2⟩ | ⟨_, h2⟩
  · exact h h2
  · simp at h2
theorem tr_br' {b : Bool} {F : St → KO → Option Res} (h : Tr X N K r F) : Tr X N K r (fun st k => br b none (F st k)) := by
  intro h1
  rcases br_some h1 with ⟨_, h2⟩ | ⟨rfl, h2⟩
  · simp at h2
  · exact h h2
theorem tr_k {s : S} : Tr X N K r (fun st k => k s st) := fun h => ⟨s, h, fun _ _ _ => rfl⟩
theorem tr_fr {s : S} {g : Nat} (hN : ∀ Y, N Y → C.freshen g Y = Y) : Tr X N K r (fun st k => k s (C.freshen g st)) := fun h => ⟨s, h, fun Y hy k' => by simp only [hN Y hy]⟩
theorem tr_none : Tr X N K r (fun _ _ => none) := fun h => by simp at h
theorem tr_bif {b : Bool} {F : St → KO → Option Res} (h : Tr X N K r F) : Tr X N K r (fun st k => bif b then F st k else none) := by
  cases b with
  | true => exact h
  | false => exact tr_none
theorem tr_bifn {b : Bool} {F : St → KO → Option Res} (h : Tr X N K r F) : Tr X N K r (fun st k => bif b then none else F st k) := by
  cases b with
  | true => exact tr_none
  | false => exact h
theorem tr_opt {α : Type} {o : Option α} {F : α → St → KO → Option Res} (h : ∀ a, Tr X N K r (F a)) : Tr X N K r (fun st k => match o with | some a => F a st k | none => none) := by
  cases o with
  | none => exact tr_none
  | some a => exact h a

/-- As 'Tr', where only a value is made. -/
def TrV (K : Value → Option Res) (r : Res) (F : (Value → Option Res) → Option Res) : Prop := F K = some r → ∃ v, K v = some r ∧ ∀ k', F k' = k' v
theorem trv_of {F : (Value → Option Res) → Option Res} {K : S → Option Res} (h : ∀ K' : Value → Option Res, TrV K' r F) : Tr X N K r (fun st k => F fun v => k (vS v) st) := by
  intro h1
  obtain ⟨v, h2, h3⟩ := h _ h1
  exact ⟨vS v, h2, fun _ _ k' => h3 _⟩
theorem trv_k {K : Value → Option Res} {v : Value} : TrV K r (fun k => k v) := fun h => ⟨v, h, fun _ => rfl⟩
theorem trv_none {K : Value → Option Res} : TrV K r (fun _ => none) := fun h => by simp at h
theorem trv_bif {K : Value → Option Res} {b : Bool} {F : (Value → Option Res) → Option Res} (h : TrV K r F) : TrV K r (fun k => bif b then F k else none) := by
  cases b with
  | true => exact h
  | false => exact trv_none
theorem trv_br' {K : Value → Option Res} {b : Bool} {F : (Value → Option Res) → Option Res} (h : TrV K r F) : TrV K r (fun k => br b none (F k)) := by
  intro h1
  rcases br_some h1 with ⟨_, h2⟩ | ⟨rfl, h2⟩
  · simp at h2
  · exact h h2

theorem trv_int {op : BinOp} {ka kb : IntKind} {m n : Int} (K : Value → Option Res) : TrV K r (binInt op ka m kb n) := by
  unfold binInt
  cases op
  case shl => exact trv_br' trv_k
  case shr => exact trv_br' trv_k
  case quo => exact trv_bif (trv_br' trv_k)
  case rem => exact trv_bif (trv_br' trv_k)
  case and => exact trv_bif (by cases bits .and ka m n with | none => exact trv_none | some q => exact trv_k)
  case or => exact trv_bif (by cases bits .or ka m n with | none => exact trv_none | some q => exact trv_k)
  case xor => exact trv_bif (by cases bits .xor ka m n with | none => exact trv_none | some q => exact trv_k)
  case andNot => exact trv_bif (by cases bits .andNot ka m n with | none => exact trv_none | some q => exact trv_k)
  all_goals exact trv_bif trv_k
theorem trv_bin {P : Program} {op : BinOp} {T : TypeId} {x y : S1} (K : Value → Option Res) : TrV K r (binK P op T x y) := by
  unfold binK
  split
  · exact trv_int K
  · unfold binStr
    cases op <;> first | exact trv_k | exact trv_none
  · split
    · unfold binBool
      cases op <;> first | exact trv_k | exact trv_none
    · exact trv_none
  · split
    · unfold binNil
      cases op <;> first | exact trv_k | exact trv_none
    · exact trv_none
  · unfold binAgg
    cases P.eqGuardType P.depth T with
    | true => exact trv_none
    | false =>
      simp only [cond_false]
      cases op <;> first
        | exact trv_none
        | (dsimp only
           cases eqT P 8 true T _ _ with
           | none => exact trv_none
           | some t => exact trv_k)
  · exact trv_none

theorem tr_indexAddr {P : Program} {T : TypeId} {c : C} {i : Int} : Tr X N K r (fun st k => indexAddrK P T c i st k) := by
  unfold indexAddrK
  split
  · exact tr_none
  · split
    · exact tr_bif (tr_br tr_k)
    · exact tr_bif (tr_br tr_k)
    · exact tr_none
theorem tr_indexStr {s : ByteArray} {i : Int} : Tr X N K r (fun st k => indexStr s i st k) := by unfold indexStr; exact tr_br tr_k
theorem tr_fieldAddr {P : Program} {T : TypeId} {c : C} {f : Nat} : Tr X N K r (fun st k => fieldAddrK P T f c st k) := by
  unfold fieldAddrK
  split
  · exact tr_none
  · split
    · exact tr_k
    · exact tr_k
    · exact tr_none
theorem tr_field {P : Program} {T : TypeId} {s : S1} {f : Nat} : Tr X N K r (fun st k => fieldK P T f s st k) := by
  unfold fieldK
  split
  · exact tr_none
  · split
    · split
      · exact tr_k
      · exact tr_none
    · exact tr_none
theorem tr_len {P : Program} {T : TypeId} {c : C} : Tr X N K r (fun st k => lenK P T c st k) := by
  unfold lenK
  split
  · split
    · exact tr_k
    · exact tr_k
    · exact tr_k
    · exact tr_none
  · split
    · exact tr_k
    · exact tr_none
  · exact tr_none
theorem tr_slice {P : Program} {T : TypeId} {c : C} {lo hi mx : Option Int} : Tr X N K r (fun st k => sliceK P T c lo hi mx st k) := by
  unfold sliceK
  split
  · split
    · unfold sliceStr
      split
      · exact tr_k
      · exact tr_br tr_k
      · exact tr_br tr_k
      · exact tr_br (tr_br tr_k)
    · exact tr_none
  · split
    · exact tr_none
    · split
      · refine tr_bif ?_
        unfold sliceRow
        split
        · exact tr_k
        · exact tr_br tr_k
        · exact tr_br tr_k
        · exact tr_br (tr_br tr_k)
        · exact tr_br (tr_br (tr_br' tr_k))
        · exact tr_none
      · exact tr_none
  · exact tr_none
theorem tr_pick {c : Bool} {x y : S} : Tr X N K r (fun st k => pickK c x y st k) := by
  unfold pickK
  split
  · exact tr_k
  · intro h
    rcases br_some h with ⟨rfl, h⟩ | ⟨rfl, h⟩
    · exact ⟨x, h, fun _ _ _ => rfl⟩
    · exact ⟨y, h, fun _ _ _ => rfl⟩

/-! no member of a group: letting it go is nothing -/
theorem noMemC_relinq {g : Nat} : ∀ {cs : List C}, noMemC g cs = true → mapL (C.relinq g) cs = cs
  | [], _ => rfl
  | ⟨.ro, av⟩ :: r, h => by simp only [mapL, C.relinq]; rw [noMemC_relinq (by simpa [noMemC] using h)]
  | ⟨.own g' s, av⟩ :: r, h => by
    simp [noMemC] at h
    simp only [mapL, C.relinq]
    rcases beq_cases g g' with ⟨hb, he⟩ | ⟨hb, he⟩
    · rw [hb] at h; simp at h
    · simp only [hb, cond_false]
      rw [noMemC_relinq h.2]
theorem noMemC_append {g : Nat} : ∀ {xs ys : List C}, noMemC g (xs ++ ys) = true → noMemC g xs = true ∧ noMemC g ys = true
  | [], ys, h => ⟨rfl, h⟩
  | ⟨.ro, av⟩ :: r, ys, h => by simp only [List.cons_append, noMemC] at h ⊢; exact noMemC_append h
  | ⟨.own g' s, av⟩ :: r, ys, h => by
    simp only [List.cons_append, noMemC, Bool.and_eq_true] at h ⊢
    obtain ⟨h1, h2⟩ := noMemC_append h.2
    exact ⟨⟨h.1, h1⟩, h2⟩
theorem noMem_S1 {g : Nat} {s : S1} (h : noMemC g s.cells = true) : s.map (C.relinq g) = s := by
  cases s with
  | c x =>
    have := noMemC_relinq (cs := [x]) h
    simp [mapL] at this
    simp [S1.map, this]
  | agg xs => show S1.agg (mapL (C.relinq g) xs) = _; rw [noMemC_relinq (cs := xs) h]
theorem noMem_S1s {g : Nat} : ∀ {xs : List S1}, noMemC g (sCells.cellsAllS xs) = true → mapL (S1.map (C.relinq g)) xs = xs
  | [], _ => rfl
  | s :: r, h => by
    simp only [sCells.cellsAllS] at h
    obtain ⟨h1, h2⟩ := noMemC_append h
    simp only [mapL]
    rw [noMem_S1 h1, noMem_S1s h2]
theorem noMem_S {g : Nat} {s : S} (h : noMemC g (sCells s) = true) : s.map (C.relinq g) = s := by
  cases s with
  | s x => simp only [S.map]; rw [noMem_S1 h]
  | tup xs => simp only [S.map]; rw [noMem_S1s h]
  | dead => rfl
theorem noMem_L {g : Nat} : ∀ {l : List S}, noMemL g l = true → mapL (S.map (C.relinq g)) l = l
  | [], _ => rfl
  | s :: r, h => by
    simp [noMemL] at h
    simp only [mapL]
    rw [noMem_S h.1, noMem_L h.2]
theorem noMem_B {g : Nat} : ∀ {l : List (List C)}, noMemB g l = true → mapL (mapL (C.relinq g)) l = l
  | [], _ => rfl
  | s :: r, h => by
    simp [noMemB] at h
    simp only [mapL]
    rw [noMemC_relinq h.1, noMem_B h.2]
theorem noMem_freshen {g : Nat} {st : St} (h : noMemL g st.sl = true ∧ noMemB g st.bx = true) : C.freshen g st = st := by
  unfold C.freshen St.map
  rw [noMem_L h.1, noMem_B h.2]
theorem noMemSt_cons {g : Nat} {gs : List Nat} {st : St} (h : noMemSt st (g :: gs) = true) : (noMemL g st.sl = true ∧ noMemB g st.bx = true) ∧ noMemSt st gs = true := by
  simp [noMemSt] at h
  exact ⟨h.1, h.2⟩
theorem noMem_freshAll {d : Nat} {st : St} : ∀ {n i : Nat}, noMemSt st (rangeG d n i) = true → freshAll d n i st = st
  | 0, _, _ => rfl
  | n + 1, i, h => by
    simp only [rangeG] at h
    obtain ⟨h1, h2⟩ := noMemSt_cons h
    simp only [freshAll]
    rw [noMem_freshen h1]
    exact noMem_freshAll h2

theorem noMemL_get {g : Nat} : ∀ {l : List S} {i : Nat} {s : S}, noMemL g l = true → l[i]? = some s → noMemC g (sCells s) = true
  | [], _, _, _, h => by simp at h
  | x :: r, 0, s, h, h1 => by simp [noMemL] at h; simp at h1; subst h1; exact h.1
  | x :: r, i + 1, s, h, h1 => by simp [noMemL] at h; exact noMemL_get h.2 (by simpa using h1)

/-! reading operands -/
variable {X Y : St}
theorem get1_eq {x : Operand} (h : Y.get x = X.get x) : Y.get1 x = X.get1 x := by simp only [St.get1, h]
theorem getC_eq {x : Operand} (h : Y.get x = X.get x) : Y.getC x = X.getC x := by simp only [St.getC, h]
theorem getInt_eq {x : Operand} (h : Y.get x = X.get x) : Y.getInt x = X.getInt x := by simp only [St.getInt, getC_eq h]
theorem getBool_eq {x : Operand} (h : Y.get x = X.get x) : Y.getBool x = X.getBool x := by simp only [St.getBool, getC_eq h]
theorem intOf?_eq {x : Option Operand} (h : ∀ y ∈ x.toList, Y.get y = X.get y) : intOf? Y x = intOf? X x := by
  cases x with
  | none => rfl
  | some y => simp only [intOf?, getInt_eq (h y (by simp))]
theorem argsOf_eq : ∀ {l : List Operand}, (∀ x ∈ l, Y.get x = X.get x) → argsOf Y l = argsOf X l
  | [], _ => rfl
  | x :: r, h => by
    simp only [argsOf, get1_eq (h x (by simp)), argsOf_eq (l := r) fun y hy => h y (by simp [hy])]
theorem ptrArgs_eq : ∀ {l : List Operand}, (∀ x ∈ l, Y.get x = X.get x) → ptrArgs Y l = ptrArgs X l
  | [], _ => rfl
  | x :: r, h => by
    simp only [ptrArgs, get1_eq (h x (by simp)), ptrArgs_eq (l := r) fun y hy => h y (by simp [hy])]
theorem groupsOf_eq : ∀ {l : List Operand}, (∀ x ∈ l, Y.get x = X.get x) → groupsOf Y l = groupsOf X l
  | [], _ => rfl
  | x :: r, h => by
    simp only [groupsOf, get1_eq (h x (by simp)), groupsOf_eq (l := r) fun y hy => h y (by simp [hy])]
theorem foldMM_eq {mx : Bool} : ∀ {l : List Operand} {a : IntKind × Int}, (∀ x ∈ l, Y.get x = X.get x) → foldMM mx Y a l = foldMM mx X a l
  | [], _, _ => rfl
  | x :: r, (k, a), h => by
    simp only [foldMM, getInt_eq (h x (by simp))]
    cases X.getInt x with
    | none => rfl
    | some b => exact foldMM_eq fun y hy => h y (by simp [hy])
theorem partFor_eq {j : Nat} : ∀ {l : List (Nat × Operand)}, (∀ x ∈ l, Y.get x.2 = X.get x.2) → partFor Y j l = partFor X j l
  | [], _ => rfl
  | (i, x) :: r, h => by
    simp only [partFor, get1_eq (h (i, x) (by simp)), partFor_eq (l := r) fun y hy => h y (by simp [hy])]
theorem partsOK_eq {e : CL} {n : Nat} : ∀ {l : List (Nat × Operand)}, (∀ x ∈ l, Y.get x.2 = X.get x.2) → partsOK Y e n l = partsOK X e n l
  | [], _ => rfl
  | (i, x) :: r, h => by
    simp only [partsOK, get1_eq (h (i, x) (by simp)), partsOK_eq (l := r) fun y hy => h y (by simp [hy])]
theorem buildEls_eq {P : Program} {E : TypeId} {e : CL} {l : List (Nat × Operand)} (h : ∀ x ∈ l, Y.get x.2 = X.get x.2) : ∀ {n j : Nat}, buildEls P E Y e l n j = buildEls P E X e l n j
  | 0, _ => rfl
  | n + 1, j => by simp only [buildEls, partFor_eq h, buildEls_eq h (n := n)]
theorem buildFill_eq {pl : List (Nat × Nat)} : ∀ {l : List (Nat × Operand)} {cs : List C}, (∀ x ∈ l, Y.get x.2 = X.get x.2) → buildFill Y pl cs l = buildFill X pl cs l
  | [], _, _ => rfl
  | (i, x) :: r, cs, h => by
    simp only [buildFill, get1_eq (h (i, x) (by simp))]
    cases pl[i]? with
    | none => rfl
    | some q =>
      obtain ⟨o, n⟩ := q
      cases X.get1 x with
      | none => rfl
      | some s =>
        simp only
        cases (Nat.beq s.cells.length n && Nat.ble (o + s.cells.length) cs.length) with
        | false => rfl
        | true => exact buildFill_eq fun y hy => h y (by simp [hy])

/-! killing a set of groups at once -/
def C.killP (p : Nat → Bool) (c : C) : C := match c with | ⟨.own g s, av⟩ => bif p g then ⟨.ro, .junk⟩ else ⟨.own g s, av⟩ | c => c
theorem killP_id {p : Nat → Bool} : ∀ {cs : List C}, (∀ q ∈ groupsC cs, p q = false) → mapL (C.killP p) cs = cs
  | [], _ => rfl
  | ⟨.ro, av⟩ :: r, h => by simp only [mapL, C.killP]; rw [killP_id (by simpa [groupsC] using h)]
  | ⟨.own g s, av⟩ :: r, h => by
    simp only [mapL, C.killP, h g (by simp [groupsC]), cond_false]
    rw [killP_id fun q hq => h q (by simp [groupsC, hq])]
theorem mapL_take {α β : Type} (f : α → β) (l : List α) (n : Nat) : mapL f (l.take n) = (mapL f l).take n := by simp [mapL_eq]
theorem mapL_drop {α β : Type} (f : α → β) (l : List α) (n : Nat) : mapL f (l.drop n) = (mapL f l).drop n := by simp [mapL_eq]
theorem mapL_length {α β : Type} (f : α → β) (l : List α) : (mapL f l).length = l.length := by simp [mapL_eq]
theorem ofCells_map {b : Bool} {f : C → C} {cs : List C} {s : S1} (h : ofCells b cs = some s) : ofCells b (mapL f cs) = some (s.map f) := by
  unfold ofCells at h
  split at h
  · injection h with h; subst h; rfl
  · injection h with h; subst h; rfl
  · simp at h
theorem ofCells_cells {b : Bool} {cs : List C} {s : S1} (h : ofCells b cs = some s) : s.cells = cs := by
  unfold ofCells at h
  split at h
  · injection h with h; subst h; rfl
  · injection h with h; subst h; rfl
  · simp at h
theorem partOf_map {P : Program} {T : TypeId} {cs : List C} {o : Nat} {s : S1} {f : C → C} (h : partOf P T cs o = some s) : partOf P T (mapL f cs) o = some (s.map f) := by
  unfold partOf at h ⊢
  cases hu : P.underlying T with
  | none => rw [hu] at h; simp at h
  | some u =>
    rw [hu] at h
    simp only at h ⊢
    rw [← mapL_drop, ← mapL_take, mapL_length]
    cases hb : Nat.beq ((cs.drop o).take (P.cellsOf T)).length (P.cellsOf T) with
    | false => rw [hb] at h; simp at h
    | true =>
      rw [hb] at h
      exact ofCells_map h
theorem killP_S1 {p : Nat → Bool} {s : S1} (h : ∀ q ∈ groupsC s.cells, p q = false) : s.map (C.killP p) = s := by
  cases s with
  | c x =>
    have := killP_id (cs := [x]) h
    simp [mapL] at this
    simp [S1.map, this]
  | agg xs => show S1.agg (mapL (C.killP p) xs) = _; rw [killP_id (cs := xs) h]
theorem killP_S1s {p : Nat → Bool} : ∀ {xs : List S1}, (∀ q ∈ groupsC (sCells.cellsAllS xs), p q = false) → mapL (S1.map (C.killP p)) xs = xs
  | [], _ => rfl
  | s :: r, h => by
    simp only [sCells.cellsAllS, groupsC_append] at h
    simp only [mapL]
    rw [killP_S1 fun q hq => h q (by simp [hq]), killP_S1s fun q hq => h q (by simp [hq])]
theorem killP_S {p : Nat → Bool} {s : S} (h : ∀ q ∈ groupsC (sCells s), p q = false) : s.map (C.killP p) = s := by
  cases s with
  | s x => simp only [S.map]; rw [killP_S1 h]
  | tup xs => simp only [S.map]; rw [killP_S1s h]
  | dead => rfl
theorem tr_load {P : Program} {T : TypeId} {c : C} (h : loadK P T c X (fun s _ => K s) = some r) :
    ∃ s, K s = some r ∧ ∀ (Y : St) (p : Nat → Bool), (∀ (b : Nat) (cs : List C), X.bx[b]? = some cs → Y.bx[b]? = some (mapL (C.killP p) cs)) → (∀ q ∈ groupsC (sCells s), p q = false) → ∀ k' : KO, loadK P T c Y k' = k' s Y := by
  unfold loadK at h
  split at h
  · rename_i b o hav
    split at h
    · simp at h
    · rename_i cs hb
      split at h
      · rename_i s hs
        refine ⟨_, h, fun Y p hY hg k' => ?_⟩
        unfold loadK
        have h1 : Y.bx[b]? = some (mapL (C.killP p) cs) := hY b cs hb
        simp only [hav, h1, partOf_map hs, killP_S1 hg]
      · simp at h
  · rename_i e xs i o hav
    split at h
    · rename_i s hs
      refine ⟨_, h, fun Y p hY hg k' => ?_⟩
      unfold loadK
      simp only [hav, hs]
    · simp at h
  · simp at h
end
end Go.Proofs.Ythiaaaedfidnjaa.Am

namespace Go.Proofs.Ythiaaaedfidnjaa.Am
open Go Go.RowKit
section
variable {X : St} {N : St → Prop} {K : S → Option Res} {r : Res}

theorem noMem_one {g : Nat} {gs : List Nat} {Y : St} (h : noMemSt Y (g :: gs) = true) : C.freshen g Y = Y := noMem_freshen (noMemSt_cons h).1

theorem kill_noMemC {g q : Nat} : ∀ {cs : List C}, noMemC g cs = true → noMemC g (mapL (C.kill q) cs) = true
  | [], _ => rfl
  | ⟨.ro, av⟩ :: r, h => by simp only [mapL, C.kill, noMemC]; exact kill_noMemC (by simpa [noMemC] using h)
  | ⟨.own g' s, av⟩ :: r, h => by
    simp only [noMemC, Bool.and_eq_true] at h
    simp only [mapL, C.kill]
    rcases beq_cases q g' with ⟨hb, _⟩ | ⟨hb, _⟩
    · rw [hb]; exact kill_noMemC h.2
    · rw [hb]; simp only [cond_false, noMemC, Bool.and_eq_true]; exact ⟨h.1, kill_noMemC h.2⟩
theorem sCells_map {f : C → C} {s : S} : sCells (s.map f) = mapL f (sCells s) := by
  have hs1 : ∀ x : S1, (x.map f).cells = mapL f x.cells := fun x => by cases x <;> rfl
  cases s with
  | s x => exact hs1 x
  | dead => rfl
  | tup xs =>
    show sCells.cellsAllS (mapL (S1.map f) xs) = mapL f (sCells.cellsAllS xs)
    induction xs with
    | nil => rfl
    | cons a l ih =>
      simp only [mapL, sCells.cellsAllS, ih, hs1]
      simp [mapL_eq]
theorem kill_noMemL {g q : Nat} : ∀ {l : List S}, noMemL g l = true → noMemL g (mapL (S.map (C.kill q)) l) = true
  | [], _ => rfl
  | s :: r, h => by
    simp only [noMemL, Bool.and_eq_true] at h
    simp only [mapL, noMemL, Bool.and_eq_true, sCells_map]
    exact ⟨kill_noMemC h.1, kill_noMemL h.2⟩
theorem kill_noMemB {g q : Nat} : ∀ {l : List (List C)}, noMemB g l = true → noMemB g (mapL (mapL (C.kill q)) l) = true
  | [], _ => rfl
  | s :: r, h => by
    simp only [noMemB, Bool.and_eq_true] at h
    simp only [mapL, noMemB, Bool.and_eq_true]
    exact ⟨kill_noMemC h.1, kill_noMemB h.2⟩

def aft (used : Option Nat) (Y : St) : St := match used with | none => Y | some g => Y.map (C.kill g)
/-- What holds of an operation's other states. -/
def Like (o : Oper) (X : St) (made : List Nat) (s : S) (Y : St) (p : Nat → Bool) : Prop :=
  (∀ x ∈ o.op.operands.toList, Y.get x = X.get x) ∧ (isLoad o.op = true → ∀ (b : Nat) (cs : List C), X.bx[b]? = some cs → Y.bx[b]? = some (mapL (C.killP p) cs)) ∧ noMemSt Y made = true ∧ ∀ q ∈ groupsC (sCells s), p q = false

theorem tr_append {P : Program} {d : Nat} {T T2 : TypeId} {a b : C} {used : Option Nat}
    (hu : (match a with | ⟨.own g _, .sl _ _ _⟩ => some ([grp d 0], some g) | ⟨.own _ _, _⟩ => none | _ => some ([grp d 0], none)) = some ([grp d 0], used))
    (h : appendK P d T T2 a b X (fun s _ => K s) = some r) :
    ∃ s, K s = some r ∧ ∀ (Y : St), noMemSt Y [grp d 0] = true → ∀ k' : KO, appendK P d T T2 a b Y k' = k' s (aft used Y) := by
  unfold appendK at h ⊢
  cases he : elemOfT P T with
  | none => rw [he] at h; simp at h
  | some Ee =>
    obtain ⟨E, e⟩ := Ee
    rw [he] at h
    simp only at h ⊢
    cases hs : srcOf P T2 e b with
    | none => rw [hs] at h; simp at h
    | some ys =>
      rw [hs] at h
      simp only at h ⊢
      split at h
      · rename_i t
        rcases br_some h with ⟨hb, h⟩ | ⟨_, h⟩
        · refine ⟨_, h, fun Y hY k' => ?_⟩
          have hu' : used = none := by
            cases t with
            | ro => simpa using hu.symm
            | own _ _ => simp at hu
          subst hu'
          rw [hb, noMem_one hY]
          rfl
        · simp at h
      · rename_i g e' nl xs
        split at h
        · rename_i hbe
          rcases br_some h with ⟨hb, h⟩ | ⟨_, h⟩
          · refine ⟨_, h, fun Y hY k' => ?_⟩
            have hu' : used = some g := by simpa using hu.symm
            subst hu'
            have hY' : noMemSt (Y.map (C.kill g)) [grp d 0] = true := by
              obtain ⟨⟨h1, h2⟩, _⟩ := noMemSt_cons hY
              simp only [noMemSt, Bool.and_true, Bool.and_eq_true]
              exact ⟨kill_noMemL h1, kill_noMemB h2⟩
            simp only [dif_pos hbe]
            rw [hb, noMem_one hY']
            rfl
          · simp at h
        · simp at h
      · rename_i t e' xs
        split at h
        · rename_i hbe
          rcases br_some h with ⟨hb, h⟩ | ⟨_, h⟩
          · refine ⟨_, h, fun Y hY k' => ?_⟩
            cases t with
            | own _ _ => simp at hu
            | ro =>
              have hu' : used = none := by simpa using hu.symm
              subst hu'
              have h1 := noMem_one hY
              have h2 : Y.map (C.relinq (grp d 0)) = Y := h1
              simp only [dif_pos hbe, St.letGo]
              rw [hb, h1, h2]
              rfl
          · simp at h
        · simp at h
      · simp at h

theorem opK_tr {V : Env} {callF : FuncId → List S1 → List (List C) → Tree} {o : Oper} {made : List Nat} {used : Option Nat} (hc : classOf V o X = some (made, used)) (h : opK V callF o X (fun s _ => K s) = some r) :
    ∃ s, K s = some r ∧ ∀ (Y : St) (p : Nat → Bool), Like o X made s Y p → ∀ k' : KO, opK V callF o Y k' = k' s (aft used Y) := by
  obtain ⟨dst, op, type, pos, after, guard⟩ := o
  have use : ∀ {F : St → KO → Option Res}, Tr X (fun _ => True) K r F → F X (fun s _ => K s) = some r → used = none →
      (∀ (Y : St) (s : S) (p : Nat → Bool), Like ⟨dst, op, type, pos, after, guard⟩ X made s Y p → ∀ k', opK V callF ⟨dst, op, type, pos, after, guard⟩ Y k' = F Y k') →
      ∃ s, K s = some r ∧ ∀ (Y : St) (p : Nat → Bool), Like ⟨dst, op, type, pos, after, guard⟩ X made s Y p → ∀ k' : KO, opK V callF ⟨dst, op, type, pos, after, guard⟩ Y k' = k' s (aft used Y) := by
    intro F ht hF hu hY
    obtain ⟨s, h1, h2⟩ := ht hF
    subst hu
    exact ⟨s, h1, fun Y p hl k' => (hY Y s p hl k').trans (h2 Y trivial k')⟩
  have useF : ∀ {F : St → KO → Option Res} {g : Nat}, Tr X (fun Y => noMemSt Y [g] = true) K r F → made = [g] → F X (fun s _ => K s) = some r → used = none →
      (∀ (Y : St) (s : S) (p : Nat → Bool), Like ⟨dst, op, type, pos, after, guard⟩ X made s Y p → ∀ k', opK V callF ⟨dst, op, type, pos, after, guard⟩ Y k' = F Y k') →
      ∃ s, K s = some r ∧ ∀ (Y : St) (p : Nat → Bool), Like ⟨dst, op, type, pos, after, guard⟩ X made s Y p → ∀ k' : KO, opK V callF ⟨dst, op, type, pos, after, guard⟩ Y k' = k' s (aft used Y) := by
    intro F g ht hm hF hu hY
    obtain ⟨s, h1, h2⟩ := ht hF
    subst hu hm
    exact ⟨s, h1, fun Y p hl k' => (hY Y s p hl k').trans (h2 Y hl.2.2.1 k')⟩
  cases op <;> simp only [classOf] at hc <;> try (simp at hc; done)
  case move x =>
    simp only [opK] at h
    simp at hc
    split at h
    · rename_i s hs
      refine use (F := fun st k => k s st) tr_k h hc.2.symm fun Y s p hl k' => ?_
      simp only [opK, hl.1 x (by simp [Op.operands]), hs]
    · simp at h
  case assign x =>
    simp only [opK] at h
    simp at hc
    split at h
    · rename_i s hs
      refine use (F := fun st k => k s st) tr_k h hc.2.symm fun Y s p hl k' => ?_
      simp only [opK, hl.1 x (by simp [Op.operands]), hs]
    · simp at h
  case pick c x y =>
    simp only [opK] at h
    simp at hc
    split at h
    · rename_i t u v h1 h2 h3
      refine use (F := fun st k => pickK t u v st k) tr_pick h hc.2.symm fun Y s p hl k' => ?_
      simp only [opK, hl.1 x (by simp [Op.operands]), hl.1 y (by simp [Op.operands]), getBool_eq (hl.1 c (by simp [Op.operands])), h1, h2, h3]
    · simp at h
  case build T ps =>
    simp only [opK] at h
    simp at hc
    unfold buildK at h
    split at h
    · rename_i fs hf
      split at h
      · rename_i pl z h1 h2
        split at h
        · rename_i cs h3
          refine use (F := fun st k => k (.s (.agg cs)) st) tr_k h hc.2.symm fun Y s p hl k' => ?_
          have hq : ∀ x ∈ ps.toList, Y.get x.2 = X.get x.2 := fun x hx => hl.1 x.2 (by simp only [Op.operands, List.mem_map]; exact ⟨x, hx, rfl⟩)
          simp only [opK, buildK, hf, h1, h2, buildFill_eq hq, h3]
        · simp at h
      · simp at h
    · simp at h
  case buildSlice T n ps =>
    simp only [opK] at h
    cases hg : groupsOf X (mapL (·.2) ps.toList) with
    | cons q l => rw [hg] at hc; simp at hc
    | nil =>
      rw [hg] at hc
      simp at hc
      unfold buildSliceK at h
      split at h
      · simp at h
      · rename_i E e he
        cases hb : (Nat.ble (n * e.size) 16777216 && partsOK X e n ps.toList) with
        | false => rw [hb] at h; simp at h
        | true =>
          rw [hb] at h
          simp only [cond_true] at h
          split at h
          · simp at h
          · rename_i xs hx
            refine useF (F := fun st k => k (.s (.c ⟨.own (grp (dst.getD 0) 0) none, .sl e false xs⟩)) (C.freshen (grp (dst.getD 0) 0) st)) (tr_fr fun Y hY => noMem_one hY) hc.1.symm h hc.2.symm fun Y s p hl k' => ?_
            have hq : ∀ x ∈ ps.toList, Y.get x.2 = X.get x.2 := fun x hx => hl.1 x.2 (by simp only [Op.operands, List.mem_map]; exact ⟨x, hx, rfl⟩)
            have hq2 : ∀ x ∈ mapL (·.2) ps.toList, Y.get x = X.get x := fun x hx => hl.1 x (by simpa only [Op.operands, mapL_eq] using hx)
            simp only [opK, buildSliceK, he, partsOK_eq hq, hb, cond_true, buildEls_eq hq, hx, groupsOf_eq hq2, hg]
            rfl
  case load T x =>
    simp only [opK] at h
    simp at hc
    split at h
    · rename_i c h1
      obtain ⟨s, h2, h3⟩ := tr_load h
      obtain ⟨_, rfl⟩ := hc
      refine ⟨s, h2, fun Y p hl k' => ?_⟩
      simp only [opK, getC_eq (hl.1 x (by simp [Op.operands])), h1]
      exact h3 Y p (hl.2.1 rfl) hl.2.2.2 k'
    · simp at h
  case binOp op T x y q =>
    simp only [opK] at h
    simp at hc
    split at h
    · rename_i u v h1 h2
      refine use (F := fun st k => binK V.P op T u v (fun v => k (vS v) st)) (trv_of fun K' => trv_bin K') h hc.2.symm fun Y s p hl k' => ?_
      simp only [opK, get1_eq (hl.1 x (by simp [Op.operands])), get1_eq (hl.1 y (by simp [Op.operands])), h1, h2]
    · simp at h
  case unOp op T x =>
    simp only [opK] at h
    simp at hc
    split at h
    · rename_i t v h1
      split at h
      · rename_i u h2
        refine use (F := fun st k => k (vS u) st) tr_k h hc.2.symm fun Y s p hl k' => ?_
        simp only [opK, getC_eq (hl.1 x (by simp [Op.operands])), h1, h2]
      · simp at h
    · simp at h
  case convert T U x =>
    simp only [opK] at h
    simp at hc
    split at h
    · rename_i c h1
      refine useF (F := fun st k => convertK V.P (dst.getD 0) T U c st k) ?_ hc.1.symm h hc.2.symm fun Y s p hl k' => ?_
      · unfold convertK
        split
        · exact tr_k
        · exact tr_k
        · split
          · exact tr_k
          · exact tr_none
        · split
          · exact tr_k
          · exact tr_none
        · split
          · exact tr_k
          · exact tr_none
        · split
          · exact tr_fr fun Y hY => noMem_one hY
          · exact tr_none
        · split
          · exact tr_bif tr_k
          · exact tr_none
        · exact tr_none
      · simp only [opK, getC_eq (hl.1 x (by simp [Op.operands])), h1]
    · simp at h
  case makeSlice T l c =>
    simp only [opK] at h
    simp at hc
    split at h
    · rename_i k1 m k2 n h1 h2
      refine useF (F := fun st k => makeSliceK V.P (dst.getD 0) T m n st k) ?_ hc.1.symm h hc.2.symm fun Y s p hl k' => ?_
      · unfold makeSliceK
        split
        · exact tr_none
        · split
          · exact tr_none
          · exact tr_br (tr_br (tr_fr fun Y hY => noMem_one hY))
      · simp only [opK, getInt_eq (hl.1 l (by simp [Op.operands])), getInt_eq (hl.1 c (by simp [Op.operands])), h1, h2]
    · simp at h
  case slice T x lo hi mx =>
    simp only [opK] at h
    simp at hc
    split at h
    · rename_i c l hh m h1 h2 h3 h4
      refine use (F := fun st k => sliceK V.P T c l hh m st k) tr_slice h hc.2.symm fun Y s p hl k' => ?_
      have e1 : intOf? Y lo = intOf? X lo := intOf?_eq fun y hy => hl.1 y (by simp [Op.operands]; simp at hy; simp [hy])
      have e2 : intOf? Y hi = intOf? X hi := intOf?_eq fun y hy => hl.1 y (by simp [Op.operands]; simp at hy; simp [hy])
      have e3 : intOf? Y mx = intOf? X mx := intOf?_eq fun y hy => hl.1 y (by simp [Op.operands]; simp at hy; simp [hy])
      simp only [opK, getC_eq (hl.1 x (by simp [Op.operands])), e1, e2, e3, h1, h2, h3, h4]
    · simp at h
  case fieldAddr T x f =>
    simp only [opK] at h
    simp at hc
    split at h
    · rename_i c h1
      refine use (F := fun st k => fieldAddrK V.P T f c st k) tr_fieldAddr h hc.2.symm fun Y s p hl k' => ?_
      simp only [opK, getC_eq (hl.1 x (by simp [Op.operands])), h1]
    · simp at h
  case field T x f =>
    simp only [opK] at h
    simp at hc
    split at h
    · rename_i c h1
      refine use (F := fun st k => fieldK V.P T f c st k) tr_field h hc.2.symm fun Y s p hl k' => ?_
      simp only [opK, get1_eq (hl.1 x (by simp [Op.operands])), h1]
    · simp at h
  case indexAddr T x i =>
    simp only [opK] at h
    simp at hc
    split at h
    · rename_i c kd n h1 h2
      refine use (F := fun st k => indexAddrK V.P T c n st k) tr_indexAddr h hc.2.symm fun Y s p hl k' => ?_
      simp only [opK, getC_eq (hl.1 x (by simp [Op.operands])), getInt_eq (hl.1 i (by simp [Op.operands])), h1, h2]
    · simp at h
  case index T x i =>
    simp only [opK] at h
    simp at hc
    split at h
    · rename_i t c kd n h0 h1 h2
      refine use (F := fun st k => indexStr c n st k) tr_indexStr h hc.2.symm fun Y s p hl k' => ?_
      simp only [opK, getC_eq (hl.1 x (by simp [Op.operands])), getInt_eq (hl.1 i (by simp [Op.operands])), h0, h1, h2]
    · simp at h
  case extract x i =>
    simp only [opK] at h
    simp at hc
    split at h
    · rename_i xs h1
      split at h
      · rename_i s h2
        refine use (F := fun st k => k (.s s) st) tr_k h hc.2.symm fun Y s p hl k' => ?_
        simp only [opK, hl.1 x (by simp [Op.operands]), h1, h2]
      · simp at h
    · simp at h
  case nilCheck x =>
    simp only [opK] at h
    simp at hc
    split at h
    · rename_i t b o h1
      refine use (F := fun st k => k (.s (.c ⟨t, .ptr b o⟩)) st) tr_k h hc.2.symm fun Y s p hl k' => ?_
      simp only [opK, getC_eq (hl.1 x (by simp [Op.operands])), h1]
    · rename_i t e xs i o h1
      refine use (F := fun st k => k (.s (.c ⟨t, .ea e xs i o⟩)) st) tr_k h hc.2.symm fun Y s p hl k' => ?_
      simp only [opK, getC_eq (hl.1 x (by simp [Op.operands])), h1]
    · simp at h
  case call c =>
    obtain ⟨callee, args, q1⟩ := c
    cases callee with
    | invoke a b => simp at hc
    | builtin b =>
      have hop : ∀ x ∈ args.toList, x ∈ (Op.operands (.call ⟨.builtin b, args, q1⟩)).toList := fun x hx => by simpa [Op.operands, Call.operands] using hx
      simp only [opK] at h
      unfold builtinK at h
      split at h
      · rename_i T x hT hx
        simp at hc
        split at h
        · rename_i c h1
          refine use (F := fun st k => lenK V.P T c st k) tr_len h hc.2.symm fun Y s p hl k' => ?_
          have e1 : Y.getC x = X.getC x := getC_eq (hl.1 x (hop x (by rw [hx]; simp)))
          simp only [opK, hT, hx]
          simp only [builtinK, e1, h1]
        · simp at h
      · rename_i T T2 x y hT hx
        simp only [hx] at hc
        split at h
        · rename_i a b h1 h2
          rw [h1] at hc
          have hm : made = [grp (dst.getD 0) 0] := by
            split at hc
            · simp at hc; exact hc.1.symm
            · simp at hc
            · simp at hc; exact hc.1.symm
          subst hm
          obtain ⟨s, h3, h4⟩ := tr_append (used := used) (d := dst.getD 0) (a := a) (by
            obtain ⟨t, av⟩ := a
            cases t with
            | ro => simpa using hc
            | own g q => cases av <;> simp_all) h
          refine ⟨s, h3, fun Y p hl k' => ?_⟩
          have e1 : Y.getC x = X.getC x := getC_eq (hl.1 x (hop x (by rw [hx]; simp)))
          have e2 : Y.getC y = X.getC y := getC_eq (hl.1 y (hop y (by rw [hx]; simp)))
          simp only [opK, hT, hx]
          simp only [builtinK, e1, e2, h1, h2]
          exact h4 Y hl.2.2.1 k'
        · simp at h
      · simp at hc
      · rename_i x l hx
        simp at hc
        split at h
        · rename_i a h1
          split at h
          · rename_i kd n h2
            refine use (F := fun st k => k (vS (.int kd n)) st) tr_k h hc.2.symm fun Y s p hl k' => ?_
            have e1 : Y.getInt x = X.getInt x := getInt_eq (hl.1 x (hop x (by rw [hx]; simp)))
            have e2 : foldMM true Y a l = foldMM true X a l := foldMM_eq fun y hy => hl.1 y (hop y (by rw [hx]; simp [hy]))
            simp only [opK, hx]
            simp only [builtinK, e1, h1, e2, h2]
          · simp at h
        · simp at h
      · rename_i x l hx
        simp at hc
        split at h
        · rename_i a h1
          split at h
          · rename_i kd n h2
            refine use (F := fun st k => k (vS (.int kd n)) st) tr_k h hc.2.symm fun Y s p hl k' => ?_
            have e1 : Y.getInt x = X.getInt x := getInt_eq (hl.1 x (hop x (by rw [hx]; simp)))
            have e2 : foldMM false Y a l = foldMM false X a l := foldMM_eq fun y hy => hl.1 y (hop y (by rw [hx]; simp [hy]))
            simp only [opK, hx]
            simp only [builtinK, e1, h1, e2, h2]
          · simp at h
        · simp at h
      · simp at h
    | value f =>
      simp only [opK] at h
      simp only at hc
      split at h
      · rename_i t f' h1
        rw [h1] at hc
        simp only at hc
        have hp : ptrArgs X args.toList = [] := by
          cases hp : ptrArgs X args.toList with
          | nil => rfl
          | cons x l => rw [hp] at hc; simp at hc
        rw [hp] at h hc
        simp only at h hc
        unfold callK at h
        split at h
        · simp at h
        · rename_i fn hfn
          rw [hfn] at hc
          simp only at hc
          cases hn : (fn.name == "runtime.NumGoroutine" || fn.body.isNone) with
          | true => rw [hn] at h; simp at h
          | false =>
            rw [hn] at h
            simp only [cond_false] at h
            split at h
            · simp at h
            · rename_i rt hrt
              rw [hrt] at hc
              simp only at hc
              split at h
              · simp at h
              · rename_i as has
                rw [Tree.go_eq] at h
                split at h
                · simp at h
                · rename_i x hx
                  have hq : ∀ (Y : St) (s : S) (p : Nat → Bool), Like ⟨dst, .call ⟨.value f, args, q1⟩, type, pos, after, guard⟩ X made s Y p → ∀ y ∈ args.toList, Y.get y = X.get y := fun Y s p hl y hy => hl.1 y (by simp [Op.operands, Call.operands]; exact .inr (by simpa using hy))
                  have hqf : ∀ (Y : St) (s : S) (p : Nat → Bool), Like ⟨dst, .call ⟨.value f, args, q1⟩, type, pos, after, guard⟩ X made s Y p → Y.get f = X.get f := fun Y s p hl => hl.1 f (by simp [Op.operands, Call.operands])
                  have hc' : made = rangeG (dst.getD 0) (bif anyTrue (V.sig f') then RT.cells rt else 0) 0 ∧ used = none ∧ (apartRT rt (V.sig f') = true ∨ groupsOf X args.toList = []) := by
                    cases hap : apartRT rt (V.sig f') with
                    | true => rw [hap] at hc; simp at hc; exact ⟨hc.1.symm, hc.2.symm, .inl rfl⟩
                    | false =>
                      rw [hap] at hc
                      cases hgr : groupsOf X args.toList with
                      | nil => rw [hgr] at hc; simp at hc; exact ⟨hc.1.symm, hc.2.symm, .inr rfl⟩
                      | cons q l => rw [hgr] at hc; simp at hc
                  obtain ⟨hm, rfl, hap⟩ := hc'
                  refine ⟨_, h, fun Y p hl k' => ?_⟩
                  simp only [opK, getC_eq (hqf _ _ _ hl), h1, ptrArgs_eq (hq _ _ _ hl), hp]
                  unfold callK
                  simp only [hfn, hn, hrt, argsOf_eq (hq _ _ _ hl), has, Tree.go_eq, hx, groupsOf_eq (hq _ _ _ hl), cond_false]
                  have e1 : (bif apartRT rt (V.sig f') then Y else relinqAll (groupsOf X args.toList) Y) = Y := by
                    rcases hap with h | h
                    · rw [h]; rfl
                    · rw [h]; cases apartRT rt (V.sig f') <;> rfl
                  rw [e1, noMem_freshAll (by rw [← hm]; exact hl.2.2.1)]
                  rfl
      · simp at h
end
end Go.Proofs.Ythiaaaedfidnjaa.Am

namespace Go.Proofs.Ythiaaaedfidnjaa.Am
open Go Go.RowKit

/-! # In any order -/
def putsD (D : Nat → Bool) : Nat → List (Option Nat × S) → St → St
  | _, [], X => X
  | i, e :: r, X => putsD D (i + 1) r (bif D i then X.putO e.1 e.2 else X)
theorem putO_bx {X : St} {d : Option Nat} {s : S} : (X.putO d s).bx = X.bx := by cases d <;> rfl
theorem putsD_bx {D : Nat → Bool} : ∀ {l : List (Option Nat × S)} {i : Nat} {X : St}, (putsD D i l X).bx = X.bx
  | [], _, _ => rfl
  | e :: r, i, X => by
    simp only [putsD]
    rw [putsD_bx]
    cases D i with
    | true => exact putO_bx
    | false => rfl
theorem putO_sl {X X' : St} {d : Option Nat} {s : S} {t : Nat} (h : X.sl[t]? = X'.sl[t]?) : (X.putO d s).sl[t]? = (X'.putO d s).sl[t]? := by
  cases d with
  | none => exact h
  | some d =>
    simp only [St.putO, St.put, List.getElem?_set]
    by_cases hd : d = t
    · subst hd
      have : d < X.sl.length ↔ d < X'.sl.length := by
        constructor <;> intro hlt
        · rcases Nat.lt_or_ge d X'.sl.length with h1 | h1
          · exact h1
          · rw [List.getElem?_eq_none h1] at h; have := List.getElem?_eq_none_iff.1 h; omega
        · rcases Nat.lt_or_ge d X.sl.length with h1 | h1
          · exact h1
          · rw [List.getElem?_eq_none h1] at h; have := List.getElem?_eq_none_iff.1 h.symm; omega
      simp [this]
    · simp [hd, h]
theorem putO_ne {X : St} {d : Option Nat} {s : S} {t : Nat} (h : d ≠ some t) : (X.putO d s).sl[t]? = X.sl[t]? := by
  cases d with
  | none => rfl
  | some d =>
    have : d ≠ t := fun he => h (he ▸ rfl)
    simp [St.putO, St.put, List.getElem?_set, this]
theorem putsD_slot {D D' : Nat → Bool} {t : Nat} : ∀ {l : List (Option Nat × S)} {i : Nat} {X X' : St}, X.sl[t]? = X'.sl[t]? →
    (∀ n e, l[n]? = some e → e.1 = some t → D (i + n) = D' (i + n)) → (putsD D i l X).sl[t]? = (putsD D' i l X').sl[t]?
  | [], _, _, _, h, _ => h
  | e :: r, i, X, X', h, hd => by
    simp only [putsD]
    refine putsD_slot ?_ fun n e' h1 h2 => ?_
    · by_cases he : e.1 = some t
      · have := hd 0 e rfl he
        simp only [Nat.add_zero] at this
        rw [this]
        cases D' i with
        | true => exact putO_sl h
        | false => exact h
      · have h1 : ∀ (b : Bool) (Z : St), (bif b then Z.putO e.1 e.2 else Z).sl[t]? = Z.sl[t]? := fun b Z => by
          cases b with
          | true => exact putO_ne he
          | false => rfl
        rw [h1, h1, h]
    · have := hd (n + 1) e' (by simpa using h1) h2
      rw [Nat.add_right_comm, Nat.add_assoc]
      exact this
theorem putO_comm {X : St} {d d' : Option Nat} {s s' : S} (h : ∀ t, d = some t → d' ≠ some t) : (X.putO d s).putO d' s' = (X.putO d' s').putO d s := by
  cases d with
  | none => rfl
  | some d =>
    cases d' with
    | none => rfl
    | some d' =>
      have : d ≠ d' := fun he => h d rfl (he ▸ rfl)
      simp only [St.putO, St.put]
      rw [List.set_comm _ _ this]
theorem putsD_put {D : Nat → Bool} {d : Option Nat} {s : S} : ∀ {l : List (Option Nat × S)} {i : Nat} {X : St},
    (∀ n e, l[n]? = some e → D (i + n) = true → ∀ t, d = some t → e.1 ≠ some t) → putsD D i l (X.putO d s) = (putsD D i l X).putO d s
  | [], _, _, _ => rfl
  | e :: r, i, X, h => by
    simp only [putsD]
    have h2 : ∀ n e', r[n]? = some e' → D (i + 1 + n) = true → ∀ t, d = some t → e'.1 ≠ some t := fun n e' h1 h2 =>
      h (n + 1) e' (by simpa using h1) (by rw [show i + (n + 1) = i + 1 + n by omega]; exact h2)
    cases hD : D i with
    | true =>
      simp only [cond_true]
      rw [putO_comm fun t ht => h 0 e rfl (by simpa using hD) t ht]
      exact putsD_put h2
    | false =>
      simp only [cond_false]
      exact putsD_put h2
theorem putsD_congr {D D' : Nat → Bool} : ∀ {l : List (Option Nat × S)} {i : Nat} {X : St}, (∀ n, n < l.length → D (i + n) = D' (i + n)) → putsD D i l X = putsD D' i l X
  | [], _, _, _ => rfl
  | e :: r, i, X, h => by
    simp only [putsD]
    have h0 := h 0 (by simp)
    simp only [Nat.add_zero] at h0
    rw [h0]
    exact putsD_congr fun n hn => by
      have := h (n + 1) (by simpa using hn)
      rw [show i + 1 + n = i + (n + 1) by omega]; exact this
theorem putsD_insert {D D' : Nat → Bool} {d : Option Nat} {s : S} : ∀ {l : List (Option Nat × S)} {i j : Nat} {X : St}, l[j]? = some (d, s) → D (i + j) = false → (∀ n, D' n = (D n || Nat.beq n (i + j))) →
    (∀ n e, j < n → l[n]? = some e → D (i + n) = true → ∀ t, d = some t → e.1 ≠ some t) → putsD D' i l X = (putsD D i l X).putO d s
  | [], _, _, _, h, _, _, _ => by simp at h
  | e :: r, i, 0, X, h, hD, hD', hn => by
    simp at h
    subst h
    simp only [putsD]
    have h1 : D' i = true := by rw [hD']; simp
    have h2 : D i = false := by simpa using hD
    rw [h1, h2]
    simp only [cond_true, cond_false]
    rw [← putsD_put fun n e h3 h4 => hn (n + 1) e (by omega) (by simpa using h3) (by rw [show i + (n + 1) = i + 1 + n by omega]; exact h4)]
    refine putsD_congr fun n _ => ?_
    rw [hD']
    have : Nat.beq (i + 1 + n) (i + 0) = false := by
      rcases beq_cases (i + 1 + n) (i + 0) with ⟨_, h⟩ | ⟨h, _⟩
      · omega
      · exact h
    rw [this]; simp
  | e :: r, i, j + 1, X, h, hD, hD', hn => by
    simp only [putsD]
    have h1 : D' i = D i := by
      rw [hD']
      have : Nat.beq i (i + (j + 1)) = false := by
        rcases beq_cases i (i + (j + 1)) with ⟨_, h⟩ | ⟨h, _⟩
        · omega
        · exact h
      rw [this]; simp
    rw [h1]
    exact putsD_insert (j := j) (by simpa using h) (by rw [show i + 1 + j = i + (j + 1) by omega]; exact hD) (fun n => by rw [hD', show i + 1 + j = i + (j + 1) by omega])
      fun n e' h2 h3 h4 => hn (n + 1) e' (by omega) (by simpa using h3) (by rw [show i + (n + 1) = i + 1 + n by omega]; exact h4)
theorem putsD_shift {D : Nat → Bool} : ∀ {l : List (Option Nat × S)} {i : Nat} {X : St}, putsD D (i + 1) l X = putsD (fun n => D (n + 1)) i l X
  | [], _, _ => rfl
  | e :: r, i, X => by simp only [putsD]; exact putsD_shift
theorem putsD_none {D : Nat → Bool} : ∀ {l : List (Option Nat × S)} {i : Nat} {X : St}, (∀ n, D n = false) → putsD D i l X = X
  | [], _, _, _ => rfl
  | e :: r, i, X, h => by simp only [putsD, h i, cond_false]; exact putsD_none h

/-! what is used up -/
def usedP (D : Nat → Bool) : Nat → List Info → Nat → Bool
  | _, [], _ => false
  | i, x :: r, q => (D i && (match x.used with | some g => Nat.beq g q | none => false)) || usedP D (i + 1) r q
theorem usedP_iff {D : Nat → Bool} {q : Nat} : ∀ {l : List Info} {i : Nat}, usedP D i l q = true ↔ ∃ (n : Nat) (x : Info), l[n]? = some x ∧ D (i + n) = true ∧ x.used = some q
  | [], i => by simp [usedP]
  | x :: r, i => by
    simp only [usedP, Bool.or_eq_true, Bool.and_eq_true]
    rw [usedP_iff]
    constructor
    · rintro (⟨h1, h2⟩ | ⟨n, y, h1, h2, h3⟩)
      · refine ⟨0, x, rfl, h1, ?_⟩
        split at h2
        · rename_i g hg
          rw [hg, Nat.eq_of_beq_eq_true h2]
        · simp at h2
      · exact ⟨n + 1, y, by simpa using h1, by rw [show i + (n + 1) = i + 1 + n by omega]; exact h2, h3⟩
    · rintro ⟨n, y, h1, h2, h3⟩
      cases n with
      | zero =>
        simp at h1
        subst h1
        refine .inl ⟨h2, ?_⟩
        rw [h3]
        simp
      | succ n => exact .inr ⟨n, y, by simpa using h1, by rw [show i + 1 + n = i + (n + 1) by omega]; exact h2, h3⟩

/-! maps -/
theorem mapL_comp {α β γ : Type} (f : β → γ) (h : α → β) (l : List α) : mapL f (mapL h l) = mapL (fun x => f (h x)) l := by simp [mapL_eq, Function.comp_def]
theorem mapL_congr {α β : Type} {f h : α → β} (hf : ∀ x, f x = h x) (l : List α) : mapL f l = mapL h l := by rw [show f = h from funext hf]
theorem mapL_id {α : Type} {f : α → α} (hf : ∀ x, f x = x) (l : List α) : mapL f l = l := by rw [show f = id from funext hf]; simp [mapL_eq]
theorem S1.map_comp {f h : C → C} (s : S1) : (s.map h).map f = s.map fun c => f (h c) := by cases s <;> simp [S1.map, mapL_comp]
theorem S.map_comp {f h : C → C} (s : S) : (s.map h).map f = s.map fun c => f (h c) := by
  cases s <;> simp [S.map, mapL_comp, S1.map_comp]
theorem St.map_comp {f h : C → C} (X : St) : (X.map h).map f = X.map fun c => f (h c) := by
  simp only [St.map, mapL_comp, S.map_comp]
theorem S1.map_id {f : C → C} (hf : ∀ c, f c = c) (s : S1) : s.map f = s := by cases s <;> simp [S1.map, mapL_id hf, hf]
theorem S.map_id {f : C → C} (hf : ∀ c, f c = c) (s : S) : s.map f = s := by cases s <;> simp [S.map, mapL_id (S1.map_id hf), S1.map_id hf]
theorem St.map_id {f : C → C} (hf : ∀ c, f c = c) (X : St) : X.map f = X := by
  simp only [St.map, mapL_id (S.map_id hf), mapL_id (mapL_id hf)]
theorem kill_killP {g : Nat} {p : Nat → Bool} (X : St) : (X.map (C.killP p)).map (C.kill g) = X.map (C.killP fun q => p q || Nat.beq g q) := by
  rw [St.map_comp]
  congr 1
  funext c
  obtain ⟨t, av⟩ := c
  cases t with
  | ro => rfl
  | own q s =>
    simp only [C.killP]
    cases p q with
    | true => rfl
    | false => simp [C.kill]
theorem killP_kill {g : Nat} {p : Nat → Bool} (X : St) : (X.map (C.kill g)).map (C.killP p) = X.map (C.killP fun q => Nat.beq q g || p q) := by
  rw [St.map_comp]
  congr 1
  funext c
  obtain ⟨t, av⟩ := c
  cases t with
  | ro => rfl
  | own q s =>
    simp only [C.kill, C.killP]
    rcases beq_cases g q with ⟨hb, he⟩ | ⟨hb, he⟩
    · have : Nat.beq q g = true := by rw [he]; simp
      rw [hb, this]; rfl
    · have : Nat.beq q g = false := by
        rcases beq_cases q g with ⟨_, h⟩ | ⟨h, _⟩
        · exact (he h.symm).elim
        · exact h
      rw [hb, this]; rfl
theorem killAll_eq : ∀ {gs : List Nat} {X : St}, killAll gs X = X.map (C.killP fun q => memN q gs)
  | [], X => by
    rw [St.map_id]
    · rfl
    · intro c; obtain ⟨t, av⟩ := c; cases t <;> rfl
  | g :: gs, X => by
    show killAll gs (X.map (C.kill g)) = _
    rw [killAll_eq, killP_kill]
    rfl
theorem usedL_iff {q : Nat} : ∀ {l : List Info}, q ∈ usedL l ↔ ∃ (n : Nat) (x : Info), l[n]? = some x ∧ x.used = some q
  | [] => by simp [usedL]
  | x :: r => by
    simp only [usedL, List.mem_append]
    rw [usedL_iff]
    constructor
    · rintro (h | ⟨n, y, h1, h2⟩)
      · refine ⟨0, x, rfl, ?_⟩
        split at h
        · rename_i g hg
          simp at h
          rw [hg, h]
        · simp at h
      · exact ⟨n + 1, y, by simpa using h1, h2⟩
    · rintro ⟨n, y, h1, h2⟩
      cases n with
      | zero => simp at h1; subst h1; left; rw [h2]; simp
      | succ n => exact .inr ⟨n, y, by simpa using h1, h2⟩
theorem put_map {f : C → C} {X : St} {d : Option Nat} {s : S} : (X.putO d s).map f = (X.map f).putO d (s.map f) := by
  cases d with
  | none => rfl
  | some d => simp [St.putO, St.put, St.map, mapL_eq, List.map_set]
theorem noMemC_iff {g : Nat} : ∀ {cs : List C}, noMemC g cs = true ↔ g ∉ groupsC cs
  | [] => by simp [noMemC, groupsC]
  | ⟨.ro, _⟩ :: r => by simp only [noMemC, groupsC]; exact noMemC_iff
  | ⟨.own q _, _⟩ :: r => by
    simp only [noMemC, groupsC, Bool.and_eq_true, List.mem_cons, not_or, noMemC_iff]
    rcases beq_cases g q with ⟨hb, he⟩ | ⟨hb, he⟩ <;> simp [hb, he]
theorem disjointN_iff : ∀ {xs ys : List Nat}, disjointN xs ys = true → ∀ g ∈ xs, g ∉ ys
  | [], _, _, _, h => by simp at h
  | x :: r, ys, h, g, hg => by
    simp only [disjointN, Bool.and_eq_true, Bool.not_eq_true'] at h
    rcases List.mem_cons.1 hg with rfl | hg
    · intro hm
      have := memN_iff.2 hm
      rw [h.1] at this
      simp at this
    · exact disjointN_iff h.2 g hg
theorem killP_noMemC {g : Nat} {p : Nat → Bool} : ∀ {cs : List C}, noMemC g cs = true → noMemC g (mapL (C.killP p) cs) = true
  | [], _ => rfl
  | ⟨.ro, av⟩ :: r, h => by simp only [mapL, C.killP, noMemC]; exact killP_noMemC (by simpa [noMemC] using h)
  | ⟨.own g' s, av⟩ :: r, h => by
    simp only [noMemC, Bool.and_eq_true] at h
    simp only [mapL, C.killP]
    cases p g' with
    | true => exact killP_noMemC h.2
    | false => simp only [cond_false, noMemC, Bool.and_eq_true]; exact ⟨h.1, killP_noMemC h.2⟩
theorem noMemL_iff {g : Nat} : ∀ {l : List S}, noMemL g l = true ↔ ∀ s ∈ l, noMemC g (sCells s) = true
  | [] => by simp [noMemL]
  | s :: r => by simp [noMemL, noMemL_iff]
theorem noMemB_iff {g : Nat} : ∀ {l : List (List C)}, noMemB g l = true ↔ ∀ s ∈ l, noMemC g s = true
  | [] => by simp [noMemB]
  | s :: r => by simp [noMemB, noMemB_iff]
theorem noMemSt_iff {X : St} : ∀ {gs : List Nat}, noMemSt X gs = true ↔ ∀ g ∈ gs, noMemL g X.sl = true ∧ noMemB g X.bx = true
  | [] => by simp [noMemSt]
  | s :: r => by simp [noMemSt, noMemSt_iff]
theorem killP_noMemSt {p : Nat → Bool} {X : St} {gs : List Nat} (h : noMemSt X gs = true) : noMemSt (X.map (C.killP p)) gs = true := by
  rw [noMemSt_iff] at h ⊢
  intro g hg
  obtain ⟨h1, h2⟩ := h g hg
  rw [noMemL_iff] at h1 ⊢
  rw [noMemB_iff] at h2 ⊢
  simp only [St.map, mapL_eq, List.mem_map]
  constructor
  · rintro s ⟨s', hs, rfl⟩
    rw [sCells_map]
    exact killP_noMemC (h1 s' hs)
  · rintro s ⟨s', hs, rfl⟩
    have := killP_noMemC (p := p) (h2 s' hs)
    rwa [mapL_eq] at this
theorem putsD_noMem {D : Nat → Bool} {g : Nat} : ∀ {l : List (Option Nat × S)} {i : Nat} {X : St}, noMemL g X.sl = true → (∀ n e, l[n]? = some e → D (i + n) = true → noMemC g (sCells e.2) = true) → noMemL g (putsD D i l X).sl = true
  | [], _, _, h, _ => h
  | e :: r, i, X, h, hd => by
    simp only [putsD]
    refine putsD_noMem ?_ fun n e' h1 h2 => hd (n + 1) e' (by simpa using h1) (by rw [show i + (n + 1) = i + 1 + n by omega]; exact h2)
    cases hD : D i with
    | false => exact h
    | true =>
      have h0 := hd 0 e rfl (by simpa using hD)
      simp only [cond_true]
      cases e.1 with
      | none => exact h
      | some d =>
        rw [noMemL_iff] at h ⊢
        intro s hs
        simp only [St.putO, St.put] at hs
        rcases List.mem_or_eq_of_mem_set hs with h1 | rfl
        · exact h s h1
        · exact h0
theorem killP_false {p : Nat → Bool} (h : ∀ q, p q = false) (X : St) : X.map (C.killP p) = X := St.map_id (fun c => by obtain ⟨t, av⟩ := c; cases t <;> simp [C.killP, h]) X

/-! bits -/
theorem edgeBits_iff {acc : List Nat} {x : Nat} : ∀ {l : List Edge} {s : Nat}, (edgeBits acc l s).testBit x = true ↔ s.testBit x = true ∨ ∃ e ∈ l, Region.binds .any e = true ∧ (x = e.on ∨ (acc.getD e.on 0).testBit x = true)
  | [], s => by simp [edgeBits]
  | e :: r, s => by
    simp only [edgeBits]
    rw [edgeBits_iff]
    cases hb : Region.binds .any e with
    | false => simp [hb]
    | true =>
      simp only [cond_true, Nat.testBit_or, Bool.or_eq_true, Nat.testBit_two_pow, decide_eq_true_eq, List.mem_cons, exists_eq_or_imp, hb, true_and]
      constructor
      · rintro (((h | h) | h) | h)
        · exact .inl h
        · exact .inr (.inl (.inl h.symm))
        · exact .inr (.inl (.inr h))
        · exact .inr (.inr h)
      · rintro (h | (h | h) | h)
        · exact .inl (.inl (.inl h))
        · exact .inl (.inl (.inr h.symm))
        · exact .inl (.inr h)
        · exact .inr h
theorem befs_spec : ∀ {l : List Oper} {acc : List Nat} {x : Nat}, (∀ n, n < acc.length → (befs l acc)[n]? = acc[n]?) ∧
    ∀ n o, l[n]? = some o → ((befs l acc).getD (acc.length + n) 0).testBit x = true → ∃ e ∈ o.after.toList, Region.binds .any e = true ∧ (x = e.on ∨ (e.on < acc.length + n ∧ ((befs l acc).getD e.on 0).testBit x = true))
  | [], acc, x => by simp [befs]
  | o :: r, acc, x => by
    simp only [befs]
    obtain ⟨h1, h2⟩ := befs_spec (l := r) (acc := acc ++ [edgeBits acc o.after.toList 0]) (x := x)
    constructor
    · intro n hn
      rw [h1 n (by simp; omega), List.getElem?_append_left hn]
    · intro n o' ho' hb
      cases n with
      | zero =>
        simp at ho'
        subst ho'
        have h3 := h1 acc.length (by simp)
        rw [List.getD_eq_getElem?_getD, Nat.add_zero, h3] at hb
        simp at hb
        rw [edgeBits_iff] at hb
        rcases hb with hb | ⟨e, he, hbd, hx⟩
        · simp at hb
        · refine ⟨e, he, hbd, ?_⟩
          rcases hx with hx | hx
          · exact .inl hx
          · rcases Nat.lt_or_ge e.on acc.length with hlt | hge
            · refine .inr ⟨by omega, ?_⟩
              rw [List.getD_eq_getElem?_getD] at hx ⊢
              rw [h1 e.on (by simp; omega), List.getElem?_append_left hlt]
              exact hx
            · rw [List.getD_eq_getElem?_getD, List.getElem?_eq_none hge] at hx
              simp at hx
      | succ n =>
        obtain ⟨e, he, hbd, hx⟩ := h2 n o' (by simpa using ho') (by simpa [Nat.add_assoc, Nat.add_comm 1 n] using hb)
        refine ⟨e, he, hbd, hx.imp id fun ⟨q1, q2⟩ => ⟨?_, q2⟩⟩
        simp at q1
        omega
/-- What is closed under the edges is closed under what lies before. -/
theorem befs_closed {ops : List Oper} {D : Nat → Bool} (hD : ∀ j o, ops[j]? = some o → D j = true → ∀ e ∈ o.after.toList, Region.binds .any e = true → D e.on = true) :
    ∀ j o, ops[j]? = some o → (∀ e ∈ o.after.toList, Region.binds .any e = true → D e.on = true) → ∀ x, ((befs ops []).getD j 0).testBit x = true → D x = true := by
  intro j
  induction j using Nat.strongRecOn with
  | _ j ih =>
    intro o ho he x hx
    obtain ⟨e, h1, h2, h3⟩ := (befs_spec (l := ops) (acc := []) (x := x)).2 j o ho (by simpa using hx)
    rcases h3 with rfl | ⟨h3, h4⟩
    · exact he e h1 h2
    · have hon := he e h1 h2
      have hlt : e.on < j := by simpa using h3
      have hj : j < ops.length := (List.getElem?_eq_some_iff.1 ho).1
      have ho' : ops[e.on]? = some (ops[e.on]'(by omega)) := by simp
      exact ih e.on hlt _ ho' (hD _ _ ho' hon) x h4
end Go.Proofs.Ythiaaaedfidnjaa.Am

namespace Go.Proofs.Ythiaaaedfidnjaa.Am
open Go Go.RowKit

theorem getBool_slot {X : St} {t : Nat} {b : Bool} (h : X.getBool (.tmp t) = some b) : X.sl[t]? = some (vS (.bool b)) := by
  unfold St.getBool St.getC St.get at h
  split at h
  · rename_i b' hx
    split at hx
    · rename_i c hc
      injection hx with hx
      injection h with h
      subst hx h
      exact hc
    · simp at hx
  · simp at h
theorem know_id {X : St} {t : Nat} {b : Bool} (h : X.getBool (.tmp t) = some b) : X.know t b = X := by
  have h1 := getBool_slot h
  obtain ⟨sl, bx⟩ := X
  simp only [St.know, St.put]
  congr 1
  simp only at h1
  refine List.ext_getElem? fun i => ?_
  rw [List.getElem?_set]
  by_cases hi : t = i
  · subst hi
    have := (List.getElem?_eq_some_iff.1 h1).1
    rw [h1]; simp [this]
  · simp [hi]

section
variable {V : Env} {callF : FuncId → List S1 → List (List C) → Tree} {all : List Oper} {st0 : St} {k : St → List Info → Option Res} {r : Res}

def Does (V : Env) (callF : FuncId → List S1 → List (List C) → Tree) (st0 : St) (o : Oper) (X : St) (s : S) (f : Info) : Prop :=
  ∃ made used, classOf V o X = some (made, used) ∧ noMemSt st0 made = true ∧ f = ⟨groupsOps X o.op.operands.toList, groupsC (sCells s), made, used, [], []⟩ ∧
    ∀ (Y : St) (p : Nat → Bool), Like o X made s Y p → ∀ k' : KO, opK V callF o Y k' = k' s (aft used Y)
def DoesA (V : Env) (st0 : St) (o : Oper) (s : S) (f : Info) : Prop :=
  ∃ T z, o.op = .alloc T ∧ zeroS1 V.P T = some z ∧ allRo z.cells = true ∧ s = .s (.c ⟨.ro, .ptr st0.bx.length 0⟩) ∧ f = ⟨[], [], [], none, [z.cells], []⟩
def DoesS (V : Env) (o : Oper) (X : St) (nb : List (List C)) (s : S) (f : Info) : Prop :=
  ∃ z, storeOf V.P o (X.addB nb) = some z ∧ s = junkS ∧ f = ⟨groupsOps X o.op.operands.toList, [], [], none, [], [z]⟩
def DoesB (V : Env) (callF : FuncId → List S1 → List (List C) → Tree) (st0 : St) (o : Oper) (X : St) (nb : List (List C)) (s : S) (f : Info) : Prop := Does V callF st0 o X s f ∨ DoesA V st0 o s f ∨ DoesS V o X nb s f
theorem allocOf_some {P : Program} {o : Oper} {z : List C} (h : allocOf P o = some z) : ∃ T q, o.op = .alloc T ∧ zeroS1 P T = some q ∧ q.cells = z := by
  unfold allocOf at h
  split at h
  · rename_i T hT
    split at h
    · rename_i q hq
      injection h with h
      exact ⟨T, q, hT, hq, h⟩
    · simp at h
  · simp at h
def StepOK (V : Env) (callF : FuncId → List S1 → List (List C) → Tree) (all : List Oper) (st0 : St) (o : Oper) (X : St) (nb : List (List C)) (s : S) (f : Info) : Prop :=
  match o.guard with
  | none => DoesB V callF st0 o X nb s f
  | some (j, want) => ∃ t, (match all[j]? with | some p => p.dst | none => none) = some t ∧
      ((X.getBool (.tmp t) = some want ∧ DoesB V callF st0 o X nb s f) ∨ ((X.getBool (.tmp t) = some (!want) ∨ X.sl[t]? = some undefS) ∧ s = undefS ∧ f = ⟨[], [], [], none, [], []⟩))

theorem newD_none {D : Nat → Bool} : ∀ {l : List Info} {i : Nat}, (∀ n, D (i + n) = false) → newD D i l = []
  | [], _, _ => rfl
  | f :: r, i, h => by
    have h0 : D i = false := h 0
    have hr := newD_none (D := D) (l := r) (i := i + 1) fun n => by rw [show i + 1 + n = i + (n + 1) by omega]; exact h (n + 1)
    show (bif D i then f.al else []) ++ newD D (i + 1) r = []
    rw [h0, hr]
    rfl
theorem newD_shift {D : Nat → Bool} : ∀ {l : List Info} {i : Nat}, newD D (i + 1) l = newD (fun n => D (n + 1)) i l
  | [], _ => rfl
  | f :: r, i => by
    show (bif D (i + 1) then f.al else []) ++ newD D (i + 1 + 1) r = (bif D (i + 1) then f.al else []) ++ newD (fun n => D (n + 1)) (i + 1) r
    rw [newD_shift (l := r)]
theorem lazyK_spec : ∀ {l : List Oper} {st : St} {is : List Info}, lazyK V callF all st0 l st is k = some r →
    ∃ (tr : List (Option Nat × S)) (fs : List Info), tr.length = l.length ∧ fs.length = l.length ∧ k (putsD (fun _ => true) 0 tr st) (fs.reverse ++ is) = some r ∧
      ∀ j o, l[j]? = some o → ∃ s f, tr[j]? = some (o.dst, s) ∧ fs[j]? = some f ∧ StepOK V callF all st0 o (putsD (fun i => decide (i < j)) 0 tr st) (alsR is ++ newD (fun i => decide (i < j)) 0 fs) s f
  | [], st, is, h => ⟨[], [], rfl, rfl, by simpa [lazyK, putsD] using h, by simp⟩
  | o :: l, st, is, h => by
    have fin : ∀ (s : S) (f : Info), StepOK V callF all st0 o st (alsR is) s f → lazyK V callF all st0 l (st.putO o.dst s) (f :: is) k = some r →
        ∃ (tr : List (Option Nat × S)) (fs : List Info), tr.length = (o :: l).length ∧ fs.length = (o :: l).length ∧ k (putsD (fun _ => true) 0 tr st) (fs.reverse ++ is) = some r ∧
      ∀ j o', (o :: l)[j]? = some o' → ∃ s f, tr[j]? = some (o'.dst, s) ∧ fs[j]? = some f ∧ StepOK V callF all st0 o' (putsD (fun i => decide (i < j)) 0 tr st) (alsR is ++ newD (fun i => decide (i < j)) 0 fs) s f := by
      intro s f hs hl
      obtain ⟨tr, fs, h1, h2, h3, h4⟩ := lazyK_spec hl
      refine ⟨(o.dst, s) :: tr, f :: fs, by simp [h1], by simp [h2], ?_, ?_⟩
      · simp only [putsD, cond_true, putsD_shift]
        simpa using h3
      · intro j o' ho'
        cases j with
        | zero =>
          simp at ho'
          subst ho'
          refine ⟨s, f, rfl, rfl, ?_⟩
          rw [putsD_none, newD_none, List.append_nil]
          · exact hs
          · intro n; simp
          · intro n; simp
        | succ j =>
          obtain ⟨s', f', q1, q2, q3⟩ := h4 j o' (by simpa using ho')
          refine ⟨s', f', by simpa using q1, by simpa using q2, ?_⟩
          have : putsD (fun i => decide (i < j + 1)) 0 ((o.dst, s) :: tr) st = putsD (fun i => decide (i < j)) 0 tr (st.putO o.dst s) := by
            simp only [putsD, putsD_shift]
            have h0 : decide (0 < j + 1) = true := by simp
            rw [h0, cond_true]
            refine putsD_congr fun n _ => ?_
            simp
          rw [this]
          have hn : alsR is ++ newD (fun i => decide (i < j + 1)) 0 (f :: fs) = alsR (f :: is) ++ newD (fun i => decide (i < j)) 0 fs := by
            show alsR is ++ ((bif decide (0 < j + 1) then f.al else []) ++ newD (fun i => decide (i < j + 1)) (0 + 1) fs) = alsR is ++ f.al ++ newD (fun i => decide (i < j)) 0 fs
            rw [decide_eq_true (by omega), cond_true, List.append_assoc, newD_shift]
            congr 3
            funext n
            simp
          rw [hn]
          exact q3
    have perf : ∀ (K : S → Info → Option Res), (match allocOf V.P o with
      | some z => bif allRo z then K (.s (.c ⟨.ro, .ptr st0.bx.length 0⟩)) ⟨[], [], [], none, [z], []⟩ else none
      | none =>
      match storeOf V.P o (st.addB (alsR is)) with
      | some z => K junkS ⟨groupsOps st o.op.operands.toList, [], [], none, [], [z]⟩
      | none =>
      match classOf V o st with
      | none => none
      | some (made, used) =>
        bif noMemSt st0 made then
          opK V callF o st fun s _ => K s ⟨groupsOps st o.op.operands.toList, groupsC (sCells s), made, used, [], []⟩
        else none) = some r → ∃ s f, DoesB V callF st0 o st (alsR is) s f ∧ K s f = some r := by
      intro K hK
      split at hK
      · rename_i z hz
        cases hr : allRo z with
        | false => rw [hr] at hK; simp at hK
        | true =>
          rw [hr] at hK
          obtain ⟨T, q, h1, h2, h3⟩ := allocOf_some hz
          subst h3
          exact ⟨_, _, .inr (.inl ⟨T, q, h1, h2, hr, rfl, rfl⟩), hK⟩
      split at hK
      · rename_i z hz
        exact ⟨_, _, .inr (.inr ⟨z, hz, rfl, rfl⟩), hK⟩
      split at hK
      · simp at hK
      · rename_i made used hc
        cases hm : noMemSt st0 made with
        | false => rw [hm] at hK; simp at hK
        | true =>
          rw [hm] at hK
          simp only [cond_true] at hK
          obtain ⟨s, h1, h2⟩ := opK_tr (K := fun s => K s ⟨groupsOps st o.op.operands.toList, groupsC (sCells s), made, used, [], []⟩) hc hK
          exact ⟨s, ⟨_, _, _, _, _, _⟩, .inl ⟨made, used, hc, hm, rfl, h2⟩, h1⟩
    simp only [lazyK] at h
    cases hg : o.guard with
    | none =>
      rw [hg] at h
      simp only at h
      obtain ⟨s, f, hd, hl⟩ := perf (fun s f => lazyK V callF all st0 l (st.putO o.dst s) (f :: is) k) h
      refine fin s f (by unfold StepOK; rw [hg]; exact hd) hl
    | some jw =>
      obtain ⟨j, want⟩ := jw
      rw [hg] at h
      simp only at h
      split at h
      · simp at h
      · rename_i t ht
        split at h
        · simp at h
        · rename_i hgd
          exact fin undefS ⟨[], [], [], none, [], []⟩ (by unfold StepOK; rw [hg]; exact ⟨t, ht, .inr ⟨.inr (guard_none hgd), rfl, rfl⟩⟩) h
        · rename_i b hgd
          have hb := guard_some hgd
          rcases br_some h with ⟨h1, h9⟩ | ⟨h1, h9⟩
          · have hbw : b = want := by cases want <;> simp_all
            subst hbw
            rw [know_id hb] at h9
            obtain ⟨s, f, hd, hl⟩ := perf (fun s f => lazyK V callF all st0 l (st.putO o.dst s) (f :: is) k) h9
            refine fin s f (by unfold StepOK; rw [hg]; exact ⟨t, ht, .inl ⟨hb, hd⟩⟩) hl
          · have hbw : b = !want := by cases want <;> cases b <;> simp_all
            subst hbw
            rw [know_id hb] at h9
            exact fin undefS ⟨[], [], [], none, [], []⟩ (by unfold StepOK; rw [hg]; exact ⟨t, ht, .inr ⟨.inl hb, rfl, rfl⟩⟩) h9
end

/-! the checks -/
theorem infoAll_spec {bs : List Nat} {is : List Info} : ∀ {l : List Info} {j : Nat}, infoAll bs is j l = true → ∀ n y, l[n]? = some y → ∀ i x, is[i]? = some x → infoPair bs i (j + n) x y = true := by
  have row : ∀ {l : List Info} {i j : Nat} {y : Info}, infoRow bs j y i l = true → ∀ n x, l[n]? = some x → infoPair bs (i + n) j x y = true := by
    intro l
    induction l with
    | nil => intro i j y _ n x h; simp at h
    | cons a l ih =>
      intro i j y h n x hx
      simp only [infoRow, Bool.and_eq_true] at h
      cases n with
      | zero => simp at hx; subst hx; exact h.1
      | succ n =>
        have := ih h.2 n x (by simpa using hx)
        rwa [show i + 1 + n = i + (n + 1) by omega] at this
  intro l
  induction l with
  | nil => intro j _ n y h; simp at h
  | cons a l ih =>
    intro j h n y hy i x hx
    simp only [infoAll, Bool.and_eq_true] at h
    cases n with
    | zero =>
      simp at hy; subst hy
      have := row h.1 i x hx
      simpa using this
    | succ n =>
      have := ih h.2 n y (by simpa using hy) i x hx
      rwa [show j + 1 + n = j + (n + 1) by omega] at this
theorem apartAll_spec {all : List Oper} {bs : List Nat} : ∀ {l : List Oper} {j : Nat}, apartAll all bs j l = true → ∀ n o, l[n]? = some o → ∀ i x, i < j + n → all[i]? = some x → bitOf (bs.getD (j + n) 0) i = true ∨ apartO all x o = true := by
  have row : ∀ {l : List Oper} {i bj : Nat} {o : Oper}, apartFrom all bj o i l = true → ∀ n x, l[n]? = some x → bitOf bj (i + n) = true ∨ apartO all x o = true := by
    intro l
    induction l with
    | nil => intro i bj o _ n x h; simp at h
    | cons a l ih =>
      intro i bj o h n x hx
      simp only [apartFrom, Bool.and_eq_true, Bool.or_eq_true] at h
      cases n with
      | zero => simp at hx; subst hx; exact h.1
      | succ n =>
        have := ih h.2 n x (by simpa using hx)
        rwa [show i + 1 + n = i + (n + 1) by omega] at this
  intro l
  induction l with
  | nil => intro j _ n y h; simp at h
  | cons a l ih =>
    intro j h n o ho i x hi hx
    simp only [apartAll, Bool.and_eq_true] at h
    cases n with
    | zero =>
      simp at ho; subst ho
      have := row h.1 i x (by rw [List.getElem?_take]; simp at hi; simp [hi, hx])
      simpa using this
    | succ n =>
      have := ih h.2 n o (by simpa using ho) i x (by omega) hx
      rwa [show j + 1 + n = j + (n + 1) by omega] at this
theorem tailAll_spec {bs : List Nat} : ∀ {n j : Nat}, tailAll bs j n = true → ∀ i, j ≤ i → i < j + n → ∀ x, x < i → (bs.getD i 0).testBit x = true
  | 0, j, _, i, h1, h2, _, _ => by omega
  | n + 1, j, h, i, h1, h2, x, hx => by
    simp only [tailAll, Bool.and_eq_true] at h
    rcases Nat.lt_or_ge j i with hlt | hge
    · exact tailAll_spec h.2 i hlt (by omega) x hx
    · obtain rfl : i = j := by omega
      have h3 := Nat.eq_of_beq_eq_true h.1
      have h4 : (2 ^ i - 1).testBit x = true := by rw [Nat.testBit_two_pow_sub_one]; simpa using hx
      rw [← h3, Nat.testBit_mod_two_pow] at h4
      simp at h4
      simpa using h4.2
theorem edgesDown_spec : ∀ {l : List Oper} {i : Nat}, edgesDown i l = true → ∀ n o, l[n]? = some o → ∀ e ∈ o.after.toList, Region.binds .any e = true → e.on < i + n
  | [], _, _, n, o, h, _, _, _ => by simp at h
  | a :: l, i, h, n, o, ho, e, he, hb => by
    simp only [edgesDown, Bool.and_eq_true] at h
    cases n with
    | zero =>
      simp at ho; subst ho
      have := List.all_eq_true.1 h.1 e he
      rw [hb] at this
      simp at this
      omega
    | succ n =>
      have := edgesDown_spec h.2 n o (by simpa using ho) e he hb
      omega
theorem apartO_spec {all : List Oper} {x y : Oper} (h : apartO all x y = true) : (∀ d, x.dst = some d → d ∉ looks all y ∧ y.dst ≠ some d) ∧ (∀ d, y.dst = some d → d ∉ looks all x) := by
  simp only [apartO, Bool.and_eq_true] at h
  constructor
  · intro d hd
    have h1 := h.1
    rw [hd] at h1
    simp only [Bool.and_eq_true, Bool.not_eq_true'] at h1
    refine ⟨memN_false h1.1, fun hy => ?_⟩
    have h2 := h1.2
    rw [hy] at h2
    simp at h2
  · intro d hd
    have h1 := h.2
    rw [hd] at h1
    simp only [Bool.not_eq_true'] at h1
    exact memN_false h1
end Go.Proofs.Ythiaaaedfidnjaa.Am

namespace Go.Proofs.Ythiaaaedfidnjaa.Am
open Go Go.RowKit

structure Plan (V : Env) (callF : FuncId → List S1 → List (List C) → Tree) (ops : Array Oper) (m : Nat) (st0 : St) (tr : List (Option Nat × S)) (fs : List Info) : Prop where
  hm : m ≤ ops.size
  htr : tr.length = m
  hfs : fs.length = m
  step : ∀ j o, j < m → ops[j]? = some o → ∃ s f, tr[j]? = some (o.dst, s) ∧ fs[j]? = some f ∧ StepOK V callF ops.toList st0 o (putsD (fun i => decide (i < j)) 0 tr st0) (newD (fun i => decide (i < j)) 0 fs) s f
  fresh : ∀ n f, fs[n]? = some f → ∀ z ∈ f.sto, st0.bx.length ≤ z.1 → ∀ i x, fs[i]? = some x → x.al ≠ [] → ((befs ops.toList []).getD n 0).testBit i = true
  apart : ∀ j o, j < m → ops[j]? = some o → ∀ i x, i < j → ops[i]? = some x → ((befs ops.toList []).getD j 0).testBit i = true ∨ apartO ops.toList x o = true
  tail : ∀ j, m ≤ j → j < ops.size → ∀ x, x < j → ((befs ops.toList []).getD j 0).testBit x = true
  info : ∀ i j x y, fs[i]? = some x → fs[j]? = some y → infoPair (befs ops.toList []) i j x y = true
  one : (newD (fun _ => true) 0 fs).length ≤ 1
  oneS : (stD (fun _ => true) 0 fs).length ≤ 1
  loads : ∀ n f, fs[n]? = some f → f.sto ≠ [] → ∀ i x, i < m → ops[i]? = some x → isLoad x.op = true → ((befs ops.toList []).getD n 0).testBit i = true
  down : ∀ j o, ops[j]? = some o → ∀ e ∈ o.after.toList, Region.binds .any e = true → e.on < j

def xOf (st0 : St) (tr : List (Option Nat × S)) (fs : List Info) (D : Nat → Bool) : St := ((putsD D 0 tr st0).map (C.killP (usedP D 0 fs))).addB (newD D 0 fs)
def addI (f : Info) (X : St) : St := X.addB f.al
theorem putO_addB {X : St} {l : List (List C)} {d : Option Nat} {s : S} : (X.addB l).putO d s = (X.putO d s).addB l := by cases d <;> rfl
theorem addB_nil {X : St} : X.addB [] = X := by simp [St.addB]
theorem newD_mem {D : Nat → Bool} {x : List C} : ∀ {l : List Info} {i : Nat}, x ∈ newD D i l ↔ ∃ (n : Nat) (f : Info), l[n]? = some f ∧ D (i + n) = true ∧ x ∈ f.al
  | [], i => by simp [newD]
  | y :: r, i => by
    simp only [newD, List.mem_append]
    rw [newD_mem]
    constructor
    · rintro (h | ⟨n, f, h1, h2, h3⟩)
      · cases hD : D i with
        | false => rw [hD] at h; simp at h
        | true => rw [hD] at h; exact ⟨0, y, rfl, hD, h⟩
      · exact ⟨n + 1, f, by simpa using h1, by rw [show i + (n + 1) = i + 1 + n by omega]; exact h2, h3⟩
    · rintro ⟨n, f, h1, h2, h3⟩
      cases n with
      | zero =>
        simp at h1
        subst h1
        left
        have : D i = true := h2
        rw [this]; exact h3
      | succ n => exact .inr ⟨n, f, by simpa using h1, by rw [show i + 1 + n = i + (n + 1) by omega]; exact h2, h3⟩
theorem newD_le {D D' : Nat → Bool} (h : ∀ n, D n = true → D' n = true) : ∀ {l : List Info} {i : Nat}, (newD D i l).length ≤ (newD D' i l).length
  | [], _ => by simp [newD]
  | y :: r, i => by
    simp only [newD, List.length_append]
    have h1 := newD_le h (l := r) (i := i + 1)
    cases hD : D i with
    | false => simp; omega
    | true => rw [h i hD]; simp; omega
theorem newD_congr {D D' : Nat → Bool} : ∀ {l : List Info} {i : Nat}, (∀ n f, l[n]? = some f → f.al ≠ [] → D (i + n) = D' (i + n)) → newD D i l = newD D' i l
  | [], _, _ => rfl
  | y :: r, i, h => by
    simp only [newD]
    have hr := newD_congr (D := D) (D' := D') (l := r) (i := i + 1) fun n f h1 h2 => by
      have := h (n + 1) f (by simpa using h1) h2
      rw [show i + 1 + n = i + (n + 1) by omega]; exact this
    rw [hr]
    congr 1
    cases ha : y.al with
    | nil => cases D i <;> cases D' i <;> rfl
    | cons a l =>
      have := h 0 y rfl (by rw [ha]; simp)
      simp only [Nat.add_zero] at this
      rw [this]
theorem newD_insert {D D' : Nat → Bool} {f : Info} : ∀ {l : List Info} {i j : Nat}, l[j]? = some f → D (i + j) = false → (∀ n, D' n = (D n || Nat.beq n (i + j))) → (newD D' i l).length = (newD D i l).length + f.al.length
  | [], _, _, h, _, _ => by simp at h
  | y :: r, i, 0, h, hD, hD' => by
    simp at h
    subst h
    simp only [newD, List.length_append]
    have h1 : D' i = true := by rw [hD']; simp
    have h2 : D i = false := by simpa using hD
    have hr := newD_congr (D := D') (D' := D) (l := r) (i := i + 1) fun n f _ _ => by
      rw [hD']
      have : Nat.beq (i + 1 + n) (i + 0) = false := by
        rcases beq_cases (i + 1 + n) (i + 0) with ⟨_, h⟩ | ⟨h, _⟩
        · omega
        · exact h
      rw [this]; simp
    rw [h1, h2, hr]
    simp; omega
  | y :: r, i, j + 1, h, hD, hD' => by
    simp only [newD, List.length_append]
    have h1 : D' i = D i := by
      rw [hD']
      have : Nat.beq i (i + (j + 1)) = false := by
        rcases beq_cases i (i + (j + 1)) with ⟨_, h⟩ | ⟨h, _⟩
        · omega
        · exact h
      rw [this]; simp
    rw [h1, newD_insert (l := r) (i := i + 1) (j := j) (by simpa using h) (by rw [show i + 1 + j = i + (j + 1) by omega]; exact hD) (fun n => by rw [hD', show i + 1 + j = i + (j + 1) by omega])]
    omega
theorem allRo_groups : ∀ {cs : List C}, allRo cs = true → groupsC cs = []
  | [], _ => rfl
  | ⟨.ro, _⟩ :: r, h => by simp only [groupsC]; exact allRo_groups (by simpa [allRo] using h)
  | ⟨.own _ _, _⟩ :: r, h => by simp [allRo] at h

section
variable {V : Env} {callF : FuncId → List S1 → List (List C) → Tree} {ops : Array Oper} {m : Nat} {st0 : St} {tr : List (Option Nat × S)} {fs : List Info} {D D' : Nat → Bool} {j : Nat} {o : Oper} {s : S} {f : Info}

theorem get_tr (pl : Plan V callF ops m st0 tr fs) {n : Nat} {e : Option Nat × S} (h : tr[n]? = some e) : n < m ∧ ∃ x g, ops[n]? = some x ∧ e.1 = x.dst ∧ fs[n]? = some g ∧ (g.rs = groupsC (sCells e.2)) ∧ ∀ z ∈ g.al, allRo z = true := by
  have h1 := (List.getElem?_eq_some_iff.1 h).1
  rw [pl.htr] at h1
  have h2 : n < ops.size := by have := pl.hm; omega
  obtain ⟨s, g, q1, q2, q3⟩ := pl.step n ops[n] h1 (by simp [h2])
  rw [h] at q1
  injection q1 with q1
  subst q1
  refine ⟨h1, ops[n], g, by simp [h2], rfl, q2, ?_⟩
  unfold StepOK at q3
  have hd : ∀ {X : St} {nb : List (List C)}, DoesB V callF st0 ops[n] X nb s g → g.rs = groupsC (sCells s) ∧ ∀ z ∈ g.al, allRo z = true := by
    rintro X nb (⟨_, _, _, _, rfl, _⟩ | ⟨_, _, _, _, hr, rfl, rfl⟩ | ⟨_, _, rfl, rfl⟩)
    · exact ⟨rfl, by simp⟩
    · exact ⟨rfl, by simpa using hr⟩
    · exact ⟨rfl, by simp⟩
  split at q3
  · exact hd q3
  · obtain ⟨_, _, q3 | ⟨_, rfl, rfl⟩⟩ := q3
    · exact hd q3.2
    · exact ⟨rfl, by simp⟩

theorem slot_eq (pl : Plan V callF ops m st0 tr fs) (hj : j < m) (ho : ops[j]? = some o) (hD : D j = false)
    (hb : ∀ x, ((befs ops.toList []).getD j 0).testBit x = true → D x = true)
    (hc : ∀ i, i < ops.size → D i = true → ∀ x, ((befs ops.toList []).getD i 0).testBit x = true → D x = true) {t : Nat} (ht : t ∈ looks ops.toList o) :
    (putsD D 0 tr st0).sl[t]? = (putsD (fun i => decide (i < j)) 0 tr st0).sl[t]? := by
  refine putsD_slot rfl fun n e hn he => ?_
  obtain ⟨hnm, x, g, hx, hed, _, _, _⟩ := get_tr pl hn
  simp only [Nat.zero_add]
  rcases Nat.lt_trichotomy n j with hlt | rfl | hgt
  · have : D n = true := by
      rcases pl.apart j o hj ho n x hlt hx with h1 | h1
      · exact hb n h1
      · exact absurd ht ((apartO_spec h1).1 t (by rw [← hed, he])).1
    simp [this, hlt]
  · simp [hD]
  · have : D n = false := by
      cases hDn : D n with
      | false => rfl
      | true =>
        rcases pl.apart n x hnm hx j o hgt ho with h1 | h1
        · have := hc n (by have := pl.hm; omega) hDn j h1
          rw [hD] at this; simp at this
        · exact absurd ht ((apartO_spec h1).2 t (by rw [← hed, he]))
    simp [this]; omega

theorem used_out (pl : Plan V callF ops m st0 tr fs) (hj : j < m) (hf : fs[j]? = some f) (hD : D j = false)
    (hc : ∀ i, i < ops.size → D i = true → ∀ x, ((befs ops.toList []).getD i 0).testBit x = true → D x = true) {q : Nat} (hq : usedP D 0 fs q = true) : q ∉ f.gs ∧ q ∉ f.rs := by
  obtain ⟨n, x, h1, h2, h3⟩ := usedP_iff.1 hq
  have hn := (List.getElem?_eq_some_iff.1 h1).1
  rw [pl.hfs] at hn
  have h4 := pl.info j n f x hf h1
  simp only [Nat.zero_add] at h2
  simp only [infoPair, h3, Bool.and_eq_true] at h4
  have hne : Nat.beq j n = false := by
    rcases beq_cases j n with ⟨_, h⟩ | ⟨h, _⟩
    · subst h; rw [hD] at h2; simp at h2
    · exact h
  rw [hne] at h4
  have h5 := h4.1
  simp only [Bool.or_eq_true, bitOf] at h5
  rcases h5 with h5 | h5
  · have := hc n (by have := pl.hm; omega) h2 j h5
    rw [hD] at this; simp at this
  · simp only [Bool.and_eq_true, Bool.not_eq_true'] at h5
    exact ⟨memN_false h5.1, memN_false h5.2⟩

theorem mem_groupsOps {X : St} {x : Operand} {s : S} {q : Nat} : ∀ {l : List Operand}, x ∈ l → X.get x = some s → q ∈ groupsC (sCells s) → q ∈ groupsOps X l
  | [], h, _, _ => by simp at h
  | y :: r, h, h1, h2 => by
    simp only [groupsOps, List.mem_append]
    rcases List.mem_cons.1 h with rfl | h
    · left; rw [h1]; exact h2
    · exact .inr (mem_groupsOps h h1 h2)

theorem get_eq (pl : Plan V callF ops m st0 tr fs) (hj : j < m) (ho : ops[j]? = some o) (hf : fs[j]? = some f) (hD : D j = false)
    (hb : ∀ x, ((befs ops.toList []).getD j 0).testBit x = true → D x = true)
    (hc : ∀ i, i < ops.size → D i = true → ∀ x, ((befs ops.toList []).getD i 0).testBit x = true → D x = true)
    {x : Operand} (hx : ∀ t, x = .tmp t → t ∈ looks ops.toList o)
    (hg : ∀ s q, (putsD (fun i => decide (i < j)) 0 tr st0).get x = some s → q ∈ groupsC (sCells s) → q ∈ f.gs) :
    (xOf st0 tr fs D).get x = (putsD (fun i => decide (i < j)) 0 tr st0).get x := by
  cases x with
  | tmp t =>
    have h1 := slot_eq pl hj ho hD hb hc (hx t rfl)
    simp only [St.get] at hg ⊢
    simp only [xOf, St.addB, St.map, mapL_get, h1]
    cases hs : (putsD (fun i => decide (i < j)) 0 tr st0).sl[t]? with
    | none => rfl
    | some s =>
      simp only [Option.map_some]
      rw [killP_S]
      intro q hq
      cases hu : usedP D 0 fs q with
      | false => rfl
      | true => exact absurd (hg s q hs hq) (used_out pl hj hf hD hc hu).1
  | const v => rfl
  | func v => rfl
  | global v => rfl

theorem like_of (pl : Plan V callF ops m st0 tr fs) (hj : j < m) (ho : ops[j]? = some o) (htr : tr[j]? = some (o.dst, s)) (hf : fs[j]? = some f) (hD : D j = false)
    (hb : ∀ x, ((befs ops.toList []).getD j 0).testBit x = true → D x = true)
    (hc : ∀ i, i < ops.size → D i = true → ∀ x, ((befs ops.toList []).getD i 0).testBit x = true → D x = true)
    (hm : noMemSt st0 f.made = true) (hgs : f.gs = groupsOps (putsD (fun i => decide (i < j)) 0 tr st0) o.op.operands.toList) (hrs : f.rs = groupsC (sCells s)) :
    Like o (putsD (fun i => decide (i < j)) 0 tr st0) f.made s (xOf st0 tr fs D) (usedP D 0 fs) := by
  refine ⟨fun x hx => get_eq pl hj ho hf hD hb hc (fun t ht => ?_) fun s q hs hq => ?_, fun _ => ?_, ?_, ?_⟩
  · subst ht
    simp only [looks, List.mem_append, List.mem_filterMap]
    exact .inl ⟨_, hx, rfl⟩
  · rw [hgs]; exact mem_groupsOps hx hs hq
  · intro b cs hb
    rw [putsD_bx] at hb
    simp only [xOf, St.addB, St.map, putsD_bx]
    rw [List.getElem?_append_left (by simpa [mapL_eq] using (List.getElem?_eq_some_iff.1 hb).1), mapL_get, hb]
    rfl
  · have hadd : ∀ {Z : St} {gs : List Nat}, noMemSt Z gs = true → noMemSt (Z.addB (newD D 0 fs)) gs = true := by
      intro Z gs hZ
      rw [noMemSt_iff] at hZ ⊢
      intro g hg
      obtain ⟨h1, h2⟩ := hZ g hg
      refine ⟨h1, ?_⟩
      rw [noMemB_iff] at h2 ⊢
      intro z hz
      simp only [St.addB, List.mem_append] at hz
      rcases hz with hz | hz
      · exact h2 z hz
      · obtain ⟨n, f', q1, _, q3⟩ := newD_mem.1 hz
        have hn := (List.getElem?_eq_some_iff.1 q1).1
        rw [pl.hfs] at hn
        obtain ⟨_, x, g', _, _, q4, _, q5⟩ := get_tr pl (n := n) (e := tr[n]'(by rw [pl.htr]; exact hn)) (by simp)
        rw [q1] at q4
        injection q4 with q4
        subst q4
        rw [noMemC_iff, allRo_groups (q5 z q3)]
        simp
    refine hadd (killP_noMemSt ?_)
    rw [noMemSt_iff] at hm ⊢
    intro g hg
    obtain ⟨h1, h2⟩ := hm g hg
    refine ⟨putsD_noMem h1 fun n e hn hDn => ?_, by rw [putsD_bx]; exact h2⟩
    obtain ⟨hnm, x, y, hx, hed, hy, hyr, _⟩ := get_tr pl hn
    simp only [Nat.zero_add] at hDn
    have h3 := pl.info n j y f hy hf
    simp only [infoPair, Bool.and_eq_true, Bool.or_eq_true, bitOf] at h3
    rw [noMemC_iff, ← hyr]
    rcases h3.2 with (h4 | h4) | h4
    · have := hc n (by have := pl.hm; omega) hDn j h4
      rw [hD] at this; simp at this
    · have := Nat.eq_of_beq_eq_true h4
      subst this
      rw [hD] at hDn; simp at hDn
    · exact disjointN_iff h4 g hg
  · intro q hq
    cases hu : usedP D 0 fs q with
    | false => rfl
    | true => exact absurd (hrs ▸ hq) (used_out pl hj hf hD hc hu).2

theorem x_insert (pl : Plan V callF ops m st0 tr fs) (hj : j < m) (ho : ops[j]? = some o) (htr : tr[j]? = some (o.dst, s)) (hf : fs[j]? = some f) (hD : D j = false) (hD' : ∀ n, D' n = (D n || Nat.beq n j))
    (hc : ∀ i, i < ops.size → D i = true → ∀ x, ((befs ops.toList []).getD i 0).testBit x = true → D x = true) (hrs : f.rs = groupsC (sCells s)) :
    xOf st0 tr fs D' = ((aft f.used ((putsD D 0 tr st0).map (C.killP (usedP D 0 fs)))).putO o.dst s).addB (newD D' 0 fs) := by
  have h1 : putsD D' 0 tr st0 = (putsD D 0 tr st0).putO o.dst s := by
    refine putsD_insert (j := j) htr (by simpa using hD) (fun n => by simpa using hD' n) fun n e hjn hn hDn t ht => ?_
    obtain ⟨hnm, x, y, hx, hed, hy, hyr, _⟩ := get_tr pl hn
    simp only [Nat.zero_add] at hDn
    rcases pl.apart n x hnm hx j o hjn ho with h2 | h2
    · have := hc n (by have := pl.hm; omega) hDn j h2
      rw [hD] at this; simp at this
    · rw [hed]; exact ((apartO_spec h2).1 t ht).2
  have hp : ∀ q, usedP D' 0 fs q = (usedP D 0 fs q || (match f.used with | some g => Nat.beq g q | none => false)) := by
    intro q
    rw [Bool.eq_iff_iff, Bool.or_eq_true, usedP_iff, usedP_iff]
    simp only [Nat.zero_add]
    constructor
    · rintro ⟨n, x, q1, q2, q3⟩
      rw [hD'] at q2
      simp only [Bool.or_eq_true] at q2
      rcases q2 with q2 | q2
      · exact .inl ⟨n, x, q1, q2, q3⟩
      · right
        have := Nat.eq_of_beq_eq_true q2
        subst this
        rw [hf] at q1
        injection q1 with q1
        subst q1
        rw [q3]; simp
    · rintro (⟨n, x, q1, q2, q3⟩ | h)
      · exact ⟨n, x, q1, by rw [hD', q2]; rfl, q3⟩
      · refine ⟨j, f, hf, by rw [hD']; simp, ?_⟩
        split at h
        · rename_i g hg
          rw [hg, Nat.eq_of_beq_eq_true h]
        · simp at h
  have hs : s.map (C.killP (usedP D' 0 fs)) = s := by
    refine killP_S fun q hq => ?_
    rw [hp]
    cases hu : usedP D 0 fs q with
    | true => exact absurd (hrs ▸ hq) (used_out pl hj hf hD hc hu).2
    | false =>
      split
      · rename_i g hg
        rcases beq_cases g q with ⟨_, he⟩ | ⟨hb, _⟩
        · subst he
          have h3 := pl.info j j f f hf hf
          simp only [infoPair, hg, Bool.and_eq_true] at h3
          have h4 : Nat.beq j j = true := by simp
          rw [h4] at h3
          have h5 := memN_false (by simpa using h3.1 : memN g f.rs = false)
          exact absurd (hrs ▸ hq) h5
        · rw [hb]; rfl
      · rfl
  unfold xOf
  rw [h1, put_map, hs]
  congr 2
  cases hu : f.used with
  | none =>
    simp only [aft]
    congr 2
    funext q
    rw [hp, hu]; simp
  | some g =>
    simp only [aft]
    rw [kill_killP]
    congr 2
    funext q
    rw [hp, hu]
theorem newD_ro (pl : Plan V callF ops m st0 tr fs) {z : List C} (hz : z ∈ newD D 0 fs) : allRo z = true := by
  obtain ⟨n, f', q1, _, q3⟩ := newD_mem.1 hz
  have hn := (List.getElem?_eq_some_iff.1 q1).1
  rw [pl.hfs] at hn
  obtain ⟨_, x, g', _, _, q4, _, q5⟩ := get_tr pl (n := n) (e := tr[n]'(by rw [pl.htr]; exact hn)) (by simp)
  rw [q1] at q4
  injection q4 with q4
  subst q4
  exact q5 z q3
theorem kill_ro {g : Nat} : ∀ {cs : List C}, allRo cs = true → mapL (C.kill g) cs = cs
  | [], _ => rfl
  | ⟨.ro, _⟩ :: r, h => by simp only [mapL, C.kill]; rw [kill_ro (by simpa [allRo] using h)]
  | ⟨.own _ _, _⟩ :: r, h => by simp [allRo] at h
theorem kill_ros {g : Nat} : ∀ {l : List (List C)}, (∀ z ∈ l, allRo z = true) → mapL (mapL (C.kill g)) l = l
  | [], _ => rfl
  | z :: r, h => by simp only [mapL]; rw [kill_ro (h z (by simp)), kill_ros fun y hy => h y (by simp [hy])]
theorem aft_addB {u : Option Nat} {Z : St} {l : List (List C)} (h : ∀ z ∈ l, allRo z = true) : aft u (Z.addB l) = (aft u Z).addB l := by
  cases u with
  | none => rfl
  | some g =>
    simp only [aft, St.map, St.addB]
    congr 1
    rw [mapL_eq, List.map_append, ← mapL_eq, ← mapL_eq, kill_ros h]
theorem x_does (pl : Plan V callF ops m st0 tr fs) (hj : j < m) (ho : ops[j]? = some o) (htr : tr[j]? = some (o.dst, s)) (hf : fs[j]? = some f) (hD : D j = false) (hD' : ∀ n, D' n = (D n || Nat.beq n j))
    (hc : ∀ i, i < ops.size → D i = true → ∀ x, ((befs ops.toList []).getD i 0).testBit x = true → D x = true) (hrs : f.rs = groupsC (sCells s)) (hal : f.al = []) :
    xOf st0 tr fs D' = (aft f.used (xOf st0 tr fs D)).putO o.dst s := by
  rw [x_insert pl hj ho htr hf hD hD' hc hrs]
  have h1 : newD D' 0 fs = newD D 0 fs := by
    refine newD_congr fun n g hg ha => ?_
    rw [Nat.zero_add, hD']
    rcases beq_cases n j with ⟨hb, he⟩ | ⟨hb, he⟩
    · subst he
      rw [hf] at hg
      injection hg with hg
      subst hg
      exact absurd hal ha
    · rw [hb]; simp
  rw [h1]
  unfold xOf
  rw [aft_addB fun z hz => newD_ro pl hz, putO_addB]
theorem x_alloc (pl : Plan V callF ops m st0 tr fs) (hj : j < m) (ho : ops[j]? = some o) {z : List C} (htr : tr[j]? = some (o.dst, s)) (hf : fs[j]? = some ⟨[], [], [], none, [z], []⟩) (hD : D j = false) (hD' : ∀ n, D' n = (D n || Nat.beq n j))
    (hc : ∀ i, i < ops.size → D i = true → ∀ x, ((befs ops.toList []).getD i 0).testBit x = true → D x = true) (hrs : [] = groupsC (sCells s)) :
    (xOf st0 tr fs D).bx.length = st0.bx.length ∧ xOf st0 tr fs D' = ((xOf st0 tr fs D).addB [z]).putO o.dst s := by
  have h1 := newD_insert (D := D) (D' := D') (i := 0) hf (by simpa using hD) (fun n => by simpa using hD' n)
  have h2 := newD_le (D := D') (D' := fun _ => true) (fun _ _ => rfl) (l := fs) (i := 0)
  have h3 := pl.one
  simp at h1
  have h4 : newD D 0 fs = [] := List.eq_nil_of_length_eq_zero (by omega)
  have h5 : newD D' 0 fs = [z] := by
    have hz : z ∈ newD D' 0 fs := newD_mem.2 ⟨j, _, hf, by rw [hD']; simp, by simp⟩
    have hl : (newD D' 0 fs).length = 1 := by rw [h1, h4]; rfl
    cases hq : newD D' 0 fs with
    | nil => rw [hq] at hl; simp at hl
    | cons a l =>
      rw [hq] at hl hz
      cases l with
      | nil => simp at hz; rw [hz]
      | cons b l => simp at hl
  constructor
  · simp [xOf, h4, St.addB, St.map, mapL_eq, putsD_bx]
  · rw [x_insert pl hj ho htr hf hD hD' hc hrs, h5]
    unfold xOf
    rw [h4, addB_nil, putO_addB]
    rfl

/-! stores among them -/
theorem storeOf_some {P : Program} {o : Oper} {X : St} {z : Nat × Nat × List C} (h : storeOf P o X = some z) :
    ∃ T a x t v inf cs, o.op = .store T a x ∧ X.getC a = some ⟨t, .ptr z.1 z.2.1⟩ ∧ X.get1 x = some v ∧ v.cells = z.2.2 ∧ P.info? T = some inf ∧ Nat.beq v.cells.length inf.size = true ∧ allRo v.cells = true ∧
      X.bx[z.1]? = some cs ∧ Nat.ble (z.2.1 + v.cells.length) cs.length = true := by
  unfold storeOf at h
  split at h
  · rename_i T a x ho
    split at h
    · rename_i t b off v inf h1 h2 h3
      have hc := (bif_some h).1
      replace h := (bif_some h).2
      simp only [Bool.and_eq_true] at hc
      split at h
      · rename_i cs hcs
        have hc2 := (bif_some h).1
        replace h := (bif_some h).2
        injection h with h
        subst h
        exact ⟨T, a, x, t, v, inf, cs, ho, h1, h2, rfl, h3, hc.1, hc.2, hcs, hc2⟩
      · simp at h
    · simp at h
  · simp at h
theorem get_sto (pl : Plan V callF ops m st0 tr fs) {n : Nat} {g : Info} (h : fs[n]? = some g) : ∀ z ∈ g.sto, allRo z.2.2 = true := by
  have h1 := (List.getElem?_eq_some_iff.1 h).1
  rw [pl.hfs] at h1
  have h2 : n < ops.size := by have := pl.hm; omega
  obtain ⟨s, g', q1, q2, q3⟩ := pl.step n ops[n] h1 (by simp [h2])
  rw [h] at q2
  injection q2 with q2
  subst q2
  have hd : ∀ {nb : List (List C)}, DoesB V callF st0 ops[n] (putsD (fun i => decide (i < n)) 0 tr st0) nb s g → ∀ z ∈ g.sto, allRo z.2.2 = true := by
    intro nb
    rintro (⟨_, _, _, _, rfl, _⟩ | ⟨_, _, _, _, hr, rfl, rfl⟩ | ⟨z, hz, rfl, rfl⟩)
    · intro z hz; simp at hz
    · intro z hz; simp at hz
    · intro z' hz'
      simp at hz'
      subst hz'
      obtain ⟨T, a, x, t, v, inf, cs, r1, r2, r3, r4, r5, r6, r7, r8, r9⟩ := storeOf_some hz
      exact r4 ▸ r7
  unfold StepOK at q3
  split at q3
  · exact hd q3
  · obtain ⟨_, _, q3 | ⟨_, rfl, rfl⟩⟩ := q3
    · exact hd q3.2
    · intro z hz; simp at hz
theorem stD_mem {D : Nat → Bool} {x : Nat × Nat × List C} : ∀ {l : List Info} {i : Nat}, x ∈ stD D i l ↔ ∃ (n : Nat) (f : Info), l[n]? = some f ∧ D (i + n) = true ∧ x ∈ f.sto
  | [], i => by simp [stD]
  | y :: r, i => by
    simp only [stD, List.mem_append]
    rw [stD_mem]
    constructor
    · rintro (h | ⟨n, f, h1, h2, h3⟩)
      · cases hD : D i with
        | false => rw [hD] at h; simp at h
        | true => rw [hD] at h; exact ⟨0, y, rfl, hD, h⟩
      · exact ⟨n + 1, f, by simpa using h1, by rw [show i + (n + 1) = i + 1 + n by omega]; exact h2, h3⟩
    · rintro ⟨n, f, h1, h2, h3⟩
      cases n with
      | zero =>
        simp at h1
        subst h1
        left
        have : D i = true := h2
        rw [this]; exact h3
      | succ n => exact .inr ⟨n, f, by simpa using h1, by rw [show i + 1 + n = i + (n + 1) by omega]; exact h2, h3⟩
theorem stD_le {D D' : Nat → Bool} (h : ∀ n, D n = true → D' n = true) : ∀ {l : List Info} {i : Nat}, (stD D i l).length ≤ (stD D' i l).length
  | [], _ => by simp [stD]
  | y :: r, i => by
    simp only [stD, List.length_append]
    have h1 := stD_le h (l := r) (i := i + 1)
    cases hD : D i with
    | false => simp; omega
    | true => rw [h i hD]; simp; omega
theorem stD_congr {D D' : Nat → Bool} : ∀ {l : List Info} {i : Nat}, (∀ n f, l[n]? = some f → f.sto ≠ [] → D (i + n) = D' (i + n)) → stD D i l = stD D' i l
  | [], _, _ => rfl
  | y :: r, i, h => by
    simp only [stD]
    have hr := stD_congr (D := D) (D' := D') (l := r) (i := i + 1) fun n f h1 h2 => by
      have := h (n + 1) f (by simpa using h1) h2
      rw [show i + 1 + n = i + (n + 1) by omega]; exact this
    rw [hr]
    congr 1
    cases ha : y.sto with
    | nil => cases D i <;> cases D' i <;> rfl
    | cons a l =>
      have := h 0 y rfl (by rw [ha]; simp)
      simp only [Nat.add_zero] at this
      rw [this]
theorem stD_insert {D D' : Nat → Bool} {f : Info} : ∀ {l : List Info} {i j : Nat}, l[j]? = some f → D (i + j) = false → (∀ n, D' n = (D n || Nat.beq n (i + j))) → (stD D' i l).length = (stD D i l).length + f.sto.length
  | [], _, _, h, _, _ => by simp at h
  | y :: r, i, 0, h, hD, hD' => by
    simp at h
    subst h
    simp only [stD, List.length_append]
    have h1 : D' i = true := by rw [hD']; simp
    have h2 : D i = false := by simpa using hD
    have hr := stD_congr (D := D') (D' := D) (l := r) (i := i + 1) fun n f _ _ => by
      rw [hD']
      have : Nat.beq (i + 1 + n) (i + 0) = false := by
        rcases beq_cases (i + 1 + n) (i + 0) with ⟨_, h⟩ | ⟨h, _⟩
        · omega
        · exact h
      rw [this]; simp
    rw [h1, h2, hr]
    simp; omega
  | y :: r, i, j + 1, h, hD, hD' => by
    simp only [stD, List.length_append]
    have h1 : D' i = D i := by
      rw [hD']
      have : Nat.beq i (i + (j + 1)) = false := by
        rcases beq_cases i (i + (j + 1)) with ⟨_, h⟩ | ⟨h, _⟩
        · omega
        · exact h
      rw [this]; simp
    rw [h1, stD_insert (l := r) (i := i + 1) (j := j) (by simpa using h) (by rw [show i + 1 + j = i + (j + 1) by omega]; exact hD) (fun n => by rw [hD', show i + 1 + j = i + (j + 1) by omega])]
    omega
/-- The state where the operations D were performed, with their store. -/
def yOf (st0 : St) (tr : List (Option Nat × S)) (fs : List Info) (D : Nat → Bool) : St := (xOf st0 tr fs D).stAll (stD D 0 fs)
theorem stAll_sl : ∀ {l : List (Nat × Nat × List C)} {X : St}, (X.stAll l).sl = X.sl
  | [], _ => rfl
  | z :: r, X => stAll_sl (l := r)
theorem stAll_len : ∀ {l : List (Nat × Nat × List C)} {X : St}, (X.stAll l).bx.length = X.bx.length
  | [], _ => rfl
  | z :: r, X => by rw [St.stAll, stAll_len (l := r)]; simp
theorem stAll_putO : ∀ {l : List (Nat × Nat × List C)} {X : St} {d : Option Nat} {s : S}, (X.stAll l).putO d s = (X.putO d s).stAll l
  | [], _, _, _ => rfl
  | z :: r, X, d, s => by
    rw [St.stAll, stAll_putO (l := r)]
    cases d <;> rfl
theorem stAll_addB : ∀ {l : List (Nat × Nat × List C)} {X : St} {b : List (List C)}, (∀ z ∈ l, z.1 < X.bx.length) → (X.stAll l).addB b = (X.addB b).stAll l
  | [], _, _, _ => rfl
  | z :: r, X, b, h => by
    have hz := h z (by simp)
    rw [St.stAll, stAll_addB (l := r) (fun y hy => by simpa using h y (by simp [hy])), St.stAll]
    congr 1
    simp only [St.addB]
    congr 1
    rw [List.set_append_left _ _ hz, List.getD_eq_getElem?_getD, List.getD_eq_getElem?_getD, List.getElem?_append_left hz]
theorem setCells_kill {g : Nat} : ∀ {cs : List C} {o : Nat} {v : List C}, allRo v = true → mapL (C.kill g) (setCells cs o v) = setCells (mapL (C.kill g) cs) o v
  | cs, o, [], _ => rfl
  | cs, o, ⟨.ro, av⟩ :: v, h => by
    simp only [setCells]
    rw [setCells_kill (by simpa [allRo] using h)]
    congr 1
    rw [mapL_eq, mapL_eq, List.map_set]
    rfl
  | _, _, ⟨.own _ _, _⟩ :: _, h => by simp [allRo] at h
theorem stAll_kill {g : Nat} : ∀ {l : List (Nat × Nat × List C)} {X : St}, (∀ z ∈ l, allRo z.2.2 = true) → (X.stAll l).map (C.kill g) = (X.map (C.kill g)).stAll l
  | [], _, _ => rfl
  | z :: r, X, h => by
    rw [St.stAll, stAll_kill (l := r) (fun y hy => h y (by simp [hy])), St.stAll]
    congr 1
    simp only [St.map]
    congr 1
    rw [mapL_eq, List.map_set, ← mapL_eq]
    congr 1
    rw [setCells_kill (h z (by simp)), List.getD_eq_getElem?_getD, List.getD_eq_getElem?_getD, mapL_get]
    cases X.bx[z.1]? <;> rfl
theorem stAll_aft {u : Option Nat} {l : List (Nat × Nat × List C)} {X : St} (h : ∀ z ∈ l, allRo z.2.2 = true) : aft u (X.stAll l) = (aft u X).stAll l := by
  cases u with
  | none => rfl
  | some g => exact stAll_kill h
theorem setCells_groups {q : Nat} : ∀ {v cs : List C} {o : Nat}, allRo v = true → q ∈ groupsC (setCells cs o v) → q ∈ groupsC cs
  | [], cs, o, _, h => h
  | ⟨.ro, av⟩ :: v, cs, o, hv, h => by
    simp only [setCells] at h
    have h1 := setCells_groups (v := v) (by simpa [allRo] using hv) h
    -- a set of a read-only cell
    clear h
    induction cs generalizing o with
    | nil => simpa using h1
    | cons c cs ih =>
      cases o with
      | zero =>
        obtain ⟨t, a⟩ := c
        cases t with
        | ro => exact h1
        | own p s => exact List.mem_cons_of_mem _ h1
      | succ o =>
        obtain ⟨t, a⟩ := c
        cases t with
        | ro => exact ih o h1
        | own p s =>
          rcases List.mem_cons.1 h1 with rfl | h1
          · exact List.mem_cons_self
          · exact List.mem_cons_of_mem _ (ih o h1)
  | ⟨.own _ _, _⟩ :: _, _, _, hv, _ => by simp [allRo] at hv
theorem stAll_noMem {gs : List Nat} : ∀ {l : List (Nat × Nat × List C)} {X : St}, (∀ z ∈ l, allRo z.2.2 = true) → noMemSt X gs = true → noMemSt (X.stAll l) gs = true
  | [], _, _, h => h
  | z :: r, X, hr, h => by
    rw [St.stAll]
    refine stAll_noMem (l := r) (fun y hy => hr y (by simp [hy])) ?_
    rw [noMemSt_iff] at h ⊢
    intro g hg
    obtain ⟨h1, h2⟩ := h g hg
    refine ⟨h1, ?_⟩
    rw [noMemB_iff] at h2 ⊢
    intro y hy
    rcases List.mem_or_eq_of_mem_set hy with hy | rfl
    · exact h2 y hy
    · rw [noMemC_iff]
      intro hq
      have := setCells_groups (hr z (by simp)) hq
      rw [List.getD_eq_getElem?_getD] at this
      cases hb : X.bx[z.1]? with
      | none => rw [hb] at this; simp [groupsC] at this
      | some cs =>
        rw [hb] at this
        have h3 := h2 cs (List.mem_of_getElem? hb)
        rw [noMemC_iff] at h3
        exact h3 this
theorem sto_ro (pl : Plan V callF ops m st0 tr fs) {z : Nat × Nat × List C} (hz : z ∈ stD D 0 fs) : allRo z.2.2 = true := by
  obtain ⟨n, f', q1, _, q3⟩ := stD_mem.1 hz
  exact get_sto pl q1 z q3
theorem xOf_len : st0.bx.length ≤ (xOf st0 tr fs D).bx.length := by
  simp [xOf, St.addB, St.map, mapL_eq, putsD_bx]
theorem get_y {x : Operand} : (yOf st0 tr fs D).get x = (xOf st0 tr fs D).get x := by
  cases x <;> simp only [St.get, yOf, stAll_sl]
theorem likeY_of (pl : Plan V callF ops m st0 tr fs) (hj : j < m) (ho : ops[j]? = some o) (htr : tr[j]? = some (o.dst, s)) (hf : fs[j]? = some f) (hD : D j = false)
    (hb : ∀ x, ((befs ops.toList []).getD j 0).testBit x = true → D x = true)
    (hc : ∀ i, i < ops.size → D i = true → ∀ x, ((befs ops.toList []).getD i 0).testBit x = true → D x = true)
    (hm : noMemSt st0 f.made = true) (hgs : f.gs = groupsOps (putsD (fun i => decide (i < j)) 0 tr st0) o.op.operands.toList) (hrs : f.rs = groupsC (sCells s)) :
    Like o (putsD (fun i => decide (i < j)) 0 tr st0) f.made s (yOf st0 tr fs D) (usedP D 0 fs) := by
  obtain ⟨l1, l2, l3, l4⟩ := like_of pl hj ho htr hf hD hb hc hm hgs hrs
  refine ⟨fun x hx => get_y.trans (l1 x hx), fun hl => ?_, stAll_noMem (fun z hz => sto_ro pl hz) l3, l4⟩
  have : stD D 0 fs = [] := by
    cases hs : stD D 0 fs with
    | nil => rfl
    | cons z r =>
      have hz : z ∈ stD D 0 fs := by rw [hs]; exact List.mem_cons_self
      obtain ⟨n, g, q1, q2, q3⟩ := stD_mem.1 hz
      rw [Nat.zero_add] at q2
      have hn := (List.getElem?_eq_some_iff.1 q1).1
      rw [pl.hfs] at hn
      have h1 := pl.loads n g q1 (fun e => by rw [e] at q3; simp at q3) j o hj ho hl
      have := hc n (by have := pl.hm; omega) q2 j h1
      rw [hD] at this
      simp at this
  unfold yOf
  rw [this]
  exact l2 hl
theorem stD_same {D D' : Nat → Bool} (hf : fs[j]? = some f) (hD' : ∀ n, D' n = (D n || Nat.beq n j)) (hs : f.sto = []) : stD D' 0 fs = stD D 0 fs := by
  refine stD_congr fun n g hg ha => ?_
  rw [Nat.zero_add, hD']
  rcases beq_cases n j with ⟨hb, he⟩ | ⟨hb, he⟩
  · subst he
    rw [hf] at hg
    injection hg with hg
    subst hg
    exact absurd hs ha
  · rw [hb]; simp
theorem y_does (pl : Plan V callF ops m st0 tr fs) (hj : j < m) (ho : ops[j]? = some o) (htr : tr[j]? = some (o.dst, s)) (hf : fs[j]? = some f) (hD : D j = false) (hD' : ∀ n, D' n = (D n || Nat.beq n j))
    (hc : ∀ i, i < ops.size → D i = true → ∀ x, ((befs ops.toList []).getD i 0).testBit x = true → D x = true) (hrs : f.rs = groupsC (sCells s)) (hal : f.al = []) (hsto : f.sto = []) :
    yOf st0 tr fs D' = (aft f.used (yOf st0 tr fs D)).putO o.dst s := by
  unfold yOf
  rw [x_does pl hj ho htr hf hD hD' hc hrs hal, stD_same hf hD' hsto, stAll_aft fun z hz => sto_ro pl hz, stAll_putO]
theorem y_alloc (pl : Plan V callF ops m st0 tr fs) (hj : j < m) (ho : ops[j]? = some o) {z : List C} (htr : tr[j]? = some (o.dst, s)) (hf : fs[j]? = some ⟨[], [], [], none, [z], []⟩) (hD : D j = false) (hD' : ∀ n, D' n = (D n || Nat.beq n j))
    (hc : ∀ i, i < ops.size → D i = true → ∀ x, ((befs ops.toList []).getD i 0).testBit x = true → D x = true) (hrs : [] = groupsC (sCells s)) :
    (yOf st0 tr fs D).bx.length = st0.bx.length ∧ yOf st0 tr fs D' = ((yOf st0 tr fs D).addB [z]).putO o.dst s := by
  obtain ⟨h1, h2⟩ := x_alloc pl hj ho htr hf hD hD' hc hrs
  refine ⟨by unfold yOf; rw [stAll_len, h1], ?_⟩
  unfold yOf
  have hlt : ∀ y ∈ stD D 0 fs, y.1 < st0.bx.length := fun y hy => by
    obtain ⟨n, f', q1, q2, q3⟩ := stD_mem.1 hy
    rw [Nat.zero_add] at q2
    by_cases hl : y.1 < st0.bx.length
    · exact hl
    · exfalso
      have hb := pl.fresh n f' q1 y q3 (by omega) j _ hf (by simp)
      have hn := (List.getElem?_eq_some_iff.1 q1).1
      rw [pl.hfs] at hn
      have := hc n (by have := pl.hm; omega) q2 j hb
      rw [hD] at this
      simp at this
  rw [h2, stD_same hf hD' rfl, stAll_addB fun y hy => by have := hlt y hy; omega, stAll_putO]
theorem y_store (pl : Plan V callF ops m st0 tr fs) (hj : j < m) (ho : ops[j]? = some o) {gs : List Nat} {z : Nat × Nat × List C} (htr : tr[j]? = some (o.dst, s)) (hf : fs[j]? = some ⟨gs, [], [], none, [], [z]⟩) (hD : D j = false) (hD' : ∀ n, D' n = (D n || Nat.beq n j))
    (hc : ∀ i, i < ops.size → D i = true → ∀ x, ((befs ops.toList []).getD i 0).testBit x = true → D x = true) (hrs : [] = groupsC (sCells s)) :
    stD D 0 fs = [] ∧ yOf st0 tr fs D' = ((xOf st0 tr fs D).stAll [z]).putO o.dst s := by
  have h1 := stD_insert (D := D) (D' := D') (i := 0) hf (by simpa using hD) (fun n => by simpa using hD' n)
  have h2 := stD_le (D := D') (D' := fun _ => true) (fun _ _ => rfl) (l := fs) (i := 0)
  have h3 := pl.oneS
  simp at h1
  have h4 : stD D 0 fs = [] := List.eq_nil_of_length_eq_zero (by omega)
  have h5 : stD D' 0 fs = [z] := by
    have hz : z ∈ stD D' 0 fs := stD_mem.2 ⟨j, _, hf, by rw [hD']; simp, by simp⟩
    have hl : (stD D' 0 fs).length = 1 := by rw [h1, h4]; rfl
    cases hq : stD D' 0 fs with
    | nil => rw [hq] at hl; simp at hl
    | cons a l =>
      rw [hq] at hl hz
      cases l with
      | nil => simp at hz; rw [hz]
      | cons b l => simp at hl
  refine ⟨h4, ?_⟩
  unfold yOf
  rw [h5, x_does pl hj ho htr hf hD hD' hc hrs rfl, stAll_putO]
  rfl
end
end Go.Proofs.Ythiaaaedfidnjaa.Am

namespace Go.Proofs.Ythiaaaedfidnjaa.Am
open Go Go.RowKit
theorem getC_addB {X : St} {l : List (List C)} {x : Operand} : (X.addB l).getC x = X.getC x := by cases x <;> rfl
theorem get1_addB {X : St} {l : List (List C)} {x : Operand} : (X.addB l).get1 x = X.get1 x := by cases x <;> rfl
theorem allocsAhead_spec {bs : List Nat} {n : Nat} : ∀ {l : List Info} {k : Nat}, allocsAhead bs n k l = true → ∀ i x, l[i]? = some x → x.al ≠ [] → bitOf (bs.getD n 0) (k + i) = true
  | [], _, _, i, x, h, _ => by simp at h
  | f :: r, k, h, 0, x, hx, hne => by
    simp at hx
    subst hx
    simp only [allocsAhead, Bool.and_eq_true] at h
    have h1 := h.1
    split at h1
    · rename_i he
      exact absurd he hne
    · exact h1
  | f :: r, k, h, i + 1, x, hx, hne => by
    simp only [allocsAhead, Bool.and_eq_true] at h
    have := allocsAhead_spec (l := r) h.2 i x (by simpa using hx) hne
    rwa [show k + 1 + i = k + (i + 1) by omega] at this
theorem freshOne_spec {bs : List Nat} {len n : Nat} {fs : List Info} : ∀ {l : List (Nat × Nat × List C)}, freshOne bs len n fs l = true → ∀ z ∈ l, len ≤ z.1 → allocsAhead bs n 0 fs = true
  | [], _, z, h, _ => by simp at h
  | y :: r, h, z, hz, hl => by
    simp only [freshOne, Bool.and_eq_true, Bool.or_eq_true] at h
    rcases List.mem_cons.1 hz with rfl | hz
    · rcases h.1 with h1 | h1
      · have := Nat.le_of_ble_eq_true h1
        omega
      · exact h1
    · exact freshOne_spec h.2 z hz hl
theorem freshOK_spec {bs : List Nat} {len : Nat} {fs : List Info} : ∀ {l : List Info} {k : Nat}, freshOK bs len fs k l = true → ∀ n f, l[n]? = some f → ∀ z ∈ f.sto, len ≤ z.1 → allocsAhead bs (k + n) 0 fs = true
  | [], _, _, n, f, h, _, _, _ => by simp at h
  | g :: r, k, h, 0, f, hf, z, hz, hl => by
    simp at hf
    subst hf
    simp only [freshOK, Bool.and_eq_true] at h
    exact freshOne_spec h.1 z hz hl
  | g :: r, k, h, n + 1, f, hf, z, hz, hl => by
    simp only [freshOK, Bool.and_eq_true] at h
    have := freshOK_spec (l := r) h.2 n f (by simpa using hf) z hz hl
    rwa [show k + 1 + n = k + (n + 1) by omega] at this
section
variable {w0 : Base} {M0 : Mem} {V : Env} {callF : FuncId → List S1 → List (List C) → Tree} {ops : Array Oper} {m : Nat} {st0 : St} {tr : List (Option Nat × S)} {fs : List Info} {r : Res}

theorem xOf_full (pl : Plan V callF ops m st0 tr fs) {D D' : Nat → Bool} (h : ∀ n, n < m → D n = D' n) : xOf st0 tr fs D = xOf st0 tr fs D' := by
  unfold xOf
  rw [putsD_congr (D' := D') fun n hn => by rw [Nat.zero_add]; exact h n (by rw [pl.htr] at hn; exact hn)]
  rw [newD_congr (D := D) (D' := D') fun n f hf _ => by
    have hn := (List.getElem?_eq_some_iff.1 hf).1
    rw [pl.hfs] at hn
    rw [Nat.zero_add]; exact h n hn]
  congr 3
  funext q
  rw [Bool.eq_iff_iff, usedP_iff, usedP_iff]
  simp only [Nat.zero_add]
  constructor <;> rintro ⟨n, x, h1, h2, h3⟩ <;> have hn := (List.getElem?_eq_some_iff.1 h1).1 <;> rw [pl.hfs] at hn
  · exact ⟨n, x, h1, by rw [← h n hn]; exact h2, h3⟩
  · exact ⟨n, x, h1, by rw [h n hn]; exact h2, h3⟩

theorem yOf_full (pl : Plan V callF ops m st0 tr fs) {D D' : Nat → Bool} (h : ∀ n, n < m → D n = D' n) : yOf st0 tr fs D = yOf st0 tr fs D' := by
  unfold yOf
  rw [xOf_full pl h, stD_congr (D := D) (D' := D') fun n f hf _ => by
    have hn := (List.getElem?_eq_some_iff.1 hf).1
    rw [pl.hfs] at hn
    rw [Nat.zero_add]; exact h n hn]

/-- Where the drawing stands. -/
def Stage (w0 : Base) (M0 : Mem) (V : Env) (callF : FuncId → List S1 → List (List C) → Tree) (ops : Array Oper) (m : Nat) (st0 : St) (tr : List (Option Nat × S)) (fs : List Info) (r : Res) (k : St → Option Res) (listed : Array Bool) (a : Act) (w : World) : Prop :=
  ((∀ j, m ≤ j → listed.getD j false = false) ∧ ∃ g, Inv w0 M0 g (yOf st0 tr fs fun i => listed.getD i false) a w) ∨
  (∃ p, m ≤ p ∧ p ≤ ops.size ∧ (∀ j, listed.getD j false = decide (j < p)) ∧ ∃ st' g, Inv w0 M0 g st' a w ∧ opsK V callF ops.toList (ops.toList.drop p) st' k = some r)

theorem Stage.late (pl : Plan V callF ops m st0 tr fs) {k : St → Option Res} (hend : opsK V callF ops.toList (ops.toList.drop m) (yOf st0 tr fs fun _ => true) k = some r)
    {listed : Array Bool} {a : Act} {w : World} (h : Stage w0 M0 V callF ops m st0 tr fs r k listed a w) (hall : ∀ j, j < m → listed.getD j false = true) :
    ∃ p, m ≤ p ∧ p ≤ ops.size ∧ (∀ j, listed.getD j false = decide (j < p)) ∧ ∃ st' g, Inv w0 M0 g st' a w ∧ opsK V callF ops.toList (ops.toList.drop p) st' k = some r := by
  rcases h with ⟨h1, g, h2⟩ | h
  · refine ⟨m, Nat.le_refl _, pl.hm, fun j => ?_, _, g, h2, ?_⟩
    · rcases Nat.lt_or_ge j m with hj | hj
      · rw [hall j hj]; simp [hj]
      · rw [h1 j hj]; simp; omega
    · rw [yOf_full pl (D' := fun _ => true) hall]; exact hend
  · exact h

theorem listed_set {listed : Array Bool} {i : Nat} (hi : i < listed.size) (n : Nat) : (listed.setIfInBounds i true).getD n false = (listed.getD n false || Nat.beq n i) := by
  simp only [Array.getD_eq_getD_getElem?, Array.getElem?_setIfInBounds]
  by_cases h : i = n
  · subst h; simp [hi]
  · have : Nat.beq n i = false := by
      rcases beq_cases n i with ⟨_, h'⟩ | ⟨h', _⟩
      · exact (h h'.symm).elim
      · exact h'
    rw [this]
    simp [h]

theorem any_sound {Q : Exit → Act → World → Prop} {k : St → Option Res} (hcall : CallOK V callF) (pl : Plan V callF ops m st0 tr fs)
    (hend : opsK V callF ops.toList (ops.toList.drop m) (yOf st0 tr fs fun _ => true) k = some r)
    (hQ : ∀ st' g' a' w', k st' = some r → Inv w0 M0 g' st' a' w' → Q .normal a' w') :
    ∀ (fuel : Nat) (listed : Array Bool) (a : Act) (w : World), listed.size = ops.size →
      (∀ (j : Nat) (o : Oper), ops[j]? = some o → listed.getD j false = true → ∀ e ∈ o.after.toList, Region.binds .any e = true → listed.getD e.on false = true) →
      listed.toList.countP (!·) ≤ fuel → Stage w0 M0 V callF ops m st0 tr fs r k listed a w → wpAny V.P .any ops Q fuel listed a w := by
  intro fuel
  have none_left : ∀ (listed : Array Bool) (a : Act) (w : World), (∀ j, j < ops.size → listed.getD j false = true) → Stage w0 M0 V callF ops m st0 tr fs r k listed a w → Q .normal a w := by
    intro listed a w hall hs
    obtain ⟨p, h1, h2, h3, st', g, h4, h5⟩ := hs.late pl hend fun j hj => hall j (by have := pl.hm; omega)
    have hp : p = ops.size := by
      rcases Nat.lt_or_ge p ops.size with hlt | hge
      · have := hall p hlt
        rw [h3] at this
        simp at this
      · omega
    subst hp
    have : ops.toList.drop ops.size = [] := by simp
    rw [this] at h5
    exact hQ _ _ _ _ h5 h4
  have no_ready : ∀ (listed : Array Bool), listed.size = ops.size → Region.ready .any ops listed = [] → ∀ j, j < ops.size → listed.getD j false = true := by
    intro listed hsz hr j
    induction j using Nat.strongRecOn with
    | _ j ih =>
      intro hj
      cases hl : listed.getD j false with
      | true => rfl
      | false =>
        have : j ∈ Region.ready .any ops listed := by
          rw [mem_ready]
          refine ⟨?_, ops[j], by simp [hj], fun e he hb => ?_⟩
          · rw [Array.getD_eq_getD_getElem?] at hl ⊢
            have : j < listed.size := by omega
            simp [this] at hl ⊢
            exact hl
          · have := pl.down j ops[j] (by simp [hj]) e (by simpa using he) hb
            exact ih e.on this (by omega)
        rw [hr] at this
        simp at this
  induction fuel with
  | zero =>
    intro listed a w hsz hcl hcnt hs
    have hall : ∀ j, j < ops.size → listed.getD j false = true := by
      intro j hj
      have h0 : listed.toList.countP (!·) = 0 := by omega
      rw [List.countP_eq_zero] at h0
      have hj' : j < listed.size := by omega
      have := h0 (listed[j]) (by simp)
      rw [Array.getD_eq_getD_getElem?]
      simpa [hj'] using this
    refine ⟨?_, none_left listed a w hall hs⟩
    cases hr : Region.ready .any ops listed with
    | nil => rfl
    | cons x l =>
      have hx : x ∈ Region.ready .any ops listed := by rw [hr]; simp
      rw [mem_ready] at hx
      obtain ⟨h1, o, h2, _⟩ := hx
      have := hall x (Array.getElem?_eq_some_iff.1 h2).1
      rw [Array.getD_eq_getD_getElem?] at h1 this
      cases hq : listed[x]? <;> simp_all
  | succ fuel ih =>
    intro listed a w hsz hcl hcnt hs
    refine ⟨fun hr => none_left listed a w (no_ready listed hsz hr) hs, fun i hi => ?_⟩
    rw [mem_ready] at hi
    obtain ⟨h1, o, ho, hed⟩ := hi
    have hi : i < ops.size := (Array.getElem?_eq_some_iff.1 ho).1
    have hil : i < listed.size := by omega
    have hD : listed.getD i false = false := by
      rw [Array.getD_eq_getD_getElem?] at h1 ⊢
      simp [hil] at h1 ⊢
      exact h1
    have hed' : ∀ e ∈ o.after.toList, Region.binds .any e = true → listed.getD e.on false = true := fun e he hb => hed e (by simpa using he) hb
    have hoL : ops.toList[i]? = some o := by simpa using ho
    have hclL : ∀ j o, ops.toList[j]? = some o → listed.getD j false = true → ∀ e ∈ o.after.toList, Region.binds .any e = true → listed.getD e.on false = true := fun j o h => hcl j o (by simpa using h)
    have hb := befs_closed (D := fun i => listed.getD i false) hclL i o hoL hed'
    have hc : ∀ i, i < ops.size → listed.getD i false = true → ∀ x, ((befs ops.toList []).getD i 0).testBit x = true → listed.getD x false = true := fun i hi hDi =>
      befs_closed (D := fun i => listed.getD i false) hclL i ops[i] (by simp [hi]) (hclL i ops[i] (by simp [hi]) hDi)
    have hset := listed_set hil
    have next : ∀ (a : Act) (w : World), Stage w0 M0 V callF ops m st0 tr fs r k (listed.setIfInBounds i true) a w → wpAny V.P .any ops Q fuel (listed.setIfInBounds i true) a w := by
      intro a w hst
      refine ih _ a w (by simpa using hsz) ?_ ?_ hst
      · intro j oj hoj hDj e he hbd
        rw [hset] at hDj ⊢
        simp only [Bool.or_eq_true] at hDj ⊢
        rcases hDj with hDj | hDj
        · exact .inl (hcl j oj hoj hDj e he hbd)
        · have := Nat.eq_of_beq_eq_true hDj
          subst this
          rw [ho] at hoj
          injection hoj with hoj
          subst hoj
          exact .inl (hed' e he hbd)
      · have h2 : listed.toList[i]? = some false := by
          rw [Array.getD_eq_getD_getElem?] at hD
          simp [hil] at hD
          simp [hil, hD]
        rw [Array.toList_setIfInBounds, List.countP_set (by simpa using hil)]
        have h3 : listed.toList[i]'(by simpa using hil) = false := (List.getElem?_eq_some_iff.1 h2).2
        rw [h3]
        simp only [Bool.not_false, Bool.not_true, if_true, Bool.false_eq_true, if_false]
        omega
    unfold wpOp
    rw [ho]
    simp only
    rcases Nat.lt_or_ge i m with him | him
    · -- any order
      have hph : (∀ j, m ≤ j → listed.getD j false = false) ∧ ∃ g, Inv w0 M0 g (yOf st0 tr fs fun i => listed.getD i false) a w := by
        rcases hs with hs | ⟨p, q1, q2, q3, _⟩
        · exact hs
        · rw [q3] at hD
          simp at hD
          omega
      obtain ⟨hfar, g, inv⟩ := hph
      obtain ⟨s, f, htr, hf, hstep⟩ := pl.step i o him ho
      have hgo0 : ∀ (g' : G) (Y : St) (u : Value) (w' : World), yOf st0 tr fs (fun n => (listed.setIfInBounds i true).getD n false) = Y.putO o.dst s → Inv w0 M0 g' Y a w' → RelS g' w' s u →
          wpAny V.P .any ops Q fuel (listed.setIfInBounds i true) (a.put o.dst u) w' := by
        intro g' Y u w' hY h2 h3
        refine next _ _ (.inl ⟨fun j hj => ?_, g', ?_⟩)
        · rw [hset, hfar j hj]
          rcases beq_cases j i with ⟨_, h⟩ | ⟨h, _⟩
          · omega
          · rw [h]; rfl
        · rw [hY]
          exact h2.put o.dst h3
      have hgo : ∀ (g' : G) (u : Value) (w' : World), Inv w0 M0 g' (aft f.used (yOf st0 tr fs fun i => listed.getD i false)) a w' → RelS g' w' s u → f.rs = groupsC (sCells s) → f.al = [] → f.sto = [] →
          wpAny V.P .any ops Q fuel (listed.setIfInBounds i true) (a.put o.dst u) w' := fun g' u w' h2 h3 hrs hal hsto =>
        hgo0 g' _ u w' (y_does pl him ho htr hf hD hset hc hrs hal hsto) h2 h3
      have does : DoesB V callF st0 o (putsD (fun n => decide (n < i)) 0 tr st0) (newD (fun n => decide (n < i)) 0 fs) s f → o.wp V.P a w (wpAny V.P .any ops Q fuel (listed.setIfInBounds i true)) Q := by
        rintro (⟨made, used, q1, q2, rfl, q4⟩ | ⟨T, z, q1, q2, q3, rfl, rfl⟩ | ⟨z, hz, rfl, rfl⟩)
        rotate_left
        · obtain ⟨x1, x2⟩ := y_alloc pl him ho htr hf hD (D' := fun n => (listed.setIfInBounds i true).getD n false) hset hc rfl
          classical
          have h5 : opK V callF o (yOf st0 tr fs fun i => listed.getD i false) (fun s' st' => if s' = .s (.c ⟨.ro, .ptr st0.bx.length 0⟩) ∧ st' = (yOf st0 tr fs fun i => listed.getD i false).addB [z.cells] then some r else none) = some r := by
            unfold opK
            rw [q1]
            simp only [q2]
            rw [if_pos ⟨by rw [x1], rfl⟩]
          refine opK_sound hcall inv h5 fun s' st' g' u w' h6 h7 h8 => ?_
          split at h6
          · rename_i hh
            obtain ⟨rfl, rfl⟩ := hh
            exact hgo0 g' _ u w' x2 h7 h8
          · simp at h6
        · obtain ⟨y1, y2⟩ := y_store pl him ho htr hf hD (D' := fun n => (listed.setIfInBounds i true).getD n false) hset hc rfl
          obtain ⟨T, ax, x, t, v, inf, cs, r1, r2, r3, r4, r5, r6, r7, r8, r9⟩ := storeOf_some hz
          have hY : (yOf st0 tr fs fun i => listed.getD i false) = xOf st0 tr fs fun i => listed.getD i false := by
            unfold yOf
            rw [y1]
            rfl
          have hgo1 : ∀ y ∈ o.op.operands.toList, (xOf st0 tr fs fun i => listed.getD i false).get y = (putsD (fun n => decide (n < i)) 0 tr st0).get y := fun y hy =>
            get_eq pl him ho hf hD hb hc (fun t ht => by
              subst ht
              simp only [looks, List.mem_append, List.mem_filterMap]
              exact .inl ⟨_, hy, rfl⟩) fun s q hs hq => mem_groupsOps hy hs hq
          rw [getC_addB] at r2
          rw [get1_addB] at r3
          have hga : (xOf st0 tr fs fun i => listed.getD i false).getC ax = some ⟨t, .ptr z.1 z.2.1⟩ := by
            rw [← r2]
            exact getC_eq (hgo1 ax (by rw [r1]; simp [Op.operands]))
          have hgx : (xOf st0 tr fs fun i => listed.getD i false).get1 x = some v := by
            rw [← r3]
            exact get1_eq (hgo1 x (by rw [r1]; simp [Op.operands]))
          have r8 : ((putsD (fun n => decide (n < i)) 0 tr st0).bx ++ newD (fun n => decide (n < i)) 0 fs)[z.1]? = some cs := r8
          rw [putsD_bx] at r8
          have hbx : ∃ cs', (xOf st0 tr fs fun i => listed.getD i false).bx[z.1]? = some cs' ∧ cs'.length = cs.length := by
            by_cases hzl : z.1 < st0.bx.length
            · rw [List.getElem?_append_left hzl] at r8
              refine ⟨mapL (C.killP (usedP (fun i => listed.getD i false) 0 fs)) cs, ?_, by simp [mapL_eq]⟩
              simp only [xOf, St.addB, St.map, putsD_bx]
              rw [List.getElem?_append_left (by simpa [mapL_eq] using hzl), mapL_get, r8]
              rfl
            · rw [List.getElem?_append_right (by omega)] at r8
              have hone := pl.one
              have hle1 := newD_le (D := fun n => decide (n < i)) (D' := fun _ => true) (fun _ _ => rfl) (l := fs) (i := 0)
              have hcs := List.mem_of_getElem? r8
              have hlt := (List.getElem?_eq_some_iff.1 r8).1
              obtain ⟨n, f', n1, n2, n3⟩ := newD_mem.1 hcs
              rw [Nat.zero_add] at n2
              have hbit := pl.fresh i _ hf z (by simp) (by omega) n f' n1 (fun e => by rw [e] at n3; simp at n3)
              have hDn := hb n hbit
              have hcs2 : cs ∈ newD (fun i => listed.getD i false) 0 fs := newD_mem.2 ⟨n, f', n1, by rw [Nat.zero_add]; exact hDn, n3⟩
              have hle2 := newD_le (D := fun i => listed.getD i false) (D' := fun _ => true) (fun _ _ => rfl) (l := fs) (i := 0)
              obtain ⟨q, hq⟩ : ∃ q, newD (fun i => listed.getD i false) 0 fs = [q] := by
                cases hn : newD (fun i => listed.getD i false) 0 fs with
                | nil => rw [hn] at hcs2; simp at hcs2
                | cons q l =>
                  rw [hn] at hle2
                  cases l with
                  | nil => exact ⟨q, rfl⟩
                  | cons q2 l => simp at hle2; omega
              have hqc : q = cs := by rw [hq] at hcs2; simp at hcs2; exact hcs2.symm
              refine ⟨cs, ?_, rfl⟩
              simp only [xOf, St.addB, St.map, putsD_bx]
              rw [List.getElem?_append_right (by simp [mapL_eq]; omega), hq, hqc]
              have : z.1 - (mapL (mapL (C.killP (usedP (fun i => listed.getD i false) 0 fs))) st0.bx).length = 0 := by simp [mapL_eq]; omega
              rw [this]
              rfl
          obtain ⟨cs', hbx, hlen⟩ := hbx
          have hadopt : ∀ {b : Nat} {l : List C} {k : Nat} {Z : St}, allRo l = true → adopt b k l Z = Z := by
            intro b l
            induction l with
            | nil => intro k Z _; rfl
            | cons c l ih =>
              intro k Z h
              obtain ⟨tg, av⟩ := c
              cases tg with
              | ro =>
                simp only [adopt]
                exact ih (by simpa [allRo] using h)
              | own p q => simp [allRo] at h
          classical
          have h5 : opK V callF o (yOf st0 tr fs fun i => listed.getD i false) (fun s' st' => if s' = junkS ∧ st' = (xOf st0 tr fs fun i => listed.getD i false).stAll [z] then some r else none) = some r := by
            rw [hY]
            unfold opK
            rw [r1]
            simp only [hga, hgx]
            unfold storeK
            have r9' : Nat.ble (z.2.1 + v.cells.length) cs'.length = true := by rw [hlen]; exact r9
            simp only [r5, r6, hbx, r9', Bool.not_true, cond_false, cond_true]
            rw [if_pos]
            refine ⟨trivial, ?_⟩
            rw [hadopt r7]
            simp only [St.stAll, r4]
            rw [List.getD_eq_getElem?_getD, hbx]
            rfl
          refine opK_sound hcall inv h5 fun s' st' g' u w' h6 h7 h8 => ?_
          split at h6
          · rename_i hh
            obtain ⟨rfl, rfl⟩ := hh
            exact hgo0 g' _ u w' y2 h7 h8
          · simp at h6
        have hl := likeY_of pl him ho htr hf hD hb hc q2 rfl rfl
        classical
        have h5 := q4 _ _ hl fun s' st' => if s' = s ∧ st' = aft used (yOf st0 tr fs fun i => listed.getD i false) then some r else none
        rw [if_pos ⟨rfl, rfl⟩] at h5
        refine opK_sound hcall inv h5 fun s' st' g' u w' h6 h7 h8 => ?_
        split at h6
        · rename_i hh
          obtain ⟨rfl, rfl⟩ := hh
          exact hgo g' u w' h7 h8 rfl rfl rfl
        · simp at h6
      unfold StepOK at hstep
      cases hg : o.guard with
      | none =>
        rw [hg] at hstep
        rw [if_pos (by simp [Region.wanted, hg])]
        exact .inl (does hstep)
      | some jw =>
        obtain ⟨j, want⟩ := jw
        rw [hg] at hstep
        obtain ⟨t, ht, hor⟩ := hstep
        have hlook : t ∈ looks ops.toList o := by
          simp only [looks, hg, List.mem_append]
          right
          split at ht
          · rename_i p hp
            rw [hp]; simp [ht]
          · simp at ht
        have hslot := slot_eq pl him ho hD hb hc hlook
        have hbool : ∀ b, (putsD (fun n => decide (n < i)) 0 tr st0).getBool (.tmp t) = some b → yielded ops a.tmps j = some b := by
          intro b hbv
          rw [getBool_slot hbv] at hslot
          have : (yOf st0 tr fs fun i => listed.getD i false).sl[t]? = some (vS (.bool b)) := by
            simp only [yOf, stAll_sl, xOf, St.addB, St.map, mapL_get, hslot]; rfl
          exact yielded_eq inv ht (by simp only [St.getBool, St.getC, St.get, this, vS, vC])
        rcases hor with ⟨hbv, hd⟩ | ⟨hbv, hs', hf'⟩
        · rw [if_pos (by simp [Region.wanted, hg, hbool _ hbv])]
          exact .inl (does hd)
        · rw [if_neg (by
            rcases hbv with hbv | hu
            · simp only [Region.wanted, hg, hbool _ hbv]
              cases want <;> simp
            · rw [hu] at hslot
              have : (yOf st0 tr fs fun i => listed.getD i false).sl[t]? = some undefS := by
                simp only [yOf, stAll_sl, xOf, St.addB, St.map, mapL_get, hslot]; rfl
              simp [Region.wanted, hg, yielded_none inv ht this])]
          refine hgo g undef w ?_ ?_ ?_ (by rw [hf']) (by rw [hf'])
          · rw [hf']; exact inv
          · rw [hs']; exact ⟨#[], rfl, trivial⟩
          · rw [hf', hs']; rfl
    · -- the rest
      have hall : ∀ x, x < i → listed.getD x false = true := fun x hx => hb x (pl.tail i him hi x hx)
      obtain ⟨p, q1, q2, q3, st', g, inv, h⟩ := hs.late pl hend fun j hj => hall j (by omega)
      have hp : p = i := by
        rw [q3] at hD
        simp at hD
        rcases Nat.lt_or_ge i p with hlt | hge
        · omega
        · rcases Nat.lt_or_ge p i with hlt | hge'
          · have := hall p hlt
            rw [q3] at this
            simp at this
          · omega
      subst hp
      have hdrop : ops.toList.drop p = o :: ops.toList.drop (p + 1) := by
        rw [List.drop_eq_getElem_cons (by simpa using hi)]
        congr 1
        have := (List.getElem?_eq_some_iff.1 hoL).2
        exact this
      rw [hdrop] at h
      have hgo : ∀ (st' : St) (g' : G) (a' : Act) (w' : World), Inv w0 M0 g' st' a' w' → opsK V callF ops.toList (ops.toList.drop (p + 1)) st' k = some r → wpAny V.P .any ops Q fuel (listed.setIfInBounds p true) a' w' := by
        intro st' g' a' w' h2 h3
        refine next _ _ (.inr ⟨p + 1, by omega, by omega, fun j => ?_, st', g', h2, h3⟩)
        rw [hset, q3]
        rcases beq_cases j p with ⟨hb, he⟩ | ⟨hb, he⟩
        · rw [hb, he]; simp
        · rw [hb, Bool.or_false]
          by_cases hjp : j < p
          · simp [hjp]; omega
          · simp [hjp]; omega
      simp only [opsK] at h
      cases hg : o.guard with
      | none =>
        rw [hg] at h
        simp only at h
        rw [if_pos (by simp [Region.wanted, hg])]
        exact .inl (opK_sound hcall inv h fun s st' g' u w' h1 h2 h3 => hgo _ _ _ _ (h2.put o.dst h3) h1)
      | some jw =>
        obtain ⟨j, want⟩ := jw
        rw [hg] at h
        simp only at h
        split at h
        · simp at h
        · rename_i t ht
          split at h
          · simp at h
          · rename_i hgd
            rw [if_neg (by simp [Region.wanted, hg, yielded_none inv ht (guard_none hgd)])]
            exact hgo _ _ _ _ (inv.put o.dst (s := undefS) (u := undef) ⟨#[], rfl, trivial⟩) h
          · rename_i b hgd
            have hb := guard_some hgd
            have hy := yielded_eq inv ht hb
            have hv := getBool_rel inv hb
            have hw : Region.wanted o (yielded ops a.tmps) = (b == want) := by
              simp only [Region.wanted, hg, hy]
              cases b <;> cases want <;> rfl
            rcases br_some h with ⟨h1, h9⟩ | ⟨h1, h9⟩
            · clear h
              have hbw : b = want := by cases want <;> simp_all
              subst hbw
              rw [if_pos (by rw [hw]; simp)]
              exact .inl (opK_sound hcall (inv.know hv) h9 fun s st' g' u w' h1 h2 h3 => hgo _ _ _ _ (h2.put o.dst h3) h1)
            · clear h
              have hbw : b = !want := by cases want <;> cases b <;> simp_all
              subst hbw
              rw [if_neg (by rw [hw]; cases want <;> simp)]
              exact hgo _ _ _ _ ((inv.know hv).put o.dst (s := undefS) (u := undef) ⟨#[], rfl, trivial⟩) h9

theorem loadsAhead_spec {bs : List Nat} {n : Nat} : ∀ {l : List Oper} {i : Nat}, loadsAhead bs n i l = true → ∀ j x, l[j]? = some x → isLoad x.op = true → bitOf (bs.getD n 0) (i + j) = true
  | [], _, _, j, x, h, _ => by simp at h
  | o :: r, i, h, j, x, hx, hl => by
    simp only [loadsAhead, Bool.and_eq_true, Bool.or_eq_true] at h
    cases j with
    | zero =>
      simp at hx
      subst hx
      rcases h.1 with h1 | h1
      · rw [hl] at h1; simp at h1
      · exact h1
    | succ j =>
      have := loadsAhead_spec h.2 j x (by simpa using hx) hl
      rwa [show i + 1 + j = i + (j + 1) by omega] at this
theorem storesOK_spec {bs : List Nat} {ops : List Oper} {l : List Info} (h : storesOK bs ops 0 l = true) : ∀ n f, l[n]? = some f → f.sto ≠ [] → ∀ i x, ops[i]? = some x → isLoad x.op = true → bitOf (bs.getD n 0) i = true := by
  have main : ∀ {l : List Info} {k : Nat}, storesOK bs ops k l = true → ∀ n f, l[n]? = some f → f.sto ≠ [] → loadsAhead bs (k + n) 0 ops = true := by
    intro l
    induction l with
    | nil => intro k _ n f h; simp at h
    | cons a l ih =>
      intro k h n f hf hne
      simp only [storesOK, Bool.and_eq_true] at h
      cases n with
      | zero =>
        simp at hf
        subst hf
        have h1 := h.1
        split at h1
        · rename_i he
          exact absurd he hne
        · exact h1
      | succ n =>
        have := ih h.2 n f (by simpa using hf) hne
        rwa [show k + 1 + n = k + (n + 1) by omega] at this
  intro n f hf hne i x hx hl
  have h1 := main h n f hf hne
  rw [Nat.zero_add] at h1
  have := loadsAhead_spec h1 i x hx hl
  rwa [Nat.zero_add] at this

/-! ahead of a region -/
theorem pre_sound {a : Act} {w : World} : ∀ {pre : List (Nat × Option Nat)} {g : G} {st : St}, Inv w0 M0 g st a w → ∃ g', Inv w0 M0 g' (preAll pre st) a w
  | [], g, st, h => ⟨g, h⟩
  | (q, none) :: r, g, st, h => pre_sound (pre := r) (h.relinq q)
  | (q, some u) :: r, g, st, h => by
    have h1 := h.relinq u
    exact pre_sound (pre := r) (h1.ren q u (by simp [G.relinq]))

theorem drawK_sound {Q : Exit → Act → World → Prop} {k : St → Option Res} (hcall : CallOK V callF) {f id : Nat} {st : St} {g : G} {a : Act} {w : World} (hmix : V.P.follows .mixedOrders = true)
    (h : drawK V callF f id ops.toList st k = some r) (hQ : ∀ st' g' a' w', k st' = some r → Inv w0 M0 g' st' a' w' → Q .normal a' w') (inv : Inv w0 M0 g st a w) :
    (Code.region id ops true).wp V.P Q a w := by
  refine wp_region_any hmix ?_
  unfold drawK at h
  split at h
  · simp at h
  · rename_i m pre hd
    simp only at h
    cases hchk : (edgesDown 0 ops.toList && apartAll ops.toList (befs ops.toList []) 0 (ops.toList.take m) && tailAll (befs ops.toList []) m (ops.toList.length - m) && Nat.ble m ops.toList.length) with
    | false => rw [hchk] at h; simp at h
    | true =>
      rw [hchk] at h
      simp only [cond_true] at h
      simp only [Bool.and_eq_true] at hchk
      obtain ⟨⟨⟨c1, c2⟩, c3⟩, c4⟩ := hchk
      have hm : m ≤ ops.size := by simpa using Nat.le_of_ble_eq_true c4
      obtain ⟨tr, fs, h1, h2, h3, h4⟩ := lazyK_spec h
      simp only [List.append_nil, List.reverse_reverse] at h3
      cases hinf : (infoAll (befs ops.toList []) fs 0 fs && Nat.ble (newD (fun _ => true) 0 fs).length 1 && Nat.ble (stD (fun _ => true) 0 fs).length 1 && storesOK (befs ops.toList []) (ops.toList.take m) 0 fs && freshOK (befs ops.toList []) (preAll pre st).bx.length fs 0 fs) with
      | false => rw [hinf] at h3; simp at h3
      | true =>
        rw [hinf] at h3
        simp only [cond_true] at h3
        simp only [Bool.and_eq_true] at hinf
        obtain ⟨⟨⟨hinf, hone⟩, hsts⟩, hfr⟩ := hinf
        have hlen : (ops.toList.take m).length = m := by simp; omega
        have pl : Plan V callF ops m (preAll pre st) tr fs := by
          refine ⟨hm, by omega, by omega, fun j o hj ho => ?_, fun n f hf z hz hl i x hx hne => ?_, fun j o hj ho i x hi hx => ?_, fun j hj1 hj2 x hx => ?_, fun i j x y hx hy => ?_, Nat.le_of_ble_eq_true hinf.2, Nat.le_of_ble_eq_true hone, fun n f hf hne i x hi hx hl => ?_, fun j o ho e he hb => ?_⟩
          · exact h4 j o (by rw [List.getElem?_take]; simp [hj, ho])
          · have h9 := freshOK_spec hfr n f hf z hz hl
            have := allocsAhead_spec h9 i x hx hne
            simpa [bitOf] using this
          · have := apartAll_spec c2 j o (by rw [List.getElem?_take]; simp [hj, ho]) i x (by omega) (by simpa using hx)
            simpa [bitOf] using this
          · exact tailAll_spec c3 j hj1 (by simp; omega) x hx
          · have := infoAll_spec hinf.1 j y hy i x hx
            simpa using this
          · have := storesOK_spec hsts n f hf hne i x (by rw [List.getElem?_take]; simp [hi, hx]) hl
            simpa [bitOf] using this
          · have := edgesDown_spec c1 j o (by simpa using ho) e he hb
            omega
        obtain ⟨g', inv'⟩ := pre_sound (pre := pre) inv
        have hend : opsK V callF ops.toList (ops.toList.drop m) (yOf (preAll pre st) tr fs fun _ => true) k = some r := by
          have : yOf (preAll pre st) tr fs (fun _ => true) = ((killAll (usedL fs) (putsD (fun _ => true) 0 tr (preAll pre st))).addB (newD (fun _ => true) 0 fs)).stAll (stD (fun _ => true) 0 fs) := by
            rw [killAll_eq]
            unfold yOf xOf
            congr 4
            funext q
            rw [Bool.eq_iff_iff, usedP_iff, memN_iff, usedL_iff]
            simp
          rw [this]
          exact h3
        have hfalse : ∀ j, (Array.replicate ops.size false).getD j false = false := by
          intro j
          rw [Array.getD_eq_getD_getElem?]
          simp [Array.getElem?_replicate]
          split <;> rfl
        refine any_sound hcall pl hend hQ ops.size _ a _ (by simp) (fun j o ho hj => by rw [hfalse] at hj; simp at hj) ?_ (.inl ⟨fun j _ => hfalse j, g', ?_⟩)
        · have := List.countP_le_length (p := (!·)) (l := (Array.replicate ops.size false).toList)
          simpa using this
        · have hx : yOf (preAll pre st) tr fs (fun i => (Array.replicate ops.size false).getD i false) = preAll pre st := by
            have hst : stD (fun i => (Array.replicate ops.size false).getD i false) 0 fs = [] := by
              rw [stD_congr (D' := fun _ => false) fun n f _ _ => by rw [Nat.zero_add]; exact hfalse n]
              have : ∀ (l : List Info) (i : Nat), stD (fun _ => false) i l = [] := fun l => by
                induction l with
                | nil => intro i; rfl
                | cons a l ih => intro i; simp only [stD, ih]; rfl
              exact this fs 0
            unfold yOf
            rw [hst]
            show xOf _ _ _ _ = _
            unfold xOf
            have hn : newD (fun i => (Array.replicate ops.size false).getD i false) 0 fs = [] := by
              rw [newD_congr (D' := fun _ => false) fun n f _ _ => by rw [Nat.zero_add]; exact hfalse n]
              have : ∀ (l : List Info) (i : Nat), newD (fun _ => false) i l = [] := fun l => by
                induction l with
                | nil => intro i; rfl
                | cons a l ih => intro i; simp only [newD, ih]; rfl
              exact this fs 0
            rw [hn, addB_nil, putsD_none hfalse, killP_false]
            intro q
            cases hu : usedP (fun i => (Array.replicate ops.size false).getD i false) 0 fs q with
            | false => rfl
            | true =>
              obtain ⟨n, x, _, q2, _⟩ := usedP_iff.1 hu
              rw [hfalse] at q2
              simp at q2
          rw [hx]
          exact inv'.grow ⟨rfl, rfl, rfl, Nat.le_refl _, fun _ _ => rfl⟩
end
end Go.Proofs.Ythiaaaedfidnjaa.Am

namespace Go.Proofs.Ythiaaaedfidnjaa.Am
open Go Go.RowKit
section
variable {w0 : Base} {M0 : Mem} {g : G} {st : St} {a : Act} {w : World}

def StubOK (V : Env) : Prop := CallOK V fun f as bx => match V.stub f with | some h => h as bx | none => .leaf none
theorem callSt_sound {V : Env} {rec : Rec} (hs : StubOK V) (h : CallOK V fun f as bx => .leaf (callWith V rec f as bx)) : CallOK V (callSt V rec) := by
  intro f as bx s bx' hc args w g0 F hE hargs
  unfold callSt at hc
  split at hc
  · rename_i q hq
    exact hs f as bx s bx' (by show (match V.stub f with | some h => h as bx | none => .leaf none : Tree).den = _; rw [hq]; exact hc) args w g0 F hE hargs
  · exact h f as bx s bx' hc args w g0 F hE hargs
theorem evF_sound {V : Env} {n : Nat} (hmix : V.P.follows .mixedOrders = true) (hcall : CallOK V (callSt V (ev V n))) (hlow : ∀ m, m < n → RecOK V (ev V (m + 1))) (f : FuncId) :
    ∀ (c : Code) (st : St) (k : K) (r : Res), evF V (ev V n) f c st k = some r → ∀ (w0 : Base) (M0 : Mem) (g : G) (a : Act) (w : World), w0.β.length ≤ V.np f → Inv w0 M0 g st a w → c.wp V.P (Post w0 M0 k r) a w := by
  intro c
  induction c with
  | skip =>
    intro st k r h w0 M0 g a w hnp inv
    exact wp_skip ⟨.normal, st, g, trivial, inv, h⟩
  | region id ops draw =>
    intro st k r h w0 M0 g a w hnp inv
    simp only [evF] at h
    cases draw with
    | true =>
      obtain ⟨g1, inv1⟩ := inv.mask hnp (V.mask f id)
      exact drawK_sound hcall hmix h (fun st' g' a' w' h1 h2 => ⟨.normal, st', g', trivial, h2, h1⟩) inv1
    | false =>
      simp only at h
      obtain ⟨g1, inv1⟩ := inv.mask hnp (V.mask f id)
      refine wp_region ?_
      have := opsK_sound hcall (ops := ops) (Q := Post w0 M0 k r) (fun st' g' a' w' h1 h2 => ⟨.normal, st', g', trivial, h2, h1⟩) (l := ops.toList) (i := 0) (by simp) h inv1
      rw [List.range_eq_range']
      simpa using this
  | seq x y ihx ihy =>
    intro st k r h w0 M0 g a w hnp inv
    simp only [evF] at h
    refine wp_seq (wp_mono (ihx st _ r h w0 M0 g a w hnp inv) ?_)
    rintro e a' w' ⟨x, st', g', h1, h2, h3⟩
    cases e <;> cases x <;> simp only [ExM] at h1
    · exact ihy st' k r h3 w0 M0 g' a' w' hnp h2
    · exact ⟨.exit _, st', g', h1, h2, h3⟩
    · exact ⟨.ret, st', g', trivial, h2, h3⟩
  | cond c x y ihx ihy =>
    intro st k r h w0 M0 g a w hnp inv
    simp only [evF] at h
    split at h
    · simp at h
    · rename_i t ht
      have hv := getBool_rel inv ht
      rcases br_some h with ⟨rfl, h⟩ | ⟨rfl, h⟩
      · refine wp_cond_true hv (ihx _ k r h w0 M0 g a w hnp ?_)
        split
        · exact inv.know hv
        · exact inv
      · refine wp_cond_false hv (ihy _ k r h w0 M0 g a w hnp ?_)
        split
        · exact inv.know hv
        · exact inv
  | block id b ih =>
    intro st k r h w0 M0 g a w hnp inv
    simp only [evF] at h
    refine wp_block (wp_mono (ih st _ r h w0 M0 g a w hnp inv) ?_)
    rintro e a' w' ⟨x, st', g', h1, h2, h3⟩
    cases e <;> cases x <;> simp only [ExM] at h1
    · exact ⟨.normal, st', g', trivial, h2, h3⟩
    · rename_i i j
      subst h1
      simp only [Exit.inBlock, blockK] at h3 ⊢
      rcases beq_cases i id with ⟨hb, he⟩ | ⟨hb, he⟩
      · rw [hb] at h3
        rw [if_pos he]
        exact ⟨.normal, st', g', trivial, h2, h3⟩
      · rw [hb] at h3
        rw [if_neg he]
        exact ⟨.exit i, st', g', rfl, h2, h3⟩
    · exact ⟨.ret, st', g', trivial, h2, h3⟩
  | loop b ih =>
    intro st k r h w0 M0 g a w hnp inv
    have h' : ev V (n + 1) f (.loop b) st k = some r := h
    refine loop_sound (V := V) (rec := ev V) (fun _ _ _ _ _ => rfl) (fun _ _ _ _ => rfl) (N := n + 1) (fun m hm st k r hb g a w inv => ?_) inv (Nat.le_refl _) h'
    rcases Nat.lt_or_ge m n with hmn | hmn
    · exact hlow m hmn f b st k r hb w0 M0 g a w hnp inv
    · obtain rfl : m = n := by omega
      exact ih st k r hb w0 M0 g a w hnp inv
  | rangeFunc _ _ _ _ => intro st k r h; simp [evF] at h
  | exit id =>
    intro st k r h w0 M0 g a w hnp inv
    exact wp_exit ⟨.exit id, st, g, rfl, inv, h⟩
  | scope b _ => intro st k r h; simp [evF] at h
  | label l =>
    intro st k r h w0 M0 g a w hnp inv
    exact wp_label ⟨.normal, st, g, trivial, inv, h⟩
  | goto l => intro st k r h; simp [evF] at h
  | ret =>
    intro st k r h w0 M0 g a w hnp inv
    exact wp_ret ⟨.ret, st, g, trivial, inv, h⟩
  | refuse s => intro st k r h; simp [evF] at h

theorem junks_length : ∀ n, (junks n).length = n
  | 0 => rfl
  | n + 1 => by simp [junks, junks_length n]
theorem junks_rel : ∀ (n : Nat), All2 (RelS g w) (junks n) (List.replicate n undef)
  | 0 => trivial
  | n + 1 => ⟨trivial, junks_rel n⟩

theorem callWith_sound {V : Env} {rec : Rec} (h : RecOK V rec) : CallOK V fun f as bx => .leaf (callWith V rec f as bx) := by
  intro f as bx s bx' hc args w g0 F hE hargs
  simp only [Tree.den] at hc
  unfold callWith at hc
  split at hc
  · simp at hc
  · rename_i fn hfn
    split at hc
    · simp at hc
    · rename_i c hb
      have hnp := Nat.eq_of_beq_eq_true (bif_some hc).1
      replace hc := (bif_some hc).2
      have hlen : g0.β.length = V.np f := hE.blen.trans hnp
      have inv : Inv ⟨w, F, g0.β⟩ g0.M g0 (enterSt fn as bx) { tmps := args ++ Array.replicate (fn.ntmps - args.size) undef, defers := [] } w := by
        refine ⟨hE.ok, ⟨?_, hE.boxes, hE.blen⟩, rfl⟩
        simp only [enterSt, Array.toList_append, Array.toList_replicate]
        have hl := hargs.length
        refine All2.append (hargs.map S.s fun _ _ h => h) ?_
        rw [hl, Array.length_toList]
        exact junks_rel _
      exact calls_of_wp hfn hb (wp_mono (h f c _ _ _ hc ⟨w, F, g0.β⟩ g0.M _ _ w (Nat.le_of_eq hlen) inv) fun e a' w' hp => finK_sound hlen hp)

theorem ev_sound (V : Env) (hmix : V.P.follows .mixedOrders = true) (hs : StubOK V) : ∀ n, RecOK V (ev V n) := by
  intro n
  induction n using Nat.strongRecOn with
  | _ n ih =>
    cases n with
    | zero => intro f c st k r h; simp [ev] at h
    | succ n =>
      intro f c st k r h w0 M0 g a w hnp inv
      exact evF_sound hmix (callSt_sound hs (callWith_sound (ih n (by omega)))) (fun m hm => ih (m + 1) (by omega)) f c st k r h w0 M0 g a w hnp inv
theorem call_sound (V : Env) (hmix : V.P.follows .mixedOrders = true) (hs : StubOK V) (n : Nat) : CallOK V fun f as bx => .leaf (callB V n f as bx) := callWith_sound (ev_sound V hmix hs n)
/-- What a function comes to, told once. -/
abbrev Stub := List S1 → List (List C) → Tree
def Known (P : Program) (f : FuncId) (h : Stub) : Prop :=
  ∀ as bx s bx', (h as bx).den = some (s, bx') → ∀ (args : Array Value) (w : World) (g0 : G) (F : Nat → Prop), Entry g0 bx w F →
    All2 (RelS1 g0 w) as args.toList → Calls P f args w fun e w' => ∃ v, e = .returned v ∧ RetOK ⟨w, F, g0.β⟩ g0.M s bx' v w'
theorem known_of {V : Env} (hmix : V.P.follows .mixedOrders = true) (hs : StubOK V) {f : FuncId} {h : Stub} (hc : ∀ as bx r, (h as bx).den = some r → ∃ n, callB V n f as bx = some r) : Known V.P f h := by
  intro as bx s bx' h1
  obtain ⟨n, h2⟩ := hc as bx _ h1
  exact call_sound V hmix hs n f as bx s bx' h2
/-- Of a function that is handed no boxes. -/
def plain (h : List S1 → Tree) : Stub := fun as bx => match bx with
  | [] => h as
  | _ => .leaf none
theorem known_plain {V : Env} (hmix : V.P.follows .mixedOrders = true) (hs : StubOK V) {f : FuncId} {h : List S1 → Tree} (hc : ∀ as r, (h as).den = some r → ∃ n, call V n f as = some r) : Known V.P f (plain h) :=
  known_of hmix hs fun as bx r hr => by
    cases bx with
    | nil => exact hc as r hr
    | cons x l => simp [plain, Tree.den] at hr
/-- Nil, where a slice is meant. -/
def coC : Option CL → C → C
  | some e, ⟨_, .nilv⟩ => ⟨.ro, .sl e true []⟩
  | _, c => c
def coCs : List (Option CL) → List C → List C
  | o :: r, c :: l => coC o c :: coCs r l
  | _, l => l
def coS : List (Option CL) → S1 → S1
  | o :: _, .c x => .c (coC o x)
  | os, .agg xs => .agg (coCs os xs)
  | [], x => x
def coArgs : List (List (Option CL)) → List S1 → List S1
  | o :: r, x :: l => coS o x :: coArgs r l
  | _, l => l
theorem coC_rel {g : G} {w : World} {o : Option CL} {c : C} {u : Value} (h : RelC g w c u) : RelC g w (coC o c) u := by
  unfold coC
  split
  · rename_i e t
    have h : u = .slice none 0 0 := by cases t <;> exact h
    exact .inl ⟨rfl, rfl, h⟩
  · exact h
theorem coCs_rel {g : G} {w : World} : ∀ {os : List (Option CL)} {cs : List C} {us : List Value}, All2 (RelC g w) cs us → All2 (RelC g w) (coCs os cs) us
  | [], _, _, h => h
  | _ :: _, [], _, h => h
  | _ :: _, _ :: _, [], h => h.elim
  | _ :: os, _ :: cs, _ :: us, h => ⟨coC_rel h.1, coCs_rel h.2⟩
theorem coS_rel {g : G} {w : World} {os : List (Option CL)} {s : S1} {u : Value} (h : RelS1 g w s u) : RelS1 g w (coS os s) u := by
  cases s with
  | c x => cases os with
    | nil => exact h
    | cons o r => exact coC_rel h
  | agg xs =>
    obtain ⟨us, h1, h2⟩ := h
    cases os <;> exact ⟨us, h1, coCs_rel h2⟩
theorem coArgs_rel {g : G} {w : World} : ∀ {os : List (List (Option CL))} {xs : List S1} {us : List Value}, All2 (RelS1 g w) xs us → All2 (RelS1 g w) (coArgs os xs) us
  | [], _, _, h => h
  | _ :: _, [], _, h => h
  | _ :: _, _ :: _, [], h => h.elim
  | _ :: os, _ :: cs, _ :: us, h => ⟨coS_rel h.1, coArgs_rel h.2⟩
/-- A stub that takes nil for an empty slice. -/
def co (os : List (List (Option CL))) (h : Stub) : Stub := fun as bx => h (coArgs os as) bx
theorem known_co {P : Program} {f : FuncId} {h : Stub} (os : List (List (Option CL))) (k : Known P f h) : Known P f (co os h) := by
  intro as bx s bx' hd args w g0 F hE ha
  exact k (coArgs os as) bx s bx' hd args w g0 F hE (coArgs_rel ha)
abbrev Stubs := List (FuncId × Stub)
def Stubs.look : Stubs → FuncId → Option Stub
  | [], _ => none
  | x :: r, f => bif Nat.beq x.1 f then some x.2 else Stubs.look r f
theorem stubs_nil {V : Env} (h : V.stub = Stubs.look []) : StubOK V := by
  intro f as bx s bx' hc
  rw [h] at hc
  simp [Stubs.look, Tree.den] at hc
theorem stubs_cons {P : Program} {x : FuncId × Stub} {l : Stubs} (h1 : Known P x.1 x.2) (h2 : ∀ V : Env, V.P = P → V.stub = Stubs.look l → StubOK V) : ∀ V : Env, V.P = P → V.stub = Stubs.look (x :: l) → StubOK V := by
  intro V hP hV f as bx s bx' hc
  rw [hV] at hc
  simp only [Stubs.look] at hc
  rcases beq_cases x.1 f with ⟨hb, rfl⟩ | ⟨hb, he⟩
  · rw [hb] at hc
    simp only [cond_true] at hc
    rw [hP]
    exact h1 as bx s bx' hc
  · rw [hb] at hc
    simp only [cond_false] at hc
    have := h2 { V with stub := Stubs.look l } hP rfl
    exact this f as bx s bx' hc
end
end Go.Proofs.Ythiaaaedfidnjaa.Am

namespace Go.Proofs.Ythiaaaedfidnjaa.Am
open Go Go.RowKit

theorem ev_args {M : Mem} {w : World} : ∀ {xs : List Value}, (∀ x ∈ xs, x.oneCell' = true) → All2 (RelS1 ⟨M, [], fun _ => none⟩ w) (xs.map fun x => S1.c (vC x)) xs
  | [], _ => trivial
  | x :: r, h => ⟨⟨rfl, h x (by simp)⟩, ev_args fun y hy => h y (by simp [hy])⟩

/-- A law that answers true, whatever it's given: of words alone. -/
theorem law_of {V : Env} (hmix : V.P.follows .mixedOrders = true) (hs : StubOK V) {f n : Nat} {xs : List S1} {args : Array Value} {w : World} {M : Mem}
    (hM : ∀ b o u, M b o = some u → memOf w b o = some u) (ha : All2 (RelS1 ⟨M, [], fun _ => none⟩ w) xs args.toList) {bx : List (List C)}
    (h : call V n f xs = some (vS (.bool true), bx)) : Calls V.P f args w fun e w' => e = .returned (.bool true) ∧ Below w.heap.size w w' := by
  refine (call_sound V hmix hs n f xs [] _ bx h args w _ _ (Entry.plain hM) ha).mono ?_
  rintro e w' ⟨v, rfl, g, h1, h2, _⟩
  have : v = .bool true := h2.1
  exact ⟨by rw [this], h1.frame.below⟩
end Go.Proofs.Ythiaaaedfidnjaa.Am
