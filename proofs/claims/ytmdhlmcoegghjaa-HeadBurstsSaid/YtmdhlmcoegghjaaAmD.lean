/- Loops of the evaluator: big steps. Conditions: none; checked here. -/
import Derived.Test.YtmdhlmcoegghjaaAmC
set_option linter.unusedVariables false
set_option linter.unusedSimpArgs false

namespace Go.Proofs.Ytmdhlmcoegghjaa.Am
open Go Go.RowKit

/-! # Loops, told by their live slots -/
theorem maskL_idem {keep : List Nat} : ∀ {xs : List S} {i : Nat}, maskL keep i (maskL keep i xs) = maskL keep i xs
  | [], _ => rfl
  | s :: r, i => by
    simp only [maskL, maskL_idem]
    cases memN i keep <;> rfl
theorem mask_idem {m : Option (List Nat)} {st : St} : (st.mask m).mask m = st.mask m := by
  cases m with
  | none => rfl
  | some keep => simp only [St.mask, maskL_idem]
def headR : Code → Option Nat
  | .region id _ _ => some id
  | .seq a _ => headR a
  | .block _ b => headR b
  | .loop b => headR b
  | _ => none
/-- What begins with a region looks at its live slots alone. -/
theorem head_mask {V : Env} {rec : Rec} {f : FuncId} {id : Nat} : ∀ {c : Code}, headR c = some id → ∀ {st : St} {k : K}, evF V rec f c st k = evF V rec f c (st.mask (V.mask f id)) k
  | .region i ops d, h, st, k => by
    simp only [headR, Option.some.injEq] at h
    subst h
    cases d <;> simp only [evF, mask_idem]
  | .seq a b, h, st, k => by simp only [evF]; exact head_mask (c := a) h
  | .block i b, h, st, k => by simp only [evF]; exact head_mask (c := b) h
  | .loop b, h, st, k => by simp only [evF]; exact head_mask (c := b) h
  | .skip, h, _, _ => by simp [headR] at h
  | .cond _ _ _, h, _, _ => by simp [headR] at h
  | .rangeFunc _ _ _ _, h, _, _ => by simp [headR] at h
  | .exit _, h, _, _ => by simp [headR] at h
  | .scope _, h, _, _ => by simp [headR] at h
  | .label _, h, _, _ => by simp [headR] at h
  | .goto _, h, _, _ => by simp [headR] at h
  | .ret, h, _, _ => by simp [headR] at h
  | .refuse _, h, _, _ => by simp [headR] at h
theorem head_mask_ev {V : Env} {n : Nat} {f : FuncId} {id : Nat} {c : Code} (h : headR c = some id) {st : St} {k : K} : ev V n f c st k = ev V n f c (st.mask (V.mask f id)) k := by
  cases n with
  | zero => rfl
  | succ n => exact head_mask h

def pickS (l : List (Nat × S)) (i : Nat) : S := match l with
  | [] => junkS
  | x :: r => bif Nat.beq x.1 i then x.2 else pickS r i
def mkSl (l : List (Nat × S)) : Nat → Nat → List S
  | _, 0 => []
  | i, n + 1 => pickS l i :: mkSl l (i + 1) n
/-- n slots, junk but for some. -/
def mkSt (n : Nat) (l : List (Nat × S)) (bx : List (List C)) : St := ⟨mkSl l 0 n, bx⟩

/-- Where a round ends: at the head again, at an exit, at the function's end; told by live slots. -/
def roundK (live : List Nat) (R : St → Option Res) (out : List Nat) (E : Nat → St → Option Res) (res : List Nat) (T : St → Option Res) : K := fun e st => match e with
  | .normal => R (st.mask (some live))
  | .exit j => E j (st.mask (some out))
  | .ret => T (st.mask (some res))
/-- A loop's round is one that ends so. -/
theorem loop_round {V : Env} {n : Nat} {f : FuncId} {B : Code} {k : K} {st : St} {live out res : List Nat} {id : Nat} (hid : headR B = some id) (hl : V.mask f id = some live)
    (hE : ∀ j st, k (.exit j) st = k (.exit j) (st.mask (some out))) (hT : ∀ st, k .ret st = k .ret (st.mask (some res))) :
    ev V (n + 1) f (.loop B) st k = evF V (ev V n) f B st (roundK live (fun st => ev V n f (.loop B) st k) out (fun j st => k (.exit j) st) res fun st => k .ret st) := by
  show evF V (ev V n) f B st (loopK (ev V n) f B k) = _
  congr 1
  funext e st'
  cases e with
  | normal =>
    show ev V n f (.loop B) st' k = ev V n f (.loop B) (st'.mask (some live)) k
    rw [← hl]
    exact head_mask_ev (c := .loop B) hid
  | exit j => exact hE j st'
  | ret => exact hT st'
end Go.Proofs.Ytmdhlmcoegghjaa.Am

namespace Go.Proofs.Ytmdhlmcoegghjaa.Am
open Go Go.RowKit

/-! # Loops in their surroundings -/
/-- What surrounds a place of a code, the innermost first. -/
inductive Fr where
  | seq (b : Code)
  | block (id : Nat)

def ctxK (V : Env) (rec : Rec) (f : FuncId) : List Fr → K → K
  | [], k => k
  | .seq b :: r, k => seqK (evF V rec f b) (ctxK V rec f r k)
  | .block id :: r, k => blockK id (ctxK V rec f r k)

/-- The outermost loops of a code, each with what surrounds it. -/
def subsOf : Code → List Fr → List (List Fr × Code)
  | .loop b, fs => [(fs, b)]
  | .seq a b, fs => subsOf a (.seq b :: fs) ++ subsOf b fs
  | .block id b, fs => subsOf b (.block id :: fs)
  | .cond _ a b, fs => subsOf a fs ++ subsOf b fs
  | _, _ => []
def nLoops : Code → Nat
  | .loop _ => 1
  | .seq a b => nLoops a + nLoops b
  | .block _ b => nLoops b
  | .cond _ a b => nLoops a + nLoops b
  | _ => 0
/-- The code with its loops cut out: each an exit of its own. -/
def cut : Nat → Code → Code
  | n, .loop _ => .exit (1000 + n)
  | n, .seq a b => .seq (cut n a) (cut (n + nLoops a) b)
  | n, .block id b => .block id (cut n b)
  | n, .cond c a b => .cond c (cut n a) (cut (n + nLoops a) b)
  | _, c => c
def subsCut : Nat → Code → List Fr → List (List Fr)
  | _, .loop _, fs => [fs]
  | n, .seq a b, fs => subsCut n a (.seq (cut (n + nLoops a) b) :: fs) ++ subsCut (n + nLoops a) b fs
  | n, .block id b, fs => subsCut n b (.block id :: fs)
  | n, .cond _ a b, fs => subsCut n a fs ++ subsCut (n + nLoops a) b fs
  | _, _, _ => []
def smallC : Code → Bool
  | .exit j => Nat.blt j 1000
  | .seq a b => smallC a && smallC b
  | .block id b => Nat.blt id 1000 && smallC b
  | .cond _ a b => smallC a && smallC b
  | _ => true

structure CutOK (L : Nat → St → Option Res) (k k' : K) : Prop where
  normal : ∀ st, k .normal st = k' .normal st
  ret : ∀ st, k .ret st = k' .ret st
  exit : ∀ j st, j < 1000 → k (.exit j) st = k' (.exit j) st
  loop : ∀ j st, k' (.exit (1000 + j)) st = L j st

theorem subsOf_len : ∀ {c : Code} {fs : List Fr}, (subsOf c fs).length = nLoops c
  | .loop _, _ => rfl
  | .seq a b, fs => by simp only [subsOf, nLoops, List.length_append, subsOf_len (c := a), subsOf_len (c := b)]
  | .block _ b, fs => by simp only [subsOf, nLoops, subsOf_len (c := b)]
  | .cond _ a b, fs => by simp only [subsOf, nLoops, List.length_append, subsOf_len (c := a), subsOf_len (c := b)]
  | .skip, _ => rfl
  | .region _ _ _, _ => rfl
  | .rangeFunc _ _ _ _, _ => rfl
  | .exit _, _ => rfl
  | .scope _, _ => rfl
  | .label _, _ => rfl
  | .goto _, _ => rfl
  | .ret, _ => rfl
  | .refuse _, _ => rfl

theorem blockK_cut {L : Nat → St → Option Res} {k k' : K} {id : Nat} (h : CutOK L k k') (hid : id < 1000) : CutOK L (blockK id k) (blockK id k') := by
  refine ⟨h.normal, h.ret, fun j st hj => ?_, fun j st => ?_⟩
  · simp only [blockK]
    cases Nat.beq j id with
    | true => exact h.normal st
    | false => exact h.exit j st hj
  · simp only [blockK]
    have : Nat.beq (1000 + j) id = false := by
      cases h : Nat.beq (1000 + j) id with
      | false => rfl
      | true => exact absurd (Nat.eq_of_beq_eq_true h) (by omega)
    rw [this]
    exact h.loop j st
theorem cut_sound {V : Env} {rec : Rec} {f : FuncId} {kp : K} {L : Nat → St → Option Res} :
    ∀ {c : Code} {fs : List Fr} {n : Nat} {st : St} {k' : K}, smallC c = true →
      (∀ j x, (subsOf c fs)[j]? = some x → ∀ st, evF V rec f (.loop x.2) st (ctxK V rec f x.1 kp) = L (n + j) st) →
      CutOK L (ctxK V rec f fs kp) k' → evF V rec f c st (ctxK V rec f fs kp) = evF V rec f (cut n c) st k'
  | .loop b, fs, n, st, k', _, hL, hk => by
    show _ = k' (.exit (1000 + n)) st
    rw [hk.loop]
    exact hL 0 (fs, b) rfl st
  | .seq a b, fs, n, st, k', hs, hL, hk => by
    simp only [smallC, Bool.and_eq_true] at hs
    show evF V rec f a st (ctxK V rec f (.seq b :: fs) kp) = evF V rec f (cut n a) st (seqK (evF V rec f (cut (n + nLoops a) b)) k')
    refine cut_sound hs.1 (fun j x hx => hL j x ?_) ⟨fun st => ?_, hk.ret, hk.exit, hk.loop⟩
    · simp only [subsOf]
      rw [List.getElem?_append_left (List.getElem?_eq_some_iff.1 hx).1]
      exact hx
    · refine cut_sound hs.2 (fun j x hx st => ?_) hk
      have := hL (nLoops a + j) x (by
        simp only [subsOf]
        rw [List.getElem?_append_right (by rw [subsOf_len]; omega), subsOf_len, Nat.add_sub_cancel_left]
        exact hx) st
      rw [this]
      congr 1
      omega
  | .block id b, fs, n, st, k', hs, hL, hk => by
    simp only [smallC, Bool.and_eq_true] at hs
    show evF V rec f b st (ctxK V rec f (.block id :: fs) kp) = evF V rec f (cut n b) st (blockK id k')
    exact cut_sound hs.2 (fun j x hx => hL j x hx) (blockK_cut hk (Nat.le_of_ble_eq_true hs.1))
  | .cond c a b, fs, n, st, k', hs, hL, hk => by
    simp only [smallC, Bool.and_eq_true] at hs
    simp only [evF, cut]
    cases st.getBool c with
    | none => rfl
    | some t =>
      simp only
      rw [cut_sound (c := a) hs.1 (fun j x hx => hL j x (by
        simp only [subsOf]
        rw [List.getElem?_append_left (List.getElem?_eq_some_iff.1 hx).1]
        exact hx)) hk, cut_sound (c := b) (n := n + nLoops a) hs.2 (fun j x hx st => by
        have := hL (nLoops a + j) x (by
          simp only [subsOf]
          rw [List.getElem?_append_right (by rw [subsOf_len]; omega), subsOf_len, Nat.add_sub_cancel_left]
          exact hx) st
        rw [this]
        congr 1
        omega) hk]
  | .skip, fs, n, st, k', _, _, hk => hk.normal st
  | .region id ops d, fs, n, st, k', _, _, hk => by
    have : (fun st' => ctxK V rec f fs kp .normal st') = fun st' => k' .normal st' := funext hk.normal
    cases d <;> simp only [evF, cut, this]
  | .rangeFunc _ _ _ _, _, _, _, _, _, _, _ => rfl
  | .exit j, fs, n, st, k', hs, _, hk => hk.exit j st (Nat.le_of_ble_eq_true hs)
  | .scope _, _, _, _, _, _, _, _ => rfl
  | .label _, fs, n, st, k', _, _, hk => hk.normal st
  | .goto _, _, _, _, _, _, _, _ => rfl
  | .ret, fs, n, st, k', _, _, hk => hk.ret st
  | .refuse _, _, _, _, _, _, _, _ => rfl
/-- What surrounds a loop, cut the same way. -/
theorem subs_cut {V : Env} {rec : Rec} {f : FuncId} {kp : K} {L : Nat → St → Option Res} :
    ∀ {c : Code} {fs fs' : List Fr} {n : Nat} {k' : K}, smallC c = true →
      (∀ j x, (subsOf c fs)[j]? = some x → ∀ st, evF V rec f (.loop x.2) st (ctxK V rec f x.1 kp) = L (n + j) st) →
      CutOK L (ctxK V rec f fs kp) (ctxK V rec f fs' k') → ∀ {j : Nat} {x : List Fr × Code} {y : List Fr}, (subsOf c fs)[j]? = some x → (subsCut n c fs')[j]? = some y →
      CutOK L (ctxK V rec f x.1 kp) (ctxK V rec f y k')
  | .loop b, fs, fs', n, k', _, hL, hk, j, x, y, hx, hy => by
    cases j with
    | zero =>
      cases hx
      cases hy
      exact hk
    | succ j => cases hx
  | .seq a b, fs, fs', n, k', hs, hL, hk, j, x, y, hx, hy => by
    simp only [smallC, Bool.and_eq_true] at hs
    have lenc : ∀ {n : Nat} {c : Code} {fs : List Fr}, (subsCut n c fs).length = nLoops c := subsCut_len
    have hLa : ∀ j x, (subsOf a (.seq b :: fs))[j]? = some x → ∀ st, evF V rec f (.loop x.2) st (ctxK V rec f x.1 kp) = L (n + j) st := fun j x hx => hL j x (by
      simp only [subsOf]
      rw [List.getElem?_append_left (List.getElem?_eq_some_iff.1 hx).1]
      exact hx)
    have hLb : ∀ j x, (subsOf b fs)[j]? = some x → ∀ st, evF V rec f (.loop x.2) st (ctxK V rec f x.1 kp) = L (n + nLoops a + j) st := fun j x hx st => by
      have := hL (nLoops a + j) x (by
        simp only [subsOf]
        rw [List.getElem?_append_right (by rw [subsOf_len]; omega), subsOf_len, Nat.add_sub_cancel_left]
        exact hx) st
      rw [this]
      congr 1
      omega
    simp only [subsOf] at hx
    simp only [subsCut] at hy
    by_cases hj : j < nLoops a
    · rw [List.getElem?_append_left (by rw [subsOf_len]; exact hj)] at hx
      rw [List.getElem?_append_left (by rw [lenc]; exact hj)] at hy
      exact subs_cut (fs' := .seq (cut (n + nLoops a) b) :: fs') hs.1 hLa ⟨fun st => cut_sound hs.2 hLb hk, hk.ret, hk.exit, hk.loop⟩ hx hy
    · rw [List.getElem?_append_right (by rw [subsOf_len]; omega), subsOf_len] at hx
      rw [List.getElem?_append_right (by rw [lenc]; omega), lenc] at hy
      exact subs_cut hs.2 hLb hk hx hy
  | .block id b, fs, fs', n, k', hs, hL, hk, j, x, y, hx, hy => by
    simp only [smallC, Bool.and_eq_true] at hs
    exact subs_cut (c := b) (fs' := .block id :: fs') hs.2 hL (blockK_cut hk (Nat.le_of_ble_eq_true hs.1)) hx hy
  | .cond c a b, fs, fs', n, k', hs, hL, hk, j, x, y, hx, hy => by
    simp only [smallC, Bool.and_eq_true] at hs
    have lenc : ∀ {n : Nat} {c : Code} {fs : List Fr}, (subsCut n c fs).length = nLoops c := subsCut_len
    simp only [subsOf] at hx
    simp only [subsCut] at hy
    by_cases hj : j < nLoops a
    · rw [List.getElem?_append_left (by rw [subsOf_len]; exact hj)] at hx
      rw [List.getElem?_append_left (by rw [lenc]; exact hj)] at hy
      exact subs_cut hs.1 (fun j x hx => hL j x (by
        simp only [subsOf]
        rw [List.getElem?_append_left (List.getElem?_eq_some_iff.1 hx).1]
        exact hx)) hk hx hy
    · rw [List.getElem?_append_right (by rw [subsOf_len]; omega), subsOf_len] at hx
      rw [List.getElem?_append_right (by rw [lenc]; omega), lenc] at hy
      exact subs_cut hs.2 (fun j x hx st => by
        have := hL (nLoops a + j) x (by
          simp only [subsOf]
          rw [List.getElem?_append_right (by rw [subsOf_len]; omega), subsOf_len, Nat.add_sub_cancel_left]
          exact hx) st
        rw [this]
        congr 1
        omega) hk hx hy
  | .skip, _, _, _, _, _, _, _, _, _, _, hx, _ => by simp [subsOf] at hx
  | .region _ _ _, _, _, _, _, _, _, _, _, _, _, hx, _ => by simp [subsOf] at hx
  | .rangeFunc _ _ _ _, _, _, _, _, _, _, _, _, _, _, hx, _ => by simp [subsOf] at hx
  | .exit _, _, _, _, _, _, _, _, _, _, _, hx, _ => by simp [subsOf] at hx
  | .scope _, _, _, _, _, _, _, _, _, _, _, hx, _ => by simp [subsOf] at hx
  | .label _, _, _, _, _, _, _, _, _, _, _, hx, _ => by simp [subsOf] at hx
  | .goto _, _, _, _, _, _, _, _, _, _, _, hx, _ => by simp [subsOf] at hx
  | .ret, _, _, _, _, _, _, _, _, _, _, hx, _ => by simp [subsOf] at hx
  | .refuse _, _, _, _, _, _, _, _, _, _, _, hx, _ => by simp [subsOf] at hx
  where subsCut_len : ∀ {n : Nat} {c : Code} {fs : List Fr}, (subsCut n c fs).length = nLoops c
  | _, .loop _, _ => rfl
  | n, .seq a b, fs => by simp only [subsCut, nLoops, List.length_append, subsCut_len (c := a), subsCut_len (c := b)]
  | n, .block _ b, fs => by simp only [subsCut, nLoops, subsCut_len (c := b)]
  | n, .cond _ a b, fs => by simp only [subsCut, nLoops, List.length_append, subsCut_len (c := a), subsCut_len (c := b)]
  | _, .skip, _ => rfl
  | _, .region _ _ _, _ => rfl
  | _, .rangeFunc _ _ _ _, _ => rfl
  | _, .exit _, _ => rfl
  | _, .scope _, _ => rfl
  | _, .label _, _ => rfl
  | _, .goto _, _ => rfl
  | _, .ret, _ => rfl
  | _, .refuse _, _ => rfl

/-! live slots -/
theorem maskL_get {keep : List Nat} : ∀ {xs : List S} {i t : Nat}, memN (i + t) keep = true → (maskL keep i xs)[t]? = xs[t]?
  | [], _, _, _ => rfl
  | s :: r, i, 0, h => by
    show some (bif memN i keep then s else junkS) = some s
    rw [show memN i keep = true from h]
    rfl
  | s :: r, i, t + 1, h => by
    show (maskL keep (i + 1) r)[t]? = r[t]?
    exact maskL_get (by rw [show i + 1 + t = i + (t + 1) by omega]; exact h)
theorem memN_of_mem : ∀ {l : List Nat} {n : Nat}, n ∈ l → memN n l = true
  | m :: r, n, h => by
    rcases List.mem_cons.1 h with rfl | h
    · simp [memN]
    · simp [memN, memN_of_mem h]
theorem mapL_mem {α β : Type} {g : α → β} : ∀ {l : List α} {x : α}, x ∈ l → g x ∈ mapL g l
  | y :: r, x, h => by
    rcases List.mem_cons.1 h with rfl | h
    · exact List.mem_cons_self
    · exact List.mem_cons_of_mem _ (mapL_mem h)
def resTmp : ResultVar → Nat
  | .tmp t => t
  | .cell a _ => a
def resTmps (fn : Func) : List Nat := mapL resTmp fn.results.toList
theorem resOne_mask {P : Program} {st : St} {res : List Nat} {r : ResultVar} (h : memN (resTmp r) res = true) : resOne P (st.mask (some res)) r = resOne P st r := by
  cases r with
  | tmp t =>
    simp only [resOne, St.mask]
    rw [maskL_get (by rw [Nat.zero_add]; exact h)]
  | cell a t =>
    simp only [resOne, St.mask]
    rw [maskL_get (by rw [Nat.zero_add]; exact h)]
theorem resL_mask {P : Program} {st : St} {res : List Nat} : ∀ {l : List ResultVar}, (∀ r ∈ l, memN (resTmp r) res = true) → resL P (st.mask (some res)) l = resL P st l
  | [], _ => rfl
  | r :: rs, h => by
    simp only [resL, resOne_mask (h r List.mem_cons_self), resL_mask (l := rs) fun x hx => h x (List.mem_cons_of_mem _ hx)]

/-- The slots that are looked at; and whether no box is. -/
abbrev Lv := Option (List Nat) × Bool
def St.cut (st : St) (m : Lv) : St := match m.2 with
  | true => ⟨(st.mask m.1).sl, []⟩
  | false => st.mask m.1
def allTmp : List ResultVar → Bool
  | [] => true
  | .tmp _ :: r => allTmp r
  | .cell _ _ :: _ => false
theorem resL_nobx {P : Program} {sl : List S} {bx bx' : List (List C)} : ∀ {l : List ResultVar}, allTmp l = true → resL P ⟨sl, bx⟩ l = resL P ⟨sl, bx'⟩ l
  | [], _ => rfl
  | .tmp t :: r, h => by
    simp only [resL, resOne, resL_nobx (bx := bx) (bx' := bx') (l := r) h]
  | .cell _ _ :: _, h => by simp [allTmp] at h
/-- What follows an end looks at these slots alone. -/
def KOK (lv : X → Lv) (k : K) : Prop := ∀ e st, k e st = k e (st.cut (lv e))
def lvFin (fn : Func) : X → Lv
  | .exit _ => (none, false)
  | _ => (some (resTmps fn), allTmp fn.results.toList)
theorem finK_ok {P : Program} {o : List Bool} {fn : Func} : KOK (lvFin fn) (finK P o fn) := by
  have main : ∀ st : St, resL P st fn.results.toList = resL P (st.cut (some (resTmps fn), allTmp fn.results.toList)) fn.results.toList := fun st => by
    refine (resL_mask (res := resTmps fn) fun r hr => memN_of_mem (mapL_mem hr)).symm.trans ?_
    unfold St.cut
    cases h : allTmp fn.results.toList with
    | true => exact resL_nobx h
    | false => rfl
  intro e st
  cases e with
  | exit j => rfl
  | normal => simp only [finK, lvFin, ← main st]
  | ret => simp only [finK, lvFin, ← main st]
def headM (V : Env) (f : FuncId) (c : Code) : Lv := match headR c with
  | some id => (V.mask f id, false)
  | none => (none, false)
theorem headM_evF {V : Env} {rec : Rec} {f : FuncId} {c : Code} {st : St} {k : K} : evF V rec f c st k = evF V rec f c (st.cut (headM V f c)) k := by
  unfold headM
  split
  · rename_i id h
    exact head_mask h
  · rfl
theorem headM_ev {V : Env} {n : Nat} {f : FuncId} {c : Code} {st : St} {k : K} : ev V n f c st k = ev V n f c (st.cut (headM V f c)) k := by
  cases n with
  | zero => rfl
  | succ n => exact headM_evF
def lvLoop (V : Env) (f : FuncId) (b : Code) (lv : X → Lv) : X → Lv
  | .normal => headM V f (.loop b)
  | e => lv e
theorem loopK_ok {V : Env} {n : Nat} {f : FuncId} {b : Code} {lv : X → Lv} {k : K} (h : KOK lv k) : KOK (lvLoop V f b lv) (loopK (ev V n) f b k) := by
  intro e st
  cases e with
  | normal => exact headM_ev
  | exit j => exact h (.exit j) st
  | ret => exact h .ret st
/-- What is looked at behind an end, in surroundings. -/
def lvCtx (V : Env) (f : FuncId) (lv : X → Lv) : List Fr → X → Lv
  | [], e => lv e
  | .seq b :: _, .normal => headM V f b
  | .seq _ :: r, e => lvCtx V f lv r e
  | .block id :: r, .exit j => bif Nat.beq j id then lvCtx V f lv r .normal else lvCtx V f lv r (.exit j)
  | .block _ :: r, e => lvCtx V f lv r e
theorem ctxK_ok {V : Env} {rec : Rec} {f : FuncId} {lv : X → Lv} {kf : K} (hf : KOK lv kf) : ∀ {fs : List Fr}, KOK (lvCtx V f lv fs) (ctxK V rec f fs kf)
  | [], e, st => hf e st
  | .seq b :: r, .normal, st => headM_evF
  | .seq b :: r, .exit j, st => ctxK_ok hf (fs := r) (.exit j) st
  | .seq b :: r, .ret, st => ctxK_ok hf (fs := r) .ret st
  | .block id :: r, .normal, st => ctxK_ok hf (fs := r) .normal st
  | .block id :: r, .exit j, st => by
    simp only [ctxK, blockK, lvCtx]
    cases Nat.beq j id with
    | true => exact ctxK_ok hf (fs := r) .normal st
    | false => exact ctxK_ok hf (fs := r) (.exit j) st
  | .block id :: r, .ret, st => ctxK_ok hf (fs := r) .ret st

/-- A place where code runs round: a function's body, a loop's body; what is looked at behind it. -/
structure Pl where
  body : Code
  lv : X → Lv
def funcOf (p : Program) (f : Nat) : Func := match p.funcs[f]? with
  | some fn => fn
  | none => default
def codeOf (p : Program) (f : Nat) : Code := match (funcOf p f).body with
  | some c => c
  | none => .skip
def fnPl (V : Env) (f : Nat) : Pl := ⟨codeOf V.P f, lvFin (funcOf V.P f)⟩
def Pl.sub (q : Pl) (j : Nat) : List Fr × Code := (subsOf q.body []).getD j ([], .skip)
def Pl.subF (q : Pl) (j : Nat) : List Fr := (q.sub j).1
def Pl.subB (q : Pl) (j : Nat) : Code := (q.sub j).2
/-- The place of a loop within a place. -/
def Pl.at (q : Pl) (V : Env) (f j : Nat) : Pl := ⟨q.subB j, lvLoop V f (q.subB j) (lvCtx V f q.lv (q.subF j))⟩
def plK (V : Env) (f : Nat) (q : Pl) (H : K) (L : Nat → St → Option Res) : K := fun e st => match e with
  | .exit j => bif Nat.ble 1000 j then L (j - 1000) (st.cut (headM V f (.loop (q.subB (j - 1000))))) else H (.exit j) (st.cut (q.lv (.exit j)))
  | .normal => H .normal (st.cut (q.lv .normal))
  | .ret => H .ret (st.cut (q.lv .ret))
/-- The place's code, once, up to its loops. -/
def Pl.run (q : Pl) (V : Env) (rec : Rec) (f : Nat) (H : K) (L : Nat → St → Option Res) (st : St) : Option Res := evF V rec f (cut 0 q.body) st (plK V f q H L)
/-- Behind a loop of the place. -/
def Pl.behind (q : Pl) (V : Env) (rec : Rec) (f j : Nat) (H : K) (L : Nat → St → Option Res) : K := ctxK V rec f ((subsCut 0 q.body []).getD j []) (plK V f q H L)
/-- How a place goes on at a loop. -/
def Pl.go (q : Pl) (V : Env) (rec : Rec) (f : Nat) (k : K) : Nat → St → Option Res := fun j st => evF V rec f (.loop (q.subB j)) st (ctxK V rec f (q.subF j) k)
theorem plK_ok {V : Env} {rec : Rec} {f : Nat} {q : Pl} {k : K} (hk : KOK q.lv k) : CutOK (q.go V rec f k) k (plK V f q k (q.go V rec f k)) := by
  refine ⟨fun st => hk .normal st, fun st => hk .ret st, fun j st hj => ?_, fun j st => ?_⟩
  · show _ = bif Nat.ble 1000 j then _ else _
    rw [show Nat.ble 1000 j = false from by
      cases h : Nat.ble 1000 j with
      | false => rfl
      | true => exact absurd (Nat.le_of_ble_eq_true h) (by omega)]
    exact hk (.exit j) st
  · show (bif Nat.ble 1000 (1000 + j) then q.go V rec f k (1000 + j - 1000) (st.cut (headM V f (.loop (q.subB (1000 + j - 1000))))) else _) = _
    rw [show Nat.ble 1000 (1000 + j) = true from Nat.ble_eq_true_of_le (by omega), Nat.add_sub_cancel_left]
    exact headM_evF.symm
theorem Pl.go_ok {V : Env} {rec : Rec} {f : Nat} {q : Pl} {k : K} : ∀ j x, (subsOf q.body [])[j]? = some x → ∀ st, evF V rec f (.loop x.2) st (ctxK V rec f x.1 k) = q.go V rec f k (0 + j) st := by
  intro j x hx st
  rw [Nat.zero_add]
  show _ = evF V rec f (.loop ((subsOf q.body []).getD j ([], .skip)).2) st (ctxK V rec f ((subsOf q.body []).getD j ([], .skip)).1 k)
  rw [List.getD_eq_getElem?_getD, hx]
  rfl
theorem Pl.run_eq {V : Env} {rec : Rec} {f : Nat} {q : Pl} {k : K} {st : St} (hk : KOK q.lv k) (hs : smallC q.body = true) : evF V rec f q.body st k = q.run V rec f k (q.go V rec f k) st :=
  cut_sound (fs := []) hs Pl.go_ok (plK_ok hk)
theorem Pl.behind_eq {V : Env} {rec : Rec} {f j : Nat} {q : Pl} {k : K} {e : X} {st : St} (hk : KOK q.lv k) (hs : smallC q.body = true) (hj : j < nLoops q.body) (he : ∀ i, e = .exit i → i < 1000) :
    ctxK V rec f (q.subF j) k e st = q.behind V rec f j k (q.go V rec f k) e st := by
  have h1 : (subsOf q.body [])[j]? = some (q.sub j) := by
    rw [Pl.sub, List.getD_eq_getElem?_getD, List.getElem?_eq_getElem (by rw [subsOf_len]; exact hj)]
    rfl
  have h2 : (subsCut 0 q.body [])[j]? = some ((subsCut 0 q.body []).getD j []) := by
    rw [List.getD_eq_getElem?_getD, List.getElem?_eq_getElem (by rw [subs_cut.subsCut_len]; exact hj)]
    rfl
  have := subs_cut (fs := []) (fs' := []) hs (Pl.go_ok (V := V) (rec := rec) (f := f) (k := k)) (plK_ok hk) h1 h2
  cases e with
  | normal => exact this.normal st
  | ret => exact this.ret st
  | exit i => exact this.exit i st (he i rfl)
/-- A call's beginning. -/
theorem call_run {V : Env} {n f : Nat} {xs : List S1} (hb : (match V.P.funcs[f]? with | some fn => fn.body.isSome | none => false) = true) (hs : smallC (fnPl V f).body = true) :
    call V (n + 1) f xs = (fnPl V f).run V (ev V n) f (finK V.P (V.sig f) (funcOf V.P f)) ((fnPl V f).go V (ev V n) f (finK V.P (V.sig f) (funcOf V.P f))) (enterSt (funcOf V.P f) xs) := by
  rw [← Pl.run_eq (q := fnPl V f) finK_ok hs]
  show callWith V (ev V (n + 1)) f xs = _
  unfold callWith
  have h1 : ∀ fn, V.P.funcs[f]? = some fn → funcOf V.P f = fn := fun fn h => by unfold funcOf; rw [h]
  cases h : V.P.funcs[f]? with
  | none => rw [h] at hb; simp at hb
  | some fn =>
    rw [h] at hb
    simp only at hb ⊢
    show _ = evF V (ev V n) f (codeOf V.P f) (enterSt (funcOf V.P f) xs) (finK V.P (V.sig f) (funcOf V.P f))
    unfold codeOf
    rw [h1 fn h]
    cases h2 : fn.body with
    | none => rw [h2] at hb; simp at hb
    | some c => rfl
/-- One round of a loop. -/
theorem loop_run {V : Env} {n f j : Nat} {q : Pl} {k : K} {st : St} (hk : KOK (lvCtx V f q.lv (q.subF j)) k) (hs : smallC (q.subB j) = true) :
    ev V (n + 1) f (.loop (q.subB j)) st k = (q.at V f j).run V (ev V n) f (loopK (ev V n) f (q.subB j) k) ((q.at V f j).go V (ev V n) f (loopK (ev V n) f (q.subB j) k)) st :=
  Pl.run_eq (q := q.at V f j) (loopK_ok hk) hs
end Go.Proofs.Ytmdhlmcoegghjaa.Am

namespace Go.Proofs.Ytmdhlmcoegghjaa.Am
open Go Go.RowKit

/-! # Where code goes: big steps -/
abbrev Way := Rec → K → (Nat → St → Option Res) → Option Res
/-- From here on the place's code ends so. -/
def Goes (V : Env) (f : Nat) (q : Pl) (F : Way) (e : X) (st' : St) : Prop :=
  ∃ m, ∀ n, m ≤ n → ∀ k, KOK q.lv k → F (ev V n) k (q.go V (ev V n) f k) = k e st'
/-- The place's loop ends so. -/
def Loops (V : Env) (f : Nat) (q : Pl) (j : Nat) (st : St) (e : X) (st' : St) : Prop :=
  ∃ m, ∀ n, m ≤ n → ∀ k, KOK (lvCtx V f q.lv (q.subF j)) k → ev V n f (.loop (q.subB j)) st k = k e st'
def Pl.way (q : Pl) (V : Env) (f : Nat) (st : St) : Way := fun rec H L => q.run V rec f H L st
def Pl.past (q : Pl) (V : Env) (f j : Nat) (e : X) (st : St) : Way := fun rec H L => q.behind V rec f j H L e st

variable {V : Env} {f : Nat} {q : Pl} {F F' : Way} {e e1 : X} {st st1 st' : St} {j : Nat}
theorem Goes.of (h : ∀ rec H L, F rec H L = F' rec H L) (g : Goes V f q F' e st') : Goes V f q F e st' :=
  have ⟨m, hm⟩ := g
  ⟨m, fun n hn k hk => (h _ _ _).trans (hm n hn k hk)⟩
theorem Goes.here : Goes V f q (fun _ H _ => H e st') e st' := ⟨0, fun _ _ _ _ => rfl⟩
theorem Goes.now (h : ∀ rec H L, F rec H L = H e st') : Goes V f q F e st' := Goes.of h .here
def lowX : X → Bool
  | .exit j => Nat.ble (j + 1) 1000
  | _ => true
theorem Goes.loop (hl : Loops V f q j st e1 st1) (hb : Goes V f q (q.past V f j e1 st1) e st') (hs : smallC q.body = true) (hj : Nat.ble (j + 1) (nLoops q.body) = true) (he : lowX e1 = true) :
    Goes V f q (fun _ _ L => L j st) e st' := by
  obtain ⟨m1, h1⟩ := hl
  obtain ⟨m2, h2⟩ := hb
  refine ⟨max m1 m2, fun n hn k hk => ?_⟩
  show ev V (n + 1) f (.loop (q.subB j)) st (ctxK V (ev V n) f (q.subF j) k) = _
  rw [h1 (n + 1) (by omega) _ (ctxK_ok hk), Pl.behind_eq hk hs (Nat.le_of_ble_eq_true hj) (fun i hi => by subst hi; exact Nat.le_of_ble_eq_true he)]
  exact h2 n (by omega) k hk
theorem Loops.step (h1 : Goes V f (q.at V f j) ((q.at V f j).way V f st) .normal st1) (h2 : Loops V f q j st1 e st') (hs : smallC (q.subB j) = true) : Loops V f q j st e st' := by
  obtain ⟨m1, h1⟩ := h1
  obtain ⟨m2, h2⟩ := h2
  refine ⟨max m1 m2 + 1, fun n hn k hk => ?_⟩
  obtain ⟨n, rfl⟩ : ∃ n', n = n' + 1 := ⟨n - 1, by omega⟩
  rw [loop_run hk hs]
  refine (h1 n (by omega) _ (loopK_ok hk)).trans ?_
  exact h2 n (by omega) k hk
theorem Loops.done (h1 : Goes V f (q.at V f j) ((q.at V f j).way V f st) e st') (he : e ≠ .normal) (hs : smallC (q.subB j) = true) : Loops V f q j st e st' := by
  obtain ⟨m1, h1⟩ := h1
  refine ⟨m1 + 1, fun n hn k hk => ?_⟩
  obtain ⟨n, rfl⟩ : ∃ n', n = n' + 1 := ⟨n - 1, by omega⟩
  rw [loop_run hk hs]
  refine (h1 n (by omega) _ (loopK_ok hk)).trans ?_
  cases e with
  | normal => exact absurd rfl he
  | exit i => rfl
  | ret => rfl
def fnWay (V : Env) (f : Nat) (xs : List S1) : Way := (fnPl V f).way V f (enterSt (funcOf V.P f) xs)
def okFn (V : Env) (f : Nat) : Bool := (match V.P.funcs[f]? with | some fn => fn.body.isSome | none => false) && smallC (fnPl V f).body
theorem Goes.call {xs : List S1} {r : Res} (g : Goes V f (fnPl V f) (fnWay V f xs) e st') (hr : finK V.P (V.sig f) (funcOf V.P f) e st' = some r) (hok : okFn V f = true) : ∃ n, call V n f xs = some r := by
  simp only [okFn, Bool.and_eq_true] at hok
  obtain ⟨m, hm⟩ := g
  exact ⟨m + 1, (call_run hok.1 hok.2).trans ((hm m (Nat.le_refl _) _ finK_ok).trans hr)⟩
theorem br_t {a b : Option Res} : br true a b = a := rfl
theorem br_f {a b : Option Res} : br false a b = b := rfl
end Go.Proofs.Ytmdhlmcoegghjaa.Am

namespace Go.Proofs.Ytmdhlmcoegghjaa.Am
open Go Go.RowKit

theorem w64_id {x : Int} (h1 : -9223372036854775808 ≤ x) (h2 : x < 9223372036854775808) : IntKind.i64.wrap x = x := by
  simp [IntKind.wrap, IntKind.bits, IntKind.signed]
  split <;> omega
theorem wu8_eq (x : Int) : IntKind.u8.wrap x = x % 256 := by
  simp [IntKind.wrap, IntKind.bits, IntKind.signed]
theorem wu16_eq (x : Int) : IntKind.u16.wrap x = x % 65536 := by
  simp [IntKind.wrap, IntKind.bits, IntKind.signed]
theorem wu32_eq (x : Int) : IntKind.u32.wrap x = x % 4294967296 := by
  simp [IntKind.wrap, IntKind.bits, IntKind.signed]
theorem wu64_eq (x : Int) : IntKind.u64.wrap x = x % 18446744073709551616 := by
  simp [IntKind.wrap, IntKind.bits, IntKind.signed]

theorem inR_yes {i : Int} {n : Nat} (h1 : 0 ≤ i) (h2 : i < (n : Int)) : inR i n = true := by simp [inR, h1, h2]
theorem leR_yes {i : Int} {n : Nat} (h1 : 0 ≤ i) (h2 : i ≤ (n : Int)) : leR i n = true := by simp [leR, h1, h2]

/-- What is reckoned step by step. -/
def itr {α : Type} (g : Nat → α → α) (a : α) : Nat → α
  | 0 => a
  | n + 1 => g n (itr g a n)

theorem itr_append {α : Type} {g : Nat → α} : ∀ {n : Nat} {xs : List α}, (itr (fun i o => o ++ [g i]) xs n).length = xs.length + n
  | 0, _ => rfl
  | n + 1, xs => by simp only [itr, List.length_append, itr_append (n := n), List.length_singleton]; omega
theorem br_pos {c : Bool} {a b : Option Res} (h : c = true) : br c a b = a := by rw [h]; rfl
theorem br_neg {c : Bool} {a b : Option Res} (h : c = false) : br c a b = b := by rw [h]; rfl
theorem br_if {c : Bool} {α : Type} {F : α → Option Res} {a b : α} : br c (F a) (F b) = F (bif c then a else b) := by cases c <;> rfl
theorem br_eqs {c : Bool} {a b r : Option Res} (h1 : c = true → a = r) (h2 : c = false → b = r) : br c a b = r := by
  cases c with
  | true => exact h1 rfl
  | false => exact h2 rfl
variable {V : Env} {f : Nat} {q : Pl} {e : X} {st' : St} {j : Nat}
theorem Loops.many {S : Nat → St} {n : Nat} (hs : smallC (q.subB j) = true) (h1 : ∀ i, i < n → Goes V f (q.at V f j) ((q.at V f j).way V f (S i)) .normal (S (i + 1))) (h2 : Loops V f q j (S n) e st') :
    ∀ d i, i + d = n → Loops V f q j (S i) e st'
  | 0, i, h => by
    obtain rfl : i = n := by omega
    exact h2
  | d + 1, i, h => Loops.step (h1 i (by omega)) (Loops.many hs h1 h2 d (i + 1) (by omega)) hs
theorem Loops.count {S : Nat → St} {n : Nat} (hs : smallC (q.subB j) = true) (h1 : ∀ i, i < n → Goes V f (q.at V f j) ((q.at V f j).way V f (S i)) .normal (S (i + 1)))
    (h2 : Goes V f (q.at V f j) ((q.at V f j).way V f (S n)) e st') (he : e ≠ .normal) : Loops V f q j (S 0) e st' :=
  Loops.many hs h1 (Loops.done h2 he hs) n 0 (by omega)
end Go.Proofs.Ytmdhlmcoegghjaa.Am
