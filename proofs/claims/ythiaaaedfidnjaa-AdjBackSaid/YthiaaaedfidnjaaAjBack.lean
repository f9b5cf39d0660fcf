/- What the functions come to, by the evaluator. Conditions: none; checked here. -/
import Derived.Test.YthiaaaedfidnjaaAjD
import Derived.ProofKit
import Derived.Test.YthiaaaedfidnjaaAjE
set_option linter.unusedVariables false
set_option linter.unusedSimpArgs false

namespace Go.Proofs.Ythiaaaedfidnjaa.Aj
open Go Go.Proofs.Ythiaaaedfidnjaa.Am Go.RowKit
set_option linter.unusedVariables false
set_option linter.unusedSimpArgs false
set_option maxRecDepth 100000
theorem bkIn (rec : Rec) (H : K) (L : Nat → St → Option Res) (k : Int) (nl : Bool) (l : List Int) (near : Int) :
    fnWay VL 4 [wS .u8 k, bS nl l, wS .u8 near] rec H L =
  br (decide ((↑l.length : Int) > 90)) (
    H .ret (mkSt 103 [(6, vS (.bool true))] [])) (
    br (hisOK k l) (
      br (decide (0 ≤ near) && (decide (near < 256) && decide ((isNilL (hisR k l), hisR k l).snd.length ≤ 1000))) (
        br (decide ((isNilL (hisR k l), hisR k l).snd.length ≤ 1000)) (
          br (decide ((isNilL (atR (vtT k) (isNilL (hisR k l), hisR k l).snd (timR (isNilL (hisR k l), hisR k l).snd near)), atR (vtT k) (isNilL (hisR k l), hisR k l).snd (timR (isNilL (hisR k l), hisR k l).snd near)).snd.length ≤ 2000)) (
            L 0 (mkSt 103 [(7, .s (.c (⟨.ro, AV.ptr 0 0⟩))), (8, .s (.c (⟨.ro, AV.sl ((CL.int IntKind.u32).cons (CL.int IntKind.u32)) (isNilL (atR (vtT k) (isNilL (hisR k l), hisR k l).snd (timR (isNilL (hisR k l), hisR k l).snd near)), atR (vtT k) (isNilL (hisR k l), hisR k l).snd (timR (isNilL (hisR k l), hisR k l).snd near)).fst (isNilL (atR (vtT k) (isNilL (hisR k l), hisR k l).snd (timR (isNilL (hisR k l), hisR k l).snd near)), atR (vtT k) (isNilL (hisR k l), hisR k l).snd (timR (isNilL (hisR k l), hisR k l).snd near)).snd⟩))), (10, .s (.c (⟨.own 320 none, AV.sl (CL.int IntKind.u8) (!putOk (isNilL (atR (vtT k) (isNilL (hisR k l), hisR k l).snd (timR (isNilL (hisR k l), hisR k l).snd near)), atR (vtT k) (isNilL (hisR k l), hisR k l).snd (timR (isNilL (hisR k l), hisR k l).snd near)).snd, putB (isNilL (atR (vtT k) (isNilL (hisR k l), hisR k l).snd (timR (isNilL (hisR k l), hisR k l).snd near)), atR (vtT k) (isNilL (hisR k l), hisR k l).snd (timR (isNilL (hisR k l), hisR k l).snd near)).snd).fst (!putOk (isNilL (atR (vtT k) (isNilL (hisR k l), hisR k l).snd (timR (isNilL (hisR k l), hisR k l).snd near)), atR (vtT k) (isNilL (hisR k l), hisR k l).snd (timR (isNilL (hisR k l), hisR k l).snd near)).snd, putB (isNilL (atR (vtT k) (isNilL (hisR k l), hisR k l).snd (timR (isNilL (hisR k l), hisR k l).snd near)), atR (vtT k) (isNilL (hisR k l), hisR k l).snd (timR (isNilL (hisR k l), hisR k l).snd near)).snd).snd⟩))), (11, vS (.int .i64 (putE (isNilL (atR (vtT k) (isNilL (hisR k l), hisR k l).snd (timR (isNilL (hisR k l), hisR k l).snd near)), atR (vtT k) (isNilL (hisR k l), hisR k l).snd (timR (isNilL (hisR k l), hisR k l).snd near)).snd))), (12, vS (.int .u64 0)), (13, vS (.int .i64 0))] [[vC (.int .u64 (vtT k)), ⟨.ro, AV.sl ((CL.int IntKind.i64).cons (((CL.int IntKind.u32).cons (CL.int IntKind.u32)).cons CL.bool)) (isNilL (hisR k l), hisR k l).fst (isNilL (hisR k l), hisR k l).snd⟩]])) (
            none)) (
          none)) (
        none)) (
      none)) := by kernel_rfl
theorem bkRnd (rec : Rec) (H : K) (L : Nat → St → Option Res) (n : Int) (hl : Bool) (hs : List Ev) (nl : Bool) (now : List Ed) (bl : Bool) (b : List Int) (e top i : Int) :
    ((fnPl VL 4).at VL 4 0).way VL 4 (mkSt 103 [(7, .s (.c ⟨.ro, .ptr 0 0⟩)), (8, .s (eS nl now)), (10, .s (.c ⟨.own 320 none, .sl (.int .u8) bl b⟩)), (11, vS (.int .i64 e)), (12, vS (.int .u64 top)), (13, vS (.int .i64 i))] [[vC (.int .u64 n), ⟨.ro, .sl vE hl hs⟩]]) rec H L =
  br (decide (i < (↑now.length : Int))) (
    br (inR i now.length) (
      H .normal (mkSt 103 [(7, .s (.c (⟨.ro, AV.ptr 0 0⟩))), (8, .s (.c (⟨.ro, AV.sl ((CL.int IntKind.u32).cons (CL.int IntKind.u32)) nl now⟩))), (10, .s (.c (⟨.own 320 none, AV.sl (CL.int IntKind.u8) bl b⟩))), (11, vS (.int .i64 e)), (12, vS (.int .u64 (if IntKind.u64.wrap (nth eE now i.toNat).snd > top then IntKind.u64.wrap (nth eE now i.toNat).snd else top))), (13, vS (.int .i64 (IntKind.i64.wrap (i + 1))))] [[vC (.int .u64 n), ⟨.ro, AV.sl ((CL.int IntKind.i64).cons (((CL.int IntKind.u32).cons (CL.int IntKind.u32)).cons CL.bool)) hl hs⟩]])) (
      none)) (
    H (.exit 0) (mkSt 103 [(7, .s (.c (⟨.ro, AV.ptr 0 0⟩))), (8, .s (.c (⟨.ro, AV.sl ((CL.int IntKind.u32).cons (CL.int IntKind.u32)) nl now⟩))), (10, .s (.c (⟨.own 320 none, AV.sl (CL.int IntKind.u8) bl b⟩))), (11, vS (.int .i64 e)), (12, vS (.int .u64 top))] [[vC (.int .u64 n), ⟨.ro, AV.sl ((CL.int IntKind.i64).cons (((CL.int IntKind.u32).cons (CL.int IntKind.u32)).cons CL.bool)) hl hs⟩]])) := by kernel_rfl
theorem bkOut (rec : Rec) (H : K) (L : Nat → St → Option Res) (n : Int) (hl : Bool) (hs : List Ev) (nl : Bool) (now : List Ed) (bl : Bool) (b : List Int) (e top : Int) :
    (fnPl VL 4).past VL 4 0 (.exit 0) (mkSt 103 [(7, .s (.c ⟨.ro, .ptr 0 0⟩)), (8, .s (eS nl now)), (10, .s (.c ⟨.own 320 none, .sl (.int .u8) bl b⟩)), (11, vS (.int .i64 e)), (12, vS (.int .u64 top))] [[vC (.int .u64 n), ⟨.ro, .sl vE hl hs⟩]]) rec H L =
  br (decide (b.length ≤ 3000)) (
    br (decide ((edT n b true).fst.length ≤ 2000)) (
      br (decide (b.length ≤ 3000)) (
        br (decide ((edT (IntKind.u64.wrap (top + 1)) b true).fst.length ≤ 2000)) (
          br (!e != 0) (
            br (!readE n b != 0) (
              br (decide ((isNilL (readL n b), readL n b).snd.length ≤ 1000000)) (
                br (!!sameE (isNilL (readL n b), readL n b).snd now) (
                  br (!readE (IntKind.u64.wrap (top + 1)) b != 0) (
                    br (decide ((isNilL (readL (IntKind.u64.wrap (top + 1)) b), readL (IntKind.u64.wrap (top + 1)) b).snd.length ≤ 1000000)) (
                      br (!sameE (isNilL (readL (IntKind.u64.wrap (top + 1)) b), readL (IntKind.u64.wrap (top + 1)) b).snd now) (
                        H .ret (mkSt 103 [(6, vS (.bool false))] [])) (
                        br (decide (b.length ≤ 3000)) (
                          br (decide ((edT top b true).fst.length ≤ 2000)) (
                            H .ret (mkSt 103 [(6, vS (.bool ((readE top b == 0) == ((↑now.length : Int) == 0))))] [])) (
                            none)) (
                          none))) (
                      none)) (
                    H .ret (mkSt 103 [(6, vS (.bool false))] []))) (
                  H .ret (mkSt 103 [(6, vS (.bool false))] []))) (
                none)) (
              H .ret (mkSt 103 [(6, vS (.bool false))] []))) (
            H .ret (mkSt 103 [(6, vS (.bool false))] []))) (
          none)) (
        none)) (
      none)) (
    none) := by kernel_rfl
end Go.Proofs.Ythiaaaedfidnjaa.Aj

namespace Go.Proofs.Ythiaaaedfidnjaa.Aj
open Go Go.Proofs.Ythiaaaedfidnjaa.Am Go.RowKit
set_option linter.unusedVariables false
set_option linter.unusedSimpArgs false
set_option maxRecDepth 100000
/-! AdjBack -/
def mxF : List Ed → Int → Int
  | [], t => t
  | e :: r, t => mxF r (if w64u e.2 > t then w64u e.2 else t)
theorem mx_ge : ∀ (l : List Ed) (t : Int), t ≤ mxF l t ∧ ((∀ e ∈ l, edOk e) → ∀ e ∈ l, e.2 ≤ mxF l t)
  | [], t => ⟨Int.le_refl _, fun _ e h => by simp at h⟩
  | e :: r, t => by
    have ih := mx_ge r (if w64u e.2 > t then w64u e.2 else t)
    have h1 : t ≤ (if w64u e.2 > t then w64u e.2 else t) ∧ w64u e.2 ≤ (if w64u e.2 > t then w64u e.2 else t) := by split <;> omega
    refine ⟨Int.le_trans h1.1 ih.1, fun hok x hx => ?_⟩
    rcases List.mem_cons.1 hx with rfl | hx
    · have hx := hok x (by simp)
      unfold edOk at hx
      have : w64u x.2 = x.2 := w64u_id (by omega) (by omega)
      exact Int.le_trans (by omega) ih.1
    · exact ih.2 (fun e he => hok e (by simp [he])) x hx
theorem mx_in : ∀ (l : List Ed) (t : Int), (∀ e ∈ l, edOk e) → mxF l t = t ∨ ∃ e ∈ l, e.2 = mxF l t
  | [], t, _ => .inl rfl
  | e :: r, t, hok => by
    have he := hok e (by simp)
    unfold edOk at he
    have hw : w64u e.2 = e.2 := w64u_id (by omega) (by omega)
    rcases mx_in r (if w64u e.2 > t then w64u e.2 else t) (fun x hx => hok x (by simp [hx])) with h | ⟨x, hx, h⟩
    · by_cases hc : w64u e.2 > t
      · right
        refine ⟨e, by simp, ?_⟩
        show e.2 = mxF r (if w64u e.2 > t then w64u e.2 else t)
        rw [h, if_pos hc, hw]
      · left
        show mxF r (if w64u e.2 > t then w64u e.2 else t) = t
        rw [h, if_neg hc]
    · exact .inr ⟨x, by simp [hx], h⟩
def bkSt (n : Int) (hs : List Ev) (now : List Ed) (bl : Bool) (b : List Int) (e top : Int) (i : Nat) : St := mkSt 103 [(7, .s (.c ⟨.ro, .ptr 0 0⟩)), (8, .s (eS (isNilL now) now)), (10, .s (.c ⟨.own 320 none, .sl (.int .u8) bl b⟩)), (11, vS (.int .i64 e)), (12, vS (.int .u64 top)), (13, vS (.int .i64 (i : Int)))] [[vC (.int .u64 n), ⟨.ro, .sl vE (isNilL hs) hs⟩]]
def bkE (n : Int) (hs : List Ev) (now : List Ed) (bl : Bool) (b : List Int) (e top : Int) : St := mkSt 103 [(7, .s (.c ⟨.ro, .ptr 0 0⟩)), (8, .s (eS (isNilL now) now)), (10, .s (.c ⟨.own 320 none, .sl (.int .u8) bl b⟩)), (11, vS (.int .i64 e)), (12, vS (.int .u64 top))] [[vC (.int .u64 n), ⟨.ro, .sl vE (isNilL hs) hs⟩]]
theorem bkLoop {n : Int} {hs : List Ev} {now : List Ed} {bl : Bool} {b : List Int} {e : Int} (hn : now.length ≤ 2000) (d : Nat) : ∀ (i : Nat) (top : Int), i + d = now.length →
    Loops VL 4 (fnPl VL 4) 0 (bkSt n hs now bl b e top i) (.exit 0) (bkE n hs now bl b e (mxF (now.drop i) top)) := by
  induction d with
  | zero =>
    intro i top h
    rw [List.drop_of_length_le (by omega)]
    exact Loops.done (Goes.now fun rec H L => (bkRnd rec H L n _ hs _ now bl b e top _).trans (br_neg (decide_eq_false (by omega)))) (by simp) (by kernel_rfl)
  | succ d ih =>
    intro i top h
    have e1 : IntKind.i64.wrap ((i : Int) + 1) = ((i + 1 : Nat) : Int) := w64_id (by omega) (by omega)
    rw [nthE_drop (by omega)]
    refine Loops.step (Goes.now fun rec H L => (bkRnd rec H L n _ hs _ now bl b e top _).trans ?_) (ih (i + 1) (if w64u (nE now i).2 > top then w64u (nE now i).2 else top) (by omega)) (by kernel_rfl)
    rw [br_pos (decide_eq_true (by omega)), br_pos (inR_yes (by omega) (by omega)), e1, Int.toNat_natCast]
    rfl
theorem bkCall {k near : Int} {nl : Bool} {l : List Int} (hk : 0 ≤ k ∧ k < 256) (hl : ∀ x ∈ l, 0 ≤ x ∧ x < 256) (hr : 0 ≤ near ∧ near < 256) : ∃ m, call VL m 4 [wS .u8 k, bS nl l, wS .u8 near] = some (vS (.bool true), []) := by
  have fin : finK VL.P (VL.np 4) (VL.sig 4) (VL.fin 4) (funcOf VL.P 4) .ret (mkSt 103 [(6, vS (.bool true))] []) = some (vS (.bool true), []) := by kernel_rfl
  by_cases hlen : l.length ≤ 90
  · have hvt : 2 ≤ vtT k ∧ vtT k ≤ 4294967296 := vt_bd hk.1
    obtain ⟨hge, hhl⟩ := his_good (k := k) (l := l) (by omega)
    obtain ⟨hg, hnl⟩ := at_gd (t := timR (hisR k l) near) hge
    have hH : hisOK k l = true := by
      unfold hisOK
      simp only [Bool.and_eq_true, decide_eq_true_eq, List.all_eq_true]
      exact ⟨hk.1, hk.2, by omega, hl⟩
    have hin0 := fun rec H L => (bkIn rec H L k nl l near).trans ((br_neg (decide_eq_false (by omega))).trans (br_pos hH))
    generalize hisR k l = hs at *
    have hin1 : ∀ rec H L, fnWay VL 4 [wS .u8 k, bS nl l, wS .u8 near] rec H L = L 0 (bkSt (vtT k) hs (atR (vtT k) hs (timR hs near)) (!putOk (atR (vtT k) hs (timR hs near))) (putB (atR (vtT k) hs (timR hs near))) (putE (atR (vtT k) hs (timR hs near))) 0 0) := fun rec H L => by
      refine (hin0 rec H L).trans ?_
      have c1 : (decide (0 ≤ near) && (decide (near < 256) && decide (hs.length ≤ 1000))) = true := by
        simp only [Bool.and_eq_true, decide_eq_true_eq]
        omega
      refine (br_pos c1).trans ((br_pos (decide_eq_true (by show hs.length ≤ 1000; omega))).trans ((br_pos (decide_eq_true (by show (atR (vtT k) hs (timR hs near)).length ≤ 2000; omega))).trans ?_))
      rfl
    generalize atR (vtT k) hs (timR hs near) = now at *
    have hok := hg.ok hvt.2
    have hput := putT_some hg hvt.2 (by omega)
    have hpo : putOk now = true := by unfold putOk; rw [hput]; rfl
    have hpe : putE now = 0 := by unfold putE; rw [hpo]; rfl
    have hbl := putT_len hput
    generalize putB now = b at *
    have lp := bkLoop (n := vtT k) (hs := hs) (now := now) (bl := !putOk now) (b := b) (e := putE now) (by omega) now.length 0 0 (by omega)
    rw [List.drop_zero, hpe] at lp
    rw [hpe] at hin1
    have hm1 := mx_ge now 0
    have hm2 := mx_in now 0 hok
    have hm3 := hm1.2 hok
    have hmt : mxF now 0 < 4294967296 := by
      rcases hm2 with h | ⟨e, he, h⟩
      · omega
      · have := hok e he
        unfold edOk at this
        omega
    generalize mxF now 0 = top at *
    have r1 : readOk (vtT k) b = true := (readOk_iff hput hok (by omega) (by omega)).2 fun e he => (hg.edge e he).2.2
    have r2 : readOk (top + 1) b = true := (readOk_iff hput hok (by omega) (by omega)).2 fun e he => by have := hm3 e he; omega
    have r3 : readOk top b = decide (now.length = 0) := by
      by_cases h0 : now.length = 0
      · rw [decide_eq_true h0]
        have : now = [] := List.eq_nil_of_length_eq_zero h0
        exact (readOk_iff hput hok (by omega) (by omega)).2 fun e he => by rw [this] at he; simp at he
      · rw [decide_eq_false h0]
        cases hq : readOk top b with
        | false => rfl
        | true =>
          exfalso
          have h1 := (readOk_iff hput hok (by omega) (by omega)).1 hq
          rcases hm2 with h | ⟨e, he, h⟩
          · cases now with
            | nil => exact h0 rfl
            | cons x t =>
              have h2 := h1 x (by simp)
              have h3 := hok x (by simp)
              unfold edOk at h3
              omega
          · have := h1 e he
            omega
    have ed : ∀ m, (∀ e ∈ now, e.2 < m) → edT m b true = (now, [], true) := fun m hm => edBack hput hok (by omega) hm
    have L1 : readL (vtT k) b = now := by unfold readL; rw [r1, ed _ fun e he => (hg.edge e he).2.2]; rfl
    have L2 : readL (top + 1) b = now := by unfold readL; rw [r2, ed _ fun e he => by have := hm3 e he; omega]; rfl
    have E1 : readE (vtT k) b = 0 := by unfold readE; rw [r1]; rfl
    have E2 : readE (top + 1) b = 0 := by unfold readE; rw [r2]; rfl
    have ew : IntKind.u64.wrap (top + 1) = top + 1 := u64_id (by omega) (by omega)
    have hol : ∀ m, (edT m b true).1.length ≤ 2000 := fun m => Nat.le_trans (edT_out m b true) (by omega)
    have E3 : (readE top b == 0) = ((now.length : Int) == 0) := by
      unfold readE
      rw [r3]
      by_cases h0 : now.length = 0
      · rw [decide_eq_true h0, h0]; rfl
      · rw [decide_eq_false h0]
        show false = _
        symm
        simp
        intro h
        exact h0 (by rw [h]; rfl)
    have hout : Goes VL 4 (fnPl VL 4) ((fnPl VL 4).past VL 4 0 (.exit 0) (bkE (vtT k) hs now (!putOk now) b 0 top)) .ret (mkSt 103 [(6, vS (.bool true))] []) := by
      refine Goes.now fun rec H L => (bkOut rec H L (vtT k) _ hs _ now _ b 0 top).trans ?_
      have d1 : decide (b.length ≤ 3000) = true := decide_eq_true (by omega)
      have d2 : ∀ m, decide ((edT m b true).1.length ≤ 2000) = true := fun m => decide_eq_true (hol m)
      rw [ew, d1, d2, d2, d2, E1, E2, L1, L2, E3]
      have d3 : decide (now.length ≤ 1000000) = true := decide_eq_true (by omega)
      show br true (br true (br true (br true (br true (br true (br (decide (now.length ≤ 1000000)) (br (!!sameE now now) (br true (br (decide (now.length ≤ 1000000)) (br (!sameE now now) _ (br true (br true (H .ret (mkSt 103 [(6, vS (.bool (((now.length : Int) == 0) == ((now.length : Int) == 0))))] [])) none) none)) none) _) _) none) _) _) none) none) none) none = _
      rw [d3, sameE_refl, beq_self_eq_true]
      rfl
    exact Goes.call (Goes.of hin1 (Goes.loop lp hout (by kernel_rfl) (by kernel_rfl) rfl)) fin (by kernel_rfl)
  · exact Goes.call (Goes.now fun rec H L => (bkIn rec H L k nl l near).trans (br_pos (decide_eq_true (by omega)))) fin (by kernel_rfl)
theorem okd_u8 {l : List Int} (h : ∀ x ∈ l, okd (.int .u8) x) : ∀ x ∈ l, 0 ≤ x ∧ x < 256 := fun x hx => wf_u8 (h x hx)
theorem bkWalk (k near : Int) (hk : (Lit.int .u8 k).wf = true) (hr : (Lit.int .u8 near).wf = true) {nl : Bool} {l : List Int} {u : Value} (w : World) (hrow : IsRow ((CL.int .u8).sees (memOf w) (memOf w)) 1 nl l u) (hl : ∀ x ∈ l, okd (.int .u8) x) :
    Calls Go.Proofs.Try.prog 4 #[.int .u8 k, u, .int .u8 near] w fun e w' => e = .returned (.bool true) ∧ Below w.heap.size w w' := by
  obtain ⟨j, hj⟩ := bkCall (nl := nl) (wf_u8 hk) (okd_u8 hl) (wf_u8 hr)
  exact law_of (V := VL) (bx := []) mix (sokL _ rfl rfl) (M := memOf w) (fun _ _ _ h => h) (xs := [wS .u8 k, bS nl l, wS .u8 near]) ⟨⟨rfl, rfl⟩, hrow, ⟨rfl, rfl⟩, trivial⟩ hj
end Go.Proofs.Ythiaaaedfidnjaa.Aj
