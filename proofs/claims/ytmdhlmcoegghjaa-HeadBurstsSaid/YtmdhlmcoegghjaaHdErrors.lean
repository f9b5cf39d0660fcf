/- What the functions come to, by the evaluator. Conditions: none; checked here. -/
import Derived.Test.YtmdhlmcoegghjaaHdC
import Derived.ProofKit
set_option linter.unusedVariables false
set_option linter.unusedSimpArgs false

namespace Go.Proofs.Ytmdhlmcoegghjaa.Hd
open Go Go.Proofs.Ytmdhlmcoegghjaa.Am Go.RowKit
set_option linter.unusedVariables false
set_option linter.unusedSimpArgs false
set_option maxRecDepth 100000
theorem erTT (rec : Rec) (H : K) (L : Nat → St → Option Res) (n k c cut : Int) :
    fnWay VH 6 [wS .u64 n, wS .u32 k, wS .u32 c, .c (vC (.bool true)), .c (vC (.bool true)), wS .u8 cut] rec H L =
  br (leR ((IntKind.i64.wrap cut).tmod 24) ((sealR ((hdB n k c).set (Int.toNat 3) 50)).set (Int.toNat 20) (IntKind.u8.wrap (nth (CL.int IntKind.u8) (sealR ((hdB n k c).set (Int.toNat 3) 50)) (Int.toNat 20) + 1))).length) (
    H .ret (mkSt 100 [(12, vS (.bool (readE (okP (List.take ((IntKind.i64.wrap cut).tmod 24).toNat ((sealR ((hdB n k c).set (Int.toNat 3) 50)).set (Int.toNat 20) (IntKind.u8.wrap (nth (CL.int IntKind.u8) (sealR ((hdB n k c).set (Int.toNat 3) 50)) (Int.toNat 20) + 1))))) (List.take ((IntKind.i64.wrap cut).tmod 24).toNat ((sealR ((hdB n k c).set (Int.toNat 3) 50)).set (Int.toNat 20) (IntKind.u8.wrap (nth (CL.int IntKind.u8) (sealR ((hdB n k c).set (Int.toNat 3) 50)) (Int.toNat 20) + 1)))) == 20)))] [])) (
    none) := by kernel_rfl
theorem erTF (rec : Rec) (H : K) (L : Nat → St → Option Res) (n k c cut : Int) :
    fnWay VH 6 [wS .u64 n, wS .u32 k, wS .u32 c, .c (vC (.bool true)), .c (vC (.bool false)), wS .u8 cut] rec H L =
  br (leR ((IntKind.i64.wrap cut).tmod 24) (sealR ((hdB n k c).set (Int.toNat 3) 50)).length) (
    H .ret (mkSt 100 [(12, vS (.bool (readE (okP (List.take ((IntKind.i64.wrap cut).tmod 24).toNat (sealR ((hdB n k c).set (Int.toNat 3) 50)))) (List.take ((IntKind.i64.wrap cut).tmod 24).toNat (sealR ((hdB n k c).set (Int.toNat 3) 50))) == 20)))] [])) (
    none) := by kernel_rfl
theorem erFT (rec : Rec) (H : K) (L : Nat → St → Option Res) (n k c cut : Int) :
    fnWay VH 6 [wS .u64 n, wS .u32 k, wS .u32 c, .c (vC (.bool false)), .c (vC (.bool true)), wS .u8 cut] rec H L =
  br (leR ((IntKind.i64.wrap cut).tmod 24) ((sealR (hdB n k c)).set (Int.toNat 20) (IntKind.u8.wrap (nth (CL.int IntKind.u8) (sealR (hdB n k c)) (Int.toNat 20) + 1))).length) (
    br (readE (okP ((sealR (hdB n k c)).set (Int.toNat 20) (IntKind.u8.wrap (nth (CL.int IntKind.u8) (sealR (hdB n k c)) (Int.toNat 20) + 1)))) ((sealR (hdB n k c)).set (Int.toNat 20) (IntKind.u8.wrap (nth (CL.int IntKind.u8) (sealR (hdB n k c)) (Int.toNat 20) + 1))) == 28) (
      H .ret (mkSt 100 [(12, vS (.bool (readE (okP (List.take ((IntKind.i64.wrap cut).tmod 24).toNat ((sealR (hdB n k c)).set (Int.toNat 20) (IntKind.u8.wrap (nth (CL.int IntKind.u8) (sealR (hdB n k c)) (Int.toNat 20) + 1))))) (List.take ((IntKind.i64.wrap cut).tmod 24).toNat ((sealR (hdB n k c)).set (Int.toNat 20) (IntKind.u8.wrap (nth (CL.int IntKind.u8) (sealR (hdB n k c)) (Int.toNat 20) + 1)))) == 20)))] [])) (
      H .ret (mkSt 100 [(12, vS (.bool false))] []))) (
    none) := by kernel_rfl
theorem erFF (rec : Rec) (H : K) (L : Nat → St → Option Res) (n k c cut : Int) :
    fnWay VH 6 [wS .u64 n, wS .u32 k, wS .u32 c, .c (vC (.bool false)), .c (vC (.bool false)), wS .u8 cut] rec H L =
  br (leR ((IntKind.i64.wrap cut).tmod 24) (sealR (hdB n k c)).length) (
    br (!decide (n > 4294967296)) (
      br (!decide (k < 1)) (
        br (!decide (k > 1048576)) (
          br (decide (c > 2147483648)) (
            br (readE (okP (sealR (hdB n k c))) (sealR (hdB n k c)) == 26) (
              H .ret (mkSt 100 [(12, vS (.bool (readE (okP (List.take ((IntKind.i64.wrap cut).tmod 24).toNat (sealR (hdB n k c)))) (List.take ((IntKind.i64.wrap cut).tmod 24).toNat (sealR (hdB n k c))) == 20)))] [])) (
              H .ret (mkSt 100 [(12, vS (.bool false))] []))) (
            br (readE (okP (sealR (hdB n k c))) (sealR (hdB n k c)) == 0) (
              br ((rdZ (okP (sealR (hdB n k c))) (sealR (hdB n k c)) (readN (sealR (hdB n k c))), rdZ (okP (sealR (hdB n k c))) (sealR (hdB n k c)) (readKI (sealR (hdB n k c))), rdZ (okP (sealR (hdB n k c))) (sealR (hdB n k c)) (readCI (sealR (hdB n k c)))).fst == n && ((rdZ (okP (sealR (hdB n k c))) (sealR (hdB n k c)) (readN (sealR (hdB n k c))), rdZ (okP (sealR (hdB n k c))) (sealR (hdB n k c)) (readKI (sealR (hdB n k c))), rdZ (okP (sealR (hdB n k c))) (sealR (hdB n k c)) (readCI (sealR (hdB n k c)))).snd.fst == IntKind.i64.wrap k && ((rdZ (okP (sealR (hdB n k c))) (sealR (hdB n k c)) (readN (sealR (hdB n k c))), rdZ (okP (sealR (hdB n k c))) (sealR (hdB n k c)) (readKI (sealR (hdB n k c))), rdZ (okP (sealR (hdB n k c))) (sealR (hdB n k c)) (readCI (sealR (hdB n k c)))).snd.snd == IntKind.i64.wrap c && true))) (
                H .ret (mkSt 100 [(12, vS (.bool (readE (okP (List.take ((IntKind.i64.wrap cut).tmod 24).toNat (sealR (hdB n k c)))) (List.take ((IntKind.i64.wrap cut).tmod 24).toNat (sealR (hdB n k c))) == 20)))] [])) (
                H .ret (mkSt 100 [(12, vS (.bool false))] []))) (
              H .ret (mkSt 100 [(12, vS (.bool false))] [])))) (
          br (readE (okP (sealR (hdB n k c))) (sealR (hdB n k c)) == 26) (
            H .ret (mkSt 100 [(12, vS (.bool (readE (okP (List.take ((IntKind.i64.wrap cut).tmod 24).toNat (sealR (hdB n k c)))) (List.take ((IntKind.i64.wrap cut).tmod 24).toNat (sealR (hdB n k c))) == 20)))] [])) (
            H .ret (mkSt 100 [(12, vS (.bool false))] [])))) (
        br (readE (okP (sealR (hdB n k c))) (sealR (hdB n k c)) == 26) (
          H .ret (mkSt 100 [(12, vS (.bool (readE (okP (List.take ((IntKind.i64.wrap cut).tmod 24).toNat (sealR (hdB n k c)))) (List.take ((IntKind.i64.wrap cut).tmod 24).toNat (sealR (hdB n k c))) == 20)))] [])) (
          H .ret (mkSt 100 [(12, vS (.bool false))] [])))) (
      br (readE (okP (sealR (hdB n k c))) (sealR (hdB n k c)) == 26) (
        H .ret (mkSt 100 [(12, vS (.bool (readE (okP (List.take ((IntKind.i64.wrap cut).tmod 24).toNat (sealR (hdB n k c)))) (List.take ((IntKind.i64.wrap cut).tmod 24).toNat (sealR (hdB n k c))) == 20)))] [])) (
        H .ret (mkSt 100 [(12, vS (.bool false))] [])))) (
    none) := by kernel_rfl
end Go.Proofs.Ytmdhlmcoegghjaa.Hd

namespace Go.Proofs.Ytmdhlmcoegghjaa.Hd
open Go Go.Proofs.Ytmdhlmcoegghjaa.Am Go.RowKit
set_option linter.unusedVariables false
set_option linter.unusedSimpArgs false
set_option maxRecDepth 100000
theorem hdB_eq (n k c : Int) : hdB n k c = 84 :: 71 :: 88 :: 49 :: (fixL n (Int.toNat 8) ++ (fixL (w64u k) (Int.toNat 4) ++ fixL (w64u c) (Int.toNat 4))) := by
  unfold hdB
  simp only [List.append_assoc]
  rfl
theorem hdB_len (n k c : Int) : (hdB n k c).length = 20 := by
  rw [hdB_eq]
  simp only [List.length_cons, List.length_append, fixL_len]
  rfl
theorem sealR_len (xs : List Int) : (sealR xs).length = xs.length + 4 := by
  unfold sealR
  rw [List.length_append]
  show xs.length + (fixL _ 4).length = _
  rw [fixL_len]
theorem seal_take {xs : List Int} (hl : xs.length = 20) : (sealR xs).take 20 = xs := by
  unfold sealR
  rw [List.take_append_of_le_length (by omega), ← hl, List.take_length]
theorem hdB_take {n k c : Int} (hk : in32 k) (hc : in32 c) (hn : 0 ≤ n ∧ n < 18446744073709551616) (ys : List Int) :
    magicB (hdB n k c ++ ys) = true ∧ readN (hdB n k c ++ ys) = n ∧ readKI (hdB n k c ++ ys) = k ∧ readCI (hdB n k c ++ ys) = c := by
  have hf8 := num_fix8 hn.1 hn.2
  have hwk : w64u k = k := wu64_id hk.1 (by have := hk.2; omega)
  have hwc : w64u c = c := wu64_id hc.1 (by have := hc.2; omega)
  have hk4 := num_fix4 hk.1 hk.2
  have hc4 := num_fix4 hc.1 hc.2
  rw [hdB_eq, hwk, hwc]
  rw [fix8] at hf8 ⊢
  rw [fix4] at hk4 hc4 ⊢
  rw [fix4]
  refine ⟨by kernel_rfl, hf8, ?_, ?_⟩
  · show IntKind.i64.wrap (numI [k % 256, k / 256 % 256, k / 65536 % 256, k / 16777216 % 256]) = k
    rw [hk4, w64_id (by have := hk.1; omega) (by have := hk.2; omega)]
  · show IntKind.i64.wrap (numI [c % 256, c / 256 % 256, c / 65536 % 256, c / 16777216 % 256]) = c
    rw [hc4, w64_id (by have := hc.1; omega) (by have := hc.2; omega)]
theorem okP_seal {xs : List Int} (hl : xs.length = 20) : okP (sealR xs) = true := by
  unfold okP
  refine decide_eq_true ?_
  rw [seal_take hl, seal_eq]
  have : (sealR xs).length = 24 := by rw [sealR_len, hl]
  rw [← this, List.take_length]
theorem short20 (g : Bool) {ys : List Int} (h : ys.length < 24) : readE g ys = 20 := by
  unfold readE
  rw [decide_eq_true h]
  rfl
theorem magic_congr {xs ys : List Int} (h : xs.take 4 = ys.take 4) : magicB xs = magicB ys := by
  unfold magicB
  rw [show List.take (Int.toNat 4) xs = List.take (Int.toNat 4) ys from h]
theorem cut_ok {cut : Int} (h : 0 ≤ cut ∧ cut < 256) : 0 ≤ (IntKind.i64.wrap cut).tmod 24 ∧ (IntKind.i64.wrap cut).tmod 24 < 24 := by
  rw [w64_id (by omega) (by omega), Int.tmod_eq_emod_of_nonneg h.1]
  omega
theorem cut20 (g : Bool) {cut : Int} (h : 0 ≤ cut ∧ cut < 256) (ys : List Int) : (readE g (List.take ((IntKind.i64.wrap cut).tmod 24).toNat ys) == 20) = true := by
  have := cut_ok h
  rw [short20 g (by rw [List.length_take]; omega)]
  rfl
theorem cutR {cut : Int} (h : 0 ≤ cut ∧ cut < 256) {ys : List Int} (hl : 24 ≤ ys.length) : leR ((IntKind.i64.wrap cut).tmod 24) ys.length = true := by
  have := cut_ok h
  exact leR_yes (by omega) (by omega)
theorem erCall {n k c cut : Int} (magic sum : Bool) (hn : 0 ≤ n ∧ n < 18446744073709551616) (hk : in32 k) (hc : in32 c) (hcut : 0 ≤ cut ∧ cut < 256) :
    ∃ m, call VH m 6 [wS .u64 n, wS .u32 k, wS .u32 c, .c (vC (.bool magic)), .c (vC (.bool sum)), wS .u8 cut] = some (vS (.bool true), []) := by
  have hl := hdB_len n k c
  have hl24 : (sealR (hdB n k c)).length = 24 := by rw [sealR_len, hl]
  have leaf : ∀ {b : Bool} {H : K}, b = true → H .ret (mkSt 100 [(12, vS (.bool b))] []) = H .ret (mkSt 100 [(12, vS (.bool true))] []) := fun h => by rw [h]
  have hmr := hdB_take hk hc hn (fixL (w64u (sumR [(false, hdB n k c)])) 4)
  change magicB (sealR (hdB n k c)) = true ∧ readN (sealR (hdB n k c)) = n ∧ readKI (sealR (hdB n k c)) = k ∧ readCI (sealR (hdB n k c)) = c at hmr
  have fin : finK VH.P (VH.sig 6) (funcOf VH.P 6) .ret (mkSt 100 [(12, vS (.bool true))] []) = some (vS (.bool true), []) := by kernel_rfl
  cases magic with
  | true => cases sum with
    | true => exact Goes.call (Goes.now fun rec H L => (erTT rec H L n k c cut).trans ((br_pos (cutR hcut (by rw [List.length_set, sealR_len, List.length_set, hl]; omega))).trans (leaf (cut20 _ hcut _)))) fin (by kernel_rfl)
    | false => exact Goes.call (Goes.now fun rec H L => (erTF rec H L n k c cut).trans ((br_pos (cutR hcut (by rw [sealR_len, List.length_set, hl]; omega))).trans (leaf (cut20 _ hcut _)))) fin (by kernel_rfl)
  | false => cases sum with
    | true =>
      refine Goes.call (Goes.now fun rec H L => (erFT rec H L n k c cut).trans ((br_pos (cutR hcut (by rw [List.length_set, hl24]; omega))).trans ((br_pos ?_).trans (leaf (cut20 _ hcut _))))) fin (by kernel_rfl)
      -- a byte of the sum is another one
      generalize hX : sealR (hdB n k c) = X at hl24 hmr
      generalize hy : IntKind.u8.wrap (nth (CL.int IntKind.u8) X (Int.toNat 20) + 1) = y
      have hX20 : X.take 20 = hdB n k c := by rw [← hX]; exact seal_take hl
      have h4 : (X.set 20 y).take 4 = X.take 4 := by
        rw [List.take_set_of_le (by omega)]
      have hmag : magicB (X.set (Int.toNat 20) y) = true := by
        rw [← hmr.1]
        exact magic_congr h4
      have hin : inB X := by
        rw [← hX]
        refine inB_append (inB_append (inB_append (inB_append ?_ fixL_in) fixL_in) fixL_in) fixL_in
        intro x hx
        simp at hx
        omega
      have hok : okP (X.set (Int.toNat 20) y) = false := by
        unfold okP
        refine decide_eq_false fun hh => ?_
        change sealP ((X.set 20 y).take 20) = (X.set 20 y).take 24 at hh
        rw [List.take_set_of_le (by omega), hX20, seal_eq, hX, List.take_of_length_le (by rw [List.length_set, hl24]; omega)] at hh
        have h20 : X[20]? = (X.set 20 y)[20]? := by rw [← hh]
        rw [List.getElem?_set_self (by omega), List.getElem?_eq_getElem (by omega)] at h20
        have hx := hin X[20] (List.getElem_mem _)
        have hy2 : IntKind.u8.wrap (X[20] + 1) = y := by
          rw [← hy]
          unfold nth
          rw [List.getD_eq_getElem?_getD, show Int.toNat 20 = 20 from rfl, List.getElem?_eq_getElem (by omega)]
          rfl
        rw [wu8_eq] at hy2
        have : X[20] = y := by simpa using h20
        omega
      rw [hok]
      unfold readE
      rw [hmag, decide_eq_false (by rw [List.length_set, hl24]; omega)]
      rfl
    | false =>
      have hok := okP_seal hl
      have hE : readE (okP (sealR (hdB n k c))) (sealR (hdB n k c)) = bif rightB n k c then 0 else 26 := by
        unfold readE
        rw [hok, hmr.1, hmr.2.1, hmr.2.2.1, hmr.2.2.2, decide_eq_false (by rw [hl24]; omega)]
        rfl
      refine Goes.call (Goes.now fun rec H L => (erFF rec H L n k c cut).trans ((br_pos (cutR hcut (by omega))).trans ?_)) fin (by kernel_rfl)
      have bad : rightB n k c = false → ∀ {A B : Option Res}, br (readE (okP (sealR (hdB n k c))) (sealR (hdB n k c)) == 26) A B = A := fun h => by
        intro A B
        rw [hE, h]
        rfl
      refine br_eqs (fun c1 => ?_) (fun c1 => ?_)
      · refine br_eqs (fun c2 => ?_) (fun c2 => ?_)
        · refine br_eqs (fun c3 => ?_) (fun c3 => ?_)
          · refine br_eqs (fun c4 => ?_) (fun c4 => ?_)
            · rw [bad (by
                have := of_decide_eq_true c4
                simp only [rightB, Bool.and_eq_false_iff, decide_eq_false_iff_not]
                omega)]
              exact leaf (cut20 _ hcut _)
            · have hr : rightB n k c = true := by
                simp only [Bool.not_eq_true', decide_eq_false_iff_not] at c1 c2 c3 c4
                simp only [rightB, Bool.and_eq_true, decide_eq_true_eq]
                have := hc.1
                omega
              rw [hr] at hE
              have hz : ∀ v, rdZ (okP (sealR (hdB n k c))) (sealR (hdB n k c)) v = v := fun v => by
                unfold rdZ
                rw [hE]
                rfl
              rw [hE, hz, hz, hz, hmr.2.1, hmr.2.2.1, hmr.2.2.2, w64_id (x := k) (by have := hk.1; omega) (by have := hk.2; omega), w64_id (x := c) (by have := hc.1; omega) (by have := hc.2; omega)]
              simp only [beq_self_eq_true, Bool.and_self, br_t]
              exact leaf (cut20 _ hcut _)
          · rw [bad (by
              simp only [Bool.not_eq_false', decide_eq_true_eq] at c3
              simp only [rightB, Bool.and_eq_false_iff, decide_eq_false_iff_not]
              omega)]
            exact leaf (cut20 _ hcut _)
        · rw [bad (by
            simp only [Bool.not_eq_false', decide_eq_true_eq] at c2
            simp only [rightB, Bool.and_eq_false_iff, decide_eq_false_iff_not]
            omega)]
          exact leaf (cut20 _ hcut _)
      · rw [bad (by
          simp only [Bool.not_eq_false', decide_eq_true_eq] at c1
          simp only [rightB, Bool.and_eq_false_iff, decide_eq_false_iff_not]
          omega)]
        exact leaf (cut20 _ hcut _)
theorem wf_u8 {x : Int} (h : (Lit.int .u8 x).wf = true) : 0 ≤ x ∧ x < 256 := by
  have : 0 ≤ x ∧ x ≤ 255 := by simpa [Lit.wf, IntKind.min, IntKind.max, IntKind.signed, IntKind.bits] using h
  omega
theorem wf_u32 {x : Int} (h : (Lit.int .u32 x).wf = true) : 0 ≤ x ∧ x < 4294967296 := by
  have : 0 ≤ x ∧ x ≤ 4294967295 := by simpa [Lit.wf, IntKind.min, IntKind.max, IntKind.signed, IntKind.bits] using h
  omega
theorem wf_u64 {x : Int} (h : (Lit.int .u64 x).wf = true) : 0 ≤ x ∧ x < 18446744073709551616 := by
  have : 0 ≤ x ∧ x ≤ 18446744073709551615 := by simpa [Lit.wf, IntKind.min, IntKind.max, IntKind.signed, IntKind.bits] using h
  omega
theorem erWalk (n k c : Int) (magic sum : Bool) (cut : Int) (hn : (Lit.int .u64 n).wf = true) (hk : (Lit.int .u32 k).wf = true) (hc : (Lit.int .u32 c).wf = true) (hcut : (Lit.int .u8 cut).wf = true) (w : World) :
    Calls Go.Proofs.Try.prog 6 #[.int .u64 n, .int .u32 k, .int .u32 c, .bool magic, .bool sum, .int .u8 cut] w fun e w' => e = .returned (.bool true) ∧ Below w.heap.size w w' := by
  obtain ⟨m, hm⟩ := erCall magic sum (wf_u64 hn) (wf_u32 hk) (wf_u32 hc) (wf_u8 hcut)
  exact law_of (V := VH) (bx := []) mix (sokH _ rfl rfl) (M := fun _ _ => none) (fun _ _ _ h => by simp at h) (xs := [wS .u64 n, wS .u32 k, wS .u32 c, .c (vC (.bool magic)), .c (vC (.bool sum)), wS .u8 cut]) ⟨⟨rfl, rfl⟩, ⟨rfl, rfl⟩, ⟨rfl, rfl⟩, ⟨rfl, rfl⟩, ⟨rfl, rfl⟩, ⟨rfl, rfl⟩, trivial⟩ hm
end Go.Proofs.Ytmdhlmcoegghjaa.Hd
