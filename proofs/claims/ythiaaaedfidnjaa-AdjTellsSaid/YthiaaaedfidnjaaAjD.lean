/- What the functions come to, by the evaluator. Conditions: none; checked here. -/
import Derived.Test.YthiaaaedfidnjaaAjB
import Derived.ProofKit
import Derived.Test.YthiaaaedfidnjaaAjA
set_option linter.unusedVariables false
set_option linter.unusedSimpArgs false

namespace Go.Proofs.Ythiaaaedfidnjaa.Aj
open Go Go.Proofs.Ythiaaaedfidnjaa.Am Go.RowKit
set_option linter.unusedVariables false
set_option linter.unusedSimpArgs false
set_option maxRecDepth 100000
noncomputable def V11 : Env := V l11
noncomputable def V12 : Env := V l12
theorem vtIn (rec : Rec) (H : K) (L : Nat → St → Option Res) (k : Int) :
    fnWay V0 17 [wS .u8 k] rec H L =
  br (inR (k.tmod 8) [8, 5, 2, 4294967296, 300, 12, 1048576, 3].length) (
    H .ret (mkSt 8 [(2, vS (.int .u64 (nth (CL.int IntKind.u64) [8, 5, 2, 4294967296, 300, 12, 1048576, 3] (k.tmod 8).toNat)))] [])) (
    none) := by kernel_rfl
theorem edgIn (rec : Rec) (H : K) (L : Nat → St → Option Res) (a b n : Int) :
    fnWay V0 18 [wS .u8 a, wS .u8 b, wS .u64 n] rec H L =
  br (decide ((if 9 < n then 9 else n) = 0)) (
    none) (
    br (decide ((if 9 < n then 9 else n) = 0)) (
      none) (
      br (decide (a > 230)) (
        br (decide (b > 240)) (
          br (IntKind.u64.wrap (IntKind.u64.wrap (n - 1) - (IntKind.u64.wrap a).tmod (if 9 < n then 9 else n)) == IntKind.u64.wrap (IntKind.u64.wrap (n - 1) - (IntKind.u64.wrap b).tmod (if 9 < n then 9 else n))) (
            H .ret (mkSt 46 [(6, .s (.c (⟨.ro, AV.ptr 0 0⟩))), (7, vS (.bool false))] [[vC (.int .u32 0), vC (.int .u32 0)]])) (
            H .ret (mkSt 46 [(6, .s (.c (⟨.ro, AV.ptr 0 0⟩))), (7, vS (.bool true))] [[vC (.int .u32 (IntKind.u32.wrap (if IntKind.u64.wrap (IntKind.u64.wrap (n - 1) - (IntKind.u64.wrap b).tmod (if 9 < n then 9 else n)) < IntKind.u64.wrap (IntKind.u64.wrap (n - 1) - (IntKind.u64.wrap a).tmod (if 9 < n then 9 else n)) then IntKind.u64.wrap (IntKind.u64.wrap (n - 1) - (IntKind.u64.wrap b).tmod (if 9 < n then 9 else n)) else IntKind.u64.wrap (IntKind.u64.wrap (n - 1) - (IntKind.u64.wrap a).tmod (if 9 < n then 9 else n))))), vC (.int .u32 (IntKind.u32.wrap (if IntKind.u64.wrap (IntKind.u64.wrap (n - 1) - (IntKind.u64.wrap b).tmod (if 9 < n then 9 else n)) > IntKind.u64.wrap (IntKind.u64.wrap (n - 1) - (IntKind.u64.wrap a).tmod (if 9 < n then 9 else n)) then IntKind.u64.wrap (IntKind.u64.wrap (n - 1) - (IntKind.u64.wrap b).tmod (if 9 < n then 9 else n)) else IntKind.u64.wrap (IntKind.u64.wrap (n - 1) - (IntKind.u64.wrap a).tmod (if 9 < n then 9 else n)))))]]))) (
          br (IntKind.u64.wrap (IntKind.u64.wrap (n - 1) - (IntKind.u64.wrap a).tmod (if 9 < n then 9 else n)) == (IntKind.u64.wrap b).tmod (if 9 < n then 9 else n)) (
            H .ret (mkSt 46 [(6, .s (.c (⟨.ro, AV.ptr 0 0⟩))), (7, vS (.bool false))] [[vC (.int .u32 0), vC (.int .u32 0)]])) (
            H .ret (mkSt 46 [(6, .s (.c (⟨.ro, AV.ptr 0 0⟩))), (7, vS (.bool true))] [[vC (.int .u32 (IntKind.u32.wrap (if (IntKind.u64.wrap b).tmod (if 9 < n then 9 else n) < IntKind.u64.wrap (IntKind.u64.wrap (n - 1) - (IntKind.u64.wrap a).tmod (if 9 < n then 9 else n)) then (IntKind.u64.wrap b).tmod (if 9 < n then 9 else n) else IntKind.u64.wrap (IntKind.u64.wrap (n - 1) - (IntKind.u64.wrap a).tmod (if 9 < n then 9 else n))))), vC (.int .u32 (IntKind.u32.wrap (if (IntKind.u64.wrap b).tmod (if 9 < n then 9 else n) > IntKind.u64.wrap (IntKind.u64.wrap (n - 1) - (IntKind.u64.wrap a).tmod (if 9 < n then 9 else n)) then (IntKind.u64.wrap b).tmod (if 9 < n then 9 else n) else IntKind.u64.wrap (IntKind.u64.wrap (n - 1) - (IntKind.u64.wrap a).tmod (if 9 < n then 9 else n)))))]])))) (
        br (decide (b > 240)) (
          br ((IntKind.u64.wrap a).tmod (if 9 < n then 9 else n) == IntKind.u64.wrap (IntKind.u64.wrap (n - 1) - (IntKind.u64.wrap b).tmod (if 9 < n then 9 else n))) (
            H .ret (mkSt 46 [(6, .s (.c (⟨.ro, AV.ptr 0 0⟩))), (7, vS (.bool false))] [[vC (.int .u32 0), vC (.int .u32 0)]])) (
            H .ret (mkSt 46 [(6, .s (.c (⟨.ro, AV.ptr 0 0⟩))), (7, vS (.bool true))] [[vC (.int .u32 (IntKind.u32.wrap (if IntKind.u64.wrap (IntKind.u64.wrap (n - 1) - (IntKind.u64.wrap b).tmod (if 9 < n then 9 else n)) < (IntKind.u64.wrap a).tmod (if 9 < n then 9 else n) then IntKind.u64.wrap (IntKind.u64.wrap (n - 1) - (IntKind.u64.wrap b).tmod (if 9 < n then 9 else n)) else (IntKind.u64.wrap a).tmod (if 9 < n then 9 else n)))), vC (.int .u32 (IntKind.u32.wrap (if IntKind.u64.wrap (IntKind.u64.wrap (n - 1) - (IntKind.u64.wrap b).tmod (if 9 < n then 9 else n)) > (IntKind.u64.wrap a).tmod (if 9 < n then 9 else n) then IntKind.u64.wrap (IntKind.u64.wrap (n - 1) - (IntKind.u64.wrap b).tmod (if 9 < n then 9 else n)) else (IntKind.u64.wrap a).tmod (if 9 < n then 9 else n))))]]))) (
          br ((IntKind.u64.wrap a).tmod (if 9 < n then 9 else n) == (IntKind.u64.wrap b).tmod (if 9 < n then 9 else n)) (
            H .ret (mkSt 46 [(6, .s (.c (⟨.ro, AV.ptr 0 0⟩))), (7, vS (.bool false))] [[vC (.int .u32 0), vC (.int .u32 0)]])) (
            H .ret (mkSt 46 [(6, .s (.c (⟨.ro, AV.ptr 0 0⟩))), (7, vS (.bool true))] [[vC (.int .u32 (IntKind.u32.wrap (if (IntKind.u64.wrap b).tmod (if 9 < n then 9 else n) < (IntKind.u64.wrap a).tmod (if 9 < n then 9 else n) then (IntKind.u64.wrap b).tmod (if 9 < n then 9 else n) else (IntKind.u64.wrap a).tmod (if 9 < n then 9 else n)))), vC (.int .u32 (IntKind.u32.wrap (if (IntKind.u64.wrap b).tmod (if 9 < n then 9 else n) > (IntKind.u64.wrap a).tmod (if 9 < n then 9 else n) then (IntKind.u64.wrap b).tmod (if 9 < n then 9 else n) else (IntKind.u64.wrap a).tmod (if 9 < n then 9 else n))))]])))))) := by kernel_rfl
theorem lessRIn (rec : Rec) (H : K) (L : Nat → St → Option Res) (a b c d : Int) :
    fnWay V0 24 [edA a b, edA c d] rec H L =
  br (!decide (a < c)) (
    br (a == c) (
      H .ret (mkSt 24 [(4, vS (.bool (decide (b < d))))] [])) (
      H .ret (mkSt 24 [(4, vS (.bool false))] []))) (
    H .ret (mkSt 24 [(4, vS (.bool true))] [])) := by kernel_rfl
theorem rightIn (rec : Rec) (H : K) (L : Nat → St → Option Res) (a b n : Int) :
    fnWay V0 39 [edA a b, wS .u64 n] rec H L =
  br (decide (a < b)) (
    H .ret (mkSt 17 [(4, vS (.bool (decide (IntKind.u64.wrap b < n))))] [])) (
    H .ret (mkSt 17 [(4, vS (.bool false))] [])) := by kernel_rfl
theorem findIn (rec : Rec) (H : K) (L : Nat → St → Option Res) (nl : Bool) (xs : List Ed) (a b : Int) :
    fnWay V0 33 [eS nl xs, edA a b] rec H L =
  L 0 (mkSt 19 [(0, .s (.c (⟨.ro, AV.sl ((CL.int IntKind.u32).cons (CL.int IntKind.u32)) nl xs⟩))), (3, .s (.c (⟨.ro, AV.ptr 0 0⟩))), (5, vS (.int .i64 0))] [[vC (.int .u32 a), vC (.int .u32 b)]]) := by kernel_rfl
theorem findRnd (rec : Rec) (H : K) (L : Nat → St → Option Res) (nl : Bool) (xs : List Ed) (a b i : Int) :
    ((fnPl V0 33).at V0 33 0).way V0 33 (mkSt 19 [(0, .s (eS nl xs)), (3, .s (.c ⟨.ro, .ptr 0 0⟩)), (5, vS (.int .i64 i))] [[vC (.int .u32 a), vC (.int .u32 b)]]) rec H L =
  br (decide (i < (↑xs.length : Int))) (
    br (inR i xs.length) (
      br ((nth eE xs i.toNat).fst == a && ((nth eE xs i.toNat).snd == b && true)) (
        H .ret (mkSt 19 [(4, vS (.int .i64 i))] [])) (
        H .normal (mkSt 19 [(0, .s (.c (⟨.ro, AV.sl ((CL.int IntKind.u32).cons (CL.int IntKind.u32)) nl xs⟩))), (3, .s (.c (⟨.ro, AV.ptr 0 0⟩))), (5, vS (.int .i64 (IntKind.i64.wrap (i + 1))))] [[vC (.int .u32 a), vC (.int .u32 b)]]))) (
      none)) (
    H (.exit 0) (mkSt 19 [] [])) := by kernel_rfl
theorem findOut (rec : Rec) (H : K) (L : Nat → St → Option Res) (z : Int) :
    (fnPl V0 33).past V0 33 0 (.exit 0) (mkSt 19 [] []) rec H L =
  H .ret (mkSt 19 [(4, vS (.int .i64 (-1)))] []) := by kernel_rfl
theorem befIn (rec : Rec) (H : K) (L : Nat → St → Option Res) (t a b : Int) (x : Bool) (t' c d : Int) (y : Bool) :
    fnWay V11 32 [evA (t, (a, b), x), evA (t', (c, d), y)] rec H L =
  br (!decide (t < t')) (
    br (t == t') (
      H .ret (mkSt 24 [(4, vS (.bool (lessR (((a, b), x).fst.fst, ((a, b), x).fst.snd) (((c, d), y).fst.fst, ((c, d), y).fst.snd))))] [])) (
      H .ret (mkSt 24 [(4, vS (.bool false))] []))) (
    H .ret (mkSt 24 [(4, vS (.bool true))] [])) := by kernel_rfl
theorem risRIn (rec : Rec) (H : K) (L : Nat → St → Option Res) (nl : Bool) (xs : List Ed) :
    fnWay V11 34 [eS nl xs] rec H L =
  L 0 (mkSt 21 [(0, .s (.c (⟨.ro, AV.sl ((CL.int IntKind.u32).cons (CL.int IntKind.u32)) nl xs⟩))), (3, vS (.int .i64 1))] []) := by kernel_rfl
theorem risRRnd (rec : Rec) (H : K) (L : Nat → St → Option Res) (nl : Bool) (xs : List Ed) (i : Int) :
    ((fnPl V11 34).at V11 34 0).way V11 34 (mkSt 21 [(0, .s (eS nl xs)), (3, vS (.int .i64 i))] []) rec H L =
  br (decide (i < (↑xs.length : Int))) (
    br (inR (IntKind.i64.wrap (i - 1)) xs.length) (
      br (inR i xs.length) (
        br (!lessR ((nth eE xs (IntKind.i64.wrap (i - 1)).toNat).fst, (nth eE xs (IntKind.i64.wrap (i - 1)).toNat).snd) ((nth eE xs i.toNat).fst, (nth eE xs i.toNat).snd)) (
          H .ret (mkSt 21 [(2, vS (.bool false))] [])) (
          H .normal (mkSt 21 [(0, .s (.c (⟨.ro, AV.sl ((CL.int IntKind.u32).cons (CL.int IntKind.u32)) nl xs⟩))), (3, vS (.int .i64 (IntKind.i64.wrap (i + 1))))] []))) (
        none)) (
      none)) (
    H (.exit 0) (mkSt 21 [] [])) := by kernel_rfl
theorem risROut (rec : Rec) (H : K) (L : Nat → St → Option Res) (z : Int) :
    (fnPl V11 34).past V11 34 0 (.exit 0) (mkSt 21 [] []) rec H L =
  H .ret (mkSt 21 [(2, vS (.bool true))] []) := by kernel_rfl
theorem hasIn (rec : Rec) (H : K) (L : Nat → St → Option Res) (nl : Bool) (xs : List Ed) (a b : Int) :
    fnWay V11 20 [eS nl xs, edA a b] rec H L =
  br (decide (xs.length ≤ 1000000)) (
    H .ret (mkSt 9 [(4, vS (.bool (decide (findR xs (a, b) ≥ 0))))] [])) (
    none) := by kernel_rfl
end Go.Proofs.Ythiaaaedfidnjaa.Aj

namespace Go.Proofs.Ythiaaaedfidnjaa.Aj
open Go Go.Proofs.Ythiaaaedfidnjaa.Am Go.RowKit
set_option linter.unusedVariables false
set_option linter.unusedSimpArgs false
set_option maxRecDepth 100000
/-! edges and events of the reference -/
theorem vtK (args : List S1) (r : Res) (h : (vtH args).den = some r) : ∃ n, call V0 n 17 args = some r := by
  unfold vtH at h
  split at h
  · rename_i k
    obtain ⟨hk, h⟩ := tree_yes h
    have hk := of_decide_eq_true hk
    obtain rfl := ok_some h
    exact Goes.call (Goes.now fun rec H L => (vtIn rec H L k).trans (br_pos (inR_yes (by rw [tmod_id hk]; omega) (by rw [tmod_id hk]; show k % 8 < ((8 : Nat) : Int); omega)))) (by kernel_rfl) (by kernel_rfl)
  · exact leaf_none h
theorem few_eq (n : Int) : (if 9 < n then 9 else n) = few n := by
  unfold few
  by_cases h : 9 < n
  · rw [if_pos h, decide_eq_true h]; rfl
  · rw [if_neg h, decide_eq_false h]; rfl
theorem few_bd {n : Int} (h : 1 ≤ n) : 1 ≤ few n ∧ few n ≤ 9 ∧ few n ≤ n := by
  unfold few
  by_cases h : 9 < n
  · rw [decide_eq_true h]; show 1 ≤ (9 : Int) ∧ (9 : Int) ≤ 9 ∧ 9 ≤ n; omega
  · rw [decide_eq_false h]; show 1 ≤ n ∧ n ≤ 9 ∧ n ≤ n; omega
theorem edgU_bd {a n : Int} (hn : 1 ≤ n) : 0 ≤ edgU a n ∧ edgU a n < n := by
  obtain ⟨h1, h2, h3⟩ := few_bd hn
  have h4 := Int.emod_nonneg a (show few n ≠ 0 by omega)
  have h5 := Int.emod_lt_of_pos a (show 0 < few n by omega)
  unfold edgU
  cases decide (a > 230)
  · show 0 ≤ a % few n ∧ a % few n < n; omega
  · show 0 ≤ n - 1 - a % few n ∧ n - 1 - a % few n < n; omega
theorem edgV_bd {a n : Int} (hn : 1 ≤ n) : 0 ≤ edgV a n ∧ edgV a n < n := by
  obtain ⟨h1, h2, h3⟩ := few_bd hn
  have h4 := Int.emod_nonneg a (show few n ≠ 0 by omega)
  have h5 := Int.emod_lt_of_pos a (show 0 < few n by omega)
  unfold edgV
  cases decide (a > 240)
  · show 0 ≤ a % few n ∧ a % few n < n; omega
  · show 0 ≤ n - 1 - a % few n ∧ n - 1 - a % few n < n; omega
abbrev edgEnd (a b : Int) (o : Bool) : St := mkSt 46 [(6, .s (.c (⟨.ro, AV.ptr 0 0⟩))), (7, vS (.bool o))] [[vC (.int .u32 a), vC (.int .u32 b)]]
theorem edgLeaf {x y a b n : Int} {H : K} (hx : edgU a n = x) (hy : edgV b n = y) (hn : 1 ≤ n) (hn2 : n ≤ 4294967296) :
    br (x == y) (H .ret (edgEnd 0 0 false)) (H .ret (edgEnd (IntKind.u32.wrap (if y < x then y else x)) (IntKind.u32.wrap (if y > x then y else x)) true)) = H .ret (edgEnd (edgA a b n) (edgB a b n) (edgO a b n)) := by
  have h1 := edgU_bd (a := a) hn
  have h2 := edgV_bd (a := b) hn
  unfold edgA edgB edgO
  rw [hx, hy] at *
  cases (x == y) with
  | true => rfl
  | false =>
    show H .ret (edgEnd (IntKind.u32.wrap (if y < x then y else x)) (IntKind.u32.wrap (if y > x then y else x)) true) = H .ret (edgEnd (bif decide (y < x) then y else x) (bif decide (y > x) then y else x) true)
    by_cases h : y < x
    · rw [if_pos h, if_neg (show ¬ y > x by omega), decide_eq_true h, decide_eq_false (show ¬ y > x by omega), u32_id (x := y) (by omega) (by omega), u32_id (x := x) (by omega) (by omega)]
      rfl
    · rw [if_neg h, decide_eq_false h]
      by_cases h' : y > x
      · rw [if_pos h', decide_eq_true h', u32_id (x := y) (by omega) (by omega), u32_id (x := x) (by omega) (by omega)]
        rfl
      · rw [if_neg h', decide_eq_false h', u32_id (x := x) (by omega) (by omega)]
        rfl
theorem edgK (args : List S1) (r : Res) (h : (edgH args).den = some r) : ∃ n, call V0 n 18 args = some r := by
  unfold edgH at h
  split at h
  · rename_i a b n
    obtain ⟨hk, h⟩ := tree_yes h
    simp only [Bool.and_eq_true, decide_eq_true_eq] at hk
    obtain ⟨ha, hb, hA, hB, hn, hn2⟩ := hk
    obtain rfl := ok_some h
    obtain ⟨h1, h2, h3⟩ := few_bd hn
    have a4 := Int.emod_nonneg a (show few n ≠ 0 by omega)
    have a5 := Int.emod_lt_of_pos a (show 0 < few n by omega)
    have b4 := Int.emod_nonneg b (show few n ≠ 0 by omega)
    have b5 := Int.emod_lt_of_pos b (show 0 < few n by omega)
    refine Goes.call (e := .ret) (st' := edgEnd (edgA a b n) (edgB a b n) (edgO a b n)) (Goes.now fun rec H L => (edgIn rec H L a b n).trans ?_) (by kernel_rfl) (by kernel_rfl)
    rw [few_eq, u64_id (x := a) ha (by omega), u64_id (x := b) hb (by omega), tmod_id ha, tmod_id hb, decide_eq_false (show ¬ few n = 0 by omega), br_f, br_f, u64_id (x := n - 1) (by omega) (by omega), u64_id (x := n - 1 - a % few n) (by omega) (by omega), u64_id (x := n - 1 - b % few n) (by omega) (by omega)]
    cases hc : decide (a > 230) with
    | true =>
      have eU : edgU a n = n - 1 - a % few n := by unfold edgU; rw [hc]; rfl
      cases hd : decide (b > 240) with
      | true => exact edgLeaf eU (by unfold edgV; rw [hd]; rfl) hn hn2
      | false => exact edgLeaf eU (by unfold edgV; rw [hd]; rfl) hn hn2
    | false =>
      have eU : edgU a n = a % few n := by unfold edgU; rw [hc]; rfl
      cases hd : decide (b > 240) with
      | true => exact edgLeaf eU (by unfold edgV; rw [hd]; rfl) hn hn2
      | false => exact edgLeaf eU (by unfold edgV; rw [hd]; rfl) hn hn2
  · exact leaf_none h
theorem lessRK (args : List S1) (r : Res) (h : (lessRH args).den = some r) : ∃ n, call V0 n 24 args = some r := by
  unfold lessRH at h
  split at h
  · rename_i a b c d
    obtain rfl := ok_some h
    refine Goes.call (e := .ret) (st' := mkSt 24 [(4, vS (.bool (lessR (a, b) (c, d))))] []) (Goes.now fun rec H L => (lessRIn rec H L a b c d).trans ?_) (by kernel_rfl) (by kernel_rfl)
    show _ = H .ret (mkSt 24 [(4, vS (.bool (decide (a < c) || (a == c && decide (b < d)))))] [])
    cases decide (a < c) with
    | true => rfl
    | false => cases (a == c) <;> rfl
  · exact leaf_none h
theorem rightK (args : List S1) (r : Res) (h : (rightH args).den = some r) : ∃ n, call V0 n 39 args = some r := by
  unfold rightH at h
  split at h
  · rename_i a b n
    obtain rfl := ok_some h
    refine Goes.call (e := .ret) (st' := mkSt 17 [(4, vS (.bool (rightR (a, b) n)))] []) (Goes.now fun rec H L => (rightIn rec H L a b n).trans ?_) (by kernel_rfl) (by kernel_rfl)
    show _ = H .ret (mkSt 17 [(4, vS (.bool (decide (a < b) && decide (w64u b < n))))] [])
    cases decide (a < b) <;> rfl
  · exact leaf_none h
def findSt (nl : Bool) (xs : List Ed) (e : Ed) (i : Nat) : St := mkSt 19 [(0, .s (eS nl xs)), (3, .s (.c ⟨.ro, .ptr 0 0⟩)), (5, vS (.int .i64 (i : Int)))] [[vC (.int .u32 e.1), vC (.int .u32 e.2)]]
theorem findLoop {nl : Bool} {xs : List Ed} {e : Ed} (hx : xs.length ≤ 1000000) : ∀ d i, i + d = xs.length →
    (Loops V0 33 (fnPl V0 33) 0 (findSt nl xs e i) .ret (mkSt 19 [(4, vS (.int .i64 (findF e (xs.drop i) (i : Int))))] []) ∨
      (findF e (xs.drop i) (i : Int) = -1 ∧ Loops V0 33 (fnPl V0 33) 0 (findSt nl xs e i) (.exit 0) (mkSt 19 [] [])))
  | 0, i, h => .inr ⟨by rw [List.drop_of_length_le (by omega)]; rfl, Loops.done (Goes.now fun rec H L => (findRnd rec H L nl xs e.1 e.2 _).trans (br_neg (decide_eq_false (by omega)))) (by simp) (by kernel_rfl)⟩
  | d + 1, i, h => by
    have e1 : IntKind.i64.wrap ((i : Int) + 1) = ((i + 1 : Nat) : Int) := w64_id (by omega) (by omega)
    have hw : ∀ rec H L, ((fnPl V0 33).at V0 33 0).way V0 33 (findSt nl xs e i) rec H L = br (eqE (nE xs i) e) (H .ret (mkSt 19 [(4, vS (.int .i64 (i : Int)))] [])) (H .normal (findSt nl xs e (i + 1))) := fun rec H L => by
      refine (findRnd rec H L nl xs e.1 e.2 _).trans ?_
      rw [br_pos (decide_eq_true (by omega)), br_pos (inR_yes (by omega) (by omega)), e1]
      rfl
    rw [nthE_drop (by omega)]
    show Loops V0 33 (fnPl V0 33) 0 _ .ret (mkSt 19 [(4, vS (.int .i64 (bif eqE (nE xs i) e then (i : Int) else findF e (xs.drop (i + 1)) ((i : Int) + 1))))] []) ∨ ((bif eqE (nE xs i) e then (i : Int) else findF e (xs.drop (i + 1)) ((i : Int) + 1)) = -1 ∧ _)
    cases hc : eqE (nE xs i) e with
    | true => exact .inl (Loops.done (Goes.now fun rec H L => (hw rec H L).trans (br_pos hc)) (by simp) (by kernel_rfl))
    | false =>
      have st : Goes V0 33 ((fnPl V0 33).at V0 33 0) (((fnPl V0 33).at V0 33 0).way V0 33 (findSt nl xs e i)) .normal _ := Goes.now fun rec H L => (hw rec H L).trans (br_neg hc)
      rcases findLoop (nl := nl) (e := e) hx d (i + 1) (by omega) with h1 | ⟨h0, h1⟩
      · exact .inl (Loops.step st h1 (by kernel_rfl))
      · exact .inr ⟨h0, Loops.step st h1 (by kernel_rfl)⟩
theorem findK (args : List S1) (r : Res) (h : (findH args).den = some r) : ∃ n, call V0 n 33 args = some r := by
  unfold findH at h
  split at h
  · rename_i nl xs a b
    obtain ⟨hx, h⟩ := tree_yes h
    obtain rfl := ok_some h
    have hin : ∀ rec H L, fnWay V0 33 [eS nl xs, edA a b] rec H L = L 0 (findSt nl xs (a, b) 0) := fun rec H L => findIn rec H L nl xs a b
    rcases findLoop (nl := nl) (e := (a, b)) (of_decide_eq_true hx) xs.length 0 (by omega) with h1 | ⟨h0, h1⟩
    · rw [List.drop_zero] at h1
      exact Goes.call (Goes.of hin (Goes.loop h1 Goes.here (by kernel_rfl) (by kernel_rfl) rfl)) (by kernel_rfl) (by kernel_rfl)
    · rw [List.drop_zero] at h0
      rw [show findR xs (a, b) = -1 from h0]
      exact Goes.call (Goes.of hin (Goes.loop h1 (Goes.now (findOut · · · 0)) (by kernel_rfl) (by kernel_rfl) rfl)) (by kernel_rfl) (by kernel_rfl)
  · exact leaf_none h
theorem sok11 : SOK l11 :=
  stubs_cons (x := (17, plain vtH)) (known_plain (V := V0) mix (sok0 _ rfl rfl) vtK) <|
  stubs_cons (x := (24, plain lessRH)) (known_plain (V := V0) mix (sok0 _ rfl rfl) lessRK) <|
  stubs_cons (x := (39, plain rightH)) (known_plain (V := V0) mix (sok0 _ rfl rfl) rightK) <|
  stubs_cons (x := (33, co [cE] (plain findH))) (known_co [cE] (known_plain (V := V0) mix (sok0 _ rfl rfl) findK)) <|
  stubs_cons (x := (18, plain edgH)) (known_plain (V := V0) mix (sok0 _ rfl rfl) edgK) sok0
theorem befK (args : List S1) (r : Res) (h : (befH args).den = some r) : ∃ n, call V11 n 32 args = some r := by
  unfold befH at h
  split at h
  · rename_i t a b x t' c d y
    obtain rfl := ok_some h
    refine Goes.call (e := .ret) (st' := mkSt 24 [(4, vS (.bool (befR (t, (a, b), x) (t', (c, d), y))))] []) (Goes.now fun rec H L => (befIn rec H L t a b x t' c d y).trans ?_) (by kernel_rfl) (by kernel_rfl)
    show _ = H .ret (mkSt 24 [(4, vS (.bool (decide (t < t') || (t == t' && lessR (a, b) (c, d)))))] [])
    cases decide (t < t') with
    | true => rfl
    | false => cases (t == t') <;> rfl
  · exact leaf_none h
theorem hasK (args : List S1) (r : Res) (h : (hasH args).den = some r) : ∃ n, call V11 n 20 args = some r := by
  unfold hasH at h
  split at h
  · rename_i nl xs a b
    obtain ⟨hx, h⟩ := tree_yes h
    obtain rfl := ok_some h
    exact Goes.call (Goes.now fun rec H L => (hasIn rec H L nl xs a b).trans (br_pos hx)) (by kernel_rfl) (by kernel_rfl)
  · exact leaf_none h
def risRSt (nl : Bool) (xs : List Ed) (i : Nat) : St := mkSt 21 [(0, .s (eS nl xs)), (3, vS (.int .i64 (i : Int)))] []
theorem risRLoop {nl : Bool} {xs : List Ed} (hx : xs.length ≤ 1000000) : ∀ d i, i + d = xs.length → 0 < i →
    (risR (xs.drop (i - 1)) = true ∧ Loops V11 34 (fnPl V11 34) 0 (risRSt nl xs i) (.exit 0) (mkSt 21 [] [])) ∨ (risR (xs.drop (i - 1)) = false ∧ Loops V11 34 (fnPl V11 34) 0 (risRSt nl xs i) .ret (mkSt 21 [(2, vS (.bool false))] []))
  | 0, i, h, h0 => by
    refine .inl ⟨?_, Loops.done (Goes.now fun rec H L => (risRRnd rec H L nl xs _).trans (br_neg (decide_eq_false (by omega)))) (by simp) (by kernel_rfl)⟩
    rw [nthE_drop (by omega), List.drop_of_length_le (by omega)]
    rfl
  | d + 1, i, h, h0 => by
    have e : risR (xs.drop (i - 1)) = (lessR (nE xs (i - 1)) (nE xs i) && risR (xs.drop (i + 1 - 1))) := by
      rw [nthE_drop (xs := xs) (i := i - 1) (by omega), show i - 1 + 1 = i by omega, nthE_drop (xs := xs) (i := i) (by omega), show i + 1 - 1 = i by omega, nthE_drop (xs := xs) (i := i) (by omega)]
      rfl
    have e0 : IntKind.i64.wrap ((i : Int) - 1) = ((i - 1 : Nat) : Int) := by rw [w64_id (by omega) (by omega)]; omega
    have e1 : IntKind.i64.wrap ((i : Int) + 1) = ((i + 1 : Nat) : Int) := w64_id (by omega) (by omega)
    have hw : ∀ rec H L, ((fnPl V11 34).at V11 34 0).way V11 34 (risRSt nl xs i) rec H L = br (!lessR (nE xs (i - 1)) (nE xs i)) (H .ret (mkSt 21 [(2, vS (.bool false))] [])) (H .normal (risRSt nl xs (i + 1))) := fun rec H L => by
      refine (risRRnd rec H L nl xs _).trans ?_
      rw [br_pos (decide_eq_true (by omega)), e0, e1, br_pos (inR_yes (by omega) (by omega)), br_pos (inR_yes (by omega) (by omega))]
      rfl
    rw [e]
    cases hl : lessR (nE xs (i - 1)) (nE xs i) with
    | false => exact .inr ⟨rfl, Loops.done (Goes.now fun rec H L => (hw rec H L).trans (br_pos (notF hl))) (by simp) (by kernel_rfl)⟩
    | true =>
      rw [Bool.true_and]
      have st : Goes V11 34 ((fnPl V11 34).at V11 34 0) (((fnPl V11 34).at V11 34 0).way V11 34 (risRSt nl xs i)) .normal _ := Goes.now fun rec H L => (hw rec H L).trans (br_neg (notT hl))
      rcases risRLoop (nl := nl) hx d (i + 1) (by omega) (by omega) with ⟨h1, h2⟩ | ⟨h1, h2⟩
      · exact .inl ⟨h1, Loops.step st h2 (by kernel_rfl)⟩
      · exact .inr ⟨h1, Loops.step st h2 (by kernel_rfl)⟩
theorem risRK (args : List S1) (r : Res) (h : (risRH args).den = some r) : ∃ n, call V11 n 34 args = some r := by
  unfold risRH at h
  split at h
  · rename_i nl xs
    obtain ⟨hx, h⟩ := tree_yes h
    have hx := of_decide_eq_true hx
    obtain rfl := ok_some h
    have hin : ∀ rec H L, fnWay V11 34 [eS nl xs] rec H L = L 0 (risRSt nl xs 1) := fun rec H L => risRIn rec H L nl xs
    by_cases h0 : xs.length = 0
    · have : xs = [] := List.eq_nil_of_length_eq_zero h0
      subst this
      exact Goes.call (Goes.of hin (Goes.loop (Loops.done (Goes.now fun rec H L => (risRRnd rec H L nl [] _).trans (br_neg (by decide))) (by simp) (by kernel_rfl)) (Goes.now (risROut · · · 0)) (by kernel_rfl) (by kernel_rfl) rfl)) (by kernel_rfl) (by kernel_rfl)
    · rcases risRLoop (nl := nl) hx (xs.length - 1) 1 (by omega) (by omega) with ⟨h1, h2⟩ | ⟨h1, h2⟩
      · rw [show risR xs = true from h1]
        exact Goes.call (Goes.of hin (Goes.loop h2 (Goes.now (risROut · · · 0)) (by kernel_rfl) (by kernel_rfl) rfl)) (by kernel_rfl) (by kernel_rfl)
      · rw [show risR xs = false from h1]
        exact Goes.call (Goes.of hin (Goes.loop h2 Goes.here (by kernel_rfl) (by kernel_rfl) rfl)) (by kernel_rfl) (by kernel_rfl)
  · exact leaf_none h
theorem sok12 : SOK l12 :=
  stubs_cons (x := (32, plain befH)) (known_plain (V := V11) mix (sok11 _ rfl rfl) befK) <|
  stubs_cons (x := (34, co [cE] (plain risRH))) (known_co [cE] (known_plain (V := V11) mix (sok11 _ rfl rfl) risRK)) <|
  stubs_cons (x := (20, co [cE] (plain hasH))) (known_co [cE] (known_plain (V := V11) mix (sok11 _ rfl rfl) hasK)) sok11
end Go.Proofs.Ythiaaaedfidnjaa.Aj

namespace Go.Proofs.Ythiaaaedfidnjaa.Aj
open Go Go.Proofs.Ythiaaaedfidnjaa.Am Go.RowKit
set_option linter.unusedVariables false
set_option linter.unusedSimpArgs false
set_option maxRecDepth 100000
theorem insIn (rec : Rec) (H : K) (L : Nat → St → Option Res) (nl : Bool) (xs : List Ev) (t a b : Int) (x : Bool) :
    fnWay V12 19 [vS1 nl xs, evA (t, (a, b), x)] rec H L =
  L 0 (mkSt 57 [(0, .s (.c (⟨.ro, AV.sl ((CL.int IntKind.i64).cons (((CL.int IntKind.u32).cons (CL.int IntKind.u32)).cons CL.bool)) nl xs⟩))), (3, .s (.c (⟨.ro, AV.ptr 0 0⟩))), (5, vS (.int .i64 (↑xs.length : Int)))] [[vC (.int .i64 t), vC (.int .u32 ((a, b), x).fst.fst), vC (.int .u32 ((a, b), x).fst.snd), vC (.bool ((a, b), x).snd)]]) := by kernel_rfl
theorem insRnd (rec : Rec) (H : K) (L : Nat → St → Option Res) (nl : Bool) (xs : List Ev) (t a b : Int) (x : Bool) (k : Int) :
    ((fnPl V12 19).at V12 19 0).way V12 19 (mkSt 57 [(0, .s (vS1 nl xs)), (3, .s (.c ⟨.ro, .ptr 0 0⟩)), (5, vS (.int .i64 k))] [evB (t, (a, b), x)]) rec H L =
  br (decide (k > 0)) (
    br (inR (IntKind.i64.wrap (k - 1)) xs.length) (
      br (befR (t, (((a, b), x).fst.fst, ((a, b), x).fst.snd), ((a, b), x).snd) ((nth vE xs (IntKind.i64.wrap (k - 1)).toNat).fst, ((nth vE xs (IntKind.i64.wrap (k - 1)).toNat).snd.fst.fst, (nth vE xs (IntKind.i64.wrap (k - 1)).toNat).snd.fst.snd), (nth vE xs (IntKind.i64.wrap (k - 1)).toNat).snd.snd)) (
        H .normal (mkSt 57 [(0, .s (.c (⟨.ro, AV.sl ((CL.int IntKind.i64).cons (((CL.int IntKind.u32).cons (CL.int IntKind.u32)).cons CL.bool)) nl xs⟩))), (3, .s (.c (⟨.ro, AV.ptr 0 0⟩))), (5, vS (.int .i64 (IntKind.i64.wrap (k - 1))))] [[vC (.int .i64 t), vC (.int .u32 ((a, b), x).fst.fst), vC (.int .u32 ((a, b), x).fst.snd), vC (.bool ((a, b), x).snd)]])) (
        H (.exit 0) (mkSt 57 [(0, .s (.c (⟨.ro, AV.sl ((CL.int IntKind.i64).cons (((CL.int IntKind.u32).cons (CL.int IntKind.u32)).cons CL.bool)) nl xs⟩))), (3, .s (.c (⟨.ro, AV.ptr 0 0⟩))), (5, vS (.int .i64 k))] [[vC (.int .i64 t), vC (.int .u32 ((a, b), x).fst.fst), vC (.int .u32 ((a, b), x).fst.snd), vC (.bool ((a, b), x).snd)]]))) (
      none)) (
    H (.exit 0) (mkSt 57 [(0, .s (.c (⟨.ro, AV.sl ((CL.int IntKind.i64).cons (((CL.int IntKind.u32).cons (CL.int IntKind.u32)).cons CL.bool)) nl xs⟩))), (3, .s (.c (⟨.ro, AV.ptr 0 0⟩))), (5, vS (.int .i64 k))] [[vC (.int .i64 t), vC (.int .u32 ((a, b), x).fst.fst), vC (.int .u32 ((a, b), x).fst.snd), vC (.bool ((a, b), x).snd)]])) := by kernel_rfl
theorem insOut (rec : Rec) (H : K) (L : Nat → St → Option Res) (nl : Bool) (xs : List Ev) (t a b : Int) (x : Bool) (k : Int) :
    (fnPl V12 19).past V12 19 0 (.exit 0) (mkSt 57 [(0, .s (vS1 nl xs)), (3, .s (.c ⟨.ro, .ptr 0 0⟩)), (5, vS (.int .i64 k))] [evB (t, (a, b), x)]) rec H L =
  br (decide (k > 0)) (
    br (inR (IntKind.i64.wrap (k - 1)) xs.length) (
      br ((nth vE xs (IntKind.i64.wrap (k - 1)).toNat).fst == t) (
        br (inR (IntKind.i64.wrap (k - 1)) xs.length) (
          br ((nth vE xs (IntKind.i64.wrap (k - 1)).toNat).snd.fst.fst == ((a, b), x).fst.fst && ((nth vE xs (IntKind.i64.wrap (k - 1)).toNat).snd.fst.snd == ((a, b), x).fst.snd && true)) (
            H .ret (mkSt 57 [(4, .s (.c (⟨.ro, AV.sl ((CL.int IntKind.i64).cons (((CL.int IntKind.u32).cons (CL.int IntKind.u32)).cons CL.bool)) nl xs⟩)))] [])) (
            br (leR k xs.length) (
              br (fits (List.take k.toNat xs).length (V12.P.bytesOf 60)) (
                br (fits ((List.take k.toNat xs).length + [(t, (((a, b), x).fst.fst, ((a, b), x).fst.snd), ((a, b), x).snd)].length) (V12.P.bytesOf 60)) (
                  br (leR k xs.length) (
                    br (fits ((List.take k.toNat xs ++ [(t, (((a, b), x).fst.fst, ((a, b), x).fst.snd), ((a, b), x).snd)]).length + (List.drop k.toNat xs).length) (V12.P.bytesOf 60)) (
                      H .ret (mkSt 57 [(4, .s (.c (⟨.own 1792 none, AV.sl ((CL.int IntKind.i64).cons (((CL.int IntKind.u32).cons (CL.int IntKind.u32)).cons CL.bool)) (isNilL (List.take k.toNat xs) && isNilL [(t, (((a, b), x).fst.fst, ((a, b), x).fst.snd), ((a, b), x).snd)] && isNilL (List.drop k.toNat xs)) (List.take k.toNat xs ++ [(t, (((a, b), x).fst.fst, ((a, b), x).fst.snd), ((a, b), x).snd)] ++ List.drop k.toNat xs)⟩)))] [])) (
                      none)) (
                    none)) (
                  none)) (
                none)) (
              none))) (
          none)) (
        br (leR k xs.length) (
          br (fits (List.take k.toNat xs).length (V12.P.bytesOf 60)) (
            br (fits ((List.take k.toNat xs).length + [(t, (((a, b), x).fst.fst, ((a, b), x).fst.snd), ((a, b), x).snd)].length) (V12.P.bytesOf 60)) (
              br (leR k xs.length) (
                br (fits ((List.take k.toNat xs ++ [(t, (((a, b), x).fst.fst, ((a, b), x).fst.snd), ((a, b), x).snd)]).length + (List.drop k.toNat xs).length) (V12.P.bytesOf 60)) (
                  H .ret (mkSt 57 [(4, .s (.c (⟨.own 1792 none, AV.sl ((CL.int IntKind.i64).cons (((CL.int IntKind.u32).cons (CL.int IntKind.u32)).cons CL.bool)) (isNilL (List.take k.toNat xs) && isNilL [(t, (((a, b), x).fst.fst, ((a, b), x).fst.snd), ((a, b), x).snd)] && isNilL (List.drop k.toNat xs)) (List.take k.toNat xs ++ [(t, (((a, b), x).fst.fst, ((a, b), x).fst.snd), ((a, b), x).snd)] ++ List.drop k.toNat xs)⟩)))] [])) (
                  none)) (
                none)) (
              none)) (
            none)) (
          none))) (
      none)) (
    br (leR k xs.length) (
      br (fits (List.take k.toNat xs).length (V12.P.bytesOf 60)) (
        br (fits ((List.take k.toNat xs).length + [(t, (((a, b), x).fst.fst, ((a, b), x).fst.snd), ((a, b), x).snd)].length) (V12.P.bytesOf 60)) (
          br (leR k xs.length) (
            br (fits ((List.take k.toNat xs ++ [(t, (((a, b), x).fst.fst, ((a, b), x).fst.snd), ((a, b), x).snd)]).length + (List.drop k.toNat xs).length) (V12.P.bytesOf 60)) (
              H .ret (mkSt 57 [(4, .s (.c (⟨.own 1792 none, AV.sl ((CL.int IntKind.i64).cons (((CL.int IntKind.u32).cons (CL.int IntKind.u32)).cons CL.bool)) (isNilL (List.take k.toNat xs) && isNilL [(t, (((a, b), x).fst.fst, ((a, b), x).fst.snd), ((a, b), x).snd)] && isNilL (List.drop k.toNat xs)) (List.take k.toNat xs ++ [(t, (((a, b), x).fst.fst, ((a, b), x).fst.snd), ((a, b), x).snd)] ++ List.drop k.toNat xs)⟩)))] [])) (
              none)) (
            none)) (
          none)) (
        none)) (
      none)) := by kernel_rfl
theorem turnIn (rec : Rec) (H : K) (L : Nat → St → Option Res) (nl : Bool) (xs : List Ed) (t a b : Int) (x : Bool) :
    fnWay V12 21 [eS nl xs, evA (t, (a, b), x)] rec H L =
  br (decide (xs.length ≤ 1000000)) (
    br (decide (xs.length ≤ 1000000)) (
      br (!!risR xs) (
        br (((a, b), x).snd == decide (findR xs (((a, b), x).fst.fst, ((a, b), x).fst.snd) ≥ 0)) (
          H .ret (mkSt 60 [(4, .s (.c (⟨.ro, AV.sl ((CL.int IntKind.u32).cons (CL.int IntKind.u32)) true []⟩))), (5, vS (.bool false))] [])) (
          br (!((a, b), x).snd) (
            br (leR (findR xs (((a, b), x).fst.fst, ((a, b), x).fst.snd)) xs.length) (
              br (fits (List.take (findR xs (((a, b), x).fst.fst, ((a, b), x).fst.snd)).toNat xs).length (V12.P.bytesOf 50)) (
                br (leR (IntKind.i64.wrap (findR xs (((a, b), x).fst.fst, ((a, b), x).fst.snd) + 1)) xs.length) (
                  br (fits ((List.take (findR xs (((a, b), x).fst.fst, ((a, b), x).fst.snd)).toNat xs).length + (List.drop (IntKind.i64.wrap (findR xs (((a, b), x).fst.fst, ((a, b), x).fst.snd) + 1)).toNat xs).length) (V12.P.bytesOf 50)) (
                    H .ret (mkSt 60 [(4, .s (.c (⟨.own 1024 none, AV.sl ((CL.int IntKind.u32).cons (CL.int IntKind.u32)) (isNilL (List.take (findR xs (((a, b), x).fst.fst, ((a, b), x).fst.snd)).toNat xs) && isNilL (List.drop (IntKind.i64.wrap (findR xs (((a, b), x).fst.fst, ((a, b), x).fst.snd) + 1)).toNat xs)) (List.take (findR xs (((a, b), x).fst.fst, ((a, b), x).fst.snd)).toNat xs ++ List.drop (IntKind.i64.wrap (findR xs (((a, b), x).fst.fst, ((a, b), x).fst.snd) + 1)).toNat xs)⟩))), (5, vS (.bool true))] [])) (
                    none)) (
                  none)) (
                none)) (
              none)) (
            L 0 (mkSt 60 [(0, .s (.c (⟨.ro, AV.sl ((CL.int IntKind.u32).cons (CL.int IntKind.u32)) nl xs⟩))), (3, .s (.c (⟨.ro, AV.ptr 0 0⟩))), (6, vS (.int .i64 0))] [[vC (.int .i64 t), vC (.int .u32 ((a, b), x).fst.fst), vC (.int .u32 ((a, b), x).fst.snd), vC (.bool ((a, b), x).snd)]])))) (
        H .ret (mkSt 60 [(4, .s (.c (⟨.ro, AV.sl ((CL.int IntKind.u32).cons (CL.int IntKind.u32)) true []⟩))), (5, vS (.bool false))] []))) (
      none)) (
    none) := by kernel_rfl
theorem turnRnd (rec : Rec) (H : K) (L : Nat → St → Option Res) (nl : Bool) (xs : List Ed) (t a b : Int) (x : Bool) (k : Int) :
    ((fnPl V12 21).at V12 21 0).way V12 21 (mkSt 60 [(0, .s (eS nl xs)), (3, .s (.c ⟨.ro, .ptr 0 0⟩)), (6, vS (.int .i64 k))] [evB (t, (a, b), x)]) rec H L =
  br (decide (k < (↑xs.length : Int))) (
    br (inR k xs.length) (
      br (lessR ((nth eE xs k.toNat).fst, (nth eE xs k.toNat).snd) (((a, b), x).fst.fst, ((a, b), x).fst.snd)) (
        H .normal (mkSt 60 [(0, .s (.c (⟨.ro, AV.sl ((CL.int IntKind.u32).cons (CL.int IntKind.u32)) nl xs⟩))), (3, .s (.c (⟨.ro, AV.ptr 0 0⟩))), (6, vS (.int .i64 (IntKind.i64.wrap (k + 1))))] [[vC (.int .i64 t), vC (.int .u32 ((a, b), x).fst.fst), vC (.int .u32 ((a, b), x).fst.snd), vC (.bool ((a, b), x).snd)]])) (
        H (.exit 0) (mkSt 60 [(0, .s (.c (⟨.ro, AV.sl ((CL.int IntKind.u32).cons (CL.int IntKind.u32)) nl xs⟩))), (3, .s (.c (⟨.ro, AV.ptr 0 0⟩))), (6, vS (.int .i64 k))] [[vC (.int .i64 t), vC (.int .u32 ((a, b), x).fst.fst), vC (.int .u32 ((a, b), x).fst.snd), vC (.bool ((a, b), x).snd)]]))) (
      none)) (
    H (.exit 0) (mkSt 60 [(0, .s (.c (⟨.ro, AV.sl ((CL.int IntKind.u32).cons (CL.int IntKind.u32)) nl xs⟩))), (3, .s (.c (⟨.ro, AV.ptr 0 0⟩))), (6, vS (.int .i64 k))] [[vC (.int .i64 t), vC (.int .u32 ((a, b), x).fst.fst), vC (.int .u32 ((a, b), x).fst.snd), vC (.bool ((a, b), x).snd)]])) := by kernel_rfl
theorem turnOut (rec : Rec) (H : K) (L : Nat → St → Option Res) (nl : Bool) (xs : List Ed) (t a b : Int) (x : Bool) (k : Int) :
    (fnPl V12 21).past V12 21 0 (.exit 0) (mkSt 60 [(0, .s (eS nl xs)), (3, .s (.c ⟨.ro, .ptr 0 0⟩)), (6, vS (.int .i64 k))] [evB (t, (a, b), x)]) rec H L =
  br (leR k xs.length) (
    br (fits (List.take k.toNat xs).length (V12.P.bytesOf 50)) (
      br (fits ((List.take k.toNat xs).length + [(((a, b), x).fst.fst, ((a, b), x).fst.snd)].length) (V12.P.bytesOf 50)) (
        br (leR k xs.length) (
          br (fits ((List.take k.toNat xs ++ [(((a, b), x).fst.fst, ((a, b), x).fst.snd)]).length + (List.drop k.toNat xs).length) (V12.P.bytesOf 50)) (
            H .ret (mkSt 60 [(4, .s (.c (⟨.own 1888 none, AV.sl ((CL.int IntKind.u32).cons (CL.int IntKind.u32)) (isNilL (List.take k.toNat xs) && isNilL [(((a, b), x).fst.fst, ((a, b), x).fst.snd)] && isNilL (List.drop k.toNat xs)) (List.take k.toNat xs ++ [(((a, b), x).fst.fst, ((a, b), x).fst.snd)] ++ List.drop k.toNat xs)⟩))), (5, vS (.bool true))] [])) (
            none)) (
          none)) (
        none)) (
      none)) (
    none) := by kernel_rfl
theorem uptoIn (rec : Rec) (H : K) (L : Nat → St → Option Res) (n : Int) (nl : Bool) (xs : List Ev) (t : Int) :
    fnWay V12 23 [hiA n nl xs, wS .i64 t] rec H L =
  L 0 (mkSt 24 [(1, vS (.int .i64 t)), (2, .s (.c (⟨.ro, AV.ptr 0 0⟩))), (5, vS (.int .i64 0))] [[vC (.int .u64 n), ⟨.ro, AV.sl ((CL.int IntKind.i64).cons (((CL.int IntKind.u32).cons (CL.int IntKind.u32)).cons CL.bool)) nl xs⟩]]) := by kernel_rfl
theorem uptoRnd (rec : Rec) (H : K) (L : Nat → St → Option Res) (n : Int) (nl : Bool) (xs : List Ev) (t i : Int) :
    ((fnPl V12 23).at V12 23 0).way V12 23 (mkSt 24 [(1, vS (.int .i64 t)), (2, .s (.c ⟨.ro, .ptr 0 0⟩)), (5, vS (.int .i64 i))] [[vC (.int .u64 n), ⟨.ro, .sl vE nl xs⟩]]) rec H L =
  br (decide (i < (↑xs.length : Int))) (
    br (inR i xs.length) (
      br (decide ((nth vE xs i.toNat).fst ≤ t)) (
        H .normal (mkSt 24 [(1, vS (.int .i64 t)), (2, .s (.c (⟨.ro, AV.ptr 0 0⟩))), (5, vS (.int .i64 (IntKind.i64.wrap (i + 1))))] [[vC (.int .u64 n), ⟨.ro, AV.sl ((CL.int IntKind.i64).cons (((CL.int IntKind.u32).cons (CL.int IntKind.u32)).cons CL.bool)) nl xs⟩]])) (
        H (.exit 0) (mkSt 24 [(5, vS (.int .i64 i))] []))) (
      none)) (
    H (.exit 0) (mkSt 24 [(5, vS (.int .i64 i))] [])) := by kernel_rfl
theorem uptoOut (rec : Rec) (H : K) (L : Nat → St → Option Res) (i : Int) :
    (fnPl V12 23).past V12 23 0 (.exit 0) (mkSt 24 [(5, vS (.int .i64 i))] []) rec H L =
  H .ret (mkSt 24 [(4, vS (.int .i64 i))] []) := by kernel_rfl
end Go.Proofs.Ythiaaaedfidnjaa.Aj

namespace Go.Proofs.Ythiaaaedfidnjaa.Aj
open Go Go.Proofs.Ythiaaaedfidnjaa.Am Go.RowKit
set_option linter.unusedVariables false
set_option linter.unusedSimpArgs false
set_option maxRecDepth 100000
/-! inserts, turns, counts of the reference -/
theorem by60 : V12.P.bytesOf 60 = 24 := by kernel_rfl
theorem by50 : V12.P.bytesOf 50 = 8 := by kernel_rfl

def insSt (nl : Bool) (xs : List Ev) (e : Ev) (k : Nat) : St := mkSt 57 [(0, .s (vS1 nl xs)), (3, .s (.c ⟨.ro, .ptr 0 0⟩)), (5, vS (.int .i64 (k : Int)))] [evB e]
theorem insP_le (xs : List Ev) (e : Ev) : ∀ k, insP xs e k ≤ k
  | 0 => Nat.le_refl _
  | k + 1 => by
    show (bif befR e (nV xs k) then insP xs e k else k + 1) ≤ k + 1
    have := insP_le xs e k
    cases befR e (nV xs k)
    · exact Nat.le_refl _
    · show insP xs e k ≤ k + 1; omega
theorem insLoop {nl : Bool} {xs : List Ev} {e : Ev} (hx : xs.length ≤ 1000000) : ∀ k, k ≤ xs.length → Loops V12 19 (fnPl V12 19) 0 (insSt nl xs e k) (.exit 0) (insSt nl xs e (insP xs e k))
  | 0, h => Loops.done (Goes.now fun rec H L => (insRnd rec H L nl xs e.1 e.2.1.1 e.2.1.2 e.2.2 _).trans (br_neg (by decide))) (by simp) (by kernel_rfl)
  | k + 1, h => by
    have e0 : IntKind.i64.wrap (((k + 1 : Nat) : Int) - 1) = (k : Int) := by rw [w64_id (by omega) (by omega)]; omega
    have hw : ∀ rec H L, ((fnPl V12 19).at V12 19 0).way V12 19 (insSt nl xs e (k + 1)) rec H L = br (befR e (nV xs k)) (H .normal (insSt nl xs e k)) (H (.exit 0) (insSt nl xs e (k + 1))) := fun rec H L => by
      refine (insRnd rec H L nl xs e.1 e.2.1.1 e.2.1.2 e.2.2 _).trans ?_
      rw [br_pos (decide_eq_true (by omega)), e0, br_pos (inR_yes (by omega) (by omega))]
      rfl
    show Loops V12 19 (fnPl V12 19) 0 _ (.exit 0) (insSt nl xs e (bif befR e (nV xs k) then insP xs e k else k + 1))
    cases hc : befR e (nV xs k) with
    | true => exact Loops.step (Goes.now fun rec H L => (hw rec H L).trans (br_pos hc)) (insLoop hx k (by omega)) (by kernel_rfl)
    | false => exact Loops.done (Goes.now fun rec H L => (hw rec H L).trans (br_neg hc)) (by simp) (by kernel_rfl)
theorem insK' (args : List S1) (r : Res) (h : (insH args).den = some r) : ∃ n, call V12 n 19 args = some r := by
  unfold insH at h
  split at h
  · rename_i nl xs t a b x
    obtain ⟨hx, h⟩ := tree_yes h
    have hx := of_decide_eq_true hx
    obtain rfl := ok_some h
    obtain ⟨e, he⟩ : ∃ e : Ev, e = (t, (a, b), x) := ⟨_, rfl⟩
    have hin : ∀ rec H L, fnWay V12 19 [vS1 nl xs, evA (t, (a, b), x)] rec H L = L 0 (insSt nl xs e xs.length) := fun rec H L => by
      rw [he]
      exact insIn rec H L nl xs t a b x
    have lp := insLoop (nl := nl) (e := e) hx xs.length (Nat.le_refl _)
    change Loops V12 19 (fnPl V12 19) 0 _ (.exit 0) (insSt nl xs e (insK xs e)) at lp
    have hkl : insK xs e ≤ xs.length := insP_le xs e _
    have c1 : fits (List.take (insK xs e) xs).length 24 = true := fits_small (by rw [List.length_take]; omega) (by decide)
    have c2 : fits ((List.take (insK xs e) xs).length + [e].length) 24 = true := fits_small (by rw [List.length_take, List.length_singleton]; omega) (by decide)
    have c3 : fits ((List.take (insK xs e) xs ++ [e]).length + (List.drop (insK xs e) xs).length) 24 = true := fits_small (by rw [List.length_append, List.length_take, List.length_singleton, List.length_drop]; omega) (by decide)
    have c0 : leR (insK xs e : Int) xs.length = true := leR_yes (by omega) (by omega)
    have hN : ∀ l l' : List Ev, (isNilL l && isNilL [e] && isNilL l') = false := fun l l' => by
      rw [show isNilL [e] = false from rfl, Bool.and_false, Bool.false_and]
    have hout : Goes V12 19 (fnPl V12 19) ((fnPl V12 19).past V12 19 0 (.exit 0) (insSt nl xs e (insK xs e))) .ret (bif insSame xs e then mkSt 57 [(4, .s (vS1 nl xs))] [] else mkSt 57 [(4, .s (.c (⟨.own 1792 none, .sl vE false (List.take (insK xs e) xs ++ [e] ++ List.drop (insK xs e) xs)⟩)))] []) := by
      refine Goes.now fun rec H L => (insOut rec H L nl xs e.1 e.2.1.1 e.2.1.2 e.2.2 _).trans ?_
      have hT : (e.1, (e.2.1.1, e.2.1.2), e.2.2) = e := rfl
      have hE1 : (((e.2.1.1, e.2.1.2), e.2.2).fst.fst, ((e.2.1.1, e.2.1.2), e.2.2).fst.snd) = e.2.1 := rfl
      unfold insSame
      generalize hk : insK xs e = k at *
      rw [Int.toNat_natCast, by60]
      change br (decide ((k : Int) > 0)) _ (br (leR k xs.length) (br (fits (List.take k xs).length 24) (br (fits ((List.take k xs).length + [e].length) 24) (br (leR k xs.length) (br (fits ((List.take k xs ++ [e]).length + (List.drop k xs).length) 24) (H .ret (mkSt 57 [(4, .s (.c (⟨.own 1792 none, .sl vE (isNilL (List.take k xs) && isNilL [e] && isNilL (List.drop k xs)) (List.take k xs ++ [e] ++ List.drop k xs)⟩)))] [])) none) none) none) none) none) = _
      rw [c0, c1, c2, c3, hN]
      cases k with
      | zero => rfl
      | succ k =>
        have e0 : IntKind.i64.wrap (((k + 1 : Nat) : Int) - 1) = (k : Int) := by rw [w64_id (by omega) (by omega)]; omega
        rw [br_pos (decide_eq_true (by omega)), e0, Int.toNat_natCast, br_pos (inR_yes (by omega) (by omega)), br_pos (inR_yes (by omega) (by omega))]
        show br ((nV xs k).1 == e.1) (br (eqE (nV xs k).2.1 e.2.1) _ _) _ = H .ret (bif ((nV xs k).1 == e.1 && eqE (nV xs k).2.1 e.2.1) then _ else _)
        cases ((nV xs k).1 == e.1) with
        | false => rfl
        | true =>
          cases eqE (nV xs k).2.1 e.2.1 with
          | true => rfl
          | false => rfl
    have hres : insR xs e = bif insSame xs e then xs else List.take (insK xs e) xs ++ [e] ++ List.drop (insK xs e) xs := rfl
    clear c0 c1 c2 c3 hN
    subst he
    rw [hres]
    generalize insSame xs (t, (a, b), x) = sm at hout ⊢
    generalize List.take (insK xs (t, (a, b), x)) xs ++ [(t, (a, b), x)] ++ List.drop (insK xs (t, (a, b), x)) xs = ys at hout ⊢
    cases sm with
    | true =>
      exact Goes.call (Goes.of hin (Goes.loop lp hout (by kernel_rfl) (by kernel_rfl) rfl)) (by kernel_rfl) (by kernel_rfl)
    | false =>
      exact Goes.call (Goes.of hin (Goes.loop lp hout (by kernel_rfl) (by kernel_rfl) rfl)) (by kernel_rfl) (by kernel_rfl)
  · exact leaf_none h
theorem findF_bd (e : Ed) : ∀ (l : List Ed) (i : Int), findF e l i = -1 ∨ (i ≤ findF e l i ∧ findF e l i < i + l.length)
  | [], i => .inl rfl
  | x :: r, i => by
    show (bif eqE x e then i else findF e r (i + 1)) = -1 ∨ (i ≤ (bif eqE x e then i else findF e r (i + 1)) ∧ (bif eqE x e then i else findF e r (i + 1)) < i + (x :: r).length)
    cases eqE x e with
    | true =>
      right
      show i ≤ i ∧ i < i + (x :: r).length
      rw [List.length_cons]
      omega
    | false =>
      rcases findF_bd e r (i + 1) with h | ⟨h1, h2⟩
      · exact .inl h
      · right
        show i ≤ findF e r (i + 1) ∧ findF e r (i + 1) < i + (x :: r).length
        rw [List.length_cons]
        omega
def turnSt (nl : Bool) (xs : List Ed) (e : Ev) (k : Nat) : St := mkSt 60 [(0, .s (eS nl xs)), (3, .s (.c ⟨.ro, .ptr 0 0⟩)), (6, vS (.int .i64 (k : Int)))] [evB e]
theorem turnLoop {nl : Bool} {xs : List Ed} {e : Ev} (hx : xs.length ≤ 1000000) : ∀ d i, i + d = xs.length → Loops V12 21 (fnPl V12 21) 0 (turnSt nl xs e i) (.exit 0) (turnSt nl xs e (i + cntR e.2.1 (xs.drop i)))
  | 0, i, h => by
    rw [List.drop_of_length_le (by omega)]
    exact Loops.done (Goes.now fun rec H L => (turnRnd rec H L nl xs e.1 e.2.1.1 e.2.1.2 e.2.2 _).trans (br_neg (decide_eq_false (by omega)))) (by simp) (by kernel_rfl)
  | d + 1, i, h => by
    have e1 : IntKind.i64.wrap ((i : Int) + 1) = ((i + 1 : Nat) : Int) := w64_id (by omega) (by omega)
    have hw : ∀ rec H L, ((fnPl V12 21).at V12 21 0).way V12 21 (turnSt nl xs e i) rec H L = br (lessR (nE xs i) e.2.1) (H .normal (turnSt nl xs e (i + 1))) (H (.exit 0) (turnSt nl xs e i)) := fun rec H L => by
      refine (turnRnd rec H L nl xs e.1 e.2.1.1 e.2.1.2 e.2.2 _).trans ?_
      rw [br_pos (decide_eq_true (by omega)), e1, br_pos (inR_yes (by omega) (by omega))]
      rfl
    rw [nthE_drop (by omega)]
    show Loops V12 21 (fnPl V12 21) 0 _ (.exit 0) (turnSt nl xs e (i + bif lessR (nE xs i) e.2.1 then cntR e.2.1 (xs.drop (i + 1)) + 1 else 0))
    cases hc : lessR (nE xs i) e.2.1 with
    | true =>
      have := turnLoop (nl := nl) (e := e) hx d (i + 1) (by omega)
      rw [show i + 1 + cntR e.2.1 (List.drop (i + 1) xs) = i + (cntR e.2.1 (List.drop (i + 1) xs) + 1) by omega] at this
      exact Loops.step (Goes.now fun rec H L => (hw rec H L).trans (br_pos hc)) this (by kernel_rfl)
    | false => exact Loops.done (Goes.now fun rec H L => (hw rec H L).trans (br_neg hc)) (by simp) (by kernel_rfl)
theorem cntR_le (e : Ed) : ∀ l : List Ed, cntR e l ≤ l.length
  | [] => Nat.le_refl _
  | x :: r => by
    show (bif lessR x e then cntR e r + 1 else 0) ≤ (x :: r).length
    have := cntR_le e r
    cases lessR x e
    · exact Nat.zero_le _
    · show cntR e r + 1 ≤ r.length + 1; omega
theorem turnK (args : List S1) (r : Res) (h : (turnH args).den = some r) : ∃ n, call V12 n 21 args = some r := by
  unfold turnH at h
  split at h
  · rename_i nl xs t a b x
    obtain ⟨hx, h⟩ := tree_yes h
    have hx' := of_decide_eq_true hx
    obtain rfl := ok_some h
    obtain ⟨e, he⟩ : ∃ e : Ev, e = (t, (a, b), x) := ⟨_, rfl⟩
    have hx2 : (decide (xs.length ≤ 1000000)) = true := hx
    have hin : ∀ rec H L, fnWay V12 21 [eS nl xs, evA (t, (a, b), x)] rec H L = _ := fun rec H L => (turnIn rec H L nl xs t a b x).trans ((br_pos hx2).trans (br_pos hx2))
    rw [← he]
    have hg : turnR xs e = bif risR xs && !(e.2.2 == hasR xs e.2.1) then
      some (bif e.2.2 then xs.take (cntR e.2.1 xs) ++ [e.2.1] ++ xs.drop (cntR e.2.1 xs) else xs.take (findR xs e.2.1).toNat ++ xs.drop ((findR xs e.2.1).toNat + 1)) else none := rfl
    cases hr : risR xs with
    | false =>
      have h1 : turnR xs e = none := by rw [hg, hr]; rfl
      have h2 : turnL xs e = [] := by unfold turnL; rw [h1]; rfl
      have h3 : turnO xs e = false := by unfold turnO; rw [h1]; rfl
      rw [h2, h3]
      exact Goes.call (Goes.now fun rec H L => (hin rec H L).trans (br_neg (by rw [hr]; rfl))) (by kernel_rfl) (by kernel_rfl)
    | true =>
      have hin2 := fun rec H L => (hin rec H L).trans (br_pos (by rw [hr]; rfl))
      cases hh : (x == hasR xs (a, b)) with
      | true =>
        have h1 : turnR xs e = none := by rw [hg, hr, he]; show (bif true && !(x == hasR xs (a, b)) then _ else none) = none; rw [hh]; rfl
        have h2 : turnL xs e = [] := by unfold turnL; rw [h1]; rfl
        have h3 : turnO xs e = false := by unfold turnO; rw [h1]; rfl
        rw [h2, h3]
        exact Goes.call (Goes.now fun rec H L => (hin2 rec H L).trans (br_pos hh)) (by kernel_rfl) (by kernel_rfl)
      | false =>
        have hin3 := fun rec H L => (hin2 rec H L).trans (br_neg hh)
        cases x with
        | false =>
          have h1 : turnR xs e = some (xs.take (findR xs (a, b)).toNat ++ xs.drop ((findR xs (a, b)).toNat + 1)) := by
            rw [hg, hr, he]; show (bif true && !(false == hasR xs (a, b)) then some _ else none) = _; rw [hh]; rfl
          have hf : 0 ≤ findR xs (a, b) := by
            have : hasR xs (a, b) = true := by cases hq : hasR xs (a, b) with | true => rfl | false => rw [hq] at hh; cases hh
            exact of_decide_eq_true this
          have hb := findF_bd (a, b) xs 0
          change findR xs (a, b) = -1 ∨ 0 ≤ findR xs (a, b) ∧ findR xs (a, b) < 0 + xs.length at hb
          obtain ⟨k, hk⟩ : ∃ k : Nat, findR xs (a, b) = k := ⟨(findR xs (a, b)).toNat, by omega⟩
          have hkl : k < xs.length := by omega
          rw [hk, Int.toNat_natCast] at h1
          have h2 : turnL xs e = xs.take k ++ xs.drop (k + 1) := by unfold turnL; rw [h1]; rfl
          have h3 : turnO xs e = true := by unfold turnO; rw [h1]; rfl
          rw [h2, h3]
          have e1 : IntKind.i64.wrap ((k : Int) + 1) = ((k + 1 : Nat) : Int) := w64_id (by omega) (by omega)
          refine Goes.call (e := .ret) (st' := mkSt 60 [(4, .s (.c (⟨.own 1024 none, .sl eE (isNilL (xs.take k ++ xs.drop (k + 1))) (xs.take k ++ xs.drop (k + 1))⟩))), (5, vS (.bool true))] []) (Goes.now fun rec H L => (hin3 rec H L).trans ?_) (by kernel_rfl) (by kernel_rfl)
          refine (br_pos rfl).trans ?_
          rw [show (((a, b), false).fst.fst, ((a, b), false).fst.snd) = (a, b) from rfl, hk, e1, by50]
          rw [Int.toNat_natCast, Int.toNat_natCast, isNil_app]
          rw [br_pos (leR_yes (by omega) (by omega)), br_pos (fits_small (by rw [List.length_take]; omega) (by decide)), br_pos (leR_yes (by omega) (by omega)), br_pos (fits_small (by rw [List.length_take, List.length_drop]; omega) (by decide))]
        | true =>
          have h1 : turnR xs e = some (xs.take (cntR (a, b) xs) ++ [(a, b)] ++ xs.drop (cntR (a, b) xs)) := by
            rw [hg, hr, he]; show (bif true && !(true == hasR xs (a, b)) then some _ else none) = _; rw [hh]; rfl
          have h2 : turnL xs e = xs.take (cntR (a, b) xs) ++ [(a, b)] ++ xs.drop (cntR (a, b) xs) := by unfold turnL; rw [h1]; rfl
          have h3 : turnO xs e = true := by unfold turnO; rw [h1]; rfl
          rw [h2, h3]
          have hin4 : ∀ rec H L, fnWay V12 21 [eS nl xs, evA (t, (a, b), true)] rec H L = L 0 (turnSt nl xs e 0) := fun rec H L => by
            refine (hin3 rec H L).trans ((br_neg rfl).trans ?_)
            rw [he]
            rfl
          have lp := turnLoop (nl := nl) (e := e) hx' xs.length 0 (by omega)
          rw [List.drop_zero, Nat.zero_add, show e.2.1 = (a, b) by rw [he]] at lp
          have hkl := cntR_le (a, b) xs
          generalize cntR (a, b) xs = k at *
          have hout : Goes V12 21 (fnPl V12 21) ((fnPl V12 21).past V12 21 0 (.exit 0) (turnSt nl xs e k)) .ret (mkSt 60 [(4, .s (.c (⟨.own 1888 none, .sl eE (isNilL (xs.take k ++ [(a, b)] ++ xs.drop k)) (xs.take k ++ [(a, b)] ++ xs.drop k)⟩))), (5, vS (.bool true))] []) := by
            rw [he]
            refine Goes.now fun rec H L => (turnOut rec H L nl xs t a b true _).trans ?_
            rw [show (((a, b), true).fst.fst, ((a, b), true).fst.snd) = (a, b) from rfl, by50, Int.toNat_natCast, isNil_app, isNil_app]
            rw [br_pos (leR_yes (by omega) (by omega)), br_pos (fits_small (by rw [List.length_take]; omega) (by decide)), br_pos (fits_small (by rw [List.length_take, List.length_singleton]; omega) (by decide)), br_pos (leR_yes (by omega) (by omega)), br_pos (fits_small (by rw [List.length_append, List.length_take, List.length_drop, List.length_singleton]; omega) (by decide))]
          exact Goes.call (Goes.of hin4 (Goes.loop lp hout (by kernel_rfl) (by kernel_rfl) rfl)) (by kernel_rfl) (by kernel_rfl)
  · exact leaf_none h
def upSt (n : Int) (nl : Bool) (xs : List Ev) (t : Int) (i : Nat) : St := mkSt 24 [(1, vS (.int .i64 t)), (2, .s (.c ⟨.ro, .ptr 0 0⟩)), (5, vS (.int .i64 (i : Int)))] [[vC (.int .u64 n), ⟨.ro, .sl vE nl xs⟩]]
theorem nthV_drop {xs : List Ev} {i : Nat} (h : i < xs.length) : xs.drop i = nV xs i :: xs.drop (i + 1) := nth_drop (e := vE) h
theorem upLoop {n : Int} {nl : Bool} {xs : List Ev} {t : Int} (hx : xs.length ≤ 1000000) : ∀ d i, i + d = xs.length → Loops V12 23 (fnPl V12 23) 0 (upSt n nl xs t i) (.exit 0) (mkSt 24 [(5, vS (.int .i64 ((i + uptoR t (xs.drop i) : Nat) : Int)))] [])
  | 0, i, h => by
    rw [List.drop_of_length_le (by omega)]
    exact Loops.done (Goes.now fun rec H L => (uptoRnd rec H L n nl xs t _).trans (br_neg (decide_eq_false (by omega)))) (by simp) (by kernel_rfl)
  | d + 1, i, h => by
    have e1 : IntKind.i64.wrap ((i : Int) + 1) = ((i + 1 : Nat) : Int) := w64_id (by omega) (by omega)
    have hw : ∀ rec H L, ((fnPl V12 23).at V12 23 0).way V12 23 (upSt n nl xs t i) rec H L = br (decide ((nV xs i).1 ≤ t)) (H .normal (upSt n nl xs t (i + 1))) (H (.exit 0) (mkSt 24 [(5, vS (.int .i64 (i : Int)))] [])) := fun rec H L => by
      refine (uptoRnd rec H L n nl xs t _).trans ?_
      rw [br_pos (decide_eq_true (by omega)), e1, br_pos (inR_yes (by omega) (by omega))]
      rfl
    rw [nthV_drop (by omega)]
    show Loops V12 23 (fnPl V12 23) 0 _ (.exit 0) (mkSt 24 [(5, vS (.int .i64 ((i + (bif decide ((nV xs i).1 ≤ t) then uptoR t (xs.drop (i + 1)) + 1 else 0) : Nat) : Int)))] [])
    cases hc : decide ((nV xs i).1 ≤ t) with
    | true =>
      have := upLoop (n := n) (nl := nl) (t := t) hx d (i + 1) (by omega)
      rw [show i + 1 + uptoR t (List.drop (i + 1) xs) = i + (uptoR t (List.drop (i + 1) xs) + 1) by omega] at this
      exact Loops.step (Goes.now fun rec H L => (hw rec H L).trans (br_pos hc)) this (by kernel_rfl)
    | false => exact Loops.done (Goes.now fun rec H L => (hw rec H L).trans (br_neg hc)) (by simp) (by kernel_rfl)
theorem uptoK (args : List S1) (r : Res) (h : (uptoH args).den = some r) : ∃ n, call V12 n 23 args = some r := by
  unfold uptoH at h
  split at h
  · rename_i n nl xs t
    obtain ⟨hx, h⟩ := tree_yes h
    obtain rfl := ok_some h
    have hin : ∀ rec H L, fnWay V12 23 [hiA n nl xs, wS .i64 t] rec H L = L 0 (upSt n nl xs t 0) := fun rec H L => uptoIn rec H L n nl xs t
    have lp := upLoop (n := n) (nl := nl) (t := t) (of_decide_eq_true hx) xs.length 0 (by omega)
    rw [List.drop_zero, Nat.zero_add] at lp
    exact Goes.call (Goes.of hin (Goes.loop lp (Goes.now (uptoOut · · · _)) (by kernel_rfl) (by kernel_rfl) rfl)) (by kernel_rfl) (by kernel_rfl)
  · exact leaf_none h
theorem sok13 : SOK l13 :=
  stubs_cons (x := (19, co [cV] (plain insH))) (known_co [cV] (known_plain (V := V12) mix (sok12 _ rfl rfl) insK')) <|
  stubs_cons (x := (21, co [cE] (plain turnH))) (known_co [cE] (known_plain (V := V12) mix (sok12 _ rfl rfl) turnK)) <|
  stubs_cons (x := (23, co [cH] (plain uptoH))) (known_co [cH] (known_plain (V := V12) mix (sok12 _ rfl rfl) uptoK)) sok12
end Go.Proofs.Ythiaaaedfidnjaa.Aj

namespace Go.Proofs.Ythiaaaedfidnjaa.Aj
open Go Go.Proofs.Ythiaaaedfidnjaa.Am Go.RowKit
set_option linter.unusedVariables false
set_option linter.unusedSimpArgs false
set_option maxRecDepth 100000
noncomputable def V13 : Env := V l13
abbrev hB0 : List C := [vC (.int .u64 0), ⟨.ro, .nilv⟩]
theorem chkIn (rec : Rec) (H : K) (L : Nat → St → Option Res) (n : Int) (nl : Bool) (xs : List Ev) :
    fnWay V13 35 [hiA n nl xs] rec H L =
  br (!decide (n > 4294967296)) (
    br (decide ((↑xs.length : Int) > 2147483648)) (
      H .ret (mkSt 73 [(2, vS (.int .i64 0)), (3, vS (.int .i64 26))] [])) (
      L 0 (mkSt 73 [(1, .s (.c (⟨.ro, AV.ptr 0 0⟩))), (4, .s (.c (⟨.ro, AV.sl ((CL.int IntKind.u32).cons (CL.int IntKind.u32)) true []⟩))), (5, vS (.int .i64 0))] [[vC (.int .u64 n), ⟨.ro, AV.sl ((CL.int IntKind.i64).cons (((CL.int IntKind.u32).cons (CL.int IntKind.u32)).cons CL.bool)) nl xs⟩]]))) (
    H .ret (mkSt 73 [(2, vS (.int .i64 0)), (3, vS (.int .i64 26))] [])) := by kernel_rfl
theorem chkRnd (rec : Rec) (H : K) (L : Nat → St → Option Res) (n : Int) (nl : Bool) (xs : List Ev) (ml : Bool) (now : List Ed) (i : Int) :
    ((fnPl V13 35).at V13 35 0).way V13 35 (mkSt 73 [(1, .s (.c ⟨.ro, .ptr 0 0⟩)), (4, .s (eS ml now)), (5, vS (.int .i64 i))] [[vC (.int .u64 n), ⟨.ro, .sl vE nl xs⟩]]) rec H L =
  br (decide (i < (↑xs.length : Int))) (
    br (inR i xs.length) (
      br (!decide ((nth vE xs i.toNat).fst < 0)) (
        br (decide ((nth vE xs i.toNat).fst > 4611686018427387903)) (
          H .ret (mkSt 73 [(2, vS (.int .i64 i)), (3, vS (.int .i64 26))] [])) (
          br (!rightR ((nth vE xs i.toNat).snd.fst.fst, (nth vE xs i.toNat).snd.fst.snd) n) (
            H .ret (mkSt 73 [(2, vS (.int .i64 i)), (3, vS (.int .i64 24))] [])) (
            br (decide (i > 0)) (
              br (inR (IntKind.i64.wrap (i - 1)) xs.length) (
                br (!befR ((nth vE xs (IntKind.i64.wrap (i - 1)).toNat).fst, ((nth vE xs (IntKind.i64.wrap (i - 1)).toNat).snd.fst.fst, (nth vE xs (IntKind.i64.wrap (i - 1)).toNat).snd.fst.snd), (nth vE xs (IntKind.i64.wrap (i - 1)).toNat).snd.snd) ((nth vE xs i.toNat).fst, ((nth vE xs i.toNat).snd.fst.fst, (nth vE xs i.toNat).snd.fst.snd), (nth vE xs i.toNat).snd.snd)) (
                  H .ret (mkSt 73 [(2, vS (.int .i64 i)), (3, vS (.int .i64 23))] [])) (
                  br (decide (now.length ≤ 1000000)) (
                    br (!turnO now ((nth vE xs i.toNat).fst, ((nth vE xs i.toNat).snd.fst.fst, (nth vE xs i.toNat).snd.fst.snd), (nth vE xs i.toNat).snd.snd)) (
                      H .ret (mkSt 73 [(2, vS (.int .i64 i)), (3, vS (.int .i64 25))] [])) (
                      H .normal (mkSt 73 [(1, .s (.c (⟨.ro, AV.ptr 0 0⟩))), (4, .s (.c (⟨.ro, AV.sl ((CL.int IntKind.u32).cons (CL.int IntKind.u32)) (isNilL (turnL now ((nth vE xs i.toNat).fst, ((nth vE xs i.toNat).snd.fst.fst, (nth vE xs i.toNat).snd.fst.snd), (nth vE xs i.toNat).snd.snd)), turnL now ((nth vE xs i.toNat).fst, ((nth vE xs i.toNat).snd.fst.fst, (nth vE xs i.toNat).snd.fst.snd), (nth vE xs i.toNat).snd.snd)).fst (isNilL (turnL now ((nth vE xs i.toNat).fst, ((nth vE xs i.toNat).snd.fst.fst, (nth vE xs i.toNat).snd.fst.snd), (nth vE xs i.toNat).snd.snd)), turnL now ((nth vE xs i.toNat).fst, ((nth vE xs i.toNat).snd.fst.fst, (nth vE xs i.toNat).snd.fst.snd), (nth vE xs i.toNat).snd.snd)).snd⟩))), (5, vS (.int .i64 (IntKind.i64.wrap (i + 1))))] [[vC (.int .u64 n), ⟨.ro, AV.sl ((CL.int IntKind.i64).cons (((CL.int IntKind.u32).cons (CL.int IntKind.u32)).cons CL.bool)) nl xs⟩]]))) (
                    none))) (
                none)) (
              br (decide (now.length ≤ 1000000)) (
                br (!turnO now ((nth vE xs i.toNat).fst, ((nth vE xs i.toNat).snd.fst.fst, (nth vE xs i.toNat).snd.fst.snd), (nth vE xs i.toNat).snd.snd)) (
                  H .ret (mkSt 73 [(2, vS (.int .i64 i)), (3, vS (.int .i64 25))] [])) (
                  H .normal (mkSt 73 [(1, .s (.c (⟨.ro, AV.ptr 0 0⟩))), (4, .s (.c (⟨.ro, AV.sl ((CL.int IntKind.u32).cons (CL.int IntKind.u32)) (isNilL (turnL now ((nth vE xs i.toNat).fst, ((nth vE xs i.toNat).snd.fst.fst, (nth vE xs i.toNat).snd.fst.snd), (nth vE xs i.toNat).snd.snd)), turnL now ((nth vE xs i.toNat).fst, ((nth vE xs i.toNat).snd.fst.fst, (nth vE xs i.toNat).snd.fst.snd), (nth vE xs i.toNat).snd.snd)).fst (isNilL (turnL now ((nth vE xs i.toNat).fst, ((nth vE xs i.toNat).snd.fst.fst, (nth vE xs i.toNat).snd.fst.snd), (nth vE xs i.toNat).snd.snd)), turnL now ((nth vE xs i.toNat).fst, ((nth vE xs i.toNat).snd.fst.fst, (nth vE xs i.toNat).snd.fst.snd), (nth vE xs i.toNat).snd.snd)).snd⟩))), (5, vS (.int .i64 (IntKind.i64.wrap (i + 1))))] [[vC (.int .u64 n), ⟨.ro, AV.sl ((CL.int IntKind.i64).cons (((CL.int IntKind.u32).cons (CL.int IntKind.u32)).cons CL.bool)) nl xs⟩]]))) (
                none))))) (
        H .ret (mkSt 73 [(2, vS (.int .i64 i)), (3, vS (.int .i64 26))] []))) (
      none)) (
    H (.exit 0) (mkSt 73 [] [])) := by kernel_rfl
theorem chkOut (rec : Rec) (H : K) (L : Nat → St → Option Res) (z : Int) :
    (fnPl V13 35).past V13 35 0 (.exit 0) (mkSt 73 [] []) rec H L =
  H .ret (mkSt 73 [(2, vS (.int .i64 0)), (3, vS (.int .i64 0))] []) := by kernel_rfl
theorem timeIn (rec : Rec) (H : K) (L : Nat → St → Option Res) (n : Int) (nl : Bool) (xs : List Ev) (k : Int) :
    fnWay V13 10 [hiA n nl xs, wS .u8 k] rec H L =
  br (!(↑xs.length : Int) == 0) (
    br (decide (k > 245)) (
      br (inR (k.tmod 6) [0, 5, 4611686018427387903, 9223372036854775807, -1, -9223372036854775808].length) (
        H .ret (mkSt 35 [(4, vS (.int .i64 (nth (CL.int IntKind.i64) [0, 5, 4611686018427387903, 9223372036854775807, -1, -9223372036854775808] (k.tmod 6).toNat)))] [])) (
        none)) (
      br (decide ((↑xs.length : Int) = 0)) (
        none) (
        br (inR ((IntKind.i64.wrap (IntKind.u8.wrap (k.tdiv 3))).tmod (↑xs.length : Int)) xs.length) (
          H .ret (mkSt 35 [(4, vS (.int .i64 (IntKind.i64.wrap (IntKind.i64.wrap ((nth vE xs ((IntKind.i64.wrap (IntKind.u8.wrap (k.tdiv 3))).tmod (↑xs.length : Int)).toNat).fst + IntKind.i64.wrap (k.tmod 3)) - 1))))] [])) (
          none)))) (
    br (inR (k.tmod 6) [0, 5, 4611686018427387903, 9223372036854775807, -1, -9223372036854775808].length) (
      H .ret (mkSt 35 [(4, vS (.int .i64 (nth (CL.int IntKind.i64) [0, 5, 4611686018427387903, 9223372036854775807, -1, -9223372036854775808] (k.tmod 6).toNat)))] [])) (
      none)) := by kernel_rfl
theorem hisIn (rec : Rec) (H : K) (L : Nat → St → Option Res) (k : Int) (nl : Bool) (l : List Int) :
    fnWay V13 8 [wS .u8 k, bS nl l] rec H L =
  br (decide (0 ≤ k)) (
    L 0 (mkSt 104 [(1, .s (.c (⟨.ro, AV.sl (CL.int IntKind.u8) nl l⟩))), (4, .s (.c (⟨.ro, AV.ptr 0 0⟩))), (5, .s (.c (⟨.ro, AV.ptr 1 0⟩))), (6, vS (.int .i64 (IntKind.i64.wrap (k.tmod 3)))), (7, .s (.c (⟨.ro, AV.sl ((CL.int IntKind.i64).cons (((CL.int IntKind.u32).cons (CL.int IntKind.u32)).cons CL.bool)) true []⟩))), (8, vS (.int .i64 0))] [[vC (.int .u64 0), ⟨.ro, AV.nilv⟩], [vC (.int .u64 (vtT k)), ⟨.ro, AV.nilv⟩]])) (
    none) := by kernel_rfl
theorem hisRnd (rec : Rec) (H : K) (L : Nat → St → Option Res) (nl : Bool) (l : List Int) (n t : Int) (tl : Bool) (ts : List Ev) (i : Int) :
    ((fnPl V13 8).at V13 8 0).way V13 8 (mkSt 104 [(1, .s (bS nl l)), (4, .s (.c ⟨.ro, .ptr 0 0⟩)), (5, .s (.c ⟨.ro, .ptr 1 0⟩)), (6, vS (.int .i64 t)), (7, .s (vS1 tl ts)), (8, vS (.int .i64 i))] [hB0, [vC (.int .u64 n), ⟨.ro, .nilv⟩]]) rec H L =
  br (decide (IntKind.i64.wrap (i + 2) < (↑l.length : Int))) (
    br (decide ((↑ts.length : Int) < 40)) (
      br (inR i l.length) (
        br (inR i l.length) (
          br (decide (nth (CL.int IntKind.u8) l i.toNat > 240)) (
            br (inR i l.length) (
              br (decide (Int.tmod (nth (CL.int IntKind.u8) l i.toNat) 40 < 0)) (
                none) (
                br (inR (IntKind.i64.wrap (i + 1)) l.length) (
                  br (inR (IntKind.i64.wrap (i + 2)) l.length) (
                    br (decide (0 ≤ nth (CL.int IntKind.u8) l (IntKind.i64.wrap (i + 1)).toNat) && (decide (0 ≤ nth (CL.int IntKind.u8) l (IntKind.i64.wrap (i + 2)).toNat) && (decide (nth (CL.int IntKind.u8) l (IntKind.i64.wrap (i + 1)).toNat < 256) && (decide (nth (CL.int IntKind.u8) l (IntKind.i64.wrap (i + 2)).toNat < 256) && (decide (1 ≤ n) && decide (n ≤ 4294967296)))))) (
                      br (edgO (nth (CL.int IntKind.u8) l (IntKind.i64.wrap (i + 1)).toNat) (nth (CL.int IntKind.u8) l (IntKind.i64.wrap (i + 2)).toNat) n) (
                        br (decide (ts.length ≤ 1000000)) (
                          H .normal (mkSt 104 [(1, .s (.c (⟨.ro, AV.sl (CL.int IntKind.u8) nl l⟩))), (4, .s (.c (⟨.ro, AV.ptr 0 0⟩))), (5, .s (.c (⟨.ro, AV.ptr 1 0⟩))), (6, vS (.int .i64 (IntKind.i64.wrap (IntKind.i64.wrap (t + IntKind.i64.wrap (Int.tmod (nth (CL.int IntKind.u8) l i.toNat) 4)) + IntKind.i64.wrap (1 * 2 ^ min (Int.tmod (nth (CL.int IntKind.u8) l i.toNat) 40).toNat IntKind.i64.bits))))), (7, .s (.c (⟨.ro, AV.sl ((CL.int IntKind.i64).cons (((CL.int IntKind.u32).cons (CL.int IntKind.u32)).cons CL.bool)) (bif insSame ts (IntKind.i64.wrap (IntKind.i64.wrap (t + IntKind.i64.wrap (Int.tmod (nth (CL.int IntKind.u8) l i.toNat) 4)) + IntKind.i64.wrap (1 * 2 ^ min (Int.tmod (nth (CL.int IntKind.u8) l i.toNat) 40).toNat IntKind.i64.bits)), ((edgA (nth (CL.int IntKind.u8) l (IntKind.i64.wrap (i + 1)).toNat) (nth (CL.int IntKind.u8) l (IntKind.i64.wrap (i + 2)).toNat) n, edgB (nth (CL.int IntKind.u8) l (IntKind.i64.wrap (i + 1)).toNat) (nth (CL.int IntKind.u8) l (IntKind.i64.wrap (i + 2)).toNat) n).fst, (edgA (nth (CL.int IntKind.u8) l (IntKind.i64.wrap (i + 1)).toNat) (nth (CL.int IntKind.u8) l (IntKind.i64.wrap (i + 2)).toNat) n, edgB (nth (CL.int IntKind.u8) l (IntKind.i64.wrap (i + 1)).toNat) (nth (CL.int IntKind.u8) l (IntKind.i64.wrap (i + 2)).toNat) n).snd), false) then tl else false) (insR ts (IntKind.i64.wrap (IntKind.i64.wrap (t + IntKind.i64.wrap (Int.tmod (nth (CL.int IntKind.u8) l i.toNat) 4)) + IntKind.i64.wrap (1 * 2 ^ min (Int.tmod (nth (CL.int IntKind.u8) l i.toNat) 40).toNat IntKind.i64.bits)), ((edgA (nth (CL.int IntKind.u8) l (IntKind.i64.wrap (i + 1)).toNat) (nth (CL.int IntKind.u8) l (IntKind.i64.wrap (i + 2)).toNat) n, edgB (nth (CL.int IntKind.u8) l (IntKind.i64.wrap (i + 1)).toNat) (nth (CL.int IntKind.u8) l (IntKind.i64.wrap (i + 2)).toNat) n).fst, (edgA (nth (CL.int IntKind.u8) l (IntKind.i64.wrap (i + 1)).toNat) (nth (CL.int IntKind.u8) l (IntKind.i64.wrap (i + 2)).toNat) n, edgB (nth (CL.int IntKind.u8) l (IntKind.i64.wrap (i + 1)).toNat) (nth (CL.int IntKind.u8) l (IntKind.i64.wrap (i + 2)).toNat) n).snd), false))⟩))), (8, vS (.int .i64 (IntKind.i64.wrap (i + 3))))] [[vC (.int .u64 0), ⟨.ro, AV.nilv⟩], [vC (.int .u64 n), ⟨.ro, AV.nilv⟩]])) (
                          none)) (
                        H .normal (mkSt 104 [(1, .s (.c (⟨.ro, AV.sl (CL.int IntKind.u8) nl l⟩))), (4, .s (.c (⟨.ro, AV.ptr 0 0⟩))), (5, .s (.c (⟨.ro, AV.ptr 1 0⟩))), (6, vS (.int .i64 (IntKind.i64.wrap (IntKind.i64.wrap (t + IntKind.i64.wrap (Int.tmod (nth (CL.int IntKind.u8) l i.toNat) 4)) + IntKind.i64.wrap (1 * 2 ^ min (Int.tmod (nth (CL.int IntKind.u8) l i.toNat) 40).toNat IntKind.i64.bits))))), (7, .s (.c (⟨.ro, AV.sl ((CL.int IntKind.i64).cons (((CL.int IntKind.u32).cons (CL.int IntKind.u32)).cons CL.bool)) tl ts⟩))), (8, vS (.int .i64 (IntKind.i64.wrap (i + 3))))] [[vC (.int .u64 0), ⟨.ro, AV.nilv⟩], [vC (.int .u64 n), ⟨.ro, AV.nilv⟩]]))) (
                      none)) (
                    none)) (
                  none))) (
              none)) (
            br (inR (IntKind.i64.wrap (i + 1)) l.length) (
              br (inR (IntKind.i64.wrap (i + 2)) l.length) (
                br (decide (0 ≤ nth (CL.int IntKind.u8) l (IntKind.i64.wrap (i + 1)).toNat) && (decide (0 ≤ nth (CL.int IntKind.u8) l (IntKind.i64.wrap (i + 2)).toNat) && (decide (nth (CL.int IntKind.u8) l (IntKind.i64.wrap (i + 1)).toNat < 256) && (decide (nth (CL.int IntKind.u8) l (IntKind.i64.wrap (i + 2)).toNat < 256) && (decide (1 ≤ n) && decide (n ≤ 4294967296)))))) (
                  br (edgO (nth (CL.int IntKind.u8) l (IntKind.i64.wrap (i + 1)).toNat) (nth (CL.int IntKind.u8) l (IntKind.i64.wrap (i + 2)).toNat) n) (
                    br (decide (ts.length ≤ 1000000)) (
                      H .normal (mkSt 104 [(1, .s (.c (⟨.ro, AV.sl (CL.int IntKind.u8) nl l⟩))), (4, .s (.c (⟨.ro, AV.ptr 0 0⟩))), (5, .s (.c (⟨.ro, AV.ptr 1 0⟩))), (6, vS (.int .i64 (IntKind.i64.wrap (t + IntKind.i64.wrap (Int.tmod (nth (CL.int IntKind.u8) l i.toNat) 4))))), (7, .s (.c (⟨.ro, AV.sl ((CL.int IntKind.i64).cons (((CL.int IntKind.u32).cons (CL.int IntKind.u32)).cons CL.bool)) (bif insSame ts (IntKind.i64.wrap (t + IntKind.i64.wrap (Int.tmod (nth (CL.int IntKind.u8) l i.toNat) 4)), ((edgA (nth (CL.int IntKind.u8) l (IntKind.i64.wrap (i + 1)).toNat) (nth (CL.int IntKind.u8) l (IntKind.i64.wrap (i + 2)).toNat) n, edgB (nth (CL.int IntKind.u8) l (IntKind.i64.wrap (i + 1)).toNat) (nth (CL.int IntKind.u8) l (IntKind.i64.wrap (i + 2)).toNat) n).fst, (edgA (nth (CL.int IntKind.u8) l (IntKind.i64.wrap (i + 1)).toNat) (nth (CL.int IntKind.u8) l (IntKind.i64.wrap (i + 2)).toNat) n, edgB (nth (CL.int IntKind.u8) l (IntKind.i64.wrap (i + 1)).toNat) (nth (CL.int IntKind.u8) l (IntKind.i64.wrap (i + 2)).toNat) n).snd), false) then tl else false) (insR ts (IntKind.i64.wrap (t + IntKind.i64.wrap (Int.tmod (nth (CL.int IntKind.u8) l i.toNat) 4)), ((edgA (nth (CL.int IntKind.u8) l (IntKind.i64.wrap (i + 1)).toNat) (nth (CL.int IntKind.u8) l (IntKind.i64.wrap (i + 2)).toNat) n, edgB (nth (CL.int IntKind.u8) l (IntKind.i64.wrap (i + 1)).toNat) (nth (CL.int IntKind.u8) l (IntKind.i64.wrap (i + 2)).toNat) n).fst, (edgA (nth (CL.int IntKind.u8) l (IntKind.i64.wrap (i + 1)).toNat) (nth (CL.int IntKind.u8) l (IntKind.i64.wrap (i + 2)).toNat) n, edgB (nth (CL.int IntKind.u8) l (IntKind.i64.wrap (i + 1)).toNat) (nth (CL.int IntKind.u8) l (IntKind.i64.wrap (i + 2)).toNat) n).snd), false))⟩))), (8, vS (.int .i64 (IntKind.i64.wrap (i + 3))))] [[vC (.int .u64 0), ⟨.ro, AV.nilv⟩], [vC (.int .u64 n), ⟨.ro, AV.nilv⟩]])) (
                      none)) (
                    H .normal (mkSt 104 [(1, .s (.c (⟨.ro, AV.sl (CL.int IntKind.u8) nl l⟩))), (4, .s (.c (⟨.ro, AV.ptr 0 0⟩))), (5, .s (.c (⟨.ro, AV.ptr 1 0⟩))), (6, vS (.int .i64 (IntKind.i64.wrap (t + IntKind.i64.wrap (Int.tmod (nth (CL.int IntKind.u8) l i.toNat) 4))))), (7, .s (.c (⟨.ro, AV.sl ((CL.int IntKind.i64).cons (((CL.int IntKind.u32).cons (CL.int IntKind.u32)).cons CL.bool)) tl ts⟩))), (8, vS (.int .i64 (IntKind.i64.wrap (i + 3))))] [[vC (.int .u64 0), ⟨.ro, AV.nilv⟩], [vC (.int .u64 n), ⟨.ro, AV.nilv⟩]]))) (
                  none)) (
                none)) (
              none))) (
          none)) (
        none)) (
      H (.exit 0) (mkSt 104 [(4, .s (.c (⟨.ro, AV.ptr 0 0⟩))), (5, .s (.c (⟨.ro, AV.ptr 1 0⟩))), (7, .s (.c (⟨.ro, AV.sl ((CL.int IntKind.i64).cons (((CL.int IntKind.u32).cons (CL.int IntKind.u32)).cons CL.bool)) tl ts⟩)))] [[vC (.int .u64 0), ⟨.ro, AV.nilv⟩], [vC (.int .u64 n), ⟨.ro, AV.nilv⟩]]))) (
    H (.exit 0) (mkSt 104 [(4, .s (.c (⟨.ro, AV.ptr 0 0⟩))), (5, .s (.c (⟨.ro, AV.ptr 1 0⟩))), (7, .s (.c (⟨.ro, AV.sl ((CL.int IntKind.i64).cons (((CL.int IntKind.u32).cons (CL.int IntKind.u32)).cons CL.bool)) tl ts⟩)))] [[vC (.int .u64 0), ⟨.ro, AV.nilv⟩], [vC (.int .u64 n), ⟨.ro, AV.nilv⟩]])) := by kernel_rfl
theorem hisMid (rec : Rec) (H : K) (L : Nat → St → Option Res) (n : Int) (tl : Bool) (ts : List Ev) :
    (fnPl V13 8).past V13 8 0 (.exit 0) (mkSt 104 [(4, .s (.c ⟨.ro, .ptr 0 0⟩)), (5, .s (.c ⟨.ro, .ptr 1 0⟩)), (7, .s (vS1 tl ts))] [hB0, [vC (.int .u64 n), ⟨.ro, .nilv⟩]]) rec H L =
  L 1 (mkSt 104 [(4, .s (.c (⟨.ro, AV.ptr 0 0⟩))), (5, .s (.c (⟨.ro, AV.ptr 1 0⟩))), (7, .s (.c (⟨.ro, AV.sl ((CL.int IntKind.i64).cons (((CL.int IntKind.u32).cons (CL.int IntKind.u32)).cons CL.bool)) tl ts⟩))), (11, .s (.c (⟨.ro, AV.sl ((CL.int IntKind.u32).cons (CL.int IntKind.u32)) true []⟩))), (12, vS (.int .i64 0))] [[vC (.int .u64 0), ⟨.ro, AV.nilv⟩], [vC (.int .u64 n), ⟨.ro, AV.nilv⟩]]) := by kernel_rfl
theorem hisEvN (rec : Rec) (H : K) (L : Nat → St → Option Res) (n : Int) (tl : Bool) (ts : List Ev) (ml : Bool) (now : List Ed) (i : Int) :
    ((fnPl V13 8).at V13 8 1).way V13 8 (mkSt 104 [(4, .s (.c ⟨.ro, .ptr 0 0⟩)), (5, .s (.c ⟨.ro, .ptr 1 0⟩)), (7, .s (vS1 tl ts)), (11, .s (eS ml now)), (12, vS (.int .i64 i))] [hB0, [vC (.int .u64 n), ⟨.ro, .nilv⟩]]) rec H L =
  br (decide (i < (↑ts.length : Int))) (
    br (inR i ts.length) (
      br (decide (now.length ≤ 1000000)) (
        br (decide (now.length ≤ 1000000)) (
          H .normal (mkSt 104 [(4, .s (.c (⟨.ro, AV.ptr 0 0⟩))), (5, .s (.c (⟨.ro, AV.ptr 1 0⟩))), (7, .s (.c (⟨.ro, AV.sl ((CL.int IntKind.i64).cons (((CL.int IntKind.u32).cons (CL.int IntKind.u32)).cons CL.bool)) tl ts⟩))), (11, .s (.c (⟨.ro, AV.sl ((CL.int IntKind.u32).cons (CL.int IntKind.u32)) (isNilL (turnL now ((nth vE ts i.toNat).fst, ((nth vE ts i.toNat).snd.fst.fst, (nth vE ts i.toNat).snd.fst.snd), !hasR now ((nth vE ts i.toNat).snd.fst.fst, (nth vE ts i.toNat).snd.fst.snd))), turnL now ((nth vE ts i.toNat).fst, ((nth vE ts i.toNat).snd.fst.fst, (nth vE ts i.toNat).snd.fst.snd), !hasR now ((nth vE ts i.toNat).snd.fst.fst, (nth vE ts i.toNat).snd.fst.snd))).fst (isNilL (turnL now ((nth vE ts i.toNat).fst, ((nth vE ts i.toNat).snd.fst.fst, (nth vE ts i.toNat).snd.fst.snd), !hasR now ((nth vE ts i.toNat).snd.fst.fst, (nth vE ts i.toNat).snd.fst.snd))), turnL now ((nth vE ts i.toNat).fst, ((nth vE ts i.toNat).snd.fst.fst, (nth vE ts i.toNat).snd.fst.snd), !hasR now ((nth vE ts i.toNat).snd.fst.fst, (nth vE ts i.toNat).snd.fst.snd))).snd⟩))), (12, vS (.int .i64 (IntKind.i64.wrap (i + 1))))] [[vC (.int .u64 0), ⟨.ro, AV.nilv⟩], [vC (.int .u64 n), ⟨.own 131 none, AV.sl ((CL.int IntKind.i64).cons (((CL.int IntKind.u32).cons (CL.int IntKind.u32)).cons CL.bool)) (isNilL [((nth vE ts i.toNat).fst, ((nth vE ts i.toNat).snd.fst.fst, (nth vE ts i.toNat).snd.fst.snd), !hasR now ((nth vE ts i.toNat).snd.fst.fst, (nth vE ts i.toNat).snd.fst.snd))]) [((nth vE ts i.toNat).fst, ((nth vE ts i.toNat).snd.fst.fst, (nth vE ts i.toNat).snd.fst.snd), !hasR now ((nth vE ts i.toNat).snd.fst.fst, (nth vE ts i.toNat).snd.fst.snd))]⟩]])) (
          none)) (
        none)) (
      none)) (
    H (.exit 2) (mkSt 104 [(4, .s (.c (⟨.ro, AV.ptr 0 0⟩))), (5, .s (.c (⟨.ro, AV.ptr 1 0⟩)))] [[vC (.int .u64 0), ⟨.ro, AV.nilv⟩], [vC (.int .u64 n), ⟨.ro, AV.nilv⟩]])) := by kernel_rfl
theorem hisEv (rec : Rec) (H : K) (L : Nat → St → Option Res) (n : Int) (tl : Bool) (ts : List Ev) (ml : Bool) (now : List Ed) (i : Int) (out : List Ev) :
    ((fnPl V13 8).at V13 8 1).way V13 8 (mkSt 104 [(4, .s (.c ⟨.ro, .ptr 0 0⟩)), (5, .s (.c ⟨.ro, .ptr 1 0⟩)), (7, .s (vS1 tl ts)), (11, .s (eS ml now)), (12, vS (.int .i64 i))] [hB0, [vC (.int .u64 n), ⟨.own 131 none, .sl vE false out⟩]]) rec H L =
  br (decide (i < (↑ts.length : Int))) (
    br (inR i ts.length) (
      br (decide (now.length ≤ 1000000)) (
        br (decide (now.length ≤ 1000000)) (
          br (fits (out.length + [((nth vE ts i.toNat).fst, ((nth vE ts i.toNat).snd.fst.fst, (nth vE ts i.toNat).snd.fst.snd), !hasR now ((nth vE ts i.toNat).snd.fst.fst, (nth vE ts i.toNat).snd.fst.snd))].length) (V13.P.bytesOf 60)) (
            H .normal (mkSt 104 [(4, .s (.c (⟨.ro, AV.ptr 0 0⟩))), (5, .s (.c (⟨.ro, AV.ptr 1 0⟩))), (7, .s (.c (⟨.ro, AV.sl ((CL.int IntKind.i64).cons (((CL.int IntKind.u32).cons (CL.int IntKind.u32)).cons CL.bool)) tl ts⟩))), (11, .s (.c (⟨.ro, AV.sl ((CL.int IntKind.u32).cons (CL.int IntKind.u32)) (isNilL (turnL now ((nth vE ts i.toNat).fst, ((nth vE ts i.toNat).snd.fst.fst, (nth vE ts i.toNat).snd.fst.snd), !hasR now ((nth vE ts i.toNat).snd.fst.fst, (nth vE ts i.toNat).snd.fst.snd))), turnL now ((nth vE ts i.toNat).fst, ((nth vE ts i.toNat).snd.fst.fst, (nth vE ts i.toNat).snd.fst.snd), !hasR now ((nth vE ts i.toNat).snd.fst.fst, (nth vE ts i.toNat).snd.fst.snd))).fst (isNilL (turnL now ((nth vE ts i.toNat).fst, ((nth vE ts i.toNat).snd.fst.fst, (nth vE ts i.toNat).snd.fst.snd), !hasR now ((nth vE ts i.toNat).snd.fst.fst, (nth vE ts i.toNat).snd.fst.snd))), turnL now ((nth vE ts i.toNat).fst, ((nth vE ts i.toNat).snd.fst.fst, (nth vE ts i.toNat).snd.fst.snd), !hasR now ((nth vE ts i.toNat).snd.fst.fst, (nth vE ts i.toNat).snd.fst.snd))).snd⟩))), (12, vS (.int .i64 (IntKind.i64.wrap (i + 1))))] [[vC (.int .u64 0), ⟨.ro, AV.nilv⟩], [vC (.int .u64 n), ⟨.own 131 none, AV.sl ((CL.int IntKind.i64).cons (((CL.int IntKind.u32).cons (CL.int IntKind.u32)).cons CL.bool)) (false && isNilL [((nth vE ts i.toNat).fst, ((nth vE ts i.toNat).snd.fst.fst, (nth vE ts i.toNat).snd.fst.snd), !hasR now ((nth vE ts i.toNat).snd.fst.fst, (nth vE ts i.toNat).snd.fst.snd))]) (out ++ [((nth vE ts i.toNat).fst, ((nth vE ts i.toNat).snd.fst.fst, (nth vE ts i.toNat).snd.fst.snd), !hasR now ((nth vE ts i.toNat).snd.fst.fst, (nth vE ts i.toNat).snd.fst.snd))])⟩]])) (
            none)) (
          none)) (
        none)) (
      none)) (
    H (.exit 2) (mkSt 104 [(4, .s (.c (⟨.ro, AV.ptr 0 0⟩))), (5, .s (.c (⟨.ro, AV.ptr 1 0⟩)))] [[vC (.int .u64 0), ⟨.ro, AV.nilv⟩], [vC (.int .u64 n), ⟨.own 131 none, AV.sl ((CL.int IntKind.i64).cons (((CL.int IntKind.u32).cons (CL.int IntKind.u32)).cons CL.bool)) false out⟩]])) := by kernel_rfl
theorem hisOutN (rec : Rec) (H : K) (L : Nat → St → Option Res) (n : Int) :
    (fnPl V13 8).past V13 8 1 (.exit 2) (mkSt 104 [(4, .s (.c ⟨.ro, .ptr 0 0⟩)), (5, .s (.c ⟨.ro, .ptr 1 0⟩))] [hB0, [vC (.int .u64 n), ⟨.ro, .nilv⟩]]) rec H L =
  H .ret (mkSt 104 [(4, .s (.c (⟨.ro, AV.ptr 0 0⟩)))] [[vC (.int .u64 n), ⟨.ro, AV.nilv⟩]]) := by kernel_rfl
theorem hisOut (rec : Rec) (H : K) (L : Nat → St → Option Res) (n : Int) (out : List Ev) :
    (fnPl V13 8).past V13 8 1 (.exit 2) (mkSt 104 [(4, .s (.c ⟨.ro, .ptr 0 0⟩)), (5, .s (.c ⟨.ro, .ptr 1 0⟩))] [hB0, [vC (.int .u64 n), ⟨.own 131 none, .sl vE false out⟩]]) rec H L =
  H .ret (mkSt 104 [(4, .s (.c (⟨.ro, AV.ptr 0 0⟩)))] [[vC (.int .u64 n), ⟨.own 3 none, AV.sl ((CL.int IntKind.i64).cons (((CL.int IntKind.u32).cons (CL.int IntKind.u32)).cons CL.bool)) false out⟩]]) := by kernel_rfl
end Go.Proofs.Ythiaaaedfidnjaa.Aj

namespace Go.Proofs.Ythiaaaedfidnjaa.Aj
open Go Go.Proofs.Ythiaaaedfidnjaa.Am Go.RowKit
set_option linter.unusedVariables false
set_option linter.unusedSimpArgs false
set_option maxRecDepth 100000
/-! checks; histories of numbers -/
theorem insR_len (xs : List Ev) (e : Ev) : (insR xs e).length ≤ xs.length + 1 := by
  unfold insR
  cases insSame xs e
  · show (xs.take (insK xs e) ++ [e] ++ xs.drop (insK xs e)).length ≤ _
    rw [List.length_append, List.length_append, List.length_take, List.length_drop, List.length_singleton]
    omega
  · show xs.length ≤ _; omega
theorem turnL_len (l : List Ed) (e : Ev) : (turnL l e).length ≤ l.length + 1 := by
  unfold turnL turnR
  cases risR l && !(e.2.2 == hasR l e.2.1)
  · exact Nat.zero_le _
  · show (bif e.2.2 then l.take (cntR e.2.1 l) ++ [e.2.1] ++ l.drop (cntR e.2.1 l) else l.take (findR l e.2.1).toNat ++ l.drop ((findR l e.2.1).toNat + 1)).length ≤ _
    cases e.2.2
    · show (l.take (findR l e.2.1).toNat ++ l.drop ((findR l e.2.1).toNat + 1)).length ≤ _
      rw [List.length_append, List.length_take, List.length_drop]
      omega
    · show (l.take (cntR e.2.1 l) ++ [e.2.1] ++ l.drop (cntR e.2.1 l)).length ≤ _
      rw [List.length_append, List.length_append, List.length_take, List.length_drop, List.length_singleton]
      omega
def chkSt (n : Int) (nl : Bool) (xs : List Ev) (now : List Ed) (i : Nat) : St := mkSt 73 [(1, .s (.c ⟨.ro, .ptr 0 0⟩)), (4, .s (eS (isNilL now) now)), (5, vS (.int .i64 (i : Int)))] [[vC (.int .u64 n), ⟨.ro, .sl vE nl xs⟩]]
abbrev chkE (r : Int × Int) : St := mkSt 73 [(2, vS (.int .i64 r.1)), (3, vS (.int .i64 r.2))] []
theorem chkLoop {n : Int} {nl : Bool} {xs : List Ev} (hx : xs.length ≤ 1000) : ∀ (d i : Nat) (now : List Ed), i + d = xs.length → now.length ≤ i →
    (Loops V13 35 (fnPl V13 35) 0 (chkSt n nl xs now i) .ret (chkE (chkF n xs d i now))) ∨ (chkF n xs d i now = (0, 0) ∧ Loops V13 35 (fnPl V13 35) 0 (chkSt n nl xs now i) (.exit 0) (mkSt 73 [] []))
  | 0, i, now, h, hn => .inr ⟨rfl, Loops.done (Goes.now fun rec H L => (chkRnd rec H L n nl xs _ now _).trans (br_neg (decide_eq_false (by omega)))) (by simp) (by kernel_rfl)⟩
  | d + 1, i, now, h, hn => by
    have e0 : 0 < i → IntKind.i64.wrap ((i : Int) - 1) = ((i - 1 : Nat) : Int) := fun h0 => by rw [w64_id (by omega) (by omega)]; omega
    have e1 : IntKind.i64.wrap ((i : Int) + 1) = ((i + 1 : Nat) : Int) := w64_id (by omega) (by omega)
    have hw : ∀ rec H L, ((fnPl V13 35).at V13 35 0).way V13 35 (chkSt n nl xs now i) rec H L =
        br (decide ((nV xs i).1 < 0) || decide ((nV xs i).1 > 4611686018427387903)) (H .ret (chkE (i, 26))) (br (!rightR (nV xs i).2.1 n) (H .ret (chkE (i, 24)))
          (br (decide (0 < i) && !befR (nV xs (i - 1)) (nV xs i)) (H .ret (chkE (i, 23))) (br (!turnO now (nV xs i)) (H .ret (chkE (i, 25))) (H .normal (chkSt n nl xs (turnL now (nV xs i)) (i + 1)))))) := fun rec H L => by
      refine (chkRnd rec H L n nl xs _ now _).trans ?_
      rw [br_pos (decide_eq_true (by omega)), br_pos (inR_yes (by omega) (by omega)), e1, Int.toNat_natCast, decide_eq_true (show now.length ≤ 1000000 by omega)]
      show br (!decide ((nV xs i).1 < 0)) (br (decide ((nV xs i).1 > 4611686018427387903)) _ (br (!rightR (nV xs i).2.1 n) _ _)) _ = _
      cases decide ((nV xs i).1 < 0) with
      | true => rfl
      | false =>
        cases decide ((nV xs i).1 > 4611686018427387903) with
        | true => rfl
        | false =>
          cases rightR (nV xs i).2.1 n with
          | false => rfl
          | true =>
            by_cases h0 : 0 < i
            · rw [decide_eq_true h0, e0 h0, Int.toNat_natCast, decide_eq_true (show (i : Int) > 0 by omega), br_pos (inR_yes (n := xs.length) (i := ((i - 1 : Nat) : Int)) (by omega) (by omega))]
              show br (!befR (nV xs (i - 1)) (nV xs i)) _ (br (!turnO now (nV xs i)) _ _) = _
              cases befR (nV xs (i - 1)) (nV xs i) with
              | false => rfl
              | true => cases turnO now (nV xs i) <;> rfl
            · rw [decide_eq_false h0, decide_eq_false (show ¬ (i : Int) > 0 by omega)]
              show br (!turnO now (nV xs i)) _ _ = _
              cases turnO now (nV xs i) <;> rfl
    show (Loops V13 35 (fnPl V13 35) 0 _ .ret (chkE (bif _ then _ else _))) ∨ ((bif _ then _ else _) = (0, 0) ∧ _)
    cases h1 : (decide ((nV xs i).1 < 0) || decide ((nV xs i).1 > 4611686018427387903)) with
    | true => exact .inl (Loops.done (Goes.now fun rec H L => (hw rec H L).trans (br_pos h1)) (by simp) (by kernel_rfl))
    | false =>
      cases h2 : (!rightR (nV xs i).2.1 n) with
      | true => exact .inl (Loops.done (Goes.now fun rec H L => (hw rec H L).trans ((br_neg h1).trans (br_pos h2))) (by simp) (by kernel_rfl))
      | false =>
        cases h3 : (decide (0 < i) && !befR (nV xs (i - 1)) (nV xs i)) with
        | true => exact .inl (Loops.done (Goes.now fun rec H L => (hw rec H L).trans ((br_neg h1).trans ((br_neg h2).trans (br_pos h3)))) (by simp) (by kernel_rfl))
        | false =>
          cases h4 : (!turnO now (nV xs i)) with
          | true => exact .inl (Loops.done (Goes.now fun rec H L => (hw rec H L).trans ((br_neg h1).trans ((br_neg h2).trans ((br_neg h3).trans (br_pos h4))))) (by simp) (by kernel_rfl))
          | false =>
            have st : Goes V13 35 ((fnPl V13 35).at V13 35 0) (((fnPl V13 35).at V13 35 0).way V13 35 (chkSt n nl xs now i)) .normal _ := Goes.now fun rec H L => (hw rec H L).trans ((br_neg h1).trans ((br_neg h2).trans ((br_neg h3).trans (br_neg h4))))
            have hl := turnL_len now (nV xs i)
            rcases chkLoop (n := n) (nl := nl) hx d (i + 1) (turnL now (nV xs i)) (by omega) (by omega) with k1 | ⟨k0, k1⟩
            · exact .inl (Loops.step st k1 (by kernel_rfl))
            · exact .inr ⟨k0, Loops.step st k1 (by kernel_rfl)⟩
theorem chkK (args : List S1) (r : Res) (h : (chkH args).den = some r) : ∃ n, call V13 n 35 args = some r := by
  unfold chkH at h
  split at h
  · rename_i n nl xs
    obtain ⟨hx, h⟩ := tree_yes h
    have hx := of_decide_eq_true hx
    obtain rfl := ok_some h
    have h2 : decide ((xs.length : Int) > 2147483648) = false := decide_eq_false (by omega)
    unfold chkR
    rw [h2, Bool.or_false]
    cases hn : decide (n > 4294967296) with
    | true => exact Goes.call (Goes.now fun rec H L => (chkIn rec H L n nl xs).trans (by rw [hn]; rfl)) (by kernel_rfl) (by kernel_rfl)
    | false =>
      have hin : ∀ rec H L, fnWay V13 35 [hiA n nl xs] rec H L = L 0 (chkSt n nl xs [] 0) := fun rec H L => (chkIn rec H L n nl xs).trans (by rw [hn, h2]; rfl)
      rcases chkLoop (n := n) (nl := nl) hx xs.length 0 [] (by omega) (by simp) with h1 | ⟨h0, h1⟩
      · exact Goes.call (Goes.of hin (Goes.loop h1 Goes.here (by kernel_rfl) (by kernel_rfl) rfl)) (by kernel_rfl) (by kernel_rfl)
      · show ∃ m, call V13 m 35 [hiA n nl xs] = some (S.tup [wS .i64 (chkF n xs xs.length 0 []).1, wS .i64 (chkF n xs xs.length 0 []).2], [])
        rw [h0]
        exact Goes.call (Goes.of hin (Goes.loop h1 (Goes.now (chkOut · · · 0)) (by kernel_rfl) (by kernel_rfl) rfl)) (by kernel_rfl) (by kernel_rfl)
  · exact leaf_none h
theorem timK (args : List S1) (r : Res) (h : (timH args).den = some r) : ∃ n, call V13 n 10 args = some r := by
  unfold timH at h
  split at h
  · rename_i n nl xs k
    obtain ⟨hx, h⟩ := tree_yes h
    simp only [Bool.and_eq_true, decide_eq_true_eq] at hx
    obtain ⟨hk, hk2, hx⟩ := hx
    obtain rfl := ok_some h
    refine Goes.call (e := .ret) (st' := mkSt 35 [(4, vS (.int .i64 (timR xs k)))] []) (Goes.now fun rec H L => (timeIn rec H L n nl xs k).trans ?_) (by kernel_rfl) (by kernel_rfl)
    unfold timR
    rw [tmod_id hk, tmod_id hk, Int.tdiv_eq_ediv_of_nonneg hk, u8_id (x := k / 3) (by omega) (by omega), w64_id (x := k / 3) (by omega) (by omega), w64_id (x := k % 3) (by omega) (by omega), tmod_id (a := k / 3) (by omega)]
    have hi : inR (k % 6) [0, 5, 4611686018427387903, 9223372036854775807, -1, -9223372036854775808].length = true := inR_yes (by omega) (by show k % 6 < ((6 : Nat) : Int); omega)
    rw [hi]
    by_cases h0 : xs.length = 0
    · rw [decide_eq_true h0, h0]
      rfl
    · rw [decide_eq_false h0, show (!((xs.length : Int) == 0)) = true by simp; exact fun h => h0 (by rw [h]; rfl)]
      cases hc : decide (k > 245) with
      | true => rfl
      | false =>
        rw [br_t, br_f, br_neg (decide_eq_false (by omega))]
        refine br_pos (inR_yes (Int.emod_nonneg _ (by omega)) (Int.emod_lt_of_pos _ (by omega)))
  · exact leaf_none h
end Go.Proofs.Ythiaaaedfidnjaa.Aj

namespace Go.Proofs.Ythiaaaedfidnjaa.Aj
open Go Go.Proofs.Ythiaaaedfidnjaa.Am Go.RowKit
set_option linter.unusedVariables false
set_option linter.unusedSimpArgs false
set_option maxRecDepth 100000
/-! histories of numbers -/
theorem insN_eq (xs : List Ev) (e : Ev) : (bif insSame xs e then isNilL xs else false) = isNilL (insR xs e) := by
  unfold insR
  cases insSame xs e
  · show false = isNilL (xs.take (insK xs e) ++ [e] ++ xs.drop (insK xs e))
    rw [← isNil_app, ← isNil_app, show isNilL [e] = false from rfl, Bool.and_false, Bool.false_and]
  · rfl
theorem pow39 {v : Int} (h : 0 ≤ v) (h2 : v < 40) : 1 ≤ (2 : Int) ^ v.toNat ∧ (2 : Int) ^ v.toNat ≤ 549755813888 := by
  have h1 : (2 : Nat) ^ v.toNat ≤ 2 ^ 39 := Nat.pow_le_pow_right (by decide) (by omega)
  have h2 : 1 ≤ (2 : Nat) ^ v.toNat := Nat.one_le_two_pow
  have e : (2 : Int) ^ v.toNat = ((2 ^ v.toNat : Nat) : Int) := by norm_cast
  rw [e]
  have : (2 : Nat) ^ 39 = 549755813888 := by decide
  omega
def hisSt (nl : Bool) (l : List Int) (n t : Int) (ts : List Ev) (i : Nat) : St := mkSt 104 [(1, .s (bS nl l)), (4, .s (.c ⟨.ro, .ptr 0 0⟩)), (5, .s (.c ⟨.ro, .ptr 1 0⟩)), (6, vS (.int .i64 t)), (7, .s (vS1 (isNilL ts) ts)), (8, vS (.int .i64 (i : Int)))] [hB0, [vC (.int .u64 n), ⟨.ro, .nilv⟩]]
abbrev hisM (n : Int) (ts : List Ev) : St := mkSt 104 [(4, .s (.c ⟨.ro, .ptr 0 0⟩)), (5, .s (.c ⟨.ro, .ptr 1 0⟩)), (7, .s (vS1 (isNilL ts) ts))] [hB0, [vC (.int .u64 n), ⟨.ro, .nilv⟩]]
theorem nB_bd {l : List Int} (hl : ∀ x ∈ l, 0 ≤ x ∧ x < 256) (i : Nat) : 0 ≤ nB l i ∧ nB l i < 256 := by
  unfold nB nth
  rw [List.getD_eq_getElem?_getD]
  cases hi : l[i]? with
  | none => exact ⟨Int.le_refl 0, by decide⟩
  | some y => exact hl y (List.mem_of_getElem? hi)
theorem hisT2_bd {v t : Int} (h : 0 ≤ v) (h2 : v < 256) (ht : 0 ≤ t) : t ≤ hisT2 v t ∧ hisT2 v t ≤ t + 1099511627776 := by
  have hp := pow39 (v := v % 40) (by omega) (by omega)
  unfold hisT2
  cases decide (v > 240)
  · show t ≤ t + v % 4 ∧ t + v % 4 ≤ _; omega
  · show t ≤ t + v % 4 + 2 ^ (v % 40).toNat ∧ t + v % 4 + 2 ^ (v % 40).toNat ≤ _; omega
theorem hisStep {nl : Bool} {l : List Int} {n t : Int} {ts : List Ev} {i : Nat} (hl : ∀ x ∈ l, 0 ≤ x ∧ x < 256) (hn : 1 ≤ n) (hn2 : n ≤ 4294967296) (hi : i + 2 < l.length) (hl2 : l.length ≤ 1000) (hts : ts.length < 40) (ht : 0 ≤ t) (ht2 : t ≤ 1000 + i * 1099511627776) :
    Goes V13 8 ((fnPl V13 8).at V13 8 0) (((fnPl V13 8).at V13 8 0).way V13 8 (hisSt nl l n t ts i)) .normal (hisSt nl l n (hisT2 (nB l i) t) (hisS n l i (hisT2 (nB l i) t) ts) (i + 3)) := by
  refine Goes.now fun rec H L => (hisRnd rec H L nl l n t _ ts _).trans ?_
  have b0 := nB_bd hl i
  have b1 := nB_bd hl (i + 1)
  have b2 := nB_bd hl (i + 2)
  have e1 : IntKind.i64.wrap ((i : Int) + 1) = ((i + 1 : Nat) : Int) := w64_id (by omega) (by omega)
  have e2 : IntKind.i64.wrap ((i : Int) + 2) = ((i + 2 : Nat) : Int) := w64_id (by omega) (by omega)
  have e3 : IntKind.i64.wrap ((i : Int) + 3) = ((i + 3 : Nat) : Int) := w64_id (by omega) (by omega)
  have hp := pow39 (v := nB l i % 40) (by omega) (by omega)
  have e4 : IntKind.i64.wrap (Int.tmod (nth (CL.int IntKind.u8) l i) 4) = nB l i % 4 := by
    show IntKind.i64.wrap (Int.tmod (nB l i) 4) = _
    rw [tmod_id b0.1]
    exact w64_id (by omega) (by omega)
  have e5 : Int.tmod (nth (CL.int IntKind.u8) l i) 40 = nB l i % 40 := tmod_id b0.1
  have e6 : IntKind.i64.wrap (1 * 2 ^ min (nB l i % 40).toNat IntKind.i64.bits) = 2 ^ (nB l i % 40).toNat := by
    have hm : min (nB l i % 40).toNat IntKind.i64.bits = (nB l i % 40).toNat := by show min _ 64 = _; omega
    rw [hm, Int.one_mul]
    exact w64_id (by omega) (by omega)
  have e7 : IntKind.i64.wrap (t + nB l i % 4) = t + nB l i % 4 := w64_id (by omega) (by omega)
  have e8 : IntKind.i64.wrap (t + nB l i % 4 + 2 ^ (nB l i % 40).toNat) = t + nB l i % 4 + 2 ^ (nB l i % 40).toNat := w64_id (by omega) (by omega)
  have q1 : inR (i : Int) l.length = true := inR_yes (by omega) (by omega)
  have q2 : inR ((i + 1 : Nat) : Int) l.length = true := inR_yes (by omega) (by omega)
  have q3 : inR ((i + 2 : Nat) : Int) l.length = true := inR_yes (by omega) (by omega)
  have hts2 : decide (ts.length ≤ 1000000) = true := decide_eq_true (by omega)
  rw [e1, e2, e3, Int.toNat_natCast, Int.toNat_natCast, Int.toNat_natCast, e4, e5, e6, e7, e8, q1, q2, q3, hts2, br_pos (decide_eq_true (by omega)), br_pos (decide_eq_true (by omega)), br_t, br_t]
  have q4 : (decide (0 ≤ nB l (i + 1)) && (decide (0 ≤ nB l (i + 2)) && (decide (nB l (i + 1) < 256) && (decide (nB l (i + 2) < 256) && (decide (1 ≤ n) && decide (n ≤ 4294967296)))))) = true := by
    simp only [Bool.and_eq_true, decide_eq_true_eq]
    omega
  have q5 : decide (nB l i % 40 < 0) = false := decide_eq_false (by omega)
  show br (decide (nB l i > 240)) (br true (br (decide (nB l i % 40 < 0)) none (br true (br true (br (decide (0 ≤ nB l (i + 1)) && (decide (0 ≤ nB l (i + 2)) && (decide (nB l (i + 1) < 256) && (decide (nB l (i + 2) < 256) && (decide (1 ≤ n) && decide (n ≤ 4294967296)))))) (br (edgO (nB l (i + 1)) (nB l (i + 2)) n) (br true _ _) _) _) _) _)) _)
    (br true (br true (br (decide (0 ≤ nB l (i + 1)) && (decide (0 ≤ nB l (i + 2)) && (decide (nB l (i + 1) < 256) && (decide (nB l (i + 2) < 256) && (decide (1 ≤ n) && decide (n ≤ 4294967296)))))) (br (edgO (nB l (i + 1)) (nB l (i + 2)) n) (br true _ _) _) _) _) _) = _
  rw [q4, q5]
  unfold hisS hisT2
  cases hv : decide (nB l i > 240) with
  | true =>
    cases ho : edgO (nB l (i + 1)) (nB l (i + 2)) n with
    | true =>
      unfold hisSt
      rw [cond_true, cond_true, ← insN_eq]
      rfl
    | false => rfl
  | false =>
    cases ho : edgO (nB l (i + 1)) (nB l (i + 2)) n with
    | true =>
      unfold hisSt
      rw [cond_false, cond_true, ← insN_eq]
      rfl
    | false => rfl
theorem hisS_len {n : Int} {l : List Int} {i : Nat} {t : Int} {ts : List Ev} : (hisS n l i t ts).length ≤ ts.length + 1 := by
  unfold hisS
  cases edgO (nB l (i + 1)) (nB l (i + 2)) n
  · show ts.length ≤ _; omega
  · exact insR_len _ _
theorem hisEnd {nl : Bool} {l : List Int} {n t : Int} {ts : List Ev} {i : Nat} (hi : i ≤ 1000) (h : (decide (i + 2 < l.length) && decide (ts.length < 40)) = false) :
    Goes V13 8 ((fnPl V13 8).at V13 8 0) (((fnPl V13 8).at V13 8 0).way V13 8 (hisSt nl l n t ts i)) (.exit 0) (hisM n ts) := by
  refine Goes.now fun rec H L => (hisRnd rec H L nl l n t _ ts _).trans ?_
  rw [w64_id (x := (i : Int) + 2) (by omega) (by omega)]
  by_cases hc : i + 2 < l.length
  · rw [decide_eq_true hc, Bool.true_and] at h
    have h := of_decide_eq_false h
    exact (br_pos (decide_eq_true (by omega))).trans (br_neg (decide_eq_false (by omega)))
  · exact br_neg (decide_eq_false (by omega))
theorem hisLoop {nl : Bool} {l : List Int} {n : Int} (hl : ∀ x ∈ l, 0 ≤ x ∧ x < 256) (hn : 1 ≤ n) (hn2 : n ≤ 4294967296) (hl2 : l.length ≤ 1000) (d : Nat) : ∀ (i : Nat) (t : Int) (ts : List Ev), l.length ≤ i + d → i ≤ l.length → ts.length ≤ 40 → 0 ≤ t → t ≤ 1000 + i * 1099511627776 →
    Loops V13 8 (fnPl V13 8) 0 (hisSt nl l n t ts i) (.exit 0) (hisM n (hisT n l d i t ts)) ∧ (hisT n l d i t ts).length ≤ 40 := by
  induction d with
  | zero =>
    intro i t ts h hil hts ht ht2
    exact ⟨Loops.done (hisEnd (by omega) (by rw [decide_eq_false (show ¬ i + 2 < l.length by omega)]; rfl)) (by simp) (by kernel_rfl), hts⟩
  | succ d ih =>
    intro i t ts h hil hts ht ht2
    show Loops V13 8 (fnPl V13 8) 0 _ (.exit 0) (hisM n (bif decide (i + 2 < l.length) && decide (ts.length < 40) then _ else _)) ∧ (bif decide (i + 2 < l.length) && decide (ts.length < 40) then _ else _ : List Ev).length ≤ 40
    cases hc : (decide (i + 2 < l.length) && decide (ts.length < 40)) with
    | false => exact ⟨Loops.done (hisEnd (by omega) hc) (by simp) (by kernel_rfl), hts⟩
    | true =>
      simp only [Bool.and_eq_true, decide_eq_true_eq] at hc
      have hb := nB_bd hl i
      have ht3 := hisT2_bd hb.1 hb.2 ht
      have hsl := hisS_len (n := n) (l := l) (i := i) (t := hisT2 (nB l i) t) (ts := ts)
      have := ih (i + 3) (hisT2 (nB l i) t) (hisS n l i (hisT2 (nB l i) t) ts) (by omega) (by omega) (by omega) (by omega) (by omega)
      exact ⟨Loops.step (hisStep hl hn hn2 hc.1 hl2 hc.2 ht ht2) this.1 (by kernel_rfl), this.2⟩
theorem by60' : V13.P.bytesOf 60 = 24 := by kernel_rfl
def hbC (out : List Ev) : C := match out with
  | [] => ⟨.ro, .nilv⟩
  | x :: r => ⟨.own 131 none, .sl vE false (x :: r)⟩
def hevSt (n : Int) (ts : List Ev) (now : List Ed) (i : Nat) (out : List Ev) : St := mkSt 104 [(4, .s (.c ⟨.ro, .ptr 0 0⟩)), (5, .s (.c ⟨.ro, .ptr 1 0⟩)), (7, .s (vS1 (isNilL ts) ts)), (11, .s (eS (isNilL now) now)), (12, vS (.int .i64 (i : Int)))] [hB0, [vC (.int .u64 n), hbC out]]
abbrev hevM (n : Int) (out : List Ev) : St := mkSt 104 [(4, .s (.c ⟨.ro, .ptr 0 0⟩)), (5, .s (.c ⟨.ro, .ptr 1 0⟩))] [hB0, [vC (.int .u64 n), hbC out]]
theorem hevStep {n : Int} {ts : List Ev} {now : List Ed} {i : Nat} {out : List Ev} (hi : i < ts.length) (hts : ts.length ≤ 1000) (hn : now.length ≤ 1000) (ho : out.length ≤ 1000) :
    Goes V13 8 ((fnPl V13 8).at V13 8 1) (((fnPl V13 8).at V13 8 1).way V13 8 (hevSt n ts now i out)) .normal (hevSt n ts (turnL now (hisV ts now i)) (i + 1) (out ++ [hisV ts now i])) := by
  refine Goes.now fun rec H L => ?_
  have e1 : IntKind.i64.wrap ((i : Int) + 1) = ((i + 1 : Nat) : Int) := w64_id (by omega) (by omega)
  have hn2 : decide (now.length ≤ 1000000) = true := decide_eq_true (by omega)
  cases out with
  | nil =>
    refine (hisEvN rec H L n _ ts _ now _).trans ?_
    rw [br_pos (decide_eq_true (by omega)), br_pos (inR_yes (by omega) (by omega)), hn2, e1, Int.toNat_natCast]
    rfl
  | cons x r =>
    refine (hisEv rec H L n _ ts _ now _ (x :: r)).trans ?_
    rw [br_pos (decide_eq_true (by omega)), br_pos (inR_yes (by omega) (by omega)), hn2, e1, Int.toNat_natCast, by60']
    refine (br_pos rfl).trans ((br_pos rfl).trans ((br_pos (fits_small (by rw [List.length_singleton]; omega) (by decide))).trans ?_))
    rfl
theorem hevEnd {n : Int} {ts : List Ev} {now : List Ed} {i : Nat} {out : List Ev} (hi : ts.length ≤ i) :
    Goes V13 8 ((fnPl V13 8).at V13 8 1) (((fnPl V13 8).at V13 8 1).way V13 8 (hevSt n ts now i out)) (.exit 2) (hevM n out) := by
  refine Goes.now fun rec H L => ?_
  cases out with
  | nil => exact (hisEvN rec H L n _ ts _ now _).trans (br_neg (decide_eq_false (by omega)))
  | cons x r => exact (hisEv rec H L n _ ts _ now _ (x :: r)).trans (br_neg (decide_eq_false (by omega)))
theorem hevLoop {n : Int} {ts : List Ev} (hts : ts.length ≤ 1000) (d : Nat) : ∀ (i : Nat) (now : List Ed) (out : List Ev), i + d = ts.length → now.length ≤ i → out.length = i →
    Loops V13 8 (fnPl V13 8) 1 (hevSt n ts now i out) (.exit 2) (hevM n (hisE ts d i now out)) := by
  induction d with
  | zero =>
    intro i now out h hn ho
    exact Loops.done (hevEnd (by omega)) (by simp) (by kernel_rfl)
  | succ d ih =>
    intro i now out h hn ho
    have hl := turnL_len now (hisV ts now i)
    exact Loops.step (hevStep (by omega) hts (by omega) (by omega)) (ih (i + 1) _ _ (by omega) (by omega) (by simp [ho])) (by kernel_rfl)
theorem vt_bd {k : Int} (h : 0 ≤ k) : 2 ≤ vtT k ∧ vtT k ≤ 4294967296 := by
  unfold vtT
  rw [tmod_id h]
  obtain ⟨j, hj⟩ : ∃ j : Nat, k % 8 = j := ⟨(k % 8).toNat, by omega⟩
  have hj8 : j < 8 := by omega
  rw [hj, Int.toNat_natCast]
  have := fin_nat (p := fun j => 2 ≤ nth (.int .u64) [8, 5, 2, 4294967296, 300, 12, 1048576, 3] j ∧ nth (.int .u64) [8, 5, 2, 4294967296, 300, 12, 1048576, 3] j ≤ (4294967296 : Int)) (n := 8) (by decide +kernel) j hj8
  exact this
theorem hisK0 (args : List S1) (r : Res) (h : (hisH0 args).den = some r) : ∃ n, call V13 n 8 args = some r := by
  unfold hisH0 at h
  split at h
  · rename_i k nl l
    obtain ⟨hx, h⟩ := tree_yes h
    unfold hisOK at hx
    simp only [Bool.and_eq_true, decide_eq_true_eq, List.all_eq_true] at hx
    obtain ⟨hk, hk2, hl2, hl⟩ := hx
    have hvt := vt_bd hk
    have e3 : IntKind.i64.wrap (k.tmod 3) = k % 3 := by rw [tmod_id hk]; exact w64_id (by omega) (by omega)
    have hin : ∀ rec H L, fnWay V13 8 [wS .u8 k, bS nl l] rec H L = L 0 (hisSt nl l (vtT k) (k % 3) [] 0) := fun rec H L => by
      refine (hisIn rec H L k nl l).trans ((br_pos (decide_eq_true hk)).trans ?_)
      rw [e3]
      rfl
    obtain ⟨lp, hq⟩ := hisLoop (nl := nl) hl (by omega) hvt.2 hl2 l.length 0 (k % 3) [] (by omega) (by omega) (by simp) (by omega) (by omega)
    change Loops V13 8 (fnPl V13 8) 0 _ (.exit 0) (hisM (vtT k) (hisQ k l)) at lp
    change (hisQ k l).length ≤ 40 at hq
    have hmid : ∀ rec H L, (fnPl V13 8).past V13 8 0 (.exit 0) (hisM (vtT k) (hisQ k l)) rec H L = L 1 (hevSt (vtT k) (hisQ k l) [] 0 []) := fun rec H L => hisMid rec H L (vtT k) _ (hisQ k l)
    have lp2 := hevLoop (n := vtT k) (ts := hisQ k l) (by omega) (hisQ k l).length 0 [] [] (by omega) (by simp) rfl
    change Loops V13 8 (fnPl V13 8) 1 _ (.exit 2) (hevM (vtT k) (hisR k l)) at lp2
    generalize hisR k l = ev at lp2 h
    cases ev with
    | nil =>
      rcases tree_br h with ⟨_, h⟩ | ⟨h1, _⟩
      · obtain rfl := ok_some h
        exact Goes.call (Goes.of hin (Goes.loop lp (Goes.of hmid (Goes.loop lp2 (Goes.now (hisOutN · · · _)) (by kernel_rfl) (by kernel_rfl) rfl)) (by kernel_rfl) (by kernel_rfl) rfl)) (by kernel_rfl) (by kernel_rfl)
      · cases h1
    | cons x ev =>
      rcases tree_br h with ⟨h1, _⟩ | ⟨_, h⟩
      · cases h1
      · obtain rfl := ok_some h
        exact Goes.call (Goes.of hin (Goes.loop lp (Goes.of hmid (Goes.loop lp2 (Goes.now (hisOut · · · _ (x :: ev))) (by kernel_rfl) (by kernel_rfl) rfl)) (by kernel_rfl) (by kernel_rfl) rfl)) (by kernel_rfl) (by kernel_rfl)
  · exact leaf_none h
theorem hisWeak : ∀ (as' : List S1) (bx : List (List C)) (s : S) (bx' : List (List C)), (plain hisH as' bx).den = some (s, bx') → ∃ s0, (plain hisH0 as' bx).den = some (s0, bx') ∧ s = coRet [cH] s0 := by
  intro xs0 bx s bx' h
  cases bx with
  | cons x l => simp [plain, Tree.den] at h
  | nil =>
    change (hisH xs0).den = _ at h
    unfold hisH at h
    split at h
    · rename_i k nl l
      obtain ⟨hx, h⟩ := tree_yes h
      have h := ok_some h
      have h1 := congrArg Prod.fst h
      have h2 := congrArg Prod.snd h
      change s = _ at h1
      change bx' = [] at h2
      subst h2
      show ∃ s0, (Tree.br (hisOK k l) (.br (isNilL (hisR k l)) (ok (.s (.agg [vC (.int .u64 (vtT k)), ⟨.ro, .nilv⟩]))) (ok (.s (hiA (vtT k) false (hisR k l))))) no).den = some (s0, []) ∧ _
      rw [hx, h1]
      generalize hisR k l = ev
      cases ev with
      | nil => exact ⟨_, rfl, rfl⟩
      | cons x ev => exact ⟨_, rfl, rfl⟩
    · cases h
theorem sok14 : SOK l14 :=
  stubs_cons (x := (35, co [cH] (plain chkH))) (known_co [cH] (known_plain (V := V13) mix (sok13 _ rfl rfl) chkK)) <|
  stubs_cons (x := (10, co [cH] (plain timH))) (known_co [cH] (known_plain (V := V13) mix (sok13 _ rfl rfl) timK)) <|
  stubs_cons (x := (8, plain hisH)) (known_weak [cH] (known_plain (V := V13) mix (sok13 _ rfl rfl) hisK0) hisWeak) sok13
end Go.Proofs.Ythiaaaedfidnjaa.Aj

namespace Go.Proofs.Ythiaaaedfidnjaa.Aj
open Go Go.Proofs.Ythiaaaedfidnjaa.Am Go.RowKit
set_option linter.unusedVariables false
set_option linter.unusedSimpArgs false
set_option maxRecDepth 100000
noncomputable def V14 : Env := V l14
noncomputable def V15 : Env := V l15
theorem aftIn (rec : Rec) (H : K) (L : Nat → St → Option Res) (n : Int) (nl : Bool) (xs : List Ev) (k : Int) :
    fnWay V14 22 [hiA n nl xs, wS .i64 k] rec H L =
  br (decide (xs.length ≤ 1000)) (
    br ((chkR n xs).snd != 0) (
      H .ret (mkSt 41 [(4, .s (.c (⟨.ro, AV.sl ((CL.int IntKind.u32).cons (CL.int IntKind.u32)) true []⟩))), (5, vS (.int .i64 (chkR n xs).snd))] [])) (
      L 0 (mkSt 41 [(1, vS (.int .i64 k)), (2, .s (.c (⟨.ro, AV.ptr 0 0⟩))), (8, .s (.c (⟨.ro, AV.sl ((CL.int IntKind.u32).cons (CL.int IntKind.u32)) true []⟩))), (9, vS (.int .i64 0))] [[vC (.int .u64 n), ⟨.ro, AV.sl ((CL.int IntKind.i64).cons (((CL.int IntKind.u32).cons (CL.int IntKind.u32)).cons CL.bool)) nl xs⟩]]))) (
    none) := by kernel_rfl
theorem aftRnd (rec : Rec) (H : K) (L : Nat → St → Option Res) (n : Int) (nl : Bool) (xs : List Ev) (k : Int) (ml : Bool) (now : List Ed) (i : Int) :
    ((fnPl V14 22).at V14 22 0).way V14 22 (mkSt 41 [(1, vS (.int .i64 k)), (2, .s (.c ⟨.ro, .ptr 0 0⟩)), (8, .s (eS ml now)), (9, vS (.int .i64 i))] [[vC (.int .u64 n), ⟨.ro, .sl vE nl xs⟩]]) rec H L =
  br (decide (i < (↑xs.length : Int))) (
    br (decide (i < k)) (
      br (inR i xs.length) (
        br (decide (now.length ≤ 1000000)) (
          H .normal (mkSt 41 [(1, vS (.int .i64 k)), (2, .s (.c (⟨.ro, AV.ptr 0 0⟩))), (8, .s (.c (⟨.ro, AV.sl ((CL.int IntKind.u32).cons (CL.int IntKind.u32)) (isNilL (turnL now ((nth vE xs i.toNat).fst, ((nth vE xs i.toNat).snd.fst.fst, (nth vE xs i.toNat).snd.fst.snd), (nth vE xs i.toNat).snd.snd)), turnL now ((nth vE xs i.toNat).fst, ((nth vE xs i.toNat).snd.fst.fst, (nth vE xs i.toNat).snd.fst.snd), (nth vE xs i.toNat).snd.snd)).fst (isNilL (turnL now ((nth vE xs i.toNat).fst, ((nth vE xs i.toNat).snd.fst.fst, (nth vE xs i.toNat).snd.fst.snd), (nth vE xs i.toNat).snd.snd)), turnL now ((nth vE xs i.toNat).fst, ((nth vE xs i.toNat).snd.fst.fst, (nth vE xs i.toNat).snd.fst.snd), (nth vE xs i.toNat).snd.snd)).snd⟩))), (9, vS (.int .i64 (IntKind.i64.wrap (i + 1))))] [[vC (.int .u64 n), ⟨.ro, AV.sl ((CL.int IntKind.i64).cons (((CL.int IntKind.u32).cons (CL.int IntKind.u32)).cons CL.bool)) nl xs⟩]])) (
          none)) (
        none)) (
      H (.exit 0) (mkSt 41 [(8, .s (.c (⟨.ro, AV.sl ((CL.int IntKind.u32).cons (CL.int IntKind.u32)) ml now⟩)))] []))) (
    H (.exit 0) (mkSt 41 [(8, .s (.c (⟨.ro, AV.sl ((CL.int IntKind.u32).cons (CL.int IntKind.u32)) ml now⟩)))] [])) := by kernel_rfl
theorem aftOut (rec : Rec) (H : K) (L : Nat → St → Option Res) (ml : Bool) (now : List Ed) :
    (fnPl V14 22).past V14 22 0 (.exit 0) (mkSt 41 [(8, .s (eS ml now))] []) rec H L =
  H .ret (mkSt 41 [(4, .s (.c (⟨.ro, AV.sl ((CL.int IntKind.u32).cons (CL.int IntKind.u32)) ml now⟩))), (5, vS (.int .i64 0))] []) := by kernel_rfl
theorem atIn (rec : Rec) (H : K) (L : Nat → St → Option Res) (n : Int) (nl : Bool) (xs : List Ev) (t : Int) :
    fnWay V15 9 [hiA n nl xs, wS .i64 t] rec H L =
  br (decide (xs.length ≤ 1000000)) (
    br (decide (xs.length ≤ 1000)) (
      H .ret (mkSt 13 [(4, .s (.c (⟨.ro, AV.sl ((CL.int IntKind.u32).cons (CL.int IntKind.u32)) (isNilL (aftR n xs (↑(uptoR t xs) : Int)), aftR n xs (↑(uptoR t xs) : Int)).fst (isNilL (aftR n xs (↑(uptoR t xs) : Int)), aftR n xs (↑(uptoR t xs) : Int)).snd⟩))), (5, vS (.int .i64 (chkR n xs).snd))] [])) (
      none)) (
    none) := by kernel_rfl
end Go.Proofs.Ythiaaaedfidnjaa.Aj

namespace Go.Proofs.Ythiaaaedfidnjaa.Aj
open Go Go.Proofs.Ythiaaaedfidnjaa.Am Go.RowKit
set_option linter.unusedVariables false
set_option linter.unusedSimpArgs false
set_option maxRecDepth 100000
/-! graphs at a moment -/
def aftSt (n : Int) (nl : Bool) (xs : List Ev) (k : Int) (now : List Ed) (i : Nat) : St := mkSt 41 [(1, vS (.int .i64 k)), (2, .s (.c ⟨.ro, .ptr 0 0⟩)), (8, .s (eS (isNilL now) now)), (9, vS (.int .i64 (i : Int)))] [[vC (.int .u64 n), ⟨.ro, .sl vE nl xs⟩]]
theorem aftLoop {n : Int} {nl : Bool} {xs : List Ev} {k : Int} (hx : xs.length ≤ 1000) (d : Nat) : ∀ (i : Nat) (now : List Ed), i + d = min xs.length k.toNat → now.length ≤ i →
    Loops V14 22 (fnPl V14 22) 0 (aftSt n nl xs k now i) (.exit 0) (mkSt 41 [(8, .s (eS (isNilL (aftF xs d i now)) (aftF xs d i now)))] []) := by
  induction d with
  | zero =>
    intro i now h hn
    refine Loops.done (Goes.now fun rec H L => (aftRnd rec H L n nl xs k _ now _).trans ?_) (by simp) (by kernel_rfl)
    by_cases hc : i < xs.length
    · exact (br_pos (decide_eq_true (by omega))).trans (br_neg (decide_eq_false (by omega)))
    · exact br_neg (decide_eq_false (by omega))
  | succ d ih =>
    intro i now h hn
    have e1 : IntKind.i64.wrap ((i : Int) + 1) = ((i + 1 : Nat) : Int) := w64_id (by omega) (by omega)
    have hl := turnL_len now (nV xs i)
    refine Loops.step (Goes.now fun rec H L => (aftRnd rec H L n nl xs k _ now _).trans ?_) (ih (i + 1) (turnL now (nV xs i)) (by omega) (by omega)) (by kernel_rfl)
    rw [br_pos (decide_eq_true (by omega)), br_pos (decide_eq_true (by omega)), br_pos (inR_yes (by omega) (by omega)), br_pos (decide_eq_true (by omega)), e1, Int.toNat_natCast]
    rfl
theorem aftK (args : List S1) (r : Res) (h : (aftH args).den = some r) : ∃ n, call V14 n 22 args = some r := by
  unfold aftH at h
  split at h
  · rename_i n nl xs k
    obtain ⟨hx, h⟩ := tree_yes h
    obtain rfl := ok_some h
    have hin := fun rec H L => (aftIn rec H L n nl xs k).trans (br_pos hx)
    have hx := of_decide_eq_true hx
    unfold aftR
    cases he : ((chkR n xs).2 == 0) with
    | true =>
      have he2 : ((chkR n xs).2 != 0) = false := by simp only [bne, he]; rfl
      have he0 : (chkR n xs).2 = 0 := eq_of_beq he
      have hin2 : ∀ rec H L, fnWay V14 22 [hiA n nl xs, wS .i64 k] rec H L = L 0 (aftSt n nl xs k [] 0) := fun rec H L => (hin rec H L).trans (br_neg he2)
      have lp := aftLoop (n := n) (nl := nl) (k := k) hx (min xs.length k.toNat) 0 [] (by omega) (by simp)
      rw [he0]
      exact Goes.call (Goes.of hin2 (Goes.loop lp (Goes.now (aftOut · · · _ _)) (by kernel_rfl) (by kernel_rfl) rfl)) (by kernel_rfl) (by kernel_rfl)
    | false =>
      have he2 : ((chkR n xs).2 != 0) = true := by simp only [bne, he]; rfl
      exact Goes.call (Goes.now fun rec H L => (hin rec H L).trans (br_pos he2)) (by kernel_rfl) (by kernel_rfl)
  · exact leaf_none h
theorem sok15 : SOK l15 := stubs_cons (x := (22, co [cH] (plain aftH))) (known_co [cH] (known_plain (V := V14) mix (sok14 _ rfl rfl) aftK)) sok14
theorem atK (args : List S1) (r : Res) (h : (atH args).den = some r) : ∃ n, call V15 n 9 args = some r := by
  unfold atH at h
  split at h
  · rename_i n nl xs t
    obtain ⟨hx, h⟩ := tree_yes h
    obtain rfl := ok_some h
    have hx' := of_decide_eq_true hx
    exact Goes.call (Goes.now fun rec H L => (atIn rec H L n nl xs t).trans ((br_pos (decide_eq_true (by omega))).trans (br_pos hx))) (by kernel_rfl) (by kernel_rfl)
  · exact leaf_none h
theorem sok16 : SOK l16 := stubs_cons (x := (9, co [cH] (plain atH))) (known_co [cH] (known_plain (V := V15) mix (sok15 _ rfl rfl) atK)) sok15
def lL : Stubs := l16 ++ l10
theorem sokL : SOK lL := sok_app sok16 sok10
noncomputable def VL : Env := V lL
end Go.Proofs.Ythiaaaedfidnjaa.Aj
