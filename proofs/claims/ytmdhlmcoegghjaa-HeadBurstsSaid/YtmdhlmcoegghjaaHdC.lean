/- What the functions come to, by the evaluator. Conditions: none; checked here. -/
import Derived.Test.YtmdhlmcoegghjaaHdA
import Derived.ProofKit
import Derived.Test.YtmdhlmcoegghjaaHdB
set_option linter.unusedVariables false
set_option linter.unusedSimpArgs false

namespace Go.Proofs.Ytmdhlmcoegghjaa.Hd
open Go Go.Proofs.Ytmdhlmcoegghjaa.Am Go.RowKit
set_option linter.unusedVariables false
set_option linter.unusedSimpArgs false
set_option maxRecDepth 100000
noncomputable def VE : Env := V lE
noncomputable def VF : Env := V lF
noncomputable def VG : Env := V lG
noncomputable def VH : Env := V lH
theorem right1 (rec : Rec) (H : K) (L : Nat → St → Option Res) (n k c : Int) :
    fnWay VE 9 [hS n k c] rec H L =
  br (decide (n ≤ 4294967296)) (
    br (decide (k ≥ 1)) (
      br (decide (k ≤ 1048576)) (
        br (decide (c ≥ 0)) (
          H .ret (mkSt 26 [(2, vS (.bool (decide (c ≤ 2147483648))))] [])) (
          H .ret (mkSt 26 [(2, vS (.bool false))] []))) (
        H .ret (mkSt 26 [(2, vS (.bool false))] []))) (
      H .ret (mkSt 26 [(2, vS (.bool false))] []))) (
    H .ret (mkSt 26 [(2, vS (.bool false))] [])) := by kernel_rfl
theorem right2 (rec : Rec) (H : K) (L : Nat → St → Option Res) (n k c : Int) :
    fnWay VE 10 [hS n k c] rec H L =
  br (decide (n ≤ 4294967296)) (
    br (decide (k ≥ 1)) (
      br (decide (k ≤ 1048576)) (
        br (decide (c ≥ 0)) (
          H .ret (mkSt 26 [(2, vS (.bool (decide (c ≤ 2147483648))))] [])) (
          H .ret (mkSt 26 [(2, vS (.bool false))] []))) (
        H .ret (mkSt 26 [(2, vS (.bool false))] []))) (
      H .ret (mkSt 26 [(2, vS (.bool false))] []))) (
    H .ret (mkSt 26 [(2, vS (.bool false))] [])) := by kernel_rfl
theorem put1 (rec : Rec) (H : K) (L : Nat → St → Option Res) (n k c : Int) :
    fnWay VF 11 [hS n k c] rec H L =
  br (!rightB n k c) (
    H .ret (mkSt 26 [(2, .s (.c (⟨.ro, AV.nilv⟩)))] [])) (
    H .ret (mkSt 26 [(2, .s (.c (⟨.own 800 none, AV.sl (CL.int IntKind.u8) false (sealP ([84, 71, 88, 49] ++ putL n (Int.toNat 8) ++ putL (IntKind.u64.wrap k) (Int.toNat 4) ++ putL (IntKind.u64.wrap c) (Int.toNat 4)))⟩)))] [])) := by kernel_rfl
theorem put2 (rec : Rec) (H : K) (L : Nat → St → Option Res) (n k c : Int) :
    fnWay VF 12 [hS n k c] rec H L =
  br (!rightB n k c) (
    H .ret (mkSt 26 [(2, .s (.c (⟨.ro, AV.nilv⟩)))] [])) (
    H .ret (mkSt 26 [(2, .s (.c (⟨.own 800 none, AV.sl (CL.int IntKind.u8) false (sealR ([84, 71, 88, 49] ++ fixL n (Int.toNat 8) ++ fixL (IntKind.u64.wrap k) (Int.toNat 4) ++ fixL (IntKind.u64.wrap c) (Int.toNat 4)))⟩)))] [])) := by kernel_rfl
theorem blocks1 (rec : Rec) (H : K) (L : Nat → St → Option Res) (n k c : Int) :
    fnWay VF 13 [hS n k c] rec H L =
  br (!rightB n k c) (
    H .ret (mkSt 15 [(2, vS (.int .i64 0))] [])) (
    br (decide (k = 0)) (
      none) (
      H .ret (mkSt 15 [(2, vS (.int .i64 (IntKind.i64.wrap ((IntKind.i64.wrap (IntKind.i64.wrap (c + k) - 1)).tdiv k))))] []))) := by kernel_rfl
theorem blocks2 (rec : Rec) (H : K) (L : Nat → St → Option Res) (n k c : Int) :
    fnWay VF 14 [hS n k c] rec H L =
  br (!rightB n k c) (
    H .ret (mkSt 15 [(2, vS (.int .i64 0))] [])) (
    br (decide (k = 0)) (
      none) (
      H .ret (mkSt 15 [(2, vS (.int .i64 (IntKind.i64.wrap ((IntKind.i64.wrap (IntKind.i64.wrap (c + k) - 1)).tdiv k))))] []))) := by kernel_rfl
theorem read1 (rec : Rec) (H : K) (L : Nat → St → Option Res) (nl : Bool) (xs : List Int) :
    fnWay VF 19 [bS nl xs] rec H L =
  br (decide ((↑xs.length : Int) < 24)) (
    H .ret (mkSt 42 [(2, .s (.c (⟨.ro, AV.ptr 0 0⟩))), (3, vS (.int .i64 20))] [[vC (.int .u64 0), vC (.int .i64 0), vC (.int .i64 0)]])) (
    br (leR 4 xs.length) (
      br (!(baOf (List.take (Int.toNat 4) xs)).toList == (⟨#[84, 71, 88, 49]⟩ : ByteArray).toList) (
        H .ret (mkSt 42 [(2, .s (.c (⟨.ro, AV.ptr 0 0⟩))), (3, vS (.int .i64 27))] [[vC (.int .u64 0), vC (.int .i64 0), vC (.int .i64 0)]])) (
        br (leR 24 xs.length) (
          br nl (
            none) (
            br (decide ((List.take (Int.toNat 24) xs).length ≤ 100000)) (
              br (decide ((List.take (Int.toNat 24) xs).length < 4)) (
                H .ret (mkSt 42 [(2, .s (.c (⟨.ro, AV.ptr 0 0⟩))), (3, vS (.int .i64 28))] [[vC (.int .u64 0), vC (.int .i64 0), vC (.int .i64 0)]])) (
                br (decide (sealP (List.take ((List.take (Int.toNat 24) xs).length - 4) (List.take (Int.toNat 24) xs)) = List.take (Int.toNat 24) xs)) (
                  br (leR 12 xs.length) (
                    br (decide ((List.drop (Int.toNat 4) (List.take (Int.toNat 12) xs)).length ≤ 1000000)) (
                      br (leR 16 xs.length) (
                        br (decide ((List.drop (Int.toNat 12) (List.take (Int.toNat 16) xs)).length ≤ 1000000)) (
                          br (leR 20 xs.length) (
                            br (decide ((List.drop (Int.toNat 16) (List.take (Int.toNat 20) xs)).length ≤ 1000000)) (
                              br (!rightB (numI (List.drop (Int.toNat 4) (List.take (Int.toNat 12) xs))) (IntKind.i64.wrap (numI (List.drop (Int.toNat 12) (List.take (Int.toNat 16) xs)))) (IntKind.i64.wrap (numI (List.drop (Int.toNat 16) (List.take (Int.toNat 20) xs))))) (
                                H .ret (mkSt 42 [(2, .s (.c (⟨.ro, AV.ptr 0 0⟩))), (3, vS (.int .i64 26))] [[vC (.int .u64 0), vC (.int .i64 0), vC (.int .i64 0)], [vC (.int .u64 (numI (List.drop (Int.toNat 4) (List.take (Int.toNat 12) xs)))), vC (.int .i64 (IntKind.i64.wrap (numI (List.drop (Int.toNat 12) (List.take (Int.toNat 16) xs))))), vC (.int .i64 (IntKind.i64.wrap (numI (List.drop (Int.toNat 16) (List.take (Int.toNat 20) xs)))))]])) (
                                H .ret (mkSt 42 [(2, .s (.c (⟨.ro, AV.ptr 0 0⟩))), (3, vS (.int .i64 0))] [[vC (.int .u64 (numI (List.drop (Int.toNat 4) (List.take (Int.toNat 12) xs)))), vC (.int .i64 (IntKind.i64.wrap (numI (List.drop (Int.toNat 12) (List.take (Int.toNat 16) xs))))), vC (.int .i64 (IntKind.i64.wrap (numI (List.drop (Int.toNat 16) (List.take (Int.toNat 20) xs)))))], [vC (.int .u64 (numI (List.drop (Int.toNat 4) (List.take (Int.toNat 12) xs)))), vC (.int .i64 (IntKind.i64.wrap (numI (List.drop (Int.toNat 12) (List.take (Int.toNat 16) xs))))), vC (.int .i64 (IntKind.i64.wrap (numI (List.drop (Int.toNat 16) (List.take (Int.toNat 20) xs)))))]]))) (
                              none)) (
                            none)) (
                          none)) (
                        none)) (
                      none)) (
                    none)) (
                  H .ret (mkSt 42 [(2, .s (.c (⟨.ro, AV.ptr 0 0⟩))), (3, vS (.int .i64 28))] [[vC (.int .u64 0), vC (.int .i64 0), vC (.int .i64 0)]])))) (
              none))) (
          none))) (
      none)) := by kernel_rfl
theorem read2 (rec : Rec) (H : K) (L : Nat → St → Option Res) (nl : Bool) (xs : List Int) :
    fnWay VF 20 [bS nl xs] rec H L =
  br (decide ((↑xs.length : Int) < 24)) (
    H .ret (mkSt 42 [(2, .s (.c (⟨.ro, AV.ptr 0 0⟩))), (3, vS (.int .i64 20))] [[vC (.int .u64 0), vC (.int .i64 0), vC (.int .i64 0)]])) (
    br (leR 4 xs.length) (
      br (!(baOf (List.take (Int.toNat 4) xs)).toList == (⟨#[84, 71, 88, 49]⟩ : ByteArray).toList) (
        H .ret (mkSt 42 [(2, .s (.c (⟨.ro, AV.ptr 0 0⟩))), (3, vS (.int .i64 27))] [[vC (.int .u64 0), vC (.int .i64 0), vC (.int .i64 0)]])) (
        br (leR 24 xs.length) (
          br (decide ((List.take (Int.toNat 24) xs).length ≤ 100000)) (
            br (decide ((List.take (Int.toNat 24) xs).length < 4)) (
              H .ret (mkSt 42 [(2, .s (.c (⟨.ro, AV.ptr 0 0⟩))), (3, vS (.int .i64 28))] [[vC (.int .u64 0), vC (.int .i64 0), vC (.int .i64 0)]])) (
              br (decide (numI (List.drop ((List.take (Int.toNat 24) xs).length - 4) (List.take (Int.toNat 24) xs)) = w64u (sumR [(nl, List.take ((List.take (Int.toNat 24) xs).length - 4) (List.take (Int.toNat 24) xs))]))) (
                br (leR 12 xs.length) (
                  br (decide ((List.drop (Int.toNat 4) (List.take (Int.toNat 12) xs)).length ≤ 1000000)) (
                    br (leR 16 xs.length) (
                      br (decide ((List.drop (Int.toNat 12) (List.take (Int.toNat 16) xs)).length ≤ 1000000)) (
                        br (leR 20 xs.length) (
                          br (decide ((List.drop (Int.toNat 16) (List.take (Int.toNat 20) xs)).length ≤ 1000000)) (
                            br (!rightB (numI (List.drop (Int.toNat 4) (List.take (Int.toNat 12) xs))) (IntKind.i64.wrap (numI (List.drop (Int.toNat 12) (List.take (Int.toNat 16) xs)))) (IntKind.i64.wrap (numI (List.drop (Int.toNat 16) (List.take (Int.toNat 20) xs))))) (
                              H .ret (mkSt 42 [(2, .s (.c (⟨.ro, AV.ptr 0 0⟩))), (3, vS (.int .i64 26))] [[vC (.int .u64 0), vC (.int .i64 0), vC (.int .i64 0)], [vC (.int .u64 (numI (List.drop (Int.toNat 4) (List.take (Int.toNat 12) xs)))), vC (.int .i64 (IntKind.i64.wrap (numI (List.drop (Int.toNat 12) (List.take (Int.toNat 16) xs))))), vC (.int .i64 (IntKind.i64.wrap (numI (List.drop (Int.toNat 16) (List.take (Int.toNat 20) xs)))))]])) (
                              H .ret (mkSt 42 [(2, .s (.c (⟨.ro, AV.ptr 0 0⟩))), (3, vS (.int .i64 0))] [[vC (.int .u64 (numI (List.drop (Int.toNat 4) (List.take (Int.toNat 12) xs)))), vC (.int .i64 (IntKind.i64.wrap (numI (List.drop (Int.toNat 12) (List.take (Int.toNat 16) xs))))), vC (.int .i64 (IntKind.i64.wrap (numI (List.drop (Int.toNat 16) (List.take (Int.toNat 20) xs)))))], [vC (.int .u64 (numI (List.drop (Int.toNat 4) (List.take (Int.toNat 12) xs)))), vC (.int .i64 (IntKind.i64.wrap (numI (List.drop (Int.toNat 12) (List.take (Int.toNat 16) xs))))), vC (.int .i64 (IntKind.i64.wrap (numI (List.drop (Int.toNat 16) (List.take (Int.toNat 20) xs)))))]]))) (
                            none)) (
                          none)) (
                        none)) (
                      none)) (
                    none)) (
                  none)) (
                H .ret (mkSt 42 [(2, .s (.c (⟨.ro, AV.ptr 0 0⟩))), (3, vS (.int .i64 28))] [[vC (.int .u64 0), vC (.int .i64 0), vC (.int .i64 0)]])))) (
            none)) (
          none))) (
      none)) := by kernel_rfl
theorem size1 (rec : Rec) (H : K) (L : Nat → St → Option Res) (n k c i : Int) :
    fnWay VG 15 [hS n k c, wS .i64 i] rec H L =
  br (!decide (i < 0)) (
    br (decide (i ≥ blocksI n k c)) (
      H .ret (mkSt 23 [(4, vS (.int .i64 0))] [])) (
      H .ret (mkSt 23 [(4, vS (.int .i64 (if IntKind.i64.wrap (c - IntKind.i64.wrap (i * k)) < k then IntKind.i64.wrap (c - IntKind.i64.wrap (i * k)) else k)))] []))) (
    H .ret (mkSt 23 [(4, vS (.int .i64 0))] [])) := by kernel_rfl
theorem size2 (rec : Rec) (H : K) (L : Nat → St → Option Res) (n k c i : Int) :
    fnWay VG 16 [hS n k c, wS .i64 i] rec H L =
  br (!decide (i < 0)) (
    br (decide (i ≥ blocksI n k c)) (
      H .ret (mkSt 23 [(4, vS (.int .i64 0))] [])) (
      H .ret (mkSt 23 [(4, vS (.int .i64 (if IntKind.i64.wrap (c - IntKind.i64.wrap (i * k)) < k then IntKind.i64.wrap (c - IntKind.i64.wrap (i * k)) else k)))] []))) (
    H .ret (mkSt 23 [(4, vS (.int .i64 0))] [])) := by kernel_rfl
theorem readNil (rec : Rec) (H : K) (L : Nat → St → Option Res) :
    fnWay VF 19 [.c ⟨.ro, .nilv⟩] rec H L =
  H .ret (mkSt 42 [(2, .s (.c (⟨.ro, AV.ptr 0 0⟩))), (3, vS (.int .i64 20))] [[vC (.int .u64 0), vC (.int .i64 0), vC (.int .i64 0)]]) := by kernel_rfl
end Go.Proofs.Ytmdhlmcoegghjaa.Hd

namespace Go.Proofs.Ytmdhlmcoegghjaa.Hd
open Go Go.Proofs.Ytmdhlmcoegghjaa.Am Go.RowKit
set_option linter.unusedVariables false
set_option linter.unusedSimpArgs false
set_option maxRecDepth 100000
def rightSt (n k c : Int) (b : Bool) : St := mkSt 26 [(2, vS (.bool b))] []
theorem rightT (H : K) (n k c : Int) : br (decide (n ≤ 4294967296)) (br (decide (k ≥ 1)) (br (decide (k ≤ 1048576)) (br (decide (c ≥ 0)) (H .ret (rightSt n k c (decide (c ≤ 2147483648)))) (H .ret (rightSt n k c false))) (H .ret (rightSt n k c false))) (H .ret (rightSt n k c false))) (H .ret (rightSt n k c false)) = H .ret (rightSt n k c (rightB n k c)) := by
  unfold rightB
  cases decide (n ≤ 4294967296) <;> cases decide (k ≥ 1) <;> cases decide (k ≤ 1048576) <;> cases decide (c ≥ 0) <;> rfl
theorem rightK1 (xs : List S1) (r : Res) (h : (rightH xs).den = some r) : ∃ n, call VE n 9 xs = some r := by
  unfold rightH at h
  split at h
  · obtain rfl := ok_some h
    exact Goes.call (Goes.now fun rec H L => (right1 rec H L _ _ _).trans (rightT H _ _ _)) (by kernel_rfl) (by kernel_rfl)
  · exact leaf_none h
theorem rightK2 (xs : List S1) (r : Res) (h : (rightH xs).den = some r) : ∃ n, call VE n 10 xs = some r := by
  unfold rightH at h
  split at h
  · obtain rfl := ok_some h
    exact Goes.call (Goes.now fun rec H L => (right2 rec H L _ _ _).trans (rightT H _ _ _)) (by kernel_rfl) (by kernel_rfl)
  · exact leaf_none h
theorem sokF : SOK lF :=
  stubs_cons (x := (9, rightH)) (known_of (V := VE) mix (sokE _ rfl rfl) rightK1) <|
  stubs_cons (x := (10, rightH)) (known_of (V := VE) mix (sokE _ rfl rfl) rightK2) sokE
theorem notT {b : Bool} (h : b = true) : (!b) = false := by rw [h]; rfl
theorem notF {b : Bool} (h : b = false) : (!b) = true := by rw [h]; rfl
theorem putK1 (xs : List S1) (r : Res) (h : (putPH xs).den = some r) : ∃ n, call VF n 11 xs = some r := by
  unfold putPH at h
  split at h
  · rcases tree_br h with ⟨h1, h⟩ | ⟨h1, h⟩
    · obtain rfl := ok_some h
      exact Goes.call (Goes.now fun rec H L => (put1 rec H L _ _ _).trans (br_neg (notT h1))) (by kernel_rfl) (by kernel_rfl)
    · obtain rfl := ok_some h
      exact Goes.call (Goes.now fun rec H L => (put1 rec H L _ _ _).trans (br_pos (notF h1))) (by kernel_rfl) (by kernel_rfl)
  · exact leaf_none h
theorem putK2 (xs : List S1) (r : Res) (h : (putRH xs).den = some r) : ∃ n, call VF n 12 xs = some r := by
  unfold putRH at h
  split at h
  · rcases tree_br h with ⟨h1, h⟩ | ⟨h1, h⟩
    · obtain rfl := ok_some h
      exact Goes.call (Goes.now fun rec H L => (put2 rec H L _ _ _).trans (br_neg (notT h1))) (by kernel_rfl) (by kernel_rfl)
    · obtain rfl := ok_some h
      exact Goes.call (Goes.now fun rec H L => (put2 rec H L _ _ _).trans (br_pos (notF h1))) (by kernel_rfl) (by kernel_rfl)
  · exact leaf_none h
def blocksSt (n k c : Int) (m : Int) : St := mkSt 15 [(2, vS (.int .i64 m))] []
theorem blocksT (H : K) (n k c : Int) : br (!rightB n k c) (H .ret (blocksSt n k c 0)) (br (decide (k = 0)) none (H .ret (blocksSt n k c (IntKind.i64.wrap ((IntKind.i64.wrap (IntKind.i64.wrap (c + k) - 1)).tdiv k))))) = H .ret (blocksSt n k c (blocksI n k c)) := by
  unfold blocksI
  cases hr : rightB n k c with
  | false => rfl
  | true =>
    have hk : k ≠ 0 := by
      simp only [rightB, Bool.and_eq_true, decide_eq_true_eq] at hr
      omega
    rw [decide_eq_false hk]
    rfl
theorem blocksK1 (xs : List S1) (r : Res) (h : (blocksH xs).den = some r) : ∃ n, call VF n 13 xs = some r := by
  unfold blocksH at h
  split at h
  · obtain rfl := ok_some h
    exact Goes.call (Goes.now fun rec H L => (blocks1 rec H L _ _ _).trans (blocksT H _ _ _)) (by kernel_rfl) (by kernel_rfl)
  · exact leaf_none h
theorem blocksK2 (xs : List S1) (r : Res) (h : (blocksH xs).den = some r) : ∃ n, call VF n 14 xs = some r := by
  unfold blocksH at h
  split at h
  · obtain rfl := ok_some h
    exact Goes.call (Goes.now fun rec H L => (blocks2 rec H L _ _ _).trans (blocksT H _ _ _)) (by kernel_rfl) (by kernel_rfl)
  · exact leaf_none h
theorem readFacts (good : Bool) (xs : List Int) :
    (xs.length < 24 ∧ readS good xs = .tup [hS 0 0 0, wS .i64 20]) ∨ (24 ≤ xs.length ∧ ((magicB xs = false ∧ readS good xs = .tup [hS 0 0 0, wS .i64 27]) ∨
    (magicB xs = true ∧ good = false ∧ readS good xs = .tup [hS 0 0 0, wS .i64 28]) ∨
    (magicB xs = true ∧ good = true ∧ rightB (readN xs) (readKI xs) (readCI xs) = false ∧ readS good xs = .tup [hS 0 0 0, wS .i64 26]) ∨
    (magicB xs = true ∧ good = true ∧ rightB (readN xs) (readKI xs) (readCI xs) = true ∧ readS good xs = .tup [hS (readN xs) (readKI xs) (readCI xs), wS .i64 0]))) := by
  by_cases hl : xs.length < 24
  · exact .inl ⟨hl, by simp [readS, rdZ, readE, hl]⟩
  · refine .inr ⟨by omega, ?_⟩
    cases hm : magicB xs with
    | false => exact .inl ⟨rfl, by simp [readS, rdZ, readE, hl, hm]⟩
    | true =>
      refine .inr ?_
      cases hg : good with
      | false => exact .inl ⟨rfl, rfl, by simp [readS, rdZ, readE, hl, hm]⟩
      | true =>
        refine .inr ?_
        cases hr : rightB (readN xs) (readKI xs) (readCI xs) with
        | false => exact .inl ⟨rfl, rfl, rfl, by simp [readS, rdZ, readE, hl, hm, hr]⟩
        | true => exact .inr ⟨rfl, rfl, rfl, by simp [readS, rdZ, readE, hl, hm, hr]⟩
theorem takeLens {xs : List Int} (hl : 24 ≤ xs.length) : (List.take (Int.toNat 24) xs).length = 24 ∧ (List.drop (Int.toNat 4) (List.take (Int.toNat 12) xs)).length = 8 ∧ (List.drop (Int.toNat 12) (List.take (Int.toNat 16) xs)).length = 4 ∧ (List.drop (Int.toNat 16) (List.take (Int.toNat 20) xs)).length = 4 := by
  simp only [List.length_take, List.length_drop]
  show min 24 xs.length = 24 ∧ min 12 xs.length - 4 = 8 ∧ min 16 xs.length - 12 = 4 ∧ min 20 xs.length - 16 = 4
  omega
theorem readK1 (args : List S1) (r : Res) (h : (readPH args).den = some r) : ∃ n, call VF n 19 args = some r := by
  unfold readPH at h
  split at h
  · rename_i nl xs
    have hn := (tree_not h).1
    have hr := ok_some (tree_not h).2
    clear h
    subst hr
    rcases readFacts (okP xs) xs with ⟨hl, he⟩ | ⟨hl, hrest⟩
    · rw [he]
      exact Goes.call (Goes.now fun rec H L => (read1 rec H L nl xs).trans (br_pos (decide_eq_true (by omega)))) (by kernel_rfl) (by kernel_rfl)
    · have hnl : nl = false := by
        cases nl with
        | false => rfl
        | true => cases xs with
          | nil => simp at hl
          | cons x r => simp [isNilL] at hn
      subst hnl
      obtain ⟨l24, l8, l4, l4'⟩ := takeLens hl
      have e20 : List.take ((List.take (Int.toNat 24) xs).length - 4) (List.take (Int.toNat 24) xs) = List.take 20 xs := by
        rw [l24, List.take_take]
        rfl
      have hin := fun rec H L => (read1 rec H L false xs).trans ((br_neg (decide_eq_false (by omega))).trans (br_pos (leR_yes (by omega) (by omega))))
      rcases hrest with ⟨h3, he⟩ | ⟨h3, h4, he⟩ | ⟨h3, h4, h5, he⟩ | ⟨h3, h4, h5, he⟩ <;> rw [he]
      · exact Goes.call (Goes.now fun rec H L => (hin rec H L).trans (br_pos (notF h3))) (by kernel_rfl) (by kernel_rfl)
      all_goals
        have hin2 := fun rec H L => (hin rec H L).trans ((br_neg (notT h3)).trans ((br_pos (leR_yes (by omega) (by omega))).trans ((br_neg rfl).trans ((br_pos (decide_eq_true (by omega))).trans (br_neg (decide_eq_false (by omega)))))))
        rw [e20] at hin2
      · exact Goes.call (Goes.now fun rec H L => (hin2 rec H L).trans (br_neg h4)) (by kernel_rfl) (by kernel_rfl)
      all_goals
        have hin3 := fun rec H L => (hin2 rec H L).trans ((br_pos h4).trans ((br_pos (leR_yes (by omega) (by omega))).trans ((br_pos (decide_eq_true (by omega))).trans ((br_pos (leR_yes (by omega) (by omega))).trans ((br_pos (decide_eq_true (by omega))).trans ((br_pos (leR_yes (by omega) (by omega))).trans (br_pos (decide_eq_true (by omega)))))))))
      · exact Goes.call (Goes.now fun rec H L => (hin3 rec H L).trans (br_pos (notF h5))) (by kernel_rfl) (by kernel_rfl)
      · exact Goes.call (Goes.now fun rec H L => (hin3 rec H L).trans (br_neg (notT h5))) (by kernel_rfl) (by kernel_rfl)
  · obtain rfl := ok_some h
    exact Goes.call (Goes.now fun rec H L => readNil rec H L) (by kernel_rfl) (by kernel_rfl)
  · exact leaf_none h
theorem itr1 {α : Type} (g : Nat → α → α) (a : α) : itr g a 1 = g 0 a := rfl
theorem sumR1 {nl : Bool} {xs : List Int} : sumR [(nl, xs)] = nextL 0 xs := by
  unfold sumR
  rw [List.length_singleton, itr1]
  congr 1
theorem sumP1 {nl : Bool} {xs : List Int} : sumP [(nl, xs)] = not32 (crcL 4294967295 xs) := by
  unfold sumP
  rw [List.length_singleton, itr1]
  congr 1
theorem sumR_flag {nl : Bool} {xs : List Int} : sumR [(nl, xs)] = sumR [(false, xs)] := by rw [sumR1, sumR1]
theorem readK2 (args : List S1) (r : Res) (h : (readRH args).den = some r) : ∃ n, call VF n 20 args = some r := by
  unfold readRH at h
  split at h
  · rename_i nl xs
    obtain rfl := ok_some h
    clear h
    rcases readFacts (okR xs) xs with ⟨hl, he⟩ | ⟨hl, hrest⟩
    · rw [he]
      exact Goes.call (Goes.now fun rec H L => (read2 rec H L nl xs).trans (br_pos (decide_eq_true (by omega)))) (by kernel_rfl) (by kernel_rfl)
    · obtain ⟨l24, l8, l4, l4'⟩ := takeLens hl
      have e20 : List.take ((List.take (Int.toNat 24) xs).length - 4) (List.take (Int.toNat 24) xs) = List.take 20 xs := by
        rw [l24, List.take_take]
        rfl
      have f20 : List.drop ((List.take (Int.toNat 24) xs).length - 4) (List.take (Int.toNat 24) xs) = List.drop 20 (List.take 24 xs) := by
        rw [l24]
        rfl
      have hin := fun rec H L => (read2 rec H L nl xs).trans ((br_neg (decide_eq_false (by omega))).trans (br_pos (leR_yes (by omega) (by omega))))
      rcases hrest with ⟨h3, he⟩ | ⟨h3, h4, he⟩ | ⟨h3, h4, h5, he⟩ | ⟨h3, h4, h5, he⟩ <;> rw [he]
      · exact Goes.call (Goes.now fun rec H L => (hin rec H L).trans (br_pos (notF h3))) (by kernel_rfl) (by kernel_rfl)
      all_goals
        have hin2 := fun rec H L => (hin rec H L).trans ((br_neg (notT h3)).trans ((br_pos (leR_yes (by omega) (by omega))).trans ((br_pos (decide_eq_true (by omega))).trans (br_neg (decide_eq_false (by omega))))))
        rw [e20, f20, sumR_flag] at hin2
      · exact Goes.call (Goes.now fun rec H L => (hin2 rec H L).trans (br_neg h4)) (by kernel_rfl) (by kernel_rfl)
      all_goals
        have hin3 := fun rec H L => (hin2 rec H L).trans ((br_pos h4).trans ((br_pos (leR_yes (by omega) (by omega))).trans ((br_pos (decide_eq_true (by omega))).trans ((br_pos (leR_yes (by omega) (by omega))).trans ((br_pos (decide_eq_true (by omega))).trans ((br_pos (leR_yes (by omega) (by omega))).trans (br_pos (decide_eq_true (by omega)))))))))
      · exact Goes.call (Goes.now fun rec H L => (hin3 rec H L).trans (br_pos (notF h5))) (by kernel_rfl) (by kernel_rfl)
      · exact Goes.call (Goes.now fun rec H L => (hin3 rec H L).trans (br_neg (notT h5))) (by kernel_rfl) (by kernel_rfl)
  · exact leaf_none h
theorem sokG : SOK lG :=
  stubs_cons (x := (11, putPH)) (known_of (V := VF) mix (sokF _ rfl rfl) putK1) <|
  stubs_cons (x := (12, putRH)) (known_of (V := VF) mix (sokF _ rfl rfl) putK2) <|
  stubs_cons (x := (13, blocksH)) (known_of (V := VF) mix (sokF _ rfl rfl) blocksK1) <|
  stubs_cons (x := (14, blocksH)) (known_of (V := VF) mix (sokF _ rfl rfl) blocksK2) <|
  stubs_cons (x := (19, readPH)) (known_of (V := VF) mix (sokF _ rfl rfl) readK1) <|
  stubs_cons (x := (20, readRH)) (known_of (V := VF) mix (sokF _ rfl rfl) readK2) sokF
end Go.Proofs.Ytmdhlmcoegghjaa.Hd

namespace Go.Proofs.Ytmdhlmcoegghjaa.Hd
open Go Go.Proofs.Ytmdhlmcoegghjaa.Am Go.RowKit
set_option linter.unusedVariables false
set_option linter.unusedSimpArgs false
set_option maxRecDepth 100000
def sizeSt (n k c m : Int) : St := mkSt 23 [(4, vS (.int .i64 m))] []
theorem sizeT (H : K) (n k c i : Int) : br (!decide (i < 0)) (br (decide (i ≥ blocksI n k c)) (H .ret (sizeSt n k c 0)) (H .ret (sizeSt n k c (if IntKind.i64.wrap (c - IntKind.i64.wrap (i * k)) < k then IntKind.i64.wrap (c - IntKind.i64.wrap (i * k)) else k)))) (H .ret (sizeSt n k c 0)) = H .ret (sizeSt n k c (sizeI n k c i)) := by
  unfold sizeI
  cases decide (i < 0) <;> cases decide (i ≥ blocksI n k c) <;> rfl
theorem sizeK1 (xs : List S1) (r : Res) (h : (sizeH xs).den = some r) : ∃ n, call VG n 15 xs = some r := by
  unfold sizeH at h
  split at h
  · obtain rfl := ok_some h
    exact Goes.call (Goes.now fun rec H L => (size1 rec H L _ _ _ _).trans (sizeT H _ _ _ _)) (by kernel_rfl) (by kernel_rfl)
  · exact leaf_none h
theorem sizeK2 (xs : List S1) (r : Res) (h : (sizeH xs).den = some r) : ∃ n, call VG n 16 xs = some r := by
  unfold sizeH at h
  split at h
  · obtain rfl := ok_some h
    exact Goes.call (Goes.now fun rec H L => (size2 rec H L _ _ _ _).trans (sizeT H _ _ _ _)) (by kernel_rfl) (by kernel_rfl)
  · exact leaf_none h
theorem sokG2 : SOK lG2 :=
  stubs_cons (x := (15, sizeH)) (known_of (V := VG) mix (sokG _ rfl rfl) sizeK1) <|
  stubs_cons (x := (16, sizeH)) (known_of (V := VG) mix (sokG _ rfl rfl) sizeK2) sokG
noncomputable def VG2 : Env := V lG2
theorem knownE : call VG2 40 8 [] = some (vS (.bool true), []) := by kernel_rfl
theorem knownK (xs : List S1) (r : Res) (h : (knownH xs).den = some r) : ∃ n, call VG2 n 8 xs = some r := by
  unfold knownH at h
  split at h
  · obtain rfl := ok_some h
    exact ⟨40, knownE⟩
  · exact leaf_none h
theorem sokH : SOK lH := stubs_cons (x := (8, knownH)) (known_of (V := VG2) mix (sokG2 _ rfl rfl) knownK) sokG2
end Go.Proofs.Ytmdhlmcoegghjaa.Hd

namespace Go.Proofs.Ytmdhlmcoegghjaa.Hd
open Go Go.Proofs.Ytmdhlmcoegghjaa.Am Go.RowKit
set_option linter.unusedVariables false
set_option linter.unusedSimpArgs false
set_option maxRecDepth 100000

/-! bytes and numbers -/
def inB (xs : List Int) : Prop := ∀ x ∈ xs, 0 ≤ x ∧ x < 256
theorem w8_in (x : Int) : 0 ≤ w8 x ∧ w8 x < 256 := by
  show 0 ≤ IntKind.u8.wrap x ∧ IntKind.u8.wrap x < 256
  rw [wu8_eq]
  omega
theorem itr_in {g : Nat → Int} (h : ∀ i, 0 ≤ g i ∧ g i < 256) : ∀ {n : Nat} {xs : List Int}, inB xs → inB (itr (fun i o => o ++ [g i]) xs n)
  | 0, xs, hx => hx
  | n + 1, xs, hx => by
    intro x hm
    simp only [itr, List.mem_append, List.mem_singleton] at hm
    rcases hm with hm | rfl
    · exact itr_in h hx x hm
    · exact h n
theorem inB_nil : inB [] := fun _ h => by simp at h
theorem fixL_in {v : Int} {n : Nat} : inB (fixL v n) := itr_in (fun i => w8_in _) inB_nil
theorem inB_append {xs ys : List Int} (h1 : inB xs) (h2 : inB ys) : inB (xs ++ ys) := fun x hx => by
  rcases List.mem_append.1 hx with h | h
  · exact h1 x h
  · exact h2 x h
theorem fdiv_pos (v : Int) {d : Int} (h : 0 ≤ d) : v.fdiv d = v / d := Int.fdiv_eq_ediv_of_nonneg v h
theorem fix4 (v : Int) : fixL v (Int.toNat 4) = [v % 256, v / 256 % 256, v / 65536 % 256, v / 16777216 % 256] := by
  have : fixL v (Int.toNat 4) = [w8 (v.fdiv 1), w8 (v.fdiv 256), w8 (v.fdiv 65536), w8 (v.fdiv 16777216)] := by kernel_rfl
  rw [this]
  simp only [w8, wu8_eq]
  rw [fdiv_pos v (by decide), fdiv_pos v (by decide), fdiv_pos v (by decide), fdiv_pos v (by decide), Int.ediv_one]
theorem fix8 (v : Int) : fixL v (Int.toNat 8) = [v % 256, v / 256 % 256, v / 65536 % 256, v / 16777216 % 256, v / 4294967296 % 256, v / 1099511627776 % 256, v / 281474976710656 % 256, v / 72057594037927936 % 256] := by
  have : fixL v (Int.toNat 8) = [w8 (v.fdiv 1), w8 (v.fdiv 256), w8 (v.fdiv 65536), w8 (v.fdiv 16777216), w8 (v.fdiv 4294967296), w8 (v.fdiv 1099511627776), w8 (v.fdiv 281474976710656), w8 (v.fdiv 72057594037927936)] := by kernel_rfl
  rw [this]
  simp only [w8, wu8_eq]
  rw [fdiv_pos v (by decide), fdiv_pos v (by decide), fdiv_pos v (by decide), fdiv_pos v (by decide), fdiv_pos v (by decide), fdiv_pos v (by decide), fdiv_pos v (by decide), fdiv_pos v (by decide), Int.ediv_one]
theorem put4 (v : Int) : putL v (Int.toNat 4) = fixL v (Int.toNat 4) := by
  have : putL v (Int.toNat 4) = [w8 v, w8 (v.fdiv 256), w8 ((v.fdiv 256).fdiv 256), w8 (((v.fdiv 256).fdiv 256).fdiv 256)] := by kernel_rfl
  rw [this, fix4]
  simp only [w8, wu8_eq]
  rw [fdiv_pos v (by decide), fdiv_pos _ (by decide), fdiv_pos _ (by decide), Int.ediv_ediv_of_nonneg (by decide), Int.ediv_ediv_of_nonneg (by decide)]
  rfl
theorem put8 (v : Int) : putL v (Int.toNat 8) = fixL v (Int.toNat 8) := by
  have : putL v (Int.toNat 8) = [w8 v, w8 (v.fdiv 256), w8 ((v.fdiv 256).fdiv 256), w8 (((v.fdiv 256).fdiv 256).fdiv 256), w8 ((((v.fdiv 256).fdiv 256).fdiv 256).fdiv 256), w8 (((((v.fdiv 256).fdiv 256).fdiv 256).fdiv 256).fdiv 256),
    w8 ((((((v.fdiv 256).fdiv 256).fdiv 256).fdiv 256).fdiv 256).fdiv 256), w8 (((((((v.fdiv 256).fdiv 256).fdiv 256).fdiv 256).fdiv 256).fdiv 256).fdiv 256)] := by kernel_rfl
  rw [this, fix8]
  simp only [w8, wu8_eq]
  rw [fdiv_pos v (by decide), fdiv_pos _ (by decide), fdiv_pos _ (by decide), fdiv_pos _ (by decide), fdiv_pos _ (by decide), fdiv_pos _ (by decide), fdiv_pos _ (by decide),
    Int.ediv_ediv_of_nonneg (by decide), Int.ediv_ediv_of_nonneg (by decide), Int.ediv_ediv_of_nonneg (by decide), Int.ediv_ediv_of_nonneg (by decide), Int.ediv_ediv_of_nonneg (by decide), Int.ediv_ediv_of_nonneg (by decide)]
  rfl
theorem ofInt_nat (w : Nat) (x : Nat) (h : x < 2 ^ w) : (BitVec.ofInt w (x : Int)).toNat = x := by
  rw [BitVec.toNat_ofInt]
  have : ((x : Int) % ((2 ^ w : Nat) : Int)).toNat = x := by
    rw [Int.emod_eq_of_lt (by omega) (by exact_mod_cast h)]
    rfl
  exact this
theorem wu64_id {x : Int} (h0 : 0 ≤ x) (h1 : x < 18446744073709551616) : IntKind.u64.wrap x = x := by rw [wu64_eq, Int.emod_eq_of_lt h0 h1]
theorem wu32_id {x : Int} (h0 : 0 ≤ x) (h1 : x < 4294967296) : IntKind.u32.wrap x = x := by rw [wu32_eq, Int.emod_eq_of_lt h0 h1]
theorem or_step (v x : Int) (s p : Nat) (hs : s ≤ 56) (hp : p = 2 ^ s) (hv0 : 0 ≤ v) (hv : v < p) (hx0 : 0 ≤ x) (hx : x < 256) :
    w64u (BitVec.ofInt IntKind.u64.bits v ||| BitVec.ofInt IntKind.u64.bits (w64u (w64u x * 2 ^ min s IntKind.u64.bits))).toNat = v + p * x := by
  obtain ⟨V, rfl⟩ := Int.eq_ofNat_of_zero_le hv0
  obtain ⟨X, rfl⟩ := Int.eq_ofNat_of_zero_le hx0
  have hm : min s IntKind.u64.bits = s := by
    show min s 64 = s
    omega
  have hp2 : p ≤ 2 ^ 56 := hp ▸ Nat.pow_le_pow_right (by decide) hs
  have hX : X ≤ 255 := by omega
  have hmul : X * p ≤ 255 * 2 ^ 56 := Nat.mul_le_mul hX hp2
  have hV : V < p := by exact_mod_cast hv
  have e1 : w64u (X : Int) = X := wu64_id (by omega) (by omega)
  have e2 : w64u (w64u (X : Int) * 2 ^ min s IntKind.u64.bits) = ((X * p : Nat) : Int) := by
    rw [e1, hm]
    have : (X : Int) * 2 ^ s = ((X * p : Nat) : Int) := by rw [hp]; push_cast; rfl
    rw [this]
    exact wu64_id (by omega) (by omega)
  rw [e2, BitVec.toNat_or]
  rw [show (BitVec.ofInt IntKind.u64.bits ((V : Nat) : Int)).toNat = V from ofInt_nat 64 V (by omega), show (BitVec.ofInt IntKind.u64.bits ((X * p : Nat) : Int)).toNat = X * p from ofInt_nat 64 (X * p) (by omega)]
  have h3 : V ||| X * p = X * p + V := by
    rw [Nat.or_comm, Nat.mul_comm, hp]
    exact (Nat.two_pow_add_eq_or_of_lt (hp ▸ hV) X).symm
  rw [h3]
  have := wu64_id (x := ((X * p + V : Nat) : Int)) (by omega) (by omega)
  refine Eq.trans this ?_
  push_cast
  rw [Int.mul_comm (X : Int), Int.add_comm]
theorem num4 (a b c d : Int) (h : inB [a, b, c, d]) : numI [a, b, c, d] = a + 256 * b + 65536 * c + 16777216 * d := by
  have ha := h a (by simp)
  have hb := h b (by simp)
  have hc := h c (by simp)
  have hd := h d (by simp)
  have e0 : takI [a, b, c, d] 1 = 0 + (1 : Nat) * a := or_step 0 a 0 1 (by decide) rfl (by decide) (by decide) ha.1 ha.2
  have e1 : takI [a, b, c, d] 2 = takI [a, b, c, d] 1 + (256 : Nat) * b := or_step (takI [a, b, c, d] 1) b 8 256 (by decide) rfl (by omega) (by omega) hb.1 hb.2
  have e2 : takI [a, b, c, d] 3 = takI [a, b, c, d] 2 + (65536 : Nat) * c := or_step (takI [a, b, c, d] 2) c 16 65536 (by decide) rfl (by omega) (by omega) hc.1 hc.2
  have e3 : takI [a, b, c, d] 4 = takI [a, b, c, d] 3 + (16777216 : Nat) * d := or_step (takI [a, b, c, d] 3) d 24 16777216 (by decide) rfl (by omega) (by omega) hd.1 hd.2
  show takI [a, b, c, d] 4 = _
  omega
theorem num8 (a b c d e f g i : Int) (h : inB [a, b, c, d, e, f, g, i]) : numI [a, b, c, d, e, f, g, i] = a + 256 * b + 65536 * c + 16777216 * d + 4294967296 * e + 1099511627776 * f + 281474976710656 * g + 72057594037927936 * i := by
  have ha := h a (by simp)
  have hb := h b (by simp)
  have hc := h c (by simp)
  have hd := h d (by simp)
  have he := h e (by simp)
  have hf := h f (by simp)
  have hg := h g (by simp)
  have hi := h i (by simp)
  have e0 : takI [a, b, c, d, e, f, g, i] 1 = 0 + (1 : Nat) * a := or_step 0 a 0 1 (by decide) rfl (by decide) (by decide) ha.1 ha.2
  have e1 : takI [a, b, c, d, e, f, g, i] 2 = takI [a, b, c, d, e, f, g, i] 1 + (256 : Nat) * b := or_step (takI [a, b, c, d, e, f, g, i] 1) b 8 256 (by decide) rfl (by omega) (by omega) hb.1 hb.2
  have e2 : takI [a, b, c, d, e, f, g, i] 3 = takI [a, b, c, d, e, f, g, i] 2 + (65536 : Nat) * c := or_step (takI [a, b, c, d, e, f, g, i] 2) c 16 65536 (by decide) rfl (by omega) (by omega) hc.1 hc.2
  have e3 : takI [a, b, c, d, e, f, g, i] 4 = takI [a, b, c, d, e, f, g, i] 3 + (16777216 : Nat) * d := or_step (takI [a, b, c, d, e, f, g, i] 3) d 24 16777216 (by decide) rfl (by omega) (by omega) hd.1 hd.2
  have e4 : takI [a, b, c, d, e, f, g, i] 5 = takI [a, b, c, d, e, f, g, i] 4 + (4294967296 : Nat) * e := or_step (takI [a, b, c, d, e, f, g, i] 4) e 32 4294967296 (by decide) rfl (by omega) (by omega) he.1 he.2
  have e5 : takI [a, b, c, d, e, f, g, i] 6 = takI [a, b, c, d, e, f, g, i] 5 + (1099511627776 : Nat) * f := or_step (takI [a, b, c, d, e, f, g, i] 5) f 40 1099511627776 (by decide) rfl (by omega) (by omega) hf.1 hf.2
  have e6 : takI [a, b, c, d, e, f, g, i] 7 = takI [a, b, c, d, e, f, g, i] 6 + (281474976710656 : Nat) * g := or_step (takI [a, b, c, d, e, f, g, i] 6) g 48 281474976710656 (by decide) rfl (by omega) (by omega) hg.1 hg.2
  have e7 : takI [a, b, c, d, e, f, g, i] 8 = takI [a, b, c, d, e, f, g, i] 7 + (72057594037927936 : Nat) * i := or_step (takI [a, b, c, d, e, f, g, i] 7) i 56 72057594037927936 (by decide) rfl (by omega) (by omega) hi.1 hi.2
  show takI [a, b, c, d, e, f, g, i] 8 = _
  omega
theorem num_fix4 {v : Int} (h0 : 0 ≤ v) (h1 : v < 4294967296) : numI (fixL v (Int.toNat 4)) = v := by
  have h := fixL_in (v := v) (n := Int.toNat 4)
  rw [fix4] at h ⊢
  rw [num4 _ _ _ _ h]
  omega
theorem num_fix8 {v : Int} (h0 : 0 ≤ v) (h1 : v < 18446744073709551616) : numI (fixL v (Int.toNat 8)) = v := by
  have h := fixL_in (v := v) (n := Int.toNat 8)
  rw [fix8] at h ⊢
  rw [num8 _ _ _ _ _ _ _ _ h]
  omega
theorem fix_num4 {xs : List Int} (h : inB xs) (hl : xs.length = 4) : fixL (numI xs) (Int.toNat 4) = xs ∧ 0 ≤ numI xs ∧ numI xs < 4294967296 := by
  match xs, hl with
  | [a, b, c, d], _ =>
    have ha := h a (by simp)
    have hb := h b (by simp)
    have hc := h c (by simp)
    have hd := h d (by simp)
    rw [num4 _ _ _ _ h, fix4]
    refine ⟨?_, by omega, by omega⟩
    congr 1
    · omega
    congr 1
    · omega
    congr 1
    · omega
    congr 1
    omega

/-! the sum -/
abbrev in32 (x : Int) : Prop := 0 ≤ x ∧ x < 4294967296
theorem w32_in (x : Int) : in32 (w32 x) := by
  show 0 ≤ IntKind.u32.wrap x ∧ IntKind.u32.wrap x < 4294967296
  rw [wu32_eq]
  omega
theorem crcT_in {s : Int} (h : in32 s) : in32 (crcT s) := by
  unfold crcT
  cases (w32 ↑(BitVec.ofInt IntKind.u32.bits s &&& BitVec.ofInt IntKind.u32.bits 1).toNat == 1) with
  | true => exact w32_in _
  | false =>
    show in32 (s.fdiv 2)
    rw [fdiv_pos s (by decide)]
    exact ⟨by omega, by omega⟩
theorem itr_in32 {g : Nat → Int → Int} (hg : ∀ i x, in32 x → in32 (g i x)) : ∀ {n : Nat} {s : Int}, in32 s → in32 (itr g s n)
  | 0, _, h => h
  | n + 1, s, h => hg n _ (itr_in32 hg h)
theorem stepI_in (s b : Int) : in32 (stepI s b) := itr_in32 (fun _ _ h => crcT_in h) (w32_in _)
theorem not32_nat (S : Nat) (h : S < 4294967296) : not32 (S : Int) = 4294967295 - (S : Int) := by
  have h0 : not32 (S : Int) = w32 ((BitVec.allOnes 32 ^^^ BitVec.ofInt 32 ((S : Nat) : Int)).toNat : Int) := by kernel_rfl
  rw [h0, BitVec.allOnes_xor, BitVec.toNat_not, ofInt_nat 32 S h]
  refine Eq.trans (wu32_id (x := ((2 ^ 32 - 1 - S : Nat) : Int)) (by omega) (by omega)) ?_
  omega
theorem not32_eq {s : Int} (h : in32 s) : not32 s = 4294967295 - s := by
  obtain ⟨S, rfl⟩ := Int.eq_ofNat_of_zero_le h.1
  exact not32_nat S (by have := h.2; omega)
theorem not32_in {s : Int} (h : in32 s) : in32 (not32 s) := by
  rw [not32_eq h]
  exact ⟨by have := h.2; omega, by have := h.1; omega⟩
theorem not32_not {s : Int} (h : in32 s) : not32 (not32 s) = s := by
  rw [not32_eq (not32_in h), not32_eq h]
  omega
theorem next_itr {g : Nat → Int} {s : Int} (hs : in32 s) : ∀ n, itr (fun i s => nextI s (g i)) s n = not32 (itr (fun i s => stepI s (g i)) (not32 s) n) ∧ in32 (itr (fun i s => stepI s (g i)) (not32 s) n)
  | 0 => ⟨(not32_not hs).symm, not32_in hs⟩
  | n + 1 => by
    obtain ⟨h1, h2⟩ := next_itr (g := g) hs n
    refine ⟨?_, stepI_in _ _⟩
    simp only [itr]
    rw [h1]
    unfold nextI
    rw [not32_not h2]
theorem sum_eq (nl : Bool) (xs : List Int) : sumR [(nl, xs)] = sumP [(nl, xs)] := by
  rw [sumR1, sumP1]
  exact (next_itr (s := 0) ⟨by decide, by decide⟩ xs.length).1
theorem sumP_in (nl : Bool) (xs : List Int) : in32 (sumP [(nl, xs)]) := by
  rw [sumP1]
  exact not32_in (itr_in32 (fun _ _ _ => stepI_in _ _) ⟨by decide, by decide⟩)
theorem sumL4 {s : Int} (hs : in32 s) (xs : List Int) : sumL s xs 4 = xs ++ fixL (w64u s) (Int.toNat 4) := by
  have h1 : sumL s xs 4 = (((xs ++ [w8 s]) ++ [w8 (s.fdiv 256)]) ++ [w8 ((s.fdiv 256).fdiv 256)]) ++ [w8 (((s.fdiv 256).fdiv 256).fdiv 256)] := by kernel_rfl
  rw [h1, fix4, show w64u s = s from wu64_id hs.1 (by have := hs.2; omega)]
  simp only [w8, wu8_eq, List.append_assoc, List.singleton_append]
  rw [fdiv_pos s (by decide), fdiv_pos _ (by decide), fdiv_pos _ (by decide), Int.ediv_ediv_of_nonneg (by decide), Int.ediv_ediv_of_nonneg (by decide)]
  rfl
theorem seal_eq (xs : List Int) : sealP xs = sealR xs := by
  unfold sealP sealR
  rw [sumL4 (sumP_in _ _), sum_eq]
  rfl
theorem bytes_eq (n k c : Int) : bytesP n k c = bytesR n k c := by
  unfold bytesP bytesR
  rw [seal_eq, put8, put4, put4]
theorem ok_eq {xs : List Int} (h : inB xs) (hl : 24 ≤ xs.length) : okP xs = okR xs := by
  unfold okP okR
  rw [seal_eq]
  unfold sealR
  have e : xs.take 24 = xs.take 20 ++ (xs.take 24).drop 20 := by
    have : xs.take 20 = (xs.take 24).take 20 := by rw [List.take_take]; rfl
    rw [this, List.take_append_drop]
  have hd : inB ((xs.take 24).drop 20) := fun x hx => h x (List.mem_of_mem_take (List.mem_of_mem_drop hx))
  have hdl : ((xs.take 24).drop 20).length = 4 := by rw [List.length_drop, List.length_take]; omega
  obtain ⟨h1, h2, h3⟩ := fix_num4 hd hdl
  have hs := sumP_in false (xs.take 20)
  rw [← sum_eq] at hs
  have hw : w64u (sumR [(false, xs.take 20)]) = sumR [(false, xs.take 20)] := wu64_id hs.1 (by have := hs.2; omega)
  rw [hw]
  refine decide_eq_decide.2 ⟨fun hh => ?_, fun hh => ?_⟩
  · rw [e] at hh
    have := List.append_cancel_left hh
    rw [← this]
    exact num_fix4 hs.1 hs.2
  · rw [e, ← hh, show (4 : Nat) = Int.toNat 4 from rfl, h1]
end Go.Proofs.Ytmdhlmcoegghjaa.Hd
