/- What the functions come to, by the evaluator. Conditions: none; checked here. -/
import Derived.Test.YtmdhlmcoegghjaaHdA
import Derived.ProofKit
import Derived.Test.YtmdhlmcoegghjaaHdB
set_option linter.unusedVariables false
set_option linter.unusedSimpArgs false

namespace Go.Proofs.Ytmdhlmcoegghjaa.Hd
open Go Go.Proofs.Ytmdhlmcoegghjaa.Am Go.RowKit
set_option linter.unusedVariables false
set_option linter.unusedSimpArgs false
set_option maxRecDepth 100000
noncomputable def VE : Env := V lE
noncomputable def VF : Env := V lF
noncomputable def VG : Env := V lG
noncomputable def VH : Env := V lH
theorem right1 (rec : Rec) (H : K) (L : Nat → St → Option Res) (n k c : Int) :
    fnWay VE 9 [hS n k c] rec H L =
  br (decide (n ≤ 4294967296)) (
    br (decide (k ≥ 1)) (
      br (decide (k ≤ 1048576)) (
        br (decide (c ≥ 0)) (
          H .ret (mkSt 26 [(2, vS (.bool (decide (c ≤ 2147483648))))] [[vC (.int .u64 n), vC (.int .i64 k), vC (.int .i64 c)]])) (
          H .ret (mkSt 26 [(2, vS (.bool false))] [[vC (.int .u64 n), vC (.int .i64 k), vC (.int .i64 c)]]))) (
        H .ret (mkSt 26 [(2, vS (.bool false))] [[vC (.int .u64 n), vC (.int .i64 k), vC (.int .i64 c)]]))) (
      H .ret (mkSt 26 [(2, vS (.bool false))] [[vC (.int .u64 n), vC (.int .i64 k), vC (.int .i64 c)]]))) (
    H .ret (mkSt 26 [(2, vS (.bool false))] [[vC (.int .u64 n), vC (.int .i64 k), vC (.int .i64 c)]])) := by kernel_rfl
theorem right2 (rec : Rec) (H : K) (L : Nat → St → Option Res) (n k c : Int) :
    fnWay VE 10 [hS n k c] rec H L =
  br (decide (n ≤ 4294967296)) (
    br (decide (k ≥ 1)) (
      br (decide (k ≤ 1048576)) (
        br (decide (c ≥ 0)) (
          H .ret (mkSt 26 [(2, vS (.bool (decide (c ≤ 2147483648))))] [[vC (.int .u64 n), vC (.int .i64 k), vC (.int .i64 c)]])) (
          H .ret (mkSt 26 [(2, vS (.bool false))] [[vC (.int .u64 n), vC (.int .i64 k), vC (.int .i64 c)]]))) (
        H .ret (mkSt 26 [(2, vS (.bool false))] [[vC (.int .u64 n), vC (.int .i64 k), vC (.int .i64 c)]]))) (
      H .ret (mkSt 26 [(2, vS (.bool false))] [[vC (.int .u64 n), vC (.int .i64 k), vC (.int .i64 c)]]))) (
    H .ret (mkSt 26 [(2, vS (.bool false))] [[vC (.int .u64 n), vC (.int .i64 k), vC (.int .i64 c)]])) := by kernel_rfl
theorem put1 (rec : Rec) (H : K) (L : Nat → St → Option Res) (n k c : Int) :
    fnWay VF 11 [hS n k c] rec H L =
  br (!rightB n k c) (
    H .ret (mkSt 26 [(2, .s (.c (⟨.ro, AV.nilv⟩)))] [[vC (.int .u64 n), vC (.int .i64 k), vC (.int .i64 c)]])) (
    H .ret (mkSt 26 [(2, .s (.c (⟨.own 800 none, AV.sl (CL.int IntKind.u8) false (sealP ([84, 71, 88, 49] ++ putL n (Int.toNat 8) ++ putL (IntKind.u64.wrap k) (Int.toNat 4) ++ putL (IntKind.u64.wrap c) (Int.toNat 4)))⟩)))] [[vC (.int .u64 n), vC (.int .i64 k), vC (.int .i64 c)]])) := by kernel_rfl
theorem put2 (rec : Rec) (H : K) (L : Nat → St → Option Res) (n k c : Int) :
    fnWay VF 12 [hS n k c] rec H L =
  br (!rightB n k c) (
    H .ret (mkSt 26 [(2, .s (.c (⟨.ro, AV.nilv⟩)))] [[vC (.int .u64 n), vC (.int .i64 k), vC (.int .i64 c)]])) (
    H .ret (mkSt 26 [(2, .s (.c (⟨.own 800 none, AV.sl (CL.int IntKind.u8) false (sealR ([84, 71, 88, 49] ++ fixL n (Int.toNat 8) ++ fixL (IntKind.u64.wrap k) (Int.toNat 4) ++ fixL (IntKind.u64.wrap c) (Int.toNat 4)))⟩)))] [[vC (.int .u64 n), vC (.int .i64 k), vC (.int .i64 c)]])) := by kernel_rfl
theorem blocks1 (rec : Rec) (H : K) (L : Nat → St → Option Res) (n k c : Int) :
    fnWay VF 13 [hS n k c] rec H L =
  br (!rightB n k c) (
    H .ret (mkSt 15 [(2, vS (.int .i64 0))] [[vC (.int .u64 n), vC (.int .i64 k), vC (.int .i64 c)]])) (
    br (decide (k = 0)) (
      none) (
      H .ret (mkSt 15 [(2, vS (.int .i64 (IntKind.i64.wrap ((IntKind.i64.wrap (IntKind.i64.wrap (c + k) - 1)).tdiv k))))] [[vC (.int .u64 n), vC (.int .i64 k), vC (.int .i64 c)]]))) := by kernel_rfl
theorem blocks2 (rec : Rec) (H : K) (L : Nat → St → Option Res) (n k c : Int) :
    fnWay VF 14 [hS n k c] rec H L =
  br (!rightB n k c) (
    H .ret (mkSt 15 [(2, vS (.int .i64 0))] [[vC (.int .u64 n), vC (.int .i64 k), vC (.int .i64 c)]])) (
    br (decide (k = 0)) (
      none) (
      H .ret (mkSt 15 [(2, vS (.int .i64 (IntKind.i64.wrap ((IntKind.i64.wrap (IntKind.i64.wrap (c + k) - 1)).tdiv k))))] [[vC (.int .u64 n), vC (.int .i64 k), vC (.int .i64 c)]]))) := by kernel_rfl
theorem read1 (rec : Rec) (H : K) (L : Nat → St → Option Res) (nl : Bool) (xs : List Int) :
    fnWay VF 19 [bS nl xs] rec H L =
  br (decide ((↑xs.length : Int) < 24)) (
    H .ret (mkSt 42 [(2, .s (.c (⟨.ro, AV.ptr 0 0⟩))), (3, vS (.int .i64 20))] [[vC (.int .u64 0), vC (.int .i64 0), vC (.int .i64 0)]])) (
    br (leR 4 xs.length) (
      br (!(baOf (List.take (Int.toNat 4) xs)).toList == (⟨#[84, 71, 88, 49]⟩ : ByteArray).toList) (
        H .ret (mkSt 42 [(2, .s (.c (⟨.ro, AV.ptr 0 0⟩))), (3, vS (.int .i64 27))] [[vC (.int .u64 0), vC (.int .i64 0), vC (.int .i64 0)]])) (
        br (leR 24 xs.length) (
          br nl (
            none) (
            br (decide ((List.take (Int.toNat 24) xs).length ≤ 100000)) (
              br (decide ((List.take (Int.toNat 24) xs).length < 4)) (
                H .ret (mkSt 42 [(2, .s (.c (⟨.ro, AV.ptr 0 0⟩))), (3, vS (.int .i64 28))] [[vC (.int .u64 0), vC (.int .i64 0), vC (.int .i64 0)]])) (
                br (decide (sealP (List.take ((List.take (Int.toNat 24) xs).length - 4) (List.take (Int.toNat 24) xs)) = List.take (Int.toNat 24) xs)) (
                  br (leR 12 xs.length) (
                    br (decide ((List.drop (Int.toNat 4) (List.take (Int.toNat 12) xs)).length ≤ 1000000)) (
                      br (leR 16 xs.length) (
                        br (decide ((List.drop (Int.toNat 12) (List.take (Int.toNat 16) xs)).length ≤ 1000000)) (
                          br (leR 20 xs.length) (
                            br (decide ((List.drop (Int.toNat 16) (List.take (Int.toNat 20) xs)).length ≤ 1000000)) (
                              br (!rightB (numI (List.drop (Int.toNat 4) (List.take (Int.toNat 12) xs))) (IntKind.i64.wrap (numI (List.drop (Int.toNat 12) (List.take (Int.toNat 16) xs)))) (IntKind.i64.wrap (numI (List.drop (Int.toNat 16) (List.take (Int.toNat 20) xs))))) (
                                H .ret (mkSt 42 [(2, .s (.c (⟨.ro, AV.ptr 0 0⟩))), (3, vS (.int .i64 26))] [[vC (.int .u64 0), vC (.int .i64 0), vC (.int .i64 0)], [vC (.int .u64 (numI (List.drop (Int.toNat 4) (List.take (Int.toNat 12) xs)))), vC (.int .i64 (IntKind.i64.wrap (numI (List.drop (Int.toNat 12) (List.take (Int.toNat 16) xs))))), vC (.int .i64 (IntKind.i64.wrap (numI (List.drop (Int.toNat 16) (List.take (Int.toNat 20) xs)))))]])) (
                                H .ret (mkSt 42 [(2, .s (.c (⟨.ro, AV.ptr 0 0⟩))), (3, vS (.int .i64 0))] [[vC (.int .u64 (numI (List.drop (Int.toNat 4) (List.take (Int.toNat 12) xs)))), vC (.int .i64 (IntKind.i64.wrap (numI (List.drop (Int.toNat 12) (List.take (Int.toNat 16) xs))))), vC (.int .i64 (IntKind.i64.wrap (numI (List.drop (Int.toNat 16) (List.take (Int.toNat 20) xs)))))], [vC (.int .u64 (numI (List.drop (Int.toNat 4) (List.take (Int.toNat 12) xs)))), vC (.int .i64 (IntKind.i64.wrap (numI (List.drop (Int.toNat 12) (List.take (Int.toNat 16) xs))))), vC (.int .i64 (IntKind.i64.wrap (numI (List.drop (Int.toNat 16) (List.take (Int.toNat 20) xs)))))]]))) (
                              none)) (
                            none)) (
                          none)) (
                        none)) (
                      none)) (
                    none)) (
                  H .ret (mkSt 42 [(2, .s (.c (⟨.ro, AV.ptr 0 0⟩))), (3, vS (.int .i64 28))] [[vC (.int .u64 0), vC (.int .i64 0), vC (.int .i64 0)]])))) (
              none))) (
          none))) (
      none)) := by kernel_rfl
theorem read2 (rec : Rec) (H : K) (L : Nat → St → Option Res) (nl : Bool) (xs : List Int) :
    fnWay VF 20 [bS nl xs] rec H L =
  br (decide ((↑xs.length : Int) < 24)) (
    H .ret (mkSt 42 [(2, .s (.c (⟨.ro, AV.ptr 0 0⟩))), (3, vS (.int .i64 20))] [[vC (.int .u64 0), vC (.int .i64 0), vC (.int .i64 0)]])) (
    br (leR 4 xs.length) (
      br (!(baOf (List.take (Int.toNat 4) xs)).toList == (⟨#[84, 71, 88, 49]⟩ : ByteArray).toList) (
        H .ret (mkSt 42 [(2, .s (.c (⟨.ro, AV.ptr 0 0⟩))), (3, vS (.int .i64 27))] [[vC (.int .u64 0), vC (.int .i64 0), vC (.int .i64 0)]])) (
        br (leR 24 xs.length) (
          br (decide ((List.take (Int.toNat 24) xs).length ≤ 100000)) (
            br (decide ((List.take (Int.toNat 24) xs).length < 4)) (
              H .ret (mkSt 42 [(2, .s (.c (⟨.ro, AV.ptr 0 0⟩))), (3, vS (.int .i64 28))] [[vC (.int .u64 0), vC (.int .i64 0), vC (.int .i64 0)]])) (
              br (decide (numI (List.drop ((List.take (Int.toNat 24) xs).length - 4) (List.take (Int.toNat 24) xs)) = w64u (sumR [(nl, List.take ((List.take (Int.toNat 24) xs).length - 4) (List.take (Int.toNat 24) xs))]))) (
                br (leR 12 xs.length) (
                  br (decide ((List.drop (Int.toNat 4) (List.take (Int.toNat 12) xs)).length ≤ 1000000)) (
                    br (leR 16 xs.length) (
                      br (decide ((List.drop (Int.toNat 12) (List.take (Int.toNat 16) xs)).length ≤ 1000000)) (
                        br (leR 20 xs.length) (
                          br (decide ((List.drop (Int.toNat 16) (List.take (Int.toNat 20) xs)).length ≤ 1000000)) (
                            br (!rightB (numI (List.drop (Int.toNat 4) (List.take (Int.toNat 12) xs))) (IntKind.i64.wrap (numI (List.drop (Int.toNat 12) (List.take (Int.toNat 16) xs)))) (IntKind.i64.wrap (numI (List.drop (Int.toNat 16) (List.take (Int.toNat 20) xs))))) (
                              H .ret (mkSt 42 [(2, .s (.c (⟨.ro, AV.ptr 0 0⟩))), (3, vS (.int .i64 26))] [[vC (.int .u64 0), vC (.int .i64 0), vC (.int .i64 0)], [vC (.int .u64 (numI (List.drop (Int.toNat 4) (List.take (Int.toNat 12) xs)))), vC (.int .i64 (IntKind.i64.wrap (numI (List.drop (Int.toNat 12) (List.take (Int.toNat 16) xs))))), vC (.int .i64 (IntKind.i64.wrap (numI (List.drop (Int.toNat 16) (List.take (Int.toNat 20) xs)))))]])) (
                              H .ret (mkSt 42 [(2, .s (.c (⟨.ro, AV.ptr 0 0⟩))), (3, vS (.int .i64 0))] [[vC (.int .u64 (numI (List.drop (Int.toNat 4) (List.take (Int.toNat 12) xs)))), vC (.int .i64 (IntKind.i64.wrap (numI (List.drop (Int.toNat 12) (List.take (Int.toNat 16) xs))))), vC (.int .i64 (IntKind.i64.wrap (numI (List.drop (Int.toNat 16) (List.take (Int.toNat 20) xs)))))], [vC (.int .u64 (numI (List.drop (Int.toNat 4) (List.take (Int.toNat 12) xs)))), vC (.int .i64 (IntKind.i64.wrap (numI (List.drop (Int.toNat 12) (List.take (Int.toNat 16) xs))))), vC (.int .i64 (IntKind.i64.wrap (numI (List.drop (Int.toNat 16) (List.take (Int.toNat 20) xs)))))]]))) (
                            none)) (
                          none)) (
                        none)) (
                      none)) (
                    none)) (
                  none)) (
                H .ret (mkSt 42 [(2, .s (.c (⟨.ro, AV.ptr 0 0⟩))), (3, vS (.int .i64 28))] [[vC (.int .u64 0), vC (.int .i64 0), vC (.int .i64 0)]])))) (
            none)) (
          none))) (
      none)) := by kernel_rfl
theorem size1 (rec : Rec) (H : K) (L : Nat → St → Option Res) (n k c i : Int) :
    fnWay VG 15 [hS n k c, wS .i64 i] rec H L =
  br (!decide (i < 0)) (
    br (decide (i ≥ blocksI n k c)) (
      H .ret (mkSt 23 [(4, vS (.int .i64 0))] [[vC (.int .u64 n), vC (.int .i64 k), vC (.int .i64 c)]])) (
      H .ret (mkSt 23 [(4, vS (.int .i64 (if IntKind.i64.wrap (c - IntKind.i64.wrap (i * k)) < k then IntKind.i64.wrap (c - IntKind.i64.wrap (i * k)) else k)))] [[vC (.int .u64 n), vC (.int .i64 k), vC (.int .i64 c)]]))) (
    H .ret (mkSt 23 [(4, vS (.int .i64 0))] [[vC (.int .u64 n), vC (.int .i64 k), vC (.int .i64 c)]])) := by kernel_rfl
theorem size2 (rec : Rec) (H : K) (L : Nat → St → Option Res) (n k c i : Int) :
    fnWay VG 16 [hS n k c, wS .i64 i] rec H L =
  br (!decide (i < 0)) (
    br (decide (i ≥ blocksI n k c)) (
      H .ret (mkSt 23 [(4, vS (.int .i64 0))] [[vC (.int .u64 n), vC (.int .i64 k), vC (.int .i64 c)]])) (
      H .ret (mkSt 23 [(4, vS (.int .i64 (if IntKind.i64.wrap (c - IntKind.i64.wrap (i * k)) < k then IntKind.i64.wrap (c - IntKind.i64.wrap (i * k)) else k)))] [[vC (.int .u64 n), vC (.int .i64 k), vC (.int .i64 c)]]))) (
    H .ret (mkSt 23 [(4, vS (.int .i64 0))] [[vC (.int .u64 n), vC (.int .i64 k), vC (.int .i64 c)]])) := by kernel_rfl
theorem readNil (rec : Rec) (H : K) (L : Nat → St → Option Res) :
    fnWay VF 19 [.c ⟨.ro, .nilv⟩] rec H L =
  H .ret (mkSt 42 [(2, .s (.c (⟨.ro, AV.ptr 0 0⟩))), (3, vS (.int .i64 20))] [[vC (.int .u64 0), vC (.int .i64 0), vC (.int .i64 0)]]) := by kernel_rfl
end Go.Proofs.Ytmdhlmcoegghjaa.Hd

namespace Go.Proofs.Ytmdhlmcoegghjaa.Hd
open Go Go.Proofs.Ytmdhlmcoegghjaa.Am Go.RowKit
set_option linter.unusedVariables false
set_option linter.unusedSimpArgs false
set_option maxRecDepth 100000
def rightSt (n k c : Int) (b : Bool) : St := mkSt 26 [(2, vS (.bool b))] [[vC (.int .u64 n), vC (.int .i64 k), vC (.int .i64 c)]]
theorem rightT (H : K) (n k c : Int) : br (decide (n ≤ 4294967296)) (br (decide (k ≥ 1)) (br (decide (k ≤ 1048576)) (br (decide (c ≥ 0)) (H .ret (rightSt n k c (decide (c ≤ 2147483648)))) (H .ret (rightSt n k c false))) (H .ret (rightSt n k c false))) (H .ret (rightSt n k c false))) (H .ret (rightSt n k c false)) = H .ret (rightSt n k c (rightB n k c)) := by
  unfold rightB
  cases decide (n ≤ 4294967296) <;> cases decide (k ≥ 1) <;> cases decide (k ≤ 1048576) <;> cases decide (c ≥ 0) <;> rfl
theorem rightK1 (xs : List S1) (r : Res) (h : (rightH xs).den = some r) : ∃ n, call VE n 9 xs = some r := by
  unfold rightH at h
  split at h
  · obtain rfl := ok_some h
    exact Goes.call (Goes.now fun rec H L => (right1 rec H L _ _ _).trans (rightT H _ _ _)) (by kernel_rfl) (by kernel_rfl)
  · exact leaf_none h
theorem rightK2 (xs : List S1) (r : Res) (h : (rightH xs).den = some r) : ∃ n, call VE n 10 xs = some r := by
  unfold rightH at h
  split at h
  · obtain rfl := ok_some h
    exact Goes.call (Goes.now fun rec H L => (right2 rec H L _ _ _).trans (rightT H _ _ _)) (by kernel_rfl) (by kernel_rfl)
  · exact leaf_none h
theorem sokF : SOK lF :=
  stubs_cons (x := (9, rightH)) (known_of (V := VE) mix (sokE _ rfl rfl) rightK1) <|
  stubs_cons (x := (10, rightH)) (known_of (V := VE) mix (sokE _ rfl rfl) rightK2) sokE
theorem notT {b : Bool} (h : b = true) : (!b) = false := by rw [h]; rfl
theorem notF {b : Bool} (h : b = false) : (!b) = true := by rw [h]; rfl
theorem putK1 (xs : List S1) (r : Res) (h : (putPH xs).den = some r) : ∃ n, call VF n 11 xs = some r := by
  unfold putPH at h
  split at h
  · rcases tree_br h with ⟨h1, h⟩ | ⟨h1, h⟩
    · obtain rfl := ok_some h
      exact Goes.call (Goes.now fun rec H L => (put1 rec H L _ _ _).trans (br_neg (notT h1))) (by kernel_rfl) (by kernel_rfl)
    · obtain rfl := ok_some h
      exact Goes.call (Goes.now fun rec H L => (put1 rec H L _ _ _).trans (br_pos (notF h1))) (by kernel_rfl) (by kernel_rfl)
  · exact leaf_none h
theorem putK2 (xs : List S1) (r : Res) (h : (putRH xs).den = some r) : ∃ n, call VF n 12 xs = some r := by
  unfold putRH at h
  split at h
  · rcases tree_br h with ⟨h1, h⟩ | ⟨h1, h⟩
    · obtain rfl := ok_some h
      exact Goes.call (Goes.now fun rec H L => (put2 rec H L _ _ _).trans (br_neg (notT h1))) (by kernel_rfl) (by kernel_rfl)
    · obtain rfl := ok_some h
      exact Goes.call (Goes.now fun rec H L => (put2 rec H L _ _ _).trans (br_pos (notF h1))) (by kernel_rfl) (by kernel_rfl)
  · exact leaf_none h
def blocksSt (n k c : Int) (m : Int) : St := mkSt 15 [(2, vS (.int .i64 m))] [[vC (.int .u64 n), vC (.int .i64 k), vC (.int .i64 c)]]
theorem blocksT (H : K) (n k c : Int) : br (!rightB n k c) (H .ret (blocksSt n k c 0)) (br (decide (k = 0)) none (H .ret (blocksSt n k c (IntKind.i64.wrap ((IntKind.i64.wrap (IntKind.i64.wrap (c + k) - 1)).tdiv k))))) = H .ret (blocksSt n k c (blocksI n k c)) := by
  unfold blocksI
  cases hr : rightB n k c with
  | false => rfl
  | true =>
    have hk : k ≠ 0 := by
      simp only [rightB, Bool.and_eq_true, decide_eq_true_eq] at hr
      omega
    rw [decide_eq_false hk]
    rfl
theorem blocksK1 (xs : List S1) (r : Res) (h : (blocksH xs).den = some r) : ∃ n, call VF n 13 xs = some r := by
  unfold blocksH at h
  split at h
  · obtain rfl := ok_some h
    exact Goes.call (Goes.now fun rec H L => (blocks1 rec H L _ _ _).trans (blocksT H _ _ _)) (by kernel_rfl) (by kernel_rfl)
  · exact leaf_none h
theorem blocksK2 (xs : List S1) (r : Res) (h : (blocksH xs).den = some r) : ∃ n, call VF n 14 xs = some r := by
  unfold blocksH at h
  split at h
  · obtain rfl := ok_some h
    exact Goes.call (Goes.now fun rec H L => (blocks2 rec H L _ _ _).trans (blocksT H _ _ _)) (by kernel_rfl) (by kernel_rfl)
  · exact leaf_none h
theorem readK1 (args : List S1) (r : Res) (h : (readPH args).den = some r) : ∃ n, call VF n 19 args = some r := by
  unfold readPH at h
  split at h
  · rename_i nl xs
    rcases tree_br h with ⟨h1, hh⟩ | ⟨h1, hh⟩
    · obtain rfl := ok_some hh
      have h1 := of_decide_eq_true h1
      exact Goes.call (Goes.now fun rec H L => (read1 rec H L nl xs).trans (br_pos (decide_eq_true (by omega)))) (by kernel_rfl) (by kernel_rfl)
    · have h1 := of_decide_eq_false h1
      clear h
      have hnl := (tree_not hh).1
      have h := (tree_not hh).2
      clear hh
      subst hnl
      unfold readT at h
      have l24 : (List.take (Int.toNat 24) xs).length = 24 := by
        rw [List.length_take]
        show min 24 xs.length = 24
        omega
      have e20 : List.take ((List.take (Int.toNat 24) xs).length - 4) (List.take (Int.toNat 24) xs) = List.take 20 xs := by
        rw [l24, List.take_take]
        rfl
      have hin := fun rec H L => (read1 rec H L false xs).trans ((br_neg (decide_eq_false (by omega))).trans (br_pos (leR_yes (by omega) (by omega))))
      rcases tree_br h with ⟨h2, h⟩ | ⟨h2, h⟩
      · exact absurd (of_decide_eq_true h2) (by omega)
      · rcases tree_br h with ⟨h3, h⟩ | ⟨h3, h⟩
        · have hin2 := fun rec H L => (hin rec H L).trans ((br_neg (notT h3)).trans ((br_pos (leR_yes (by omega) (by omega))).trans ((br_neg rfl).trans ((br_pos (decide_eq_true (by omega))).trans (br_neg (decide_eq_false (by omega)))))))
          rw [e20] at hin2
          rcases tree_br h with ⟨h4, h⟩ | ⟨h4, h⟩
          · have hin3 := fun rec H L => (hin2 rec H L).trans ((br_pos h4).trans ((br_pos (leR_yes (by omega) (by omega))).trans ((br_pos (decide_eq_true (by simp; omega))).trans ((br_pos (leR_yes (by omega) (by omega))).trans ((br_pos (decide_eq_true (by simp; omega))).trans ((br_pos (leR_yes (by omega) (by omega))).trans (br_pos (decide_eq_true (by simp; omega)))))))))
            rcases tree_br h with ⟨h5, h⟩ | ⟨h5, h⟩
            · obtain rfl := ok_some h
              exact Goes.call (Goes.now fun rec H L => (hin3 rec H L).trans (br_neg (notT h5))) (by kernel_rfl) (by kernel_rfl)
            · obtain rfl := ok_some h
              exact Goes.call (Goes.now fun rec H L => (hin3 rec H L).trans (br_pos (notF h5))) (by kernel_rfl) (by kernel_rfl)
          · obtain rfl := ok_some h
            exact Goes.call (Goes.now fun rec H L => (hin2 rec H L).trans (br_neg h4)) (by kernel_rfl) (by kernel_rfl)
        · obtain rfl := ok_some h
          exact Goes.call (Goes.now fun rec H L => (hin rec H L).trans (br_pos (notF h3))) (by kernel_rfl) (by kernel_rfl)
  · obtain rfl := ok_some h
    exact Goes.call (Goes.now fun rec H L => readNil rec H L) (by kernel_rfl) (by kernel_rfl)
  · exact leaf_none h
theorem itr1 {α : Type} (g : Nat → α → α) (a : α) : itr g a 1 = g 0 a := rfl
theorem sumR1 {nl : Bool} {xs : List Int} : sumR [(nl, xs)] = nextL 0 xs := by
  unfold sumR
  rw [List.length_singleton, itr1]
  congr 1
theorem sumP1 {nl : Bool} {xs : List Int} : sumP [(nl, xs)] = not32 (crcL 4294967295 xs) := by
  unfold sumP
  rw [List.length_singleton, itr1]
  congr 1
theorem sumR_flag {nl : Bool} {xs : List Int} : sumR [(nl, xs)] = sumR [(false, xs)] := by rw [sumR1, sumR1]
theorem readK2 (args : List S1) (r : Res) (h : (readRH args).den = some r) : ∃ n, call VF n 20 args = some r := by
  unfold readRH at h
  split at h
  · rename_i nl xs
    unfold readT at h
    rcases tree_br h with ⟨h1, h⟩ | ⟨h1, h⟩
    · obtain rfl := ok_some h
      have h1 := of_decide_eq_true h1
      exact Goes.call (Goes.now fun rec H L => (read2 rec H L nl xs).trans (br_pos (decide_eq_true (by omega)))) (by kernel_rfl) (by kernel_rfl)
    · have h1 := of_decide_eq_false h1
      have l24 : (List.take (Int.toNat 24) xs).length = 24 := by
        rw [List.length_take]
        show min 24 xs.length = 24
        omega
      have e20 : List.take ((List.take (Int.toNat 24) xs).length - 4) (List.take (Int.toNat 24) xs) = List.take 20 xs := by
        rw [l24, List.take_take]
        rfl
      have f20 : List.drop ((List.take (Int.toNat 24) xs).length - 4) (List.take (Int.toNat 24) xs) = List.drop 20 (List.take 24 xs) := by
        rw [l24]
        rfl
      have hin := fun rec H L => (read2 rec H L nl xs).trans ((br_neg (decide_eq_false (by omega))).trans (br_pos (leR_yes (by omega) (by omega))))
      rcases tree_br h with ⟨h3, h⟩ | ⟨h3, h⟩
      · have hin2 := fun rec H L => (hin rec H L).trans ((br_neg (notT h3)).trans ((br_pos (leR_yes (by omega) (by omega))).trans ((br_pos (decide_eq_true (by omega))).trans (br_neg (decide_eq_false (by omega))))))
        rw [e20, f20, sumR_flag] at hin2
        rcases tree_br h with ⟨h4, h⟩ | ⟨h4, h⟩
        · have hin3 := fun rec H L => (hin2 rec H L).trans ((br_pos h4).trans ((br_pos (leR_yes (by omega) (by omega))).trans ((br_pos (decide_eq_true (by simp; omega))).trans ((br_pos (leR_yes (by omega) (by omega))).trans ((br_pos (decide_eq_true (by simp; omega))).trans ((br_pos (leR_yes (by omega) (by omega))).trans (br_pos (decide_eq_true (by simp; omega)))))))))
          rcases tree_br h with ⟨h5, h⟩ | ⟨h5, h⟩
          · obtain rfl := ok_some h
            exact Goes.call (Goes.now fun rec H L => (hin3 rec H L).trans (br_neg (notT h5))) (by kernel_rfl) (by kernel_rfl)
          · obtain rfl := ok_some h
            exact Goes.call (Goes.now fun rec H L => (hin3 rec H L).trans (br_pos (notF h5))) (by kernel_rfl) (by kernel_rfl)
        · obtain rfl := ok_some h
          exact Goes.call (Goes.now fun rec H L => (hin2 rec H L).trans (br_neg h4)) (by kernel_rfl) (by kernel_rfl)
      · obtain rfl := ok_some h
        exact Goes.call (Goes.now fun rec H L => (hin rec H L).trans (br_pos (notF h3))) (by kernel_rfl) (by kernel_rfl)
  · exact leaf_none h
theorem sokG : SOK lG :=
  stubs_cons (x := (11, putPH)) (known_of (V := VF) mix (sokF _ rfl rfl) putK1) <|
  stubs_cons (x := (12, putRH)) (known_of (V := VF) mix (sokF _ rfl rfl) putK2) <|
  stubs_cons (x := (13, blocksH)) (known_of (V := VF) mix (sokF _ rfl rfl) blocksK1) <|
  stubs_cons (x := (14, blocksH)) (known_of (V := VF) mix (sokF _ rfl rfl) blocksK2) <|
  stubs_cons (x := (19, readPH)) (known_of (V := VF) mix (sokF _ rfl rfl) readK1) <|
  stubs_cons (x := (20, readRH)) (known_of (V := VF) mix (sokF _ rfl rfl) readK2) sokF
end Go.Proofs.Ytmdhlmcoegghjaa.Hd

namespace Go.Proofs.Ytmdhlmcoegghjaa.Hd
open Go Go.Proofs.Ytmdhlmcoegghjaa.Am Go.RowKit
set_option linter.unusedVariables false
set_option linter.unusedSimpArgs false
set_option maxRecDepth 100000
def sizeSt (n k c m : Int) : St := mkSt 23 [(4, vS (.int .i64 m))] [[vC (.int .u64 n), vC (.int .i64 k), vC (.int .i64 c)]]
theorem sizeT (H : K) (n k c i : Int) : br (!decide (i < 0)) (br (decide (i ≥ blocksI n k c)) (H .ret (sizeSt n k c 0)) (H .ret (sizeSt n k c (if IntKind.i64.wrap (c - IntKind.i64.wrap (i * k)) < k then IntKind.i64.wrap (c - IntKind.i64.wrap (i * k)) else k)))) (H .ret (sizeSt n k c 0)) = H .ret (sizeSt n k c (sizeI n k c i)) := by
  unfold sizeI
  cases decide (i < 0) <;> cases decide (i ≥ blocksI n k c) <;> rfl
theorem sizeK1 (xs : List S1) (r : Res) (h : (sizeH xs).den = some r) : ∃ n, call VG n 15 xs = some r := by
  unfold sizeH at h
  split at h
  · obtain rfl := ok_some h
    exact Goes.call (Goes.now fun rec H L => (size1 rec H L _ _ _ _).trans (sizeT H _ _ _ _)) (by kernel_rfl) (by kernel_rfl)
  · exact leaf_none h
theorem sizeK2 (xs : List S1) (r : Res) (h : (sizeH xs).den = some r) : ∃ n, call VG n 16 xs = some r := by
  unfold sizeH at h
  split at h
  · obtain rfl := ok_some h
    exact Goes.call (Goes.now fun rec H L => (size2 rec H L _ _ _ _).trans (sizeT H _ _ _ _)) (by kernel_rfl) (by kernel_rfl)
  · exact leaf_none h
theorem sokG2 : SOK lG2 :=
  stubs_cons (x := (15, sizeH)) (known_of (V := VG) mix (sokG _ rfl rfl) sizeK1) <|
  stubs_cons (x := (16, sizeH)) (known_of (V := VG) mix (sokG _ rfl rfl) sizeK2) sokG
noncomputable def VG2 : Env := V lG2
theorem knownE : call VG2 40 8 [] = some (vS (.bool true), []) := by kernel_rfl
theorem knownK (xs : List S1) (r : Res) (h : (knownH xs).den = some r) : ∃ n, call VG2 n 8 xs = some r := by
  unfold knownH at h
  split at h
  · obtain rfl := ok_some h
    exact ⟨40, knownE⟩
  · exact leaf_none h
theorem sokH : SOK lH := stubs_cons (x := (8, knownH)) (known_of (V := VG2) mix (sokG2 _ rfl rfl) knownK) sokG2
end Go.Proofs.Ytmdhlmcoegghjaa.Hd
