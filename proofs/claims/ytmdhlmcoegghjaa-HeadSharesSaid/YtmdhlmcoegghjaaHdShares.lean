/- What the functions come to, by the evaluator. Conditions: none; checked here. -/
import Derived.Test.YtmdhlmcoegghjaaHdC
import Derived.ProofKit
set_option linter.unusedVariables false
set_option linter.unusedSimpArgs false

namespace Go.Proofs.Ytmdhlmcoegghjaa.Hd
open Go Go.Proofs.Ytmdhlmcoegghjaa.Am Go.RowKit
set_option linter.unusedVariables false
set_option linter.unusedSimpArgs false
set_option maxRecDepth 100000
theorem shIn (rec : Rec) (H : K) (L : Nat → St → Option Res) (n k c : Int) :
    fnWay VH 4 [wS .u64 n, wS .u16 k, wS .u16 c] rec H L =
  L 0 (mkSt 76 [(7, .s (.c (⟨.ro, AV.ptr 0 0⟩))), (8, vS (.int .i64 0)), (9, vS (.int .i64 (blocksI (IntKind.u64.wrap (↑(BitVec.ofInt IntKind.u64.bits n &&& BitVec.ofInt IntKind.u64.bits 4294967295).toNat : Int)) (IntKind.i64.wrap (IntKind.i64.wrap (k.tmod 50) + 1)) (IntKind.i64.wrap (c.tmod 500))))), (10, vS (.int .i64 0))] [[vC (.int .u64 (IntKind.u64.wrap (↑(BitVec.ofInt IntKind.u64.bits n &&& BitVec.ofInt IntKind.u64.bits 4294967295).toNat : Int))), vC (.int .i64 (IntKind.i64.wrap (IntKind.i64.wrap (k.tmod 50) + 1))), vC (.int .i64 (IntKind.i64.wrap (c.tmod 500)))]]) := by kernel_rfl
theorem shRnd (rec : Rec) (H : K) (L : Nat → St → Option Res) (n k c all m i : Int) :
    ((fnPl VH 4).at VH 4 0).way VH 4 (mkSt 76 [(7, .s (.c ⟨.ro, .ptr 0 0⟩)), (8, vS (.int .i64 all)), (9, vS (.int .i64 m)), (10, vS (.int .i64 i))] [[vC (.int .u64 n), vC (.int .i64 k), vC (.int .i64 c)]]) rec H L =
  br (decide (i < m)) (
    br (decide (i < 600)) (
      br (!decide (sizeI n k c i < 1)) (
        br (!decide (sizeI n k c i > k)) (
          br (decide (i < IntKind.i64.wrap (m - 1))) (
            br (sizeI n k c i != k) (
              H .ret (mkSt 76 [(6, vS (.bool false))] [[vC (.int .u64 n), vC (.int .i64 k), vC (.int .i64 c)]])) (
              H .normal (mkSt 76 [(7, .s (.c (⟨.ro, AV.ptr 0 0⟩))), (8, vS (.int .i64 (IntKind.i64.wrap (all + sizeI n k c i)))), (9, vS (.int .i64 m)), (10, vS (.int .i64 (IntKind.i64.wrap (i + 1))))] [[vC (.int .u64 n), vC (.int .i64 k), vC (.int .i64 c)]]))) (
            H .normal (mkSt 76 [(7, .s (.c (⟨.ro, AV.ptr 0 0⟩))), (8, vS (.int .i64 (IntKind.i64.wrap (all + sizeI n k c i)))), (9, vS (.int .i64 m)), (10, vS (.int .i64 (IntKind.i64.wrap (i + 1))))] [[vC (.int .u64 n), vC (.int .i64 k), vC (.int .i64 c)]]))) (
          H .ret (mkSt 76 [(6, vS (.bool false))] [[vC (.int .u64 n), vC (.int .i64 k), vC (.int .i64 c)]]))) (
        H .ret (mkSt 76 [(6, vS (.bool false))] [[vC (.int .u64 n), vC (.int .i64 k), vC (.int .i64 c)]]))) (
      H (.exit 0) (mkSt 76 [(7, .s (.c (⟨.ro, AV.ptr 0 0⟩))), (8, vS (.int .i64 all)), (9, vS (.int .i64 m))] [[vC (.int .u64 n), vC (.int .i64 k), vC (.int .i64 c)]]))) (
    H (.exit 0) (mkSt 76 [(7, .s (.c (⟨.ro, AV.ptr 0 0⟩))), (8, vS (.int .i64 all)), (9, vS (.int .i64 m))] [[vC (.int .u64 n), vC (.int .i64 k), vC (.int .i64 c)]])) := by kernel_rfl
theorem shOut (rec : Rec) (H : K) (L : Nat → St → Option Res) (n k c all m : Int) :
    (fnPl VH 4).past VH 4 0 (.exit 0) (mkSt 76 [(7, .s (.c ⟨.ro, .ptr 0 0⟩)), (8, vS (.int .i64 all)), (9, vS (.int .i64 m))] [[vC (.int .u64 n), vC (.int .i64 k), vC (.int .i64 c)]]) rec H L =
  br (all == c) (
    H .ret (mkSt 76 [(6, vS (.bool (sizeI n k c m == 0)))] [[vC (.int .u64 n), vC (.int .i64 k), vC (.int .i64 c)]])) (
    H .ret (mkSt 76 [(6, vS (.bool false))] [[vC (.int .u64 n), vC (.int .i64 k), vC (.int .i64 c)]])) := by kernel_rfl
end Go.Proofs.Ytmdhlmcoegghjaa.Hd

namespace Go.Proofs.Ytmdhlmcoegghjaa.Hd
open Go Go.Proofs.Ytmdhlmcoegghjaa.Am Go.RowKit
set_option linter.unusedVariables false
set_option linter.unusedSimpArgs false
set_option maxRecDepth 100000
theorem shRight {n k c : Int} (hn0 : n ≤ 4294967296) (hk1 : 1 ≤ k) (hk2 : k ≤ 50) (hc1 : 0 ≤ c) (hc2 : c ≤ 499) : rightB n k c = true := by
  simp only [rightB, Bool.and_eq_true, decide_eq_true_eq]
  omega
theorem shBlocks {n k c : Int} (hn0 : n ≤ 4294967296) (hk1 : 1 ≤ k) (hk2 : k ≤ 50) (hc1 : 0 ≤ c) (hc2 : c ≤ 499) : blocksI n k c = (c + k - 1) / k := by
  unfold blocksI
  rw [shRight hn0 hk1 hk2 hc1 hc2, cond_true, w64_id (x := c + k) (by omega) (by omega), w64_id (x := c + k - 1) (by omega) (by omega), Int.tdiv_eq_ediv_of_nonneg (by omega)]
  have h1 : 0 ≤ (c + k - 1) / k := Int.ediv_nonneg (by omega) (by omega)
  have h2 : (c + k - 1) / k ≤ c + k - 1 := Int.ediv_le_self _ (by omega)
  exact w64_id (by omega) (by omega)
theorem shFacts {n k c : Int} (hn0 : n ≤ 4294967296) (hk1 : 1 ≤ k) (hk2 : k ≤ 50) (hc1 : 0 ≤ c) (hc2 : c ≤ 499) (m : Int) (hm : m = blocksI n k c) : 0 ≤ m ∧ m ≤ 548 ∧ m * k ≤ c + k - 1 ∧ c ≤ m * k := by
  rw [shBlocks hn0 hk1 hk2 hc1 hc2] at hm
  have h1 : 0 ≤ (c + k - 1) / k := Int.ediv_nonneg (by omega) (by omega)
  have h2 : (c + k - 1) / k ≤ c + k - 1 := Int.ediv_le_self _ (by omega)
  have h3 : (c + k - 1) / k * k ≤ c + k - 1 := Int.ediv_mul_le _ (by omega)
  have h4 : c + k - 1 < ((c + k - 1) / k + 1) * k := Int.lt_ediv_add_one_mul_self _ (by omega)
  subst hm
  rw [Int.add_mul, Int.one_mul] at h4
  exact ⟨h1, by omega, h3, by omega⟩
theorem shSize {n k c : Int} (hn0 : n ≤ 4294967296) (hk1 : 1 ≤ k) (hk2 : k ≤ 50) (hc1 : 0 ≤ c) (hc2 : c ≤ 499) (i : Nat) (hi : (i : Int) < blocksI n k c) : (i : Int) * k ≤ c - 1 ∧ sizeI n k c i = min k (c - i * k) := by
  obtain ⟨h1, h2, h3, h4⟩ := shFacts hn0 hk1 hk2 hc1 hc2 _ rfl
  generalize hm : blocksI n k c = m at hi h1 h2 h3 h4
  have h5 : ((i : Int) + 1) * k ≤ m * k := Int.mul_le_mul_of_nonneg_right (by omega) (by omega)
  rw [Int.add_mul, Int.one_mul] at h5
  have h6 : 0 ≤ (i : Int) * k := Int.mul_nonneg (by omega) (by omega)
  refine ⟨by omega, ?_⟩
  unfold sizeI
  rw [hm, decide_eq_false (p := (i : Int) < 0) (by omega), decide_eq_false (p := (i : Int) ≥ m) (by omega), w64_id (x := (i : Int) * k) (by omega) (by omega), w64_id (x := c - (i : Int) * k) (by omega) (by omega)]
  show (if c - (i : Int) * k < k then c - (i : Int) * k else k) = _
  split <;> omega
theorem wf_u16 {x : Int} (h : (Lit.int .u16 x).wf = true) : 0 ≤ x ∧ x ≤ 65535 := by
  simpa [Lit.wf, IntKind.min, IntKind.max, IntKind.signed, IntKind.bits] using h
def shS (n k c : Int) (i : Nat) : St := mkSt 76 [(7, .s (.c ⟨.ro, .ptr 0 0⟩)), (8, vS (.int .i64 (min ((i : Int) * k) c))), (9, vS (.int .i64 (blocksI n k c))), (10, vS (.int .i64 (i : Int)))] [[vC (.int .u64 n), vC (.int .i64 k), vC (.int .i64 c)]]
theorem shLoop {n k c : Int} (hn0 : n ≤ 4294967296) (hk1 : 1 ≤ k) (hk2 : k ≤ 50) (hc1 : 0 ≤ c) (hc2 : c ≤ 499) : Loops VH 4 (fnPl VH 4) 0 (shS n k c 0) (.exit 0)
    (mkSt 76 [(7, .s (.c ⟨.ro, .ptr 0 0⟩)), (8, vS (.int .i64 c)), (9, vS (.int .i64 (blocksI n k c)))] [[vC (.int .u64 n), vC (.int .i64 k), vC (.int .i64 c)]]) := by
  obtain ⟨h1, h2, h3, h4⟩ := shFacts hn0 hk1 hk2 hc1 hc2 _ rfl
  refine Loops.count (S := shS n k c) (n := (blocksI n k c).toNat) (by kernel_rfl) (fun i hi => Goes.now fun rec H L => (shRnd rec H L n k c (min ((i : Int) * k) c) (blocksI n k c) i).trans ?_) (Goes.now fun rec H L => (shRnd rec H L n k c (min (((blocksI n k c).toNat : Int) * k) c) (blocksI n k c) ((blocksI n k c).toNat : Int)).trans ?_) (by simp)
  · obtain ⟨h5, h6⟩ := shSize hn0 hk1 hk2 hc1 hc2 i (by omega)
    have h7 : 0 ≤ (i : Int) * k := Int.mul_nonneg (by omega) (by omega)
    rw [br_pos (decide_eq_true (by omega)), br_pos (decide_eq_true (by omega)), h6, decide_eq_false (p := min k (c - (i : Int) * k) < 1) (by omega), decide_eq_false (p := min k (c - (i : Int) * k) > k) (by omega)]
    have e1 : IntKind.i64.wrap (min ((i : Int) * k) c + min k (c - (i : Int) * k)) = min (((i + 1 : Nat) : Int) * k) c := by
      rw [w64_id (by omega) (by omega), Int.natCast_add, Int.add_mul]
      show _ = min ((i : Int) * k + 1 * k) c
      rw [Int.one_mul]
      omega
    have e2 : IntKind.i64.wrap ((i : Int) + 1) = ((i + 1 : Nat) : Int) := w64_id (by omega) (by omega)
    rw [e1, e2, w64_id (x := blocksI n k c - 1) (by omega) (by omega)]
    refine br_eqs (fun _ => ?_) (fun c1 => by cases c1)
    refine br_eqs (fun _ => ?_) (fun c1 => by cases c1)
    refine br_eqs (fun c1 => ?_) (fun _ => rfl)
    have c1 := of_decide_eq_true c1
    refine br_eqs (fun c2 => ?_) (fun _ => rfl)
    refine absurd c2 ?_
    have h8 : ((i : Int) + 2) * k ≤ blocksI n k c * k := Int.mul_le_mul_of_nonneg_right (by omega) (by omega)
    rw [Int.add_mul] at h8
    have : min k (c - (i : Int) * k) = k := by omega
    rw [this]
    simp
  · have e0 : (((blocksI n k c).toNat : Nat) : Int) = blocksI n k c := by omega
    rw [e0, br_neg (decide_eq_false (by omega)), Int.min_eq_right h4]
theorem shCall {n k c : Int} (hk : 0 ≤ k) (hc : 0 ≤ c) : ∃ m, call VH m 4 [wS .u64 n, wS .u16 k, wS .u16 c] = some (vS (.bool true), []) := by
  have hand : IntKind.u64.wrap (↑(BitVec.ofInt IntKind.u64.bits n &&& BitVec.ofInt IntKind.u64.bits 4294967295).toNat : Int) ≤ 4294967296 := by
    have : (BitVec.ofInt IntKind.u64.bits n &&& BitVec.ofInt IntKind.u64.bits 4294967295).toNat ≤ 4294967295 := by
      rw [BitVec.toNat_and]
      exact Nat.and_le_right
    rw [wu64_eq]
    omega
  have hk1 : IntKind.i64.wrap (IntKind.i64.wrap (k.tmod 50) + 1) = k % 50 + 1 := by
    rw [Int.tmod_eq_emod_of_nonneg hk, w64_id (x := k % 50) (by omega) (by omega), w64_id (by omega) (by omega)]
  have hc1 : IntKind.i64.wrap (c.tmod 500) = c % 500 := by
    rw [Int.tmod_eq_emod_of_nonneg hc, w64_id (by omega) (by omega)]
  have hin := fun rec H L => shIn rec H L n k c
  rw [hk1, hc1] at hin
  generalize IntKind.u64.wrap (↑(BitVec.ofInt IntKind.u64.bits n &&& BitVec.ofInt IntKind.u64.bits 4294967295).toNat : Int) = n' at hand hin
  have hk2 : 1 ≤ k % 50 + 1 ∧ k % 50 + 1 ≤ 50 := by omega
  have hc2 : 0 ≤ c % 500 ∧ c % 500 ≤ 499 := by omega
  generalize k % 50 + 1 = k' at hk2 hin
  generalize c % 500 = c' at hc2 hin
  have h0 : min (((0 : Nat) : Int) * k') c' = 0 := by
    show min (0 * k') c' = 0
    rw [Int.zero_mul]
    omega
  have hin2 : ∀ rec H L, fnWay VH 4 [wS .u64 n, wS .u16 k, wS .u16 c] rec H L = L 0 (shS n' k' c' 0) := fun rec H L => (hin rec H L).trans (by unfold shS; rw [h0]; rfl)
  refine Goes.call (e := .ret) (st' := mkSt 76 [(6, vS (.bool true))] [[vC (.int .u64 n'), vC (.int .i64 k'), vC (.int .i64 c')]]) (Goes.of hin2 (Goes.loop (shLoop hand hk2.1 hk2.2 hc2.1 hc2.2) (Goes.now fun rec H L => (shOut rec H L n' k' c' c' (blocksI n' k' c')).trans ?_) (by kernel_rfl) (by kernel_rfl) rfl)) (by kernel_rfl) (by kernel_rfl)
  have h9 : sizeI n' k' c' (blocksI n' k' c') = 0 := by
    unfold sizeI
    rw [decide_eq_true (p := blocksI n' k' c' ≥ blocksI n' k' c') (by omega), Bool.or_true, cond_true]
  rw [br_pos (beq_self_eq_true _), h9]
  rfl
theorem shWalk (n k c : Int) (hk : (Lit.int .u16 k).wf = true) (hc : (Lit.int .u16 c).wf = true) (w : World) : Calls Go.Proofs.Try.prog 4 #[.int .u64 n, .int .u16 k, .int .u16 c] w fun e w' => e = .returned (.bool true) ∧ Below w.heap.size w w' := by
  have hk := (wf_u16 hk).1
  have hc := (wf_u16 hc).1
  obtain ⟨m, hm⟩ := shCall (n := n) hk hc
  exact law_of (V := VH) (bx := []) mix (sokH _ rfl rfl) (M := fun _ _ => none) (fun _ _ _ h => by simp at h) (xs := [wS .u64 n, wS .u16 k, wS .u16 c]) ⟨⟨rfl, rfl⟩, ⟨rfl, rfl⟩, ⟨rfl, rfl⟩, trivial⟩ hm
end Go.Proofs.Ytmdhlmcoegghjaa.Hd
