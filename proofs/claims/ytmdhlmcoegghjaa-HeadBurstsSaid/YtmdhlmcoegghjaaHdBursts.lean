/- What the functions come to, by the evaluator. Conditions: none; checked here. -/
import Derived.Test.YtmdhlmcoegghjaaHdC
import Derived.ProofKit
import Derived.Test.YtmdhlmcoegghjaaHdErrors
set_option linter.unusedVariables false
set_option linter.unusedSimpArgs false

namespace Go.Proofs.Ytmdhlmcoegghjaa.Hd
open Go Go.Proofs.Ytmdhlmcoegghjaa.Am Go.RowKit
set_option linter.unusedVariables false
set_option linter.unusedSimpArgs false
set_option maxRecDepth 100000

/-! # A burst of turned bits changes the sum -/
/-- A step of the sum's register, of any width. -/
def tN (s : Nat) : Nat := s >>> 1 ^^^ (bif s.testBit 0 then 3988292384 else 0)
def tI : Nat → Nat → Nat
  | 0, s => s
  | n + 1, s => tI n (tN s)
theorem tN_xor (a b : Nat) : tN (a ^^^ b) = tN a ^^^ tN b := by
  unfold tN
  rw [Nat.shiftRight_xor_distrib, Nat.testBit_xor]
  cases a.testBit 0 <;> cases b.testBit 0 <;> simp only [Bool.xor_false, Bool.xor_true, Bool.not_true, Bool.not_false, cond_true, cond_false, Nat.xor_zero]
  · rw [Nat.xor_assoc]
  · rw [Nat.xor_assoc, Nat.xor_assoc, Nat.xor_comm (b >>> 1)]
  · have : (3988292384 : Nat) ^^^ (b >>> 1 ^^^ 3988292384) = b >>> 1 := by rw [Nat.xor_comm (b >>> 1), ← Nat.xor_assoc, Nat.xor_self, Nat.zero_xor]
    rw [Nat.xor_assoc, this]
theorem tI_xor : ∀ (n a b : Nat), tI n (a ^^^ b) = tI n a ^^^ tI n b
  | 0, _, _ => rfl
  | n + 1, a, b => by simp only [tI, tN_xor, tI_xor n]
theorem tI_add : ∀ (m n s : Nat), tI (m + n) s = tI n (tI m s)
  | 0, n, s => by rw [Nat.zero_add]; rfl
  | m + 1, n, s => by
    rw [show m + 1 + n = (m + n) + 1 by omega]
    exact tI_add m n (tN s)
theorem tN_zero : tN 0 = 0 := rfl
theorem tI_zero : ∀ n, tI n 0 = 0
  | 0 => rfl
  | n + 1 => by rw [tI, tN_zero, tI_zero n]
theorem tN_shift (x n : Nat) : tN (x <<< (n + 1)) = x <<< n := by
  unfold tN
  have h0 : (x <<< (n + 1)).testBit 0 = false := by
    rw [Nat.testBit_shiftLeft]
    simp
  have h1 : (x <<< (n + 1)) >>> 1 = x <<< n := by
    rw [Nat.shiftLeft_succ, Nat.shiftRight_succ, Nat.shiftRight_zero]
    omega
  rw [h0, h1]
  simp
theorem tI_shift : ∀ (n x : Nat), tI n (x <<< n) = x
  | 0, x => rfl
  | n + 1, x => by
    rw [tI, tN_shift]
    exact tI_shift n x
theorem tN_lt {s : Nat} (h : s < 4294967296) : tN s < 4294967296 := by
  unfold tN
  have h1 : s >>> 1 < 2 ^ 32 := by
    rw [Nat.shiftRight_succ, Nat.shiftRight_zero]
    omega
  have h2 : (bif s.testBit 0 then 3988292384 else 0) < 2 ^ 32 := by cases s.testBit 0 <;> decide
  exact Nat.xor_lt_two_pow h1 h2
theorem tI_lt : ∀ (n : Nat) {s : Nat}, s < 4294967296 → tI n s < 4294967296
  | 0, _, h => h
  | n + 1, _, h => tI_lt n (tN_lt h)
theorem tN_inj {s : Nat} (h : s < 4294967296) (h0 : tN s = 0) : s = 0 := by
  unfold tN at h0
  cases hb : s.testBit 0 with
  | true =>
    rw [hb] at h0
    have := congrArg (fun x => Nat.testBit x 31) h0
    simp only [cond_true, Nat.testBit_xor, Nat.zero_testBit] at this
    have h1 : (s >>> 1).testBit 31 = false := by
      apply Nat.testBit_lt_two_pow
      rw [Nat.shiftRight_succ, Nat.shiftRight_zero]
      omega
    rw [h1] at this
    exact absurd this (by decide)
  | false =>
    rw [hb] at h0
    simp only [cond_false, Nat.xor_zero] at h0
    rw [Nat.shiftRight_succ, Nat.shiftRight_zero] at h0
    have : s % 2 = 0 := by
      have := Nat.testBit_zero s
      rw [hb] at this
      have := of_decide_eq_false this.symm
      omega
    omega
theorem tI_inj : ∀ (n : Nat) {s : Nat}, s < 4294967296 → tI n s = 0 → s = 0
  | 0, _, _, h => h
  | n + 1, s, h, h0 => tN_inj h (tI_inj n (tN_lt h) h0)

/-- The bits of bytes, the lowest first. -/
def valN : List Int → Nat
  | [] => 0
  | x :: r => x.toNat ^^^ valN r <<< 8
theorem valN_append : ∀ (xs ys : List Int), valN (xs ++ ys) = valN xs ^^^ valN ys <<< (8 * xs.length)
  | [], ys => by
    show valN ys = 0 ^^^ valN ys <<< 0
    rw [Nat.zero_xor, Nat.shiftLeft_zero]
  | x :: r, ys => by
    show x.toNat ^^^ valN (r ++ ys) <<< 8 = _ ^^^ valN r <<< 8 ^^^ _
    rw [valN_append r ys, Nat.shiftLeft_xor_distrib, ← Nat.shiftLeft_add, ← Nat.xor_assoc, List.length_cons, show 8 * r.length + 8 = 8 * (r.length + 1) by omega]
theorem valN_inj : ∀ {xs ys : List Int}, inB xs → inB ys → xs.length = ys.length → valN xs = valN ys → xs = ys
  | [], [], _, _, _, _ => rfl
  | x :: r, y :: t, h1, h2, hl, hv => by
    have hx := h1 x (by simp)
    have hy := h2 y (by simp)
    have hs : ∀ (z : Nat) (v : Nat), z < 256 → (z ^^^ v <<< 8) >>> 8 = v := fun z v hz => by
      rw [Nat.shiftRight_xor_distrib, Nat.shiftLeft_shiftRight, Nat.shiftRight_eq_div_pow, Nat.div_eq_of_lt (by omega), Nat.zero_xor]
    have hr : valN r = valN t := by
      rw [← hs x.toNat (valN r) (by omega), ← hs y.toNat (valN t) (by omega)]
      exact congrArg (· >>> 8) hv
    have hxy : x.toNat = y.toNat := by
      have hv' : x.toNat ^^^ valN r <<< 8 = y.toNat ^^^ valN r <<< 8 := by
        conv => rhs; rw [hr]
        exact hv
      have := congrArg (· ^^^ valN r <<< 8) hv'
      simpa only [Nat.xor_assoc, Nat.xor_self, Nat.xor_zero] using this
    rw [valN_inj (fun z hz => h1 z (by simp [hz])) (fun z hz => h2 z (by simp [hz])) (by simpa using hl) hr, show x = y by omega]
theorem valN_set : ∀ {xs : List Int} {j : Nat} {b : Nat} {y : Int}, j < xs.length → y.toNat = (nth (.int .u8) xs j).toNat ^^^ b → valN (xs.set j y) = valN xs ^^^ b <<< (8 * j)
  | x :: r, 0, b, y, _, hy => by
    show y.toNat ^^^ valN r <<< 8 = x.toNat ^^^ valN r <<< 8 ^^^ b <<< 0
    rw [show y.toNat = x.toNat ^^^ b from hy, Nat.shiftLeft_zero, Nat.xor_assoc, Nat.xor_assoc, Nat.xor_comm b]
  | x :: r, j + 1, b, y, hj, hy => by
    show x.toNat ^^^ valN (r.set j y) <<< 8 = x.toNat ^^^ valN r <<< 8 ^^^ _
    rw [valN_set (xs := r) (j := j) (b := b) (y := y) (by simpa using hj) hy, Nat.shiftLeft_xor_distrib, ← Nat.shiftLeft_add, ← Nat.xor_assoc, show 8 * j + 8 = 8 * (j + 1) by omega]

/-! the program's sum, so told -/
theorem crcT_tN {s : Nat} (h : s < 4294967296) : crcT (s : Int) = (tN s : Nat) := by
  have hlt := tN_lt h
  have h3 : s >>> 1 = s / 2 := by rw [Nat.shiftRight_succ, Nat.shiftRight_zero]
  have h4 : s.testBit 0 = (s % 2 == 1) := by
    rw [Nat.testBit_zero]
    rcases Nat.mod_two_eq_zero_or_one s with h | h <;> rw [h] <;> rfl
  have ht : tN s = s / 2 ^^^ (bif s % 2 == 1 then 3988292384 else 0) := by
    unfold tN
    rw [h3, h4]
  rw [ht] at hlt ⊢
  have h1 : (BitVec.ofInt IntKind.u32.bits (s : Int) &&& BitVec.ofInt IntKind.u32.bits 1).toNat = s % 2 := by
    rw [BitVec.toNat_and, show (BitVec.ofInt IntKind.u32.bits (s : Int)).toNat = s from ofInt_nat 32 s h]
    show s &&& 1 = _
    exact Nat.and_one_is_mod s
  have h2 : (s : Int).fdiv (2 ^ min (Int.toNat 1) IntKind.u32.bits) = ((s / 2 : Nat) : Int) := by
    show (s : Int).fdiv 2 = _
    rw [fdiv_pos _ (by decide)]
    omega
  have h5 : w32 ((s % 2 : Nat) : Int) = ((s % 2 : Nat) : Int) := wu32_id (by omega) (by omega)
  unfold crcT
  rw [h1, h2, h5]
  rcases Nat.mod_two_eq_zero_or_one s with h | h
  · rw [h]
    show ((s / 2 : Nat) : Int) = ((s / 2 ^^^ 0 : Nat) : Int)
    rw [Nat.xor_zero]
  · rw [h] at hlt ⊢
    show w32 (((BitVec.ofInt 32 ((s / 2 : Nat) : Int)) ^^^ BitVec.ofInt 32 3988292384).toNat : Int) = ((s / 2 ^^^ 3988292384 : Nat) : Int)
    rw [BitVec.toNat_xor, ofInt_nat 32 (s / 2) (by omega)]
    change s / 2 ^^^ 3988292384 < 4294967296 at hlt
    exact wu32_id (x := ((s / 2 ^^^ 3988292384 : Nat) : Int)) (by omega) (by omega)
theorem crcT_tI : ∀ (n : Nat) {s : Nat}, s < 4294967296 → itr (fun _ => crcT) (s : Int) n = (tI n s : Nat)
  | 0, _, _ => rfl
  | n + 1, s, h => by
    rw [itr, crcT_tI n h, crcT_tN (tI_lt n h), tI_add n 1 s]
    rfl
theorem stepI_tI {s : Nat} {b : Int} (h : s < 4294967296) (hb : 0 ≤ b ∧ b < 256) : stepI (s : Int) b = (tI 8 (s ^^^ b.toNat) : Nat) := by
  obtain ⟨B, rfl⟩ := Int.eq_ofNat_of_zero_le hb.1
  unfold stepI
  have h1 : w32 ((BitVec.ofInt IntKind.u32.bits (s : Int) ^^^ BitVec.ofInt IntKind.u32.bits (w32 (B : Int))).toNat : Int) = ((s ^^^ B : Nat) : Int) := by
    rw [show w32 (B : Int) = B from wu32_id (by omega) (by omega), BitVec.toNat_xor, show (BitVec.ofInt IntKind.u32.bits (s : Int)).toNat = s from ofInt_nat 32 s h, show (BitVec.ofInt IntKind.u32.bits (B : Int)).toNat = B from ofInt_nat 32 B (by omega)]
    have : s ^^^ B < 2 ^ 32 := Nat.xor_lt_two_pow h (by omega)
    exact wu32_id (x := ((s ^^^ B : Nat) : Int)) (by omega) (by omega)
  rw [h1]
  exact crcT_tI 8 (Nat.xor_lt_two_pow (n := 32) h (by omega))
theorem itr_head {α : Type} {g : Nat → α → α} {a : α} : ∀ n, itr g a (n + 1) = itr (fun i => g (i + 1)) (g 0 a) n
  | 0 => rfl
  | n + 1 => by
    rw [itr, itr_head n]
    rfl
theorem crcL_tI : ∀ {xs : List Int} {s : Nat}, inB xs → s < 4294967296 → crcL (s : Int) xs = (tI (8 * xs.length) (s ^^^ valN xs) : Nat) ∧ tI (8 * xs.length) (s ^^^ valN xs) < 4294967296
  | [], s, _, h => by
    refine ⟨?_, ?_⟩
    · show (s : Int) = ((s ^^^ 0 : Nat) : Int)
      rw [Nat.xor_zero]
    · show s ^^^ 0 < _
      rw [Nat.xor_zero]
      exact h
  | x :: r, s, hx, h => by
    have hb := hx x (by simp)
    have hlt : tI 8 (s ^^^ x.toNat) < 4294967296 := tI_lt 8 (Nat.xor_lt_two_pow (n := 32) h (by omega))
    have e1 : crcL (s : Int) (x :: r) = crcL (stepI (s : Int) x) r := by
      unfold crcL
      rw [List.length_cons, itr_head]
      rfl
    have e2 : tI (8 * (x :: r).length) (s ^^^ valN (x :: r)) = tI (8 * r.length) (tI 8 (s ^^^ x.toNat) ^^^ valN r) := by
      rw [List.length_cons, show 8 * (r.length + 1) = 8 + 8 * r.length by omega, tI_add]
      show tI _ (tI 8 (s ^^^ (x.toNat ^^^ valN r <<< 8))) = _
      rw [← Nat.xor_assoc, tI_xor, tI_shift]
    rw [e1, stepI_tI h hb, e2]
    exact crcL_tI (fun z hz => hx z (by simp [hz])) hlt
theorem valN4 {s : Nat} (h : s < 4294967296) : valN (fixL (s : Int) (Int.toNat 4)) = s := by
  rw [fix4]
  show ((s : Int) % 256).toNat ^^^ (((s : Int) / 256 % 256).toNat ^^^ (((s : Int) / 65536 % 256).toNat ^^^ (((s : Int) / 16777216 % 256).toNat ^^^ 0 <<< 8) <<< 8) <<< 8) <<< 8 = s
  have e1 : ((s : Int) % 256).toNat = s % 256 := by omega
  have e2 : ((s : Int) / 256 % 256).toNat = s / 256 % 256 := by omega
  have e3 : ((s : Int) / 65536 % 256).toNat = s / 65536 % 256 := by omega
  have e4 : ((s : Int) / 16777216 % 256).toNat = s / 16777216 % 256 := by omega
  have hadd : ∀ x v : Nat, x < 256 → x ^^^ v <<< 8 = x + 256 * v := fun x v hx => by
    have h1 : v <<< 8 = 2 ^ 8 * v := by rw [Nat.shiftLeft_eq, Nat.mul_comm]
    rw [h1, Nat.xor_comm]
    have h2 : 2 ^ 8 * v ^^^ x = 2 ^ 8 * v ||| x := by
      apply Nat.eq_of_testBit_eq
      intro i
      rw [Nat.testBit_xor, Nat.testBit_or]
      by_cases hi : i < 8
      · have : (2 ^ 8 * v).testBit i = false := by
          rw [Nat.testBit_two_pow_mul]
          simp
          omega
        rw [this]
        simp
      · have : x.testBit i = false := Nat.testBit_lt_two_pow (Nat.lt_of_lt_of_le hx (Nat.pow_le_pow_right (show 0 < 2 by decide) (by omega : 8 ≤ i)))
        rw [this]
        simp
    rw [h2, ← Nat.two_pow_add_eq_or_of_lt hx]
    omega
  rw [e1, e2, e3, e4, hadd _ _ (by omega), hadd _ _ (by omega), hadd _ _ (by omega), hadd _ _ (by omega)]
  omega
/-- What is sealed leaves the same in the register, whatever it is. -/
theorem sealed_reg {ys : List Int} (h : inB ys) : tI (8 * (sealP ys).length) (4294967295 ^^^ valN (sealP ys)) = tI 32 4294967295 := by
  obtain ⟨h1, h2⟩ := crcL_tI (s := 4294967295) h (by decide)
  generalize hr : tI (8 * ys.length) (4294967295 ^^^ valN ys) = r at h1 h2
  have hs : sumP [(false, ys)] = ((4294967295 - r : Nat) : Int) := by
    rw [sumP1]
    have : crcL 4294967295 ys = (r : Int) := h1
    rw [this, not32_nat r h2]
    omega
  have hsl : sealP ys = ys ++ fixL ((4294967295 - r : Nat) : Int) (Int.toNat 4) := by
    unfold sealP
    rw [sumL4 (sumP_in _ _), hs, show w64u ((4294967295 - r : Nat) : Int) = ((4294967295 - r : Nat) : Int) from wu64_id (by omega) (by omega)]
  have hx : r ^^^ (4294967295 - r) = 4294967295 := by
    have e := BitVec.xor_allOnes (x := BitVec.ofNat 32 r)
    have e2 := congrArg BitVec.toNat e
    rw [BitVec.toNat_xor, BitVec.toNat_not, BitVec.toNat_ofNat, Nat.mod_eq_of_lt h2, BitVec.toNat_allOnes] at e2
    have e3 : r ^^^ 4294967295 = 4294967295 - r := e2
    rw [← e3, ← Nat.xor_assoc, Nat.xor_self, Nat.zero_xor]
  rw [sealP_len, hsl, valN_append, valN4 (by omega), ← Nat.xor_assoc, show 8 * (ys.length + 4) = 8 * ys.length + 32 by omega, tI_add, tI_xor, tI_shift, hr, hx]

/-! turned bits -/
def bitC (n : Nat) (a m : Int) (i : Nat) : Bool := (w32 (BitVec.ofInt IntKind.u32.bits (m.fdiv (2 ^ min i IntKind.u32.bits)) &&& BitVec.ofInt IntKind.u32.bits 1).toNat == 1) && decide (a ≥ -(i : Int)) && decide (a < 8 * (n : Int) - i)
def bitsN (n : Nat) (a m : Int) : Nat → Nat := itr (fun i d => d ^^^ (bif bitC n a m i then 2 ^ i else 0)) 0
theorem bitsN_lt (n : Nat) (a m : Int) : ∀ i, bitsN n a m i < 2 ^ i
  | 0 => Nat.one_pos
  | i + 1 => by
    have h1 := bitsN_lt n a m i
    show bitsN n a m i ^^^ _ < _
    refine Nat.xor_lt_two_pow (Nat.lt_of_lt_of_le h1 (Nat.pow_le_pow_right (by decide) (by omega))) ?_
    cases bitC n a m i with
    | true => exact Nat.pow_lt_pow_right (by decide) (by omega)
    | false => exact Nat.two_pow_pos _
theorem flip_val {xs : List Int} {a : Nat} {m : Int} (hx : inB xs) : ∀ i, valN (itr (flip1 xs.length a m) xs i) = valN xs ^^^ bitsN xs.length a m i <<< a ∧ inB (itr (flip1 xs.length a m) xs i)
  | 0 => by
    refine ⟨?_, hx⟩
    show valN xs = valN xs ^^^ 0 <<< a
    rw [Nat.zero_shiftLeft, Nat.xor_zero]
  | i + 1 => by
    obtain ⟨h1, h2⟩ := flip_val (a := a) (m := m) hx i
    have hl : (itr (flip1 xs.length a m) xs i).length = xs.length := flipI_len
    have e : bitsN xs.length a m (i + 1) = bitsN xs.length a m i ^^^ (bif bitC xs.length a m i then 2 ^ i else 0) := rfl
    simp only [itr]
    generalize itr (flip1 xs.length a m) xs i = o at h1 h2 hl ⊢
    rw [e]
    have hf : flip1 xs.length a m i o = bif bitC xs.length a m i then o.set (((a : Int) + i).tdiv 8).toNat (w8 (BitVec.ofInt IntKind.u8.bits (nth (.int .u8) o (((a : Int) + i).tdiv 8).toNat) ^^^ BitVec.ofInt IntKind.u8.bits (w8 (1 * 2 ^ min (((a : Int) + i).tmod 8).toNat IntKind.u8.bits))).toNat) else o := rfl
    rw [hf]
    cases hb : bitC xs.length a m i with
    | false =>
      rw [cond_false, cond_false, Nat.xor_zero]
      exact ⟨h1, h2⟩
    | true =>
      rw [cond_true, cond_true]
      have hlt : a + i < 8 * xs.length := by
        simp only [bitC, Bool.and_eq_true, decide_eq_true_eq] at hb
        omega
      have d1 : (((a : Int) + i).tdiv 8).toNat = (a + i) / 8 := by
        rw [Int.tdiv_eq_ediv_of_nonneg (by omega)]
        omega
      have d2 : (((a : Int) + i).tmod 8).toNat = (a + i) % 8 := by
        rw [Int.tmod_eq_emod_of_nonneg (by omega)]
        omega
      rw [d1, d2]
      have hm : min ((a + i) % 8) IntKind.u8.bits = (a + i) % 8 := by
        show min ((a + i) % 8) 8 = _
        omega
      rw [hm]
      have hpw : (2 : Nat) ^ ((a + i) % 8) < 256 := Nat.lt_of_lt_of_le (Nat.pow_lt_pow_right (by decide) (Nat.mod_lt _ (by decide) : (a + i) % 8 < 8)) (by decide)
      have hbyte : ∃ X : Nat, X < 256 ∧ nth (.int .u8) o ((a + i) / 8) = (X : Int) := by
        have hj : (a + i) / 8 < o.length := by omega
        have hm := h2 _ (List.getElem_mem hj)
        refine ⟨(o[(a + i) / 8]).toNat, by omega, ?_⟩
        unfold nth
        rw [List.getD_eq_getElem?_getD, List.getElem?_eq_getElem hj]
        show o[(a + i) / 8] = _
        omega
      obtain ⟨X, hX2, hX⟩ := hbyte
      have hy : w8 ((BitVec.ofInt IntKind.u8.bits (nth (.int .u8) o ((a + i) / 8)) ^^^ BitVec.ofInt IntKind.u8.bits (w8 (1 * 2 ^ ((a + i) % 8)))).toNat : Int) = ((X ^^^ 2 ^ ((a + i) % 8) : Nat) : Int) := by
        have e1 : w8 (1 * 2 ^ ((a + i) % 8)) = ((2 ^ ((a + i) % 8) : Nat) : Int) := by
          show IntKind.u8.wrap _ = _
          rw [wu8_eq, Int.one_mul]
          have : (2 : Int) ^ ((a + i) % 8) = ((2 ^ ((a + i) % 8) : Nat) : Int) := by push_cast; rfl
          rw [this]
          exact Int.emod_eq_of_lt (Int.natCast_nonneg _) (by exact_mod_cast hpw)
        rw [e1, hX, BitVec.toNat_xor, show (BitVec.ofInt IntKind.u8.bits ((X : Nat) : Int)).toNat = X from ofInt_nat 8 X (by omega), show (BitVec.ofInt IntKind.u8.bits ((2 ^ ((a + i) % 8) : Nat) : Int)).toNat = 2 ^ ((a + i) % 8) from ofInt_nat 8 _ hpw]
        have : X ^^^ 2 ^ ((a + i) % 8) < 2 ^ 8 := Nat.xor_lt_two_pow (n := 8) (by omega) (by omega)
        show IntKind.u8.wrap _ = _
        rw [wu8_eq]
        exact Int.emod_eq_of_lt (Int.natCast_nonneg _) (by exact_mod_cast this)
      rw [hy]
      refine ⟨?_, ?_⟩
      · rw [valN_set (b := 2 ^ ((a + i) % 8)) (by omega) (by rw [hX]; rfl), h1, Nat.shiftLeft_xor_distrib, ← Nat.xor_assoc]
        congr 1
        rw [Nat.shiftLeft_eq, Nat.shiftLeft_eq, ← Nat.pow_add, ← Nat.pow_add]
        congr 1
        omega
      · intro z hz
        rcases List.mem_or_eq_of_mem_set hz with hz | rfl
        · exact h2 z hz
        · have : X ^^^ 2 ^ ((a + i) % 8) < 2 ^ 8 := Nat.xor_lt_two_pow (n := 8) (by omega) (by omega)
          exact ⟨Int.natCast_nonneg _, by exact_mod_cast this⟩
/-- What a burst has turned is not sealed. -/
theorem burst {ys zs xs : List Int} {a : Nat} {m : Int} (hy : inB ys) (hz : inB zs) (hx : xs = flipL (sealP ys) a m) (hne : xs ≠ sealP ys) (ha : a ≤ 8 * (sealP ys).length) : xs ≠ sealP zs := by
  intro he
  have hin : inB (sealP ys) := by
    unfold sealP
    rw [sumL4 (sumP_in _ _)]
    exact inB_append hy fixL_in
  obtain ⟨h1, h2⟩ := flip_val (a := a) (m := m) hin 32
  have h1' : valN xs = valN (sealP ys) ^^^ bitsN (sealP ys).length a m 32 <<< a := by rw [hx]; exact h1
  have h2' : inB xs := by rw [hx]; exact h2
  have hlen : xs.length = (sealP ys).length := by rw [hx]; exact flipI_len
  have hd : bitsN (sealP ys).length a m 32 ≠ 0 := fun h0 => by
    rw [h0, Nat.zero_shiftLeft, Nat.xor_zero] at h1'
    exact hne (valN_inj h2' hin hlen h1')
  have e1 := sealed_reg hy
  have e2 := sealed_reg hz
  rw [← he, hlen, h1', ← Nat.xor_assoc, tI_xor, e1] at e2
  have e3 : tI (8 * (sealP ys).length) (bitsN (sealP ys).length a m 32 <<< a) = 0 := by
    have := congrArg (tI 32 4294967295 ^^^ ·) e2
    simpa only [← Nat.xor_assoc, Nat.xor_self, Nat.zero_xor] using this
  rw [show 8 * (sealP ys).length = a + (8 * (sealP ys).length - a) by omega, tI_add, tI_shift] at e3
  exact hd (tI_inj _ (bitsN_lt _ _ _ 32) e3)
end Go.Proofs.Ytmdhlmcoegghjaa.Hd

namespace Go.Proofs.Ytmdhlmcoegghjaa.Hd
open Go Go.Proofs.Ytmdhlmcoegghjaa.Am Go.RowKit
set_option linter.unusedVariables false
set_option linter.unusedSimpArgs false
set_option maxRecDepth 100000
def buN (n : Int) : Int := IntKind.u64.wrap (↑(BitVec.ofInt IntKind.u64.bits n &&& BitVec.ofInt IntKind.u64.bits 4294967295).toNat : Int)
def buK (k : Int) : Int := IntKind.i64.wrap (IntKind.i64.wrap k + 1)
def buC (c : Int) : Int := IntKind.i64.wrap (IntKind.u32.wrap (↑(BitVec.ofInt IntKind.u32.bits c &&& BitVec.ofInt IntKind.u32.bits 2147483647).toNat : Int))
def buA (a : Int) : Int := (IntKind.i64.wrap a).tmod 192
theorem buIn (rec : Rec) (H : K) (L : Nat → St → Option Res) (n k c a m : Int) :
    fnWay VH 5 [wS .u64 n, wS .u16 k, wS .u32 c, wS .u8 a, wS .u32 m] rec H L =
  br (rightB (buN n) (buK k) (buC c)) (
    br (!isNilL (bytesP (buN n) (buK k) (buC c)) && decide ((bytesP (buN n) (buK k) (buC c)).length ≤ 1000000) && decide (0 ≤ buA a) && decide (buA a ≤ 1000000)) (
      br ((baOf (flipL (bytesP (buN n) (buK k) (buC c)) (buA a) m)).toList == (baOf (bytesP (buN n) (buK k) (buC c))).toList) (
        br (readE (okP (flipL (bytesP (buN n) (buK k) (buC c)) (buA a) m)) (flipL (bytesP (buN n) (buK k) (buC c)) (buA a) m) == 0) (
          H .ret (mkSt 62 [(10, vS (.bool ((rdZ (okP (flipL (bytesP (buN n) (buK k) (buC c)) (buA a) m)) (flipL (bytesP (buN n) (buK k) (buC c)) (buA a) m) (readN (flipL (bytesP (buN n) (buK k) (buC c)) (buA a) m)), rdZ (okP (flipL (bytesP (buN n) (buK k) (buC c)) (buA a) m)) (flipL (bytesP (buN n) (buK k) (buC c)) (buA a) m) (readKI (flipL (bytesP (buN n) (buK k) (buC c)) (buA a) m)), rdZ (okP (flipL (bytesP (buN n) (buK k) (buC c)) (buA a) m)) (flipL (bytesP (buN n) (buK k) (buC c)) (buA a) m) (readCI (flipL (bytesP (buN n) (buK k) (buC c)) (buA a) m))).fst == buN n && ((rdZ (okP (flipL (bytesP (buN n) (buK k) (buC c)) (buA a) m)) (flipL (bytesP (buN n) (buK k) (buC c)) (buA a) m) (readN (flipL (bytesP (buN n) (buK k) (buC c)) (buA a) m)), rdZ (okP (flipL (bytesP (buN n) (buK k) (buC c)) (buA a) m)) (flipL (bytesP (buN n) (buK k) (buC c)) (buA a) m) (readKI (flipL (bytesP (buN n) (buK k) (buC c)) (buA a) m)), rdZ (okP (flipL (bytesP (buN n) (buK k) (buC c)) (buA a) m)) (flipL (bytesP (buN n) (buK k) (buC c)) (buA a) m) (readCI (flipL (bytesP (buN n) (buK k) (buC c)) (buA a) m))).snd.fst == buK k && ((rdZ (okP (flipL (bytesP (buN n) (buK k) (buC c)) (buA a) m)) (flipL (bytesP (buN n) (buK k) (buC c)) (buA a) m) (readN (flipL (bytesP (buN n) (buK k) (buC c)) (buA a) m)), rdZ (okP (flipL (bytesP (buN n) (buK k) (buC c)) (buA a) m)) (flipL (bytesP (buN n) (buK k) (buC c)) (buA a) m) (readKI (flipL (bytesP (buN n) (buK k) (buC c)) (buA a) m)), rdZ (okP (flipL (bytesP (buN n) (buK k) (buC c)) (buA a) m)) (flipL (bytesP (buN n) (buK k) (buC c)) (buA a) m) (readCI (flipL (bytesP (buN n) (buK k) (buC c)) (buA a) m))).snd.snd == buC c && true)))))] [])) (
          H .ret (mkSt 62 [(10, vS (.bool false))] []))) (
        br (readE (okP (flipL (bytesP (buN n) (buK k) (buC c)) (buA a) m)) (flipL (bytesP (buN n) (buK k) (buC c)) (buA a) m) != 0) (
          H .ret (mkSt 62 [(10, vS (.bool ((rdZ (okP (flipL (bytesP (buN n) (buK k) (buC c)) (buA a) m)) (flipL (bytesP (buN n) (buK k) (buC c)) (buA a) m) (readN (flipL (bytesP (buN n) (buK k) (buC c)) (buA a) m)), rdZ (okP (flipL (bytesP (buN n) (buK k) (buC c)) (buA a) m)) (flipL (bytesP (buN n) (buK k) (buC c)) (buA a) m) (readKI (flipL (bytesP (buN n) (buK k) (buC c)) (buA a) m)), rdZ (okP (flipL (bytesP (buN n) (buK k) (buC c)) (buA a) m)) (flipL (bytesP (buN n) (buK k) (buC c)) (buA a) m) (readCI (flipL (bytesP (buN n) (buK k) (buC c)) (buA a) m))).fst == 0 && ((rdZ (okP (flipL (bytesP (buN n) (buK k) (buC c)) (buA a) m)) (flipL (bytesP (buN n) (buK k) (buC c)) (buA a) m) (readN (flipL (bytesP (buN n) (buK k) (buC c)) (buA a) m)), rdZ (okP (flipL (bytesP (buN n) (buK k) (buC c)) (buA a) m)) (flipL (bytesP (buN n) (buK k) (buC c)) (buA a) m) (readKI (flipL (bytesP (buN n) (buK k) (buC c)) (buA a) m)), rdZ (okP (flipL (bytesP (buN n) (buK k) (buC c)) (buA a) m)) (flipL (bytesP (buN n) (buK k) (buC c)) (buA a) m) (readCI (flipL (bytesP (buN n) (buK k) (buC c)) (buA a) m))).snd.fst == 0 && ((rdZ (okP (flipL (bytesP (buN n) (buK k) (buC c)) (buA a) m)) (flipL (bytesP (buN n) (buK k) (buC c)) (buA a) m) (readN (flipL (bytesP (buN n) (buK k) (buC c)) (buA a) m)), rdZ (okP (flipL (bytesP (buN n) (buK k) (buC c)) (buA a) m)) (flipL (bytesP (buN n) (buK k) (buC c)) (buA a) m) (readKI (flipL (bytesP (buN n) (buK k) (buC c)) (buA a) m)), rdZ (okP (flipL (bytesP (buN n) (buK k) (buC c)) (buA a) m)) (flipL (bytesP (buN n) (buK k) (buC c)) (buA a) m) (readCI (flipL (bytesP (buN n) (buK k) (buC c)) (buA a) m))).snd.snd == 0 && true)))))] [])) (
          H .ret (mkSt 62 [(10, vS (.bool false))] [])))) (
      none)) (
    H .ret (mkSt 62 [(10, vS (.bool false))] [])) := by kernel_rfl
end Go.Proofs.Ytmdhlmcoegghjaa.Hd

namespace Go.Proofs.Ytmdhlmcoegghjaa.Hd
open Go Go.Proofs.Ytmdhlmcoegghjaa.Am Go.RowKit
set_option linter.unusedVariables false
set_option linter.unusedSimpArgs false
set_option maxRecDepth 100000
theorem loop_eq (bs : ByteArray) : ∀ (d i : Nat) (r : List UInt8), i + d = bs.size → ByteArray.toList.loop bs i r = r.reverse ++ bs.data.toList.drop i
  | 0, i, r, h => by
    rw [ByteArray.toList.loop, if_neg (by omega), List.drop_of_length_le (by rw [Array.length_toList]; show bs.size ≤ i; omega), List.append_nil]
  | d + 1, i, r, h => by
    have hi : i < bs.data.toList.length := by rw [Array.length_toList]; show i < bs.size; omega
    rw [ByteArray.toList.loop, if_pos (by omega), loop_eq bs d (i + 1) _ (by omega), List.reverse_cons, List.append_assoc, List.drop_eq_getElem_cons hi]
    have e : bs.get! i = bs.data.toList[i] := by
      show bs.data[i]! = _
      rw [getElem!_pos bs.data i (by rw [Array.length_toList] at hi; exact hi)]
      simp
    rw [e]
    rfl
theorem baOf_list (xs : List Int) : (baOf xs).toList = xs.map fun n => UInt8.ofNat n.toNat := by
  have h : (baOf xs).toList = (baOf xs).data.toList := by
    unfold ByteArray.toList
    rw [loop_eq (baOf xs) (baOf xs).size 0 [] (by omega)]
    rfl
  rw [h]
  rfl
theorem baOf_inj {xs ys : List Int} (h1 : inB xs) (h2 : inB ys) (h : (baOf xs).toList = (baOf ys).toList) : xs = ys := by
  rw [baOf_list, baOf_list] at h
  have hu : ∀ x : Int, 0 ≤ x → x < 256 → ((UInt8.ofNat x.toNat).toNat : Int) = x := fun x h0 h1 => by
    rw [UInt8.toNat_ofNat']
    omega
  induction xs generalizing ys with
  | nil => cases ys with
    | nil => rfl
    | cons y t => simp at h
  | cons x r ih => cases ys with
    | nil => simp at h
    | cons y t =>
      simp only [List.map_cons, List.cons.injEq] at h
      have hx := h1 x (by simp)
      have hy := h2 y (by simp)
      have : x = y := by
        rw [← hu x hx.1 hx.2, ← hu y hy.1 hy.2, h.1]
      rw [this, ih (fun z hz => h1 z (by simp [hz])) (fun z hz => h2 z (by simp [hz])) h.2]
theorem buArgs {n k c a : Int} (hn : 0 ≤ n ∧ n < 18446744073709551616) (hk : 0 ≤ k ∧ k ≤ 65535) (hc : 0 ≤ c ∧ c < 4294967296) (ha : 0 ≤ a ∧ a < 256) :
    (0 ≤ buN n ∧ buN n ≤ 4294967295) ∧ (1 ≤ buK k ∧ buK k ≤ 65536) ∧ (0 ≤ buC c ∧ buC c ≤ 2147483647) ∧ (0 ≤ buA a ∧ buA a < 192) := by
  refine ⟨?_, ?_, ?_, ?_⟩
  · unfold buN
    have : (BitVec.ofInt IntKind.u64.bits n &&& BitVec.ofInt IntKind.u64.bits 4294967295).toNat ≤ 4294967295 := by
      rw [BitVec.toNat_and]
      exact Nat.and_le_right
    rw [wu64_eq]
    omega
  · unfold buK
    rw [w64_id (x := k) (by omega) (by omega), w64_id (by omega) (by omega)]
    omega
  · unfold buC
    have : (BitVec.ofInt IntKind.u32.bits c &&& BitVec.ofInt IntKind.u32.bits 2147483647).toNat ≤ 2147483647 := by
      rw [BitVec.toNat_and]
      exact Nat.and_le_right
    rw [wu32_eq, w64_id (by omega) (by omega)]
    omega
  · unfold buA
    rw [w64_id (by omega) (by omega), Int.tmod_eq_emod_of_nonneg (by omega)]
    omega
theorem hdB_in (n k c : Int) : inB (hdB n k c) := by
  refine inB_append (inB_append (inB_append ?_ fixL_in) fixL_in) fixL_in
  intro x hx
  simp at hx
  omega
theorem bytes_seal (n k c : Int) : bytesP n k c = sealP (hdB n k c) := by
  rw [bytes_eq, seal_eq]
  rfl
theorem buCall {n k c a m : Int} (hn : 0 ≤ n ∧ n < 18446744073709551616) (hk : 0 ≤ k ∧ k ≤ 65535) (hc : 0 ≤ c ∧ c < 4294967296) (ha : 0 ≤ a ∧ a < 256) :
    ∃ j, call VH j 5 [wS .u64 n, wS .u16 k, wS .u32 c, wS .u8 a, wS .u32 m] = some (vS (.bool true), []) := by
  obtain ⟨gn, gk, gc, ga⟩ := buArgs hn hk hc ha
  have hin := fun rec H L => buIn rec H L n k c a m
  rw [bytes_seal] at hin
  generalize buN n = n' at gn hin
  generalize buK k = k' at gk hin
  generalize buC c = c' at gc hin
  generalize buA a = a' at ga hin
  obtain ⟨A, rfl⟩ := Int.eq_ofNat_of_zero_le ga.1
  have hl := hdB_len n' k' c'
  have hl24 : (sealP (hdB n' k' c')).length = 24 := by rw [sealP_len, hl]
  have hbin : inB (sealP (hdB n' k' c')) := by
    unfold sealP
    rw [sumL4 (sumP_in _ _)]
    exact inB_append (hdB_in _ _ _) fixL_in
  have hr : rightB n' k' c' = true := by
    simp only [rightB, Bool.and_eq_true, decide_eq_true_eq]
    omega
  have hXl : (flipL (sealP (hdB n' k' c')) (A : Int) m).length = 24 := by
    rw [← hl24]
    exact flipI_len
  have hXin : inB (flipL (sealP (hdB n' k' c')) (A : Int) m) := (flip_val hbin 32).2
  have leaf : ∀ {b : Bool} {H : K}, b = true → H .ret (mkSt 62 [(10, vS (.bool b))] []) = H .ret (mkSt 62 [(10, vS (.bool true))] []) := fun h => by rw [h]
  have fin : finK VH.P (VH.sig 5) (funcOf VH.P 5) .ret (mkSt 62 [(10, vS (.bool true))] []) = some (vS (.bool true), []) := by kernel_rfl
  have hcond : (!isNilL (sealP (hdB n' k' c')) && decide ((sealP (hdB n' k' c')).length ≤ 1000000) && decide (0 ≤ ((A : Nat) : Int)) && decide (((A : Nat) : Int) ≤ 1000000)) = true := by
    have : isNilL (sealP (hdB n' k' c')) = false := by
      cases hs : sealP (hdB n' k' c') with
      | nil => rw [hs] at hl24; simp at hl24
      | cons x r => rfl
    rw [this, hl24, decide_eq_true (p := 0 ≤ ((A : Nat) : Int)) (by omega), decide_eq_true (p := ((A : Nat) : Int) ≤ 1000000) (by omega)]
    rfl
  refine Goes.call (Goes.now fun rec H L => (hin rec H L).trans ((br_pos hr).trans ((br_pos hcond).trans ?_))) fin (by kernel_rfl)
  by_cases hX : flipL (sealP (hdB n' k' c')) (A : Int) m = sealP (hdB n' k' c')
  · rw [hX]
    have hs : sealP (hdB n' k' c') = sealR (hdB n' k' c') := seal_eq _
    have hmr := hdB_take (n := n') (k := k') (c := c') ⟨by omega, by omega⟩ ⟨by omega, by omega⟩ ⟨by omega, by omega⟩ (fixL (w64u (sumR [(false, hdB n' k' c')])) 4)
    change magicB (sealR (hdB n' k' c')) = true ∧ readN (sealR (hdB n' k' c')) = n' ∧ readKI (sealR (hdB n' k' c')) = k' ∧ readCI (sealR (hdB n' k' c')) = c' at hmr
    rw [hs] at hl24 ⊢
    have hok := okP_seal hl
    have hE : readE (okP (sealR (hdB n' k' c'))) (sealR (hdB n' k' c')) = 0 := by
      unfold readE
      rw [hok, hmr.1, hmr.2.1, hmr.2.2.1, hmr.2.2.2, decide_eq_false (by rw [hl24]; omega), hr]
      rfl
    have hz : ∀ v, rdZ (okP (sealR (hdB n' k' c'))) (sealR (hdB n' k' c')) v = v := fun v => by
      unfold rdZ
      rw [hE]
      rfl
    rw [br_pos (beq_self_eq_true _), hE, hz, hz, hz, hmr.2.1, hmr.2.2.1, hmr.2.2.2, br_pos (beq_self_eq_true _)]
    exact leaf (by simp only [beq_self_eq_true, Bool.and_self])
  · have hok : okP (flipL (sealP (hdB n' k' c')) (A : Int) m) = false := by
      unfold okP
      refine decide_eq_false fun hh => ?_
      rw [List.take_of_length_le (i := 24) (by omega)] at hh
      exact burst (zs := (flipL (sealP (hdB n' k' c')) (A : Int) m).take 20) (hdB_in _ _ _) (fun x hx => hXin x (List.mem_of_mem_take hx)) rfl hX (by omega) hh.symm
    generalize flipL (sealP (hdB n' k' c')) (A : Int) m = X at hX hok hXl hXin ⊢
    have hne : ((baOf X).toList == (baOf (sealP (hdB n' k' c'))).toList) = false := by
      cases hb : ((baOf X).toList == (baOf (sealP (hdB n' k' c'))).toList) with
      | false => rfl
      | true => exact absurd (baOf_inj hXin hbin (eq_of_beq hb)) hX
    have hE : readE (okP X) X = 28 ∨ readE (okP X) X = 27 := by
      unfold readE
      rw [hok, decide_eq_false (by omega)]
      cases magicB X
      · exact .inr rfl
      · exact .inl rfl
    have hz : ∀ v, rdZ (okP X) X v = 0 := fun v => by
      unfold rdZ
      rcases hE with h | h <;> rw [h] <;> rfl
    rw [br_neg hne, hz, hz, hz]
    have : (readE (okP X) X != 0) = true := by rcases hE with h | h <;> rw [h] <;> rfl
    rw [br_pos this]
    rfl
theorem buWalk (n k c a m : Int) (hn : (Lit.int .u64 n).wf = true) (hk : (Lit.int .u16 k).wf = true) (hc : (Lit.int .u32 c).wf = true) (ha : (Lit.int .u8 a).wf = true) (w : World) :
    Calls Go.Proofs.Try.prog 5 #[.int .u64 n, .int .u16 k, .int .u32 c, .int .u8 a, .int .u32 m] w fun e w' => e = .returned (.bool true) ∧ Below w.heap.size w w' := by
  have hk' : 0 ≤ k ∧ k ≤ 65535 := by simpa [Lit.wf, IntKind.min, IntKind.max, IntKind.signed, IntKind.bits] using hk
  obtain ⟨j, hj⟩ := buCall (m := m) (wf_u64 hn) hk' (wf_u32 hc) (wf_u8 ha)
  exact law_of (V := VH) (bx := []) mix (sokH _ rfl rfl) (M := fun _ _ => none) (fun _ _ _ h => by simp at h) (xs := [wS .u64 n, wS .u16 k, wS .u32 c, wS .u8 a, wS .u32 m]) ⟨⟨rfl, rfl⟩, ⟨rfl, rfl⟩, ⟨rfl, rfl⟩, ⟨rfl, rfl⟩, ⟨rfl, rfl⟩, trivial⟩ hj
end Go.Proofs.Ytmdhlmcoegghjaa.Hd
