/- What the functions come to, by the evaluator. Conditions: none; checked here. -/
import Derived.Test.YthiaaaedfidnjaaAjB
import Derived.Test.YthiaaaedfidnjaaAjA
set_option linter.unusedVariables false
set_option linter.unusedSimpArgs false

namespace Go.Proofs.Ythiaaaedfidnjaa.Aj
open Go Go.Proofs.Ythiaaaedfidnjaa.Am Go.RowKit
set_option linter.unusedVariables false
set_option linter.unusedSimpArgs false
set_option maxRecDepth 100000
/-! numbers come back from their bytes -/
theorem moreTab : ∀ k : Nat, k < 256 → w8 (BitVec.ofInt IntKind.u8.bits (k : Int) ||| BitVec.ofInt IntKind.u8.bits 128).toNat = ((k % 128 + 128 : Nat) : Int) :=
  fin_nat (p := fun k => w8 (BitVec.ofInt IntKind.u8.bits (k : Int) ||| BitVec.ofInt IntKind.u8.bits 128).toNat = ((k % 128 + 128 : Nat) : Int)) (by decide +kernel)
theorem lowTab : ∀ k : Nat, k < 256 → w8 (BitVec.ofInt IntKind.u8.bits (k : Int) &&& BitVec.ofInt IntKind.u8.bits 127).toNat = ((k % 128 : Nat) : Int) :=
  fin_nat (p := fun k => w8 (BitVec.ofInt IntKind.u8.bits (k : Int) &&& BitVec.ofInt IntKind.u8.bits 127).toNat = ((k % 128 : Nat) : Int)) (by decide +kernel)
theorem more_eq {v : Int} (h : 0 ≤ v) : more v = v % 128 + 128 := by
  have hv : w8 v = ((v % 256).toNat : Int) := by
    show IntKind.u8.wrap v = _
    rw [wu8_eq]; omega
  unfold more
  rw [hv, moreTab _ (by omega)]
  omega
theorem ofNat_or {a b i : Nat} (h : b < 2 ^ i) (h2 : 2 ^ i * a + b < 2 ^ 64) : (BitVec.ofInt IntKind.u64.bits (b : Int) ||| BitVec.ofInt IntKind.u64.bits ((2 ^ i * a : Nat) : Int)).toNat = 2 ^ i * a + b := by
  have e : ∀ x : Nat, x < 2 ^ 64 → (BitVec.ofInt IntKind.u64.bits (x : Int)).toNat = x := fun x hx => by
    show (BitVec.ofInt 64 (x : Int)).toNat = x
    rw [BitVec.ofInt_natCast, BitVec.toNat_ofNat]
    exact Nat.mod_eq_of_lt hx
  rw [BitVec.toNat_or, e b (by omega), e (2 ^ i * a) (by omega), Nat.or_comm, ← Nat.two_pow_add_eq_or_of_lt h]
/-- A byte more, put at its place. -/
theorem take7_eq {v c : Int} {i : Nat} (hi : i ≤ 4) (hv : 0 ≤ v) (hv2 : v < 2 ^ (7 * i)) (hc : 0 ≤ c) (hc2 : c < 256) : take7 v c i = v + (c % 128) * 2 ^ (7 * i) := by
  have hl : w8 (BitVec.ofInt IntKind.u8.bits c &&& BitVec.ofInt IntKind.u8.bits 127).toNat = c % 128 := by
    have := lowTab c.toNat (by omega)
    rw [show ((c.toNat : Nat) : Int) = c by omega] at this
    rw [this]
    omega
  have hp : min (IntKind.i64.wrap (7 * (i : Int))).toNat IntKind.u64.bits = 7 * i := by
    rw [w64_id (by omega) (by omega)]
    show min _ 64 = _
    omega
  unfold take7
  rw [hl, hp]
  have hm : 0 ≤ c % 128 ∧ c % 128 < 128 := by omega
  obtain ⟨a, ha⟩ : ∃ a : Nat, c % 128 = a := ⟨(c % 128).toNat, by omega⟩
  obtain ⟨b, hb⟩ : ∃ b : Nat, v = b := ⟨v.toNat, by omega⟩
  subst hb
  have ha2 : a < 128 := by omega
  have hb2 : b < 2 ^ (7 * i) := by exact_mod_cast hv2
  have hP : (2 : Nat) ^ (7 * i) ≤ 2 ^ 28 := Nat.pow_le_pow_right (by decide) (by omega)
  have hm1 : 2 ^ (7 * i) * a ≤ 2 ^ 28 * 127 := Nat.mul_le_mul hP (by omega)
  have h64 : 2 ^ (7 * i) * a + b < 2 ^ 64 := by
    have : (2:Nat) ^ 64 = 18446744073709551616 := by decide
    have : (2:Nat) ^ 28 = 268435456 := by decide
    omega
  have hs : (2:Nat) ^ 64 = 18446744073709551616 := by decide
  rw [ha, w64u_id (x := (a : Int)) (by omega) (by omega), show ((a : Int) * 2 ^ (7 * i)) = ((2 ^ (7 * i) * a : Nat) : Int) by push_cast; exact Int.mul_comm _ _]
  rw [w64u_id (x := ((2 ^ (7 * i) * a : Nat) : Int)) (by omega) (by omega)]
  rw [ofNat_or hb2 h64, w64u_id (by omega) (by omega)]
  omega
theorem pow_succ7 (i : Nat) : (2 : Int) ^ (7 * (i + 1)) = 128 * 2 ^ (7 * i) := by
  rw [show 7 * (i + 1) = 7 * i + 7 by omega, Int.pow_add, Int.mul_comm]
  rfl
theorem pow7_pos (i : Nat) : (0 : Int) < 2 ^ (7 * i) := Int.pow_pos (by decide)
theorem split7 (x P : Int) : x * P = x % 128 * P + x / 128 * (128 * P) := by
  rw [← Int.mul_assoc, ← Int.add_mul]
  congr 1
  omega
theorem takeR_putF : ∀ (n : Nat) (x v : Int) (i : Nat) (r : List Int), 0 ≤ x → x < 128 ^ (n + 1) → 0 ≤ v → v < 2 ^ (7 * i) → v + x * 2 ^ (7 * i) ≤ 4294967295 → (0 < i → 0 < x) →
    takeR 4294967295 (putF n x ++ r) i v = (v + x * 2 ^ (7 * i), ((i + (putF n x).length : Nat) : Int), 0)
  | n, x, v, i, r, hx, hxn, hv, hv2, hm, hi => by
    have hP := pow7_pos i
    have hi4 : i ≤ 4 := by
      by_cases h : 4 < i
      · have h1 := hi (by omega)
        have h2 : (2 : Int) ^ 35 ≤ 2 ^ (7 * i) := by exact_mod_cast Nat.pow_le_pow_right (n := 2) (by decide) (show 35 ≤ 7 * i by omega)
        have h3 : 1 * (2 : Int) ^ (7 * i) ≤ x * 2 ^ (7 * i) := Int.mul_le_mul_of_nonneg_right (by omega) (by omega)
        have h4 : (2 : Int) ^ 35 = 34359738368 := by decide
        omega
      · omega
    by_cases h128 : x ≥ 128
    · cases n with
      | zero => rw [show (128:Int) ^ (0 + 1) = 128 from rfl] at hxn; omega
      | succ n =>
        have e : putF (n + 1) x = more x :: putF n (x / 128) := by
          show (bif decide (x ≥ 128) then more x :: putF n (shr7 x) else [w8 x]) = _
          rw [decide_eq_true h128, shr7_eq]
          rfl
        have hmo := more_eq hx
        have hs := split7 x (2 ^ (7 * i))
        have ht : take7 v (more x) i = v + x % 128 * 2 ^ (7 * i) := by
          rw [take7_eq hi4 hv hv2 (by omega) (by omega), hmo]
          congr 2
          omega
        rw [e]
        show (bif (decide (i = 9) && decide (more x > 1)) || (decide (i > 0) && more x == 0) then _ else bif decide (more x ≥ 128) then takeR 4294967295 (putF n (x / 128) ++ r) (i + 1) (take7 v (more x) i) else _) = _
        have hz : (more x == 0) = false := by simp; omega
        rw [hz, show decide (i = 9) = false from decide_eq_false (by omega), decide_eq_true (show more x ≥ 128 by omega)]
        simp only [Bool.false_and, Bool.and_false, Bool.or_false, cond_false, cond_true]
        have hb : 0 ≤ x % 128 * 2 ^ (7 * i) := Int.mul_nonneg (by omega) (by omega)
        have hb2 : x % 128 * 2 ^ (7 * i) ≤ 127 * 2 ^ (7 * i) := Int.mul_le_mul_of_nonneg_right (by omega) (by omega)
        have hnn : 0 ≤ x / 128 * 2 ^ (7 * (i + 1)) := Int.mul_nonneg (by omega) (by rw [pow_succ7]; omega)
        rw [ht, takeR_putF n (x / 128) (v + x % 128 * 2 ^ (7 * i)) (i + 1) r (by omega) (by rw [Int.pow_succ] at hxn; omega) (by omega) (by rw [pow_succ7]; omega) (by rw [pow_succ7]; omega) (fun _ => by omega)]
        rw [pow_succ7]
        refine Prod.ext (by show v + x % 128 * 2 ^ (7 * i) + x / 128 * (128 * 2 ^ (7 * i)) = v + x * 2 ^ (7 * i); omega) (Prod.ext ?_ rfl)
        show ((i + 1 + (putF n (x / 128)).length : Nat) : Int) = ((i + (more x :: putF n (x / 128)).length : Nat) : Int)
        rw [List.length_cons]
        omega
    · have e : putF n x = [x] := by
        cases n with
        | zero => show [w8 x] = _; rw [w8_id hx (by omega)]
        | succ n =>
          show (bif decide (x ≥ 128) then more x :: putF n (shr7 x) else [w8 x]) = _
          rw [decide_eq_false h128, w8_id hx (by omega)]
          rfl
      rw [e]
      have ht : take7 v x i = v + x * 2 ^ (7 * i) := by
        rw [take7_eq hi4 hv hv2 hx (by omega)]
        congr 2
        omega
      show (bif (decide (i = 9) && decide (x > 1)) || (decide (i > 0) && x == 0) then _ else bif decide (x ≥ 128) then _ else bif decide (take7 v x i > 4294967295) then _ else (take7 v x i, (i : Int) + 1, (0 : Int))) = _
      have hz : (decide (i > 0) && x == 0) = false := by
        by_cases h : 0 < i
        · have := hi h
          rw [show (x == 0) = false by simp; omega, Bool.and_false]
        · rw [decide_eq_false h, Bool.false_and]
      rw [hz, show decide (i = 9) = false from decide_eq_false (by omega), decide_eq_false h128, ht, decide_eq_false (show ¬ (v + x * 2 ^ (7 * i) > 4294967295) by omega)]
      simp only [Bool.false_and, Bool.or_false, cond_false]
      rfl
theorem numT_put {v : Int} {r : List Int} (h : 0 ≤ v) (h2 : v ≤ 4294967295) : numT (putV v ++ r) = (v, ((putV v).length : Int), 0) := by
  have := takeR_putF 9 v 0 0 r h (Int.lt_of_le_of_lt h2 (by decide)) (by decide) (by decide) (by show 0 + v * 1 ≤ _; omega) (fun h => absurd h (by decide))
  unfold numT takeT
  show takeR 4294967295 (putF 9 v ++ r) 0 0 = _
  rw [this]
  refine Prod.ext (by show 0 + v * 1 = v; omega) (Prod.ext ?_ rfl)
  show ((0 + (putF 9 v).length : Nat) : Int) = ((putF 9 v).length : Int)
  omega
theorem numB_put {v : Int} {r : List Int} (h : 0 ≤ v) (h2 : v ≤ 4294967295) : numB (putV v ++ r) = r := by
  unfold numB
  rw [numT_put h h2]
  show (putV v ++ r).drop ((putV v).length : Int).toNat = r
  rw [Int.toNat_natCast, List.drop_left]
theorem numO_put {v : Int} {r : List Int} {o : Bool} (h : 0 ≤ v) (h2 : v ≤ 4294967295) : numO (putV v ++ r) o = o := by
  unfold numO
  rw [numT_put h h2]
  cases o <;> rfl
theorem putV_small {v : Int} (h : 0 ≤ v) (h2 : v < 128) : putV v = [v] := by
  show (bif decide (v ≥ 128) then more v :: putF 8 (shr7 v) else [w8 v]) = _
  rw [decide_eq_false (by omega), w8_id h (by omega)]
  rfl
theorem numT_small {v : Int} {r : List Int} (h : 0 ≤ v) (h2 : v < 128) : numT (v :: r) = (v, 1, 0) := by
  have := numT_put (v := v) (r := r) h (by omega)
  rw [putV_small h h2] at this
  exact this
theorem numB_small {v : Int} {r : List Int} (h : 0 ≤ v) (h2 : v < 128) : numB (v :: r) = r := by
  have := numB_put (v := v) (r := r) h (by omega)
  rw [putV_small h h2] at this
  exact this
theorem numO_small {v : Int} {r : List Int} {o : Bool} (h : 0 ≤ v) (h2 : v < 128) : numO (v :: r) o = o := by
  have := numO_put (v := v) (r := r) (o := o) h (by omega)
  rw [putV_small h h2] at this
  exact this
end Go.Proofs.Ythiaaaedfidnjaa.Aj

namespace Go.Proofs.Ythiaaaedfidnjaa.Aj
open Go Go.Proofs.Ythiaaaedfidnjaa.Am Go.RowKit
set_option linter.unusedVariables false
set_option linter.unusedSimpArgs false
set_option maxRecDepth 100000
/-! edges come back from their bytes -/
def edOk (e : Ed) : Prop := 0 ≤ e.1 ∧ e.1 < 4294967296 ∧ 0 ≤ e.2 ∧ e.2 < 4294967296
theorem less_le {a b : Ed} (h : lessE a b = true) : a.1 ≤ b.1 := by
  have h := of_decide_eq_true h
  by_cases hl : a.1 ≤ b.1
  · exact hl
  · exfalso
    have e : cmpE a b = 1 := by
      have : cmpI a.1 b.1 = 1 := by
        unfold cmpI
        rw [decide_eq_false (by omega), decide_eq_true (show a.1 > b.1 by omega)]
        rfl
      show (bif cmpI a.1 b.1 != 0 then cmpI a.1 b.1 else _) = 1
      rw [this]
      rfl
    omega
theorem ris_tail {e : Ed} {l : List Ed} (h : risB (e :: l) = true) : risB l = true ∧ ∀ e' l1, l = e' :: l1 → lessE e e' = true := by
  cases l with
  | nil => exact ⟨rfl, fun _ _ h => by cases h⟩
  | cons b r =>
    have h : (lessE e b && risB (b :: r)) = true := h
    rw [Bool.and_eq_true] at h
    exact ⟨h.2, fun _ _ he => by cases he; exact h.1⟩
theorem gap_eq {last : Int} {e : Ed} (h1 : 0 ≤ last) (h2 : last < e.2) (h3 : e.2 < 4294967296) : gap last e = e.2 - last - 1 := by
  unfold gap
  rw [w64u_id (x := e.2) (by omega) (by omega), w64u_id (x := e.2 - last) (by omega) (by omega), w64u_id (by omega) (by omega)]
theorem putVs1 (x : Int) (l : List Int) : putVs [x] ++ l = putV x ++ l := by
  show putV x ++ [] ++ l = _
  rw [List.append_nil]
theorem rowBack {u : Int} (hu : 0 ≤ u) (hu2 : u < 4294967296) : ∀ (l : List Ed) (last : Int) (r : List Int) (c : Nat) (r' : List Int) (c' : Nat) (l' : List Ed), rowI u l last r c = some (r', c', l') →
    (∀ e ∈ l, edOk e) → 0 ≤ last → risB l = true → (∀ e l1, l = e :: l1 → u ≤ e.1) → l.length ≤ 2000 →
    ∃ pre bs, l = pre ++ l' ∧ c' = c + pre.length ∧ r' = r ++ bs ∧ pre.length ≤ bs.length ∧ risB l' = true ∧ (∀ e l1, l' = e :: l1 → u < e.1) ∧
      ∀ n rest out f, pre.length + 1 ≤ f → (∀ e ∈ pre, e.2 < n) → edI n u f last (pre.length : Int) (bs ++ rest) true out = (out ++ pre, rest, true)
  | [], last, r, c, r', c', l', h, hok, hl, hr, hh, hn => by
    cases h
    refine ⟨[], [], rfl, rfl, by simp, Nat.le_refl _, rfl, (fun _ _ h => by cases h), fun n rest out f hf _ => ?_⟩
    cases f with
    | zero => simp at hf
    | succ f => simp [edI]
  | e :: l, last, r, c, r', c', l', h, hok, hl, hr, hh, hn => by
    unfold rowI at h
    cases h1 : (e.1 == u) with
    | false =>
      rw [h1] at h
      cases h
      refine ⟨[], [], rfl, rfl, by simp, Nat.le_refl _, hr, fun e' l1 he => ?_, fun n rest out f hf _ => ?_⟩
      · cases he
        have := hh _ _ rfl
        have : e.1 ≠ u := by simpa using h1
        omega
      · cases f with
        | zero => simp at hf
        | succ f => simp [edI]
    | true =>
      rw [h1] at h
      have hu' : e.1 = u := eq_of_beq h1
      have hek := hok e (by simp)
      obtain ⟨_, _, he1, he2⟩ := hek
      have hw : w64u e.2 = e.2 := w64u_id he1 (by omega)
      cases h2 : decide (w64u e.2 ≤ last) with
      | true => rw [h2] at h; cases h
      | false =>
        rw [h2] at h
        have hlt := of_decide_eq_false h2
        rw [hw] at hlt
        have hr2 := ris_tail hr
        have h : rowI u l (w64u e.2) (r ++ putVs [gap last e]) (c + 1) = some (r', c', l') := h
        rw [hw] at h
        obtain ⟨pre, bs, g1, g2, g3, g4, g5, g6, g7⟩ := rowBack hu hu2 l e.2 _ _ r' c' l' h (fun x hx => hok x (by simp [hx])) he1 hr2.1 (fun e' l1 he => by have := less_le (hr2.2 e' l1 he); omega) (by simp at hn; omega)
        have hg := gap_eq hl (show last < e.2 by omega) he2
        refine ⟨e :: pre, putV (gap last e) ++ bs, by rw [g1]; rfl, by rw [List.length_cons]; omega, by rw [g3, List.append_assoc, putVs1], ?_, g5, g6, fun n rest out f hf hpn => ?_⟩
        · obtain ⟨y, t, hy⟩ := putV_ne (gap last e)
          rw [hy]
          simp
          omega
        · cases f with
          | zero => simp at hf
          | succ f =>
            have hplen : pre.length ≤ 2000 := by
              have := congrArg List.length g1
              rw [List.length_append] at this
              simp at hn
              omega
            rw [List.append_assoc]
            unfold edI
            have hT := numT_put (v := gap last e) (r := bs ++ rest) (by omega) (by omega)
            have hB := numB_put (v := gap last e) (r := bs ++ rest) (by omega) (by omega)
            have hO := numO_put (v := gap last e) (r := bs ++ rest) (o := true) (by omega) (by omega)
            have hL : edL last (putV (gap last e) ++ (bs ++ rest)) = e.2 := by
              unfold edL
              rw [hT]
              show w64u (last + w64u (gap last e + 1)) = _
              rw [hg, w64u_id (x := e.2 - last - 1 + 1) (by omega) (by omega), w64u_id (by omega) (by omega)]
              omega
            have hG : edG n last (putV (gap last e) ++ (bs ++ rest)) true = true := by
              unfold edG
              rw [hO, hL, decide_eq_true (hpn e (by simp)), decide_eq_true (show e.2 ≤ 4294967295 by omega)]
              rfl
            rw [hB, hL, hG, show decide (((e :: pre).length : Int) > 0) = true from decide_eq_true (by rw [List.length_cons]; omega)]
            simp only [Bool.and_self, cond_true]
            rw [show w64u (((e :: pre).length : Int) - 1) = (pre.length : Int) by rw [List.length_cons, w64u_id (by omega) (by omega)]; omega, w32_id hu hu2, w32_id he1 he2, g7 n rest _ f (by simp at hf; omega) (fun x hx => hpn x (by simp [hx]))]
            rw [List.append_assoc]
            congr 2
            rw [← hu']
            rfl
theorem outBack : ∀ (f : Nat) (l : List Ed) (nx many : Int) (o : List Int) (m' : Int) (o' : List Int), putO f l nx many o = some (m', o') → (∀ e ∈ l, edOk e) → risB l = true → 0 ≤ nx → (∀ e l1, l = e :: l1 → nx ≤ e.1) → l.length ≤ 2000 → 0 ≤ many → many + l.length ≤ 1000000 →
    ∃ (k : Nat) (bs : List Int), m' = many + k ∧ k ≤ l.length ∧ k ≤ bs.length ∧ o' = o ++ bs ∧
      ∀ n rest out F, k + 1 ≤ F → (∀ e ∈ l, e.2 < n) → edO n F nx k (bs ++ rest) true out = (out ++ l, rest, true)
  | 0, l, nx, many, o, m', o', h, _, _, _, _, _, _, _ => by cases h
  | f + 1, [], nx, many, o, m', o', h, _, _, _, _, _, _, _ => by
    cases h
    refine ⟨0, [], by omega, Nat.zero_le _, Nat.zero_le _, by simp, fun n rest out F hF _ => ?_⟩
    cases F with
    | zero => simp at hF
    | succ F => simp [edO]
  | f + 1, e :: l, nx, many, o, m', o', h, hok, hr, hnx, hh, hn, hm, hm2 => by
    obtain ⟨hu, hu2, he1, he2⟩ := hok e (by simp)
    have hnu := hh e l rfl
    have hw : w64u e.1 = e.1 := w64u_id hu (by omega)
    unfold putO at h
    split at h
    · cases h
    · rename_i r c l' hrow
      rw [hw] at hrow h
      obtain ⟨pre, bs, g1, g2, g3, g4, g5, g6, g7⟩ := rowBack hu hu2 (e :: l) e.1 [] 0 r c l' hrow hok hu hr (fun e' l1 he => by cases he; exact Int.le_refl _) hn
      obtain ⟨a, b, hab, hb⟩ := rowI_one hrow rfl
      have hc : 0 + 1 ≤ c := (rowI_mono hab).1
      have hpre : pre.length = c := by omega
      have hlen := congrArg List.length g1
      rw [List.length_append] at hlen
      have hn' : (e :: l).length ≤ 2000 := hn
      rw [w64u_id (x := e.1 + 1) (by omega) (by omega), w64u_id (x := many + 1) (by omega) (by omega), w64u_id (x := e.1 - nx) (by omega) (by omega), w64u_id (x := (c : Int)) (by omega) (by omega)] at h
      obtain ⟨k, bs', q1, q2, q3, q4, q5⟩ := outBack f l' (e.1 + 1) (many + 1) _ m' o' h (fun x hx => hok x (by rw [g1]; simp [hx])) g5 (by omega) (fun e' l1 he => by have := g6 e' l1 he; omega) (by omega) (by omega) (by omega)
      refine ⟨k + 1, putV (e.1 - nx) ++ (putV (c : Int) ++ (bs ++ bs')), by omega, by omega, ?_, ?_, fun n rest out F hF hpn => ?_⟩
      · obtain ⟨y, t, hy⟩ := putV_ne (e.1 - nx)
        rw [hy]
        simp
        omega
      · rw [q4, g3]
        show o ++ (putV (e.1 - nx) ++ (putV (c : Int) ++ [])) ++ ([] ++ bs) ++ bs' = _
        simp [List.append_assoc]
      · cases F with
        | zero => simp at hF
        | succ F =>
          unfold edO
          have eb : putV (e.1 - nx) ++ (putV (c : Int) ++ (bs ++ bs')) ++ rest = putV (e.1 - nx) ++ (putV (c : Int) ++ (bs ++ (bs' ++ rest))) := by simp [List.append_assoc]
          rw [eb]
          rw [numT_put (v := e.1 - nx) (by omega) (by omega), numB_put (v := e.1 - nx) (by omega) (by omega), numO_put (v := e.1 - nx) (by omega) (by omega), numT_put (v := (c : Int)) (by omega) (by omega), numB_put (v := (c : Int)) (by omega) (by omega), numO_put (v := (c : Int)) (by omega) (by omega)]
          rw [show decide (((k + 1 : Nat) : Int) > 0) = true from decide_eq_true (by omega)]
          simp only [Bool.and_self, cond_true]
          rw [show nx + (e.1 - nx) = e.1 by omega, hw, w64u_id (x := e.1 + 1) (by omega) (by omega), show w64u (((k + 1 : Nat) : Int) - 1) = (k : Int) by rw [w64u_id (by omega) (by omega)]; omega]
          rw [← hpre]
          rw [g7 n (bs' ++ rest) out _ (by rw [List.length_append]; omega) (fun x hx => hpn x (by rw [g1]; simp [hx]))]
          rw [q5 n rest _ F (by omega) (fun x hx => hpn x (by rw [g1]; simp [hx]))]
          rw [g1, List.append_assoc]
theorem edBack {l : List Ed} {b : List Int} {n : Int} (h : putT l = some b) (hok : ∀ e ∈ l, edOk e) (hn : l.length ≤ 2000) (hv : ∀ e ∈ l, e.2 < n) : edT n b true = (l, [], true) := by
  unfold putT at h
  cases hs : risB l with
  | false => rw [hs] at h; cases h
  | true =>
    rw [hs] at h
    simp only [cond_true] at h
    split at h
    · cases h
    · rename_i m o ho
      cases h
      obtain ⟨k, bs, q1, q2, q3, q4, q5⟩ := outBack _ l 0 0 [] m o ho hok hs (by decide) (fun e l1 he => (hok e (by rw [he]; simp)).1) hn (by decide) (by omega)
      obtain rfl : m = (k : Int) := by omega
      unfold edT
      rw [putVs1, numT_put (by omega) (by omega), numB_put (by omega) (by omega), numO_put (by omega) (by omega), q4]
      have := q5 n [] [] (bs.length + 2) (by omega) hv
      rw [List.append_nil] at this
      exact this
theorem readBack {l : List Ed} {b : List Int} {n : Int} (h : putT l = some b) (hok : ∀ e ∈ l, edOk e) (hn : l.length ≤ 2000) (hv : ∀ e ∈ l, e.2 < n) : readOk n b = true := by
  unfold readOk
  rw [edBack h hok hn hv]
  have e : putB l = b := by unfold putB; rw [h]; rfl
  show (true && ((putT l).isSome && (baOf (putB l)).toList == (baOf b).toList)) = true
  rw [e, h, beq_self_eq_true]
  rfl
/-- As many edges as bytes, at most. -/
theorem edI_out {n u : Int} : ∀ (f : Nat) (last k : Int) (b : List Int) (o : Bool) (out : List Ed), (edI n u f last k b o out).1.length + (edI n u f last k b o out).2.1.length ≤ out.length + b.length
  | 0, _, _, _, _, _ => Nat.le_refl _
  | f + 1, last, k, b, o, out => by
    unfold edI
    cases (decide (k > 0) && o) with
    | false => exact Nat.le_refl _
    | true =>
      have h1 := edI_out (n := n) (u := u) f (edL last b) (w64u (k - 1)) (numB b) (edG n last b o) (bif edG n last b o then out ++ [(w32 u, w32 (edL last b))] else out)
      refine Nat.le_trans h1 ?_
      have h3 := numB_len b
      cases hg : edG n last b o with
      | true =>
        have := numB_less (edG_num hg)
        show (out ++ [_]).length + _ ≤ _
        rw [List.length_append]
        show out.length + 1 + _ ≤ _
        omega
      | false => show out.length + _ ≤ _; omega
theorem edO_out {n : Int} : ∀ (f : Nat) (nx many : Int) (b : List Int) (o : Bool) (out : List Ed), (edO n f nx many b o out).1.length + (edO n f nx many b o out).2.1.length ≤ out.length + b.length
  | 0, _, _, _, _, _ => Nat.le_refl _
  | f + 1, nx, many, b, o, out => by
    unfold edO
    cases (decide (many > 0) && o) with
    | false => exact Nat.le_refl _
    | true =>
      simp only [cond_true]
      have h1 := edI_out (n := n) (u := w64u (nx + (numT b).1)) ((numB (numB b)).length + 2) (w64u (nx + (numT b).1)) (numT (numB b)).1 (numB (numB b)) (numO (numB b) (numO b o)) out
      generalize edI n (w64u (nx + (numT b).1)) ((numB (numB b)).length + 2) (w64u (nx + (numT b).1)) (numT (numB b)).1 (numB (numB b)) (numO (numB b) (numO b o)) out = t at h1
      have h2 := edO_out (n := n) f (w64u (w64u (nx + (numT b).1) + 1)) (w64u (many - 1)) t.2.1 t.2.2 t.1
      have h3 := numB_len b
      have h4 := numB_len (numB b)
      omega
theorem edT_out (n : Int) (b : List Int) (o : Bool) : (edT n b o).1.length ≤ b.length := by
  have h := edO_out (n := n) ((numB b).length + 2) 0 (numT b).1 (numB b) (numO b o) []
  have h3 := numB_len b
  unfold edT
  simp at h
  omega
end Go.Proofs.Ythiaaaedfidnjaa.Aj

namespace Go.Proofs.Ythiaaaedfidnjaa.Aj
open Go Go.Proofs.Ythiaaaedfidnjaa.Am Go.RowKit
set_option linter.unusedVariables false
set_option linter.unusedSimpArgs false
set_option maxRecDepth 100000
/-! strange bytes -/
theorem edO_stop {n : Int} {f : Nat} {nx : Int} {b : List Int} {o : Bool} {out : List Ed} : edO n f nx 0 b o out = (out, b, o) := by
  cases f with
  | zero => rfl
  | succ f => simp [edO]
theorem edO_no {n : Int} {f : Nat} {nx many : Int} {b : List Int} {out : List Ed} : edO n f nx many b false out = (out, b, false) := by
  cases f with
  | zero => rfl
  | succ f => simp [edO]
theorem edI_stop {n u : Int} {f : Nat} {last : Int} {b : List Int} {o : Bool} {out : List Ed} : edI n u f last 0 b o out = (out, b, o) := by
  cases f with
  | zero => rfl
  | succ f => simp [edI]
theorem edI_no {n u : Int} {f : Nat} {last k : Int} {b : List Int} {out : List Ed} : edI n u f last k b false out = (out, b, false) := by
  cases f with
  | zero => rfl
  | succ f => simp [edI]
theorem numT_nil : numT [] = (0, 0, 20) := rfl
theorem strRow {n u v m : Int} {r : List Int} {f : Nat} {o : List Ed} (hu : 0 ≤ u) (hu2 : u < 60) (hv : 0 ≤ v) (hv2 : v < 60) :
    edI n u (f + 2) u 1 (v :: r) true o = (bif decide (u + v + 1 < n) then (o ++ [(u, u + v + 1)], r, true) else (o, r, false)) := by
  have hL : edL u (v :: r) = u + v + 1 := by
    unfold edL
    rw [numT_small hv (by omega)]
    show w64u (u + w64u (v + 1)) = _
    rw [w64u_id (x := v + 1) (by omega) (by omega), w64u_id (by omega) (by omega)]
    omega
  have hG : edG n u (v :: r) true = decide (u + v + 1 < n) := by
    unfold edG
    rw [numO_small hv (by omega), hL, decide_eq_true (show u + v + 1 ≤ 4294967295 by omega)]
    cases decide (u + v + 1 < n) <;> rfl
  unfold edI
  rw [hL, hG, numB_small hv (by omega)]
  rw [show w64u (1 - 1) = 0 from rfl, edI_stop, w32_id hu (by omega), w32_id (x := u + v + 1) (by omega) (by omega)]
  cases decide (u + v + 1 < n) <;> rfl
theorem edO_go {n nx many : Int} {f : Nat} {b : List Int} {o : Bool} {out : List Ed} {t : List Ed × List Int × Bool} (h : (decide (many > 0) && o) = true)
    (ht : edI n (w64u (nx + (numT b).1)) ((numB (numB b)).length + 2) (w64u (nx + (numT b).1)) (numT (numB b)).1 (numB (numB b)) (numO (numB b) (numO b o)) out = t) :
    edO n (f + 1) nx many b o out = edO n f (w64u (w64u (nx + (numT b).1) + 1)) (w64u (many - 1)) t.2.1 t.2.2 t.1 := by
  subst ht
  rw [edO, h]
  rfl
theorem strOut {n u v many : Int} {r : List Int} {f : Nat} (hm : many > 0) (hu : 0 ≤ u) (hu2 : u < 60) (hv : 0 ≤ v) (hv2 : v < 60) :
    edO n (f + 1) 0 many (u :: 1 :: v :: r) true [] = (bif decide (u + v + 1 < n) then edO n f (u + 1) (w64u (many - 1)) r true [(u, u + v + 1)] else ([], r, false)) := by
  have e1 := numT_small (v := u) (r := 1 :: v :: r) hu (by omega)
  have e2 := numB_small (v := u) (r := 1 :: v :: r) hu (by omega)
  have e3 := numO_small (v := u) (r := 1 :: v :: r) (o := true) hu (by omega)
  have f1 := numT_small (v := 1) (r := v :: r) (by decide) (by decide)
  have f2 := numB_small (v := 1) (r := v :: r) (by decide) (by decide)
  have f3 := numO_small (v := 1) (r := v :: r) (o := true) (by decide) (by decide)
  have hz : w64u (0 + u) = u := by rw [Int.zero_add]; exact w64u_id hu (by omega)
  rw [edO_go (t := bif decide (u + v + 1 < n) then ([(u, u + v + 1)], r, true) else ([], r, false)) (by rw [decide_eq_true hm]; rfl) (by rw [e1, e2, e3, f1, f2, f3, hz]; exact strRow hu hu2 hv hv2 (m := 0)), e1, hz, w64u_id (x := u + 1) (by omega) (by omega)]
  cases decide (u + v + 1 < n) with
  | true => rfl
  | false => exact edO_no
theorem edT_put {n m : Int} {r : List Int} (h : 0 ≤ m) (h2 : m < 128) : edT n (m :: r) true = edO n (r.length + 2) 0 m r true [] := by
  unfold edT
  rw [numT_small h h2, numB_small h h2, numO_small h h2]
theorem strOk {n u v : Int} (hu : 0 ≤ u) (hu2 : u < 60) (hv : 0 ≤ v) (hv2 : v < 60) :
    edT n [1, u, 1, v] true = (bif decide (u + v + 1 < n) then ([(u, u + v + 1)], [], true) else ([], [], false)) := by
  rw [edT_put (by decide) (by decide)]
  show edO n (4 + 1) 0 1 _ true [] = _
  rw [strOut (by decide) hu hu2 hv hv2, show w64u (1 - 1) = 0 from rfl, edO_stop]
theorem strB1 {n u : Int} (hu : 0 ≤ u) (hu2 : u < 60) : edT n [1, u, 0] true = ([], [], true) := by
  rw [edT_put (by decide) (by decide)]
  have e1 := numT_small (v := u) (r := [0]) hu (by omega)
  have e2 := numB_small (v := u) (r := [0]) hu (by omega)
  have e3 := numO_small (v := u) (r := [0]) (o := true) hu (by omega)
  have f1 := numT_small (v := 0) (r := []) (by decide) (by decide)
  have f2 := numB_small (v := 0) (r := []) (by decide) (by decide)
  have f3 := numO_small (v := 0) (r := []) (o := true) (by decide) (by decide)
  show edO n (3 + 1) 0 1 [u, 0] true [] = _
  rw [edO_go (t := ([], [], true)) rfl (by rw [e2, e3, f1, f2, f3]; exact edI_stop), show w64u (1 - 1) = 0 from rfl, edO_stop]
theorem strB2 {n u v : Int} (hu : 0 ≤ u) (hu2 : u < 60) (hv : 0 ≤ v) (hv2 : v < 60) : (edT n [2, u, 1, v] true).2.2 = false := by
  rw [edT_put (by decide) (by decide)]
  show (edO n (4 + 1) 0 2 _ true []).2.2 = _
  rw [strOut (by decide) hu hu2 hv hv2, show w64u (2 - 1) = 1 from rfl]
  cases decide (u + v + 1 < n) with
  | false => rfl
  | true =>
    show (edO n (3 + 1) (u + 1) 1 [] true [(u, u + v + 1)]).2.2 = false
    have h1 : numO [] true = false := rfl
    have h2 : numB [] = [] := rfl
    rw [edO_go (t := ([(u, u + v + 1)], [], false)) rfl (by rw [h1, h2, show numO [] false = false from rfl]; exact edI_no), edO_no]
theorem strB3 {n u : Int} (hu : 0 ≤ u) (hu2 : u < 60) : edT n [0, u] true = ([], [u], true) := by
  rw [edT_put (by decide) (by decide), edO_stop]
theorem numT_bad {u : Int} {r : List Int} (hu : 128 ≤ u) (hu2 : u < 256) : numT (u :: 0 :: r) = (0, 0, 21) := by
  unfold numT takeT
  show (bif (decide (0 = 9) && decide (u > 1)) || (decide (0 > 0) && u == 0) then ((0, 0, 21) : Int × Int × Int) else
    bif decide (u ≥ 128) then takeR 4294967295 (0 :: r) (0 + 1) (take7 0 u ((0 : Nat) : Int)) else _) = _
  rw [decide_eq_true (show u ≥ 128 by omega)]
  rfl
theorem strB4 {n u : Int} {r : List Int} (hu : 128 ≤ u) (hu2 : u < 256) : (edT n (1 :: u :: 0 :: r) true).2.2 = false := by
  rw [edT_put (by decide) (by decide)]
  show (edO n ((u :: 0 :: r).length + 1 + 1) 0 1 (u :: 0 :: r) true []).2.2 = false
  have h1 : numO (u :: 0 :: r) true = false := by
    unfold numO
    rw [numT_bad hu hu2]
    rfl
  rw [edO_go (t := ([], numB (numB (u :: 0 :: r)), false)) rfl (by rw [h1, show ∀ b, numO b false = false from fun _ => rfl]; exact edI_no), edO_no]
theorem putT_nil : putT [] = some [0] := by decide +kernel
theorem putT_one {u v : Int} (hu : 0 ≤ u) (hu2 : u < 60) (hv : 0 ≤ v) (hv2 : v < 60) : putT [(u, u + v + 1)] = some [1, u, 1, v] := by
  have hg := gap_eq (last := u) (e := (u, u + v + 1)) hu (by show u < u + v + 1; omega) (by show u + v + 1 < _; omega)
  have hr : rowI u [(u, u + v + 1)] (w64u u) [] 0 = some ([v], 1, []) := by
    rw [w64u_id hu (by omega)]
    unfold rowI
    show (bif u == u then (bif decide (w64u (u + v + 1) ≤ u) then none else some ([] ++ putVs [gap u (u, u + v + 1)], 0 + 1, ([] : List Ed))) else _) = _
    rw [w64u_id (x := u + v + 1) (by omega) (by omega), decide_eq_false (show ¬ u + v + 1 ≤ u by omega), beq_self_eq_true, hg, show u + v + 1 - u - 1 = v by omega]
    show some (putV v ++ [], _, _) = _
    rw [putV_small hv (by omega)]
    rfl
  show (match putO 2 [(u, u + v + 1)] 0 0 [] with | none => none | some (m, o) => some (putVs [m] ++ o)) = _
  unfold putO
  rw [show rowI (u, u + v + 1).1 [(u, u + v + 1)] (w64u (u, u + v + 1).1) [] 0 = some ([v], 1, []) from hr]
  show some (putVs [w64u (0 + 1)] ++ ([] ++ (putV (w64u (w64u u - 0)) ++ (putV (w64u ((1 : Nat) : Int)) ++ [])) ++ [v])) = _
  rw [w64u_id (x := u) hu (by omega), Int.sub_zero, w64u_id (x := u) hu (by omega), putV_small hu (by omega)]
  rfl
end Go.Proofs.Ythiaaaedfidnjaa.Aj

namespace Go.Proofs.Ythiaaaedfidnjaa.Aj
open Go Go.Proofs.Ythiaaaedfidnjaa.Am Go.RowKit
set_option linter.unusedVariables false
set_option linter.unusedSimpArgs false
set_option maxRecDepth 100000
/-! edges near one another -/
theorem lessE_eq (a b : Ed) : lessE a b = lessR a b := by
  obtain ⟨a1, a2⟩ := a
  obtain ⟨b1, b2⟩ := b
  have hc : ∀ x y : Int, (x < y ∧ cmpI x y = -1) ∨ (x = y ∧ cmpI x y = 0) ∨ (x > y ∧ cmpI x y = 1) := fun x y => by
    unfold cmpI
    by_cases h1 : x < y
    · exact .inl ⟨h1, by rw [decide_eq_true h1]; rfl⟩
    · rw [decide_eq_false h1]
      by_cases h2 : x > y
      · exact .inr (.inr ⟨h2, by rw [decide_eq_true h2]; rfl⟩)
      · exact .inr (.inl ⟨by omega, by rw [decide_eq_false h2]; rfl⟩)
  show decide ((bif cmpI a1 b1 != 0 then cmpI a1 b1 else bif cmpI a2 b2 != 0 then cmpI a2 b2 else 0) < 0) = (decide (a1 < b1) || (a1 == b1 && decide (a2 < b2)))
  rcases hc a1 b1 with ⟨h, e⟩ | ⟨h, e⟩ | ⟨h, e⟩
  · rw [e, decide_eq_true h]; rfl
  · rw [e, decide_eq_false (show ¬ a1 < b1 by omega), h, beq_self_eq_true]
    rcases hc a2 b2 with ⟨h, e⟩ | ⟨h, e⟩ | ⟨h, e⟩
    · rw [e, decide_eq_true h]; rfl
    · rw [e, decide_eq_false (show ¬ a2 < b2 by omega)]; rfl
    · rw [e, decide_eq_false (show ¬ a2 < b2 by omega)]; rfl
  · rw [e, decide_eq_false (show ¬ a1 < b1 by omega), show (a1 == b1) = false by simp; omega]; rfl
def szE (star : Bool) (u : Int) (j : Nat) : Ed := bif star then (u, u + 1 + j) else (u + j, u + j + 1)
def szL (star : Bool) (u : Int) : Nat → Nat → List Ed
  | _, 0 => []
  | j, d + 1 => szE star u j :: szL star u (j + 1) d
theorem szL_len {star : Bool} {u : Int} : ∀ d j, (szL star u j d).length = d
  | 0, _ => rfl
  | d + 1, j => by show (szL star u (j + 1) d).length + 1 = _; rw [szL_len d]
theorem szL_snoc {star : Bool} {u : Int} : ∀ d j, szL star u j (d + 1) = szL star u j d ++ [szE star u (j + d)]
  | 0, j => rfl
  | d + 1, j => by
    show szE star u j :: szL star u (j + 1) (d + 1) = szE star u j :: (szL star u (j + 1) d ++ [szE star u (j + (d + 1))])
    rw [szL_snoc d, show j + 1 + d = j + (d + 1) by omega]
theorem szL_nth {star : Bool} {u : Int} : ∀ d j i, i < d → nth eE (szL star u j d) i = szE star u (j + i)
  | d + 1, j, 0, _ => rfl
  | d + 1, j, i + 1, h => by
    show nth eE (szL star u (j + 1) d) i = _
    rw [szL_nth d (j + 1) i (by omega), show j + 1 + i = j + (i + 1) by omega]
theorem szL_mem {star : Bool} {u : Int} : ∀ d j e, e ∈ szL star u j d → ∃ i, j ≤ i ∧ i < j + d ∧ e = szE star u i
  | d + 1, j, e, h => by
    rcases List.mem_cons.1 h with rfl | h
    · exact ⟨j, by omega, by omega, rfl⟩
    · obtain ⟨i, h1, h2, h3⟩ := szL_mem d (j + 1) e h
      exact ⟨i, by omega, by omega, h3⟩
theorem szE_less {star : Bool} {u : Int} {i j : Nat} : lessE (szE star u i) (szE star u j) = decide (i < j) := by
  rw [lessE_eq]
  unfold lessR szE
  cases star
  · show (decide (u + i < u + j) || ((u + i == u + j) && decide (u + i + 1 < u + j + 1))) = _
    by_cases h : i < j
    · rw [decide_eq_true h, decide_eq_true (show u + (i : Int) < u + j by omega)]; rfl
    · rw [decide_eq_false h, decide_eq_false (show ¬ u + (i : Int) < u + j by omega), decide_eq_false (show ¬ u + (i : Int) + 1 < u + j + 1 by omega), Bool.and_false]; rfl
  · show (decide (u < u) || (u == u && decide (u + 1 + i < u + 1 + j))) = _
    rw [decide_eq_false (show ¬ u < u by omega), beq_self_eq_true]
    by_cases h : i < j
    · rw [decide_eq_true h, decide_eq_true (show u + 1 + (i : Int) < u + 1 + j by omega)]; rfl
    · rw [decide_eq_false h, decide_eq_false (show ¬ u + 1 + (i : Int) < u + 1 + j by omega)]; rfl
theorem szL_ris {star : Bool} {u : Int} : ∀ d j, risB (szL star u j d) = true
  | 0, _ => rfl
  | 1, _ => rfl
  | d + 2, j => by
    show (lessE (szE star u j) (szE star u (j + 1)) && risB (szL star u (j + 1) (d + 1))) = true
    rw [szE_less, szL_ris (d + 1), decide_eq_true (by omega)]
    rfl
theorem szL_bad {star : Bool} {u : Int} {i : Nat} : ∀ d j, i ≤ j + d → risB (szL star u j (d + 1) ++ [szE star u i]) = false
  | 0, j, h => by
    show (lessE (szE star u j) (szE star u i) && true) = false
    rw [szE_less, decide_eq_false (by omega)]
    rfl
  | d + 1, j, h => by
    show (lessE (szE star u j) (szE star u (j + 1)) && risB (szL star u (j + 1) (d + 1) ++ [szE star u i])) = false
    rw [szL_bad d (j + 1) (by omega), Bool.and_false]
theorem putV0 : putV 0 = [0] := putV_small (by decide) (by decide)
theorem szRowT {u : Int} (hu : 0 ≤ u) (hu2 : u < 2147483648) : ∀ (d j : Nat) (r : List Int) (c : Nat), j + d ≤ 1000 → rowI u (szL true u j d) (u + j) r c = some (r ++ List.replicate d 0, c + d, [])
  | 0, j, r, c, h => by simp [szL, rowI]
  | d + 1, j, r, c, h => by
    show (bif u == u then (bif decide (w64u (u + 1 + j) ≤ u + j) then none else rowI u (szL true u (j + 1) d) (w64u (u + 1 + j)) (r ++ putVs [gap (u + j) (u, u + 1 + j)]) (c + 1)) else _) = _
    have hw : w64u (u + 1 + j) = u + 1 + j := w64u_id (by omega) (by omega)
    have hg := gap_eq (last := u + j) (e := (u, u + 1 + j)) (by omega) (by show u + (j : Int) < u + 1 + j; omega) (by show u + 1 + (j : Int) < _; omega)
    have hg : gap (u + j) (u, u + 1 + j) = 0 := by rw [hg]; show u + 1 + (j : Int) - (u + j) - 1 = 0; omega
    rw [beq_self_eq_true, hw, decide_eq_false (by omega), hg]
    simp only [cond_true, cond_false]
    have := szRowT hu hu2 d (j + 1) (r ++ putVs [0]) (c + 1) (by omega)
    rw [show u + 1 + (j : Int) = u + ((j + 1 : Nat) : Int) by omega, this]
    show some (r ++ (putV 0 ++ []) ++ List.replicate d 0, c + 1 + d, []) = _
    rw [putV0]
    simp [List.replicate_succ]
    omega
theorem szRowF {u : Int} (hu : 0 ≤ u) (hu2 : u < 2147483648) (d j : Nat) (h : j + d ≤ 1000) : rowI (u + j) (szL false u j (d + 1)) (w64u (u + j)) [] 0 = some ([0], 1, szL false u (j + 1) d) := by
  have hw0 : w64u (u + j) = u + j := w64u_id (by omega) (by omega)
  have hw : w64u (u + j + 1) = u + j + 1 := w64u_id (by omega) (by omega)
  have hg := gap_eq (last := u + j) (e := (u + j, u + j + 1)) (by omega) (by show u + (j : Int) < u + j + 1; omega) (by show u + (j : Int) + 1 < _; omega)
  have hg : gap (u + j) (u + j, u + j + 1) = 0 := by rw [hg]; show u + (j : Int) + 1 - (u + j) - 1 = 0; omega
  rw [hw0]
  show (bif u + (j : Int) == u + j then (bif decide (w64u (u + j + 1) ≤ u + j) then none else rowI (u + j) (szL false u (j + 1) d) (w64u (u + j + 1)) ([] ++ putVs [gap (u + j) (u + j, u + j + 1)]) (0 + 1)) else _) = _
  rw [beq_self_eq_true, hw, decide_eq_false (by omega), hg]
  simp only [cond_true, cond_false]
  have e0 : ([] : List Int) ++ putVs [0] = [0] := by show [] ++ (putV 0 ++ []) = _; rw [putV0]; rfl
  rw [e0]
  cases d with
  | zero => rfl
  | succ d =>
    show (bif (u + ((j + 1 : Nat) : Int) == u + j) then _ else some ([0], 0 + 1, szL false u (j + 1) (d + 1))) = _
    rw [show (u + ((j + 1 : Nat) : Int) == u + j) = false by simp; omega]
    rfl
theorem szPutF {u : Int} (hu : 0 ≤ u) (hu2 : u < 2147483648) : ∀ (d j f : Nat) (many : Int) (o : List Int), j + d ≤ 1000 → d < f → 0 ≤ many → many + d ≤ 1000 →
    ∃ o', putO f (szL false u j d) (u + j) many o = some (many + d, o') ∧ o'.length = o.length + 3 * d
  | d, j, 0, many, o, _, h, _, _ => absurd h (by omega)
  | 0, j, f + 1, many, o, _, _, _, _ => ⟨o, by simp [szL, putO], by simp⟩
  | d + 1, j, f + 1, many, o, h, hf, hm, hm2 => by
    have hr := szRowF hu hu2 d j (by omega)
    have hw0 : w64u (u + j) = u + j := w64u_id (by omega) (by omega)
    have e : putO (f + 1) (szL false u j (d + 1)) (u + j) many o = putO f (szL false u (j + 1) d) (w64u (w64u (u + j) + 1)) (w64u (many + 1)) (o ++ putVs [w64u (w64u (u + j) - (u + j)), w64u ((1 : Nat) : Int)] ++ [0]) := by
      show (match rowI (u + j) (szL false u j (d + 1)) (w64u (u + j)) [] 0 with | none => none | some (r, c, l') => _) = _
      rw [hr]
      rfl
    have e3 : putVs [w64u (u + (j : Int) - (u + j)), w64u ((1 : Nat) : Int)] = [0, 1] := by
      rw [show u + (j : Int) - (u + j) = 0 by omega]
      decide +kernel
    rw [e, hw0, w64u_id (x := u + j + 1) (by omega) (by omega), w64u_id (x := many + 1) (by omega) (by omega), e3, show u + (j : Int) + 1 = u + ((j + 1 : Nat) : Int) by omega]
    obtain ⟨o', h1, h2⟩ := szPutF hu hu2 d (j + 1) f (many + 1) (o ++ [0, 1] ++ [0]) (by omega) (by omega) (by omega) (by omega)
    refine ⟨o', by rw [h1]; congr 2; omega, ?_⟩
    rw [h2]
    simp
    omega
/-- How often seven bits are left. -/
def szS : Nat → Int → Nat
  | 0, _ => 0
  | n + 1, v => bif decide (v > 0) then szS n (v / 128) + 1 else 0
theorem putF_size : ∀ (n : Nat) (u : Int), 0 ≤ u → u < 128 ^ (n + 1) → (putF n u).length = szS n (u / 128) + 1
  | 0, u, h, h2 => by
    rfl
  | n + 1, u, h, h2 => by
    show (bif decide (u ≥ 128) then more u :: putF n (shr7 u) else [w8 u]).length = (bif decide (u / 128 > 0) then szS n (u / 128 / 128) + 1 else 0) + 1
    by_cases hc : u ≥ 128
    · rw [decide_eq_true hc, decide_eq_true (show u / 128 > 0 by omega)]
      show (putF n (shr7 u)).length + 1 = szS n (u / 128 / 128) + 1 + 1
      rw [shr7_eq, putF_size n (u / 128) (by omega) (by rw [Int.pow_succ] at h2; omega)]
    · rw [decide_eq_false hc, decide_eq_false (show ¬ u / 128 > 0 by omega)]
      rfl
theorem szTot {star : Bool} {u : Int} {k : Nat} (hu : 0 ≤ u) (hu2 : u < 2147483648) (hk : 0 < k) (hk2 : k ≤ 100) :
    ∃ b, putT (szL star u 0 k) = some b ∧ b.length = bif star then (putV u).length + 2 + k else (putV u).length + 3 * k := by
  obtain ⟨d, rfl⟩ : ∃ d, k = d + 1 := ⟨k - 1, by omega⟩
  have hw : w64u u = u := w64u_id hu (by omega)
  unfold putT
  rw [szL_ris, szL_len]
  simp only [cond_true]
  cases star with
  | true =>
    have hr := szRowT hu hu2 (d + 1) 0 [] 0 (by omega)
    rw [show u + ((0 : Nat) : Int) = u by omega] at hr
    have e : putO (d + 1 + 1) (szL true u 0 (d + 1)) 0 0 [] = some (1, [] ++ putVs [u, ((d + 1 : Nat) : Int)] ++ List.replicate (d + 1) 0) := by
      show (match rowI u (szL true u 0 (d + 1)) (w64u u) [] 0 with | none => none | some (r, c, l') => putO (d + 1) l' (w64u (w64u u + 1)) (w64u (0 + 1)) ([] ++ putVs [w64u (w64u u - 0), w64u (c : Int)] ++ r)) = _
      rw [hw, hr]
      show some (w64u (0 + 1), [] ++ putVs [w64u (u - 0), w64u ((0 + (d + 1) : Nat) : Int)] ++ ([] ++ List.replicate (d + 1) 0)) = _
      rw [Int.sub_zero, hw, Nat.zero_add, w64u_id (x := ((d + 1 : Nat) : Int)) (by omega) (by omega)]
      rfl
    rw [e]
    refine ⟨_, rfl, ?_⟩
    show (putV 1 ++ [] ++ ([] ++ (putV u ++ (putV ((d + 1 : Nat) : Int) ++ [])) ++ List.replicate (d + 1) 0)).length = (putV u).length + 2 + (d + 1)
    rw [putV_small (v := ((d + 1 : Nat) : Int)) (by omega) (by omega), putV_small (v := 1) (by decide) (by decide)]
    simp
    omega
  | false =>
    have hr := szRowF hu hu2 d 0 (by omega)
    rw [show u + ((0 : Nat) : Int) = u by omega] at hr
    obtain ⟨o', h1, h2⟩ := szPutF hu hu2 d 1 (d + 1) 1 (putVs [u, 1] ++ [0]) (by omega) (by omega) (by omega) (by omega)
    have e : putO (d + 1 + 1) (szL false u 0 (d + 1)) 0 0 [] = some (1 + (d : Int), o') := by
      rw [← h1]
      show (match rowI (u + ((0 : Nat) : Int)) (szL false u 0 (d + 1)) (w64u (u + ((0 : Nat) : Int))) [] 0 with | none => none | some (r, c, l') => putO (d + 1) l' (w64u (w64u (u + ((0 : Nat) : Int)) + 1)) (w64u (0 + 1)) ([] ++ putVs [w64u (w64u (u + ((0 : Nat) : Int)) - 0), w64u (c : Int)] ++ r)) = _
      rw [show u + ((0 : Nat) : Int) = u by omega, hr]
      show putO (d + 1) (szL false u 1 d) (w64u (w64u u + 1)) (w64u (0 + 1)) ([] ++ putVs [w64u (w64u u - 0), w64u ((1 : Nat) : Int)] ++ [0]) = _
      rw [hw, Int.sub_zero, hw, w64u_id (x := u + 1) (by omega) (by omega)]
      rfl
    rw [e]
    refine ⟨_, rfl, ?_⟩
    show (putV (1 + (d : Int)) ++ [] ++ o').length = (putV u).length + 3 * (d + 1)
    rw [putV_small (v := 1 + (d : Int)) (by omega) (by omega)]
    have : (putVs [u, 1] ++ [0]).length = (putV u).length + 2 := by
      show ((putV u ++ (putV 1 ++ [])) ++ [0]).length = _
      rw [putV_small (v := 1) (by decide) (by decide)]
      simp
    rw [this] at h2
    simp
    omega
theorem sameE_refl : ∀ l : List Ed, sameE l l = true
  | [] => rfl
  | a :: l => by
    show ((a.1 == a.1 && (a.2 == a.2 && true)) && sameE l l) = true
    rw [sameE_refl l, beq_self_eq_true, beq_self_eq_true]
    rfl
end Go.Proofs.Ythiaaaedfidnjaa.Aj
