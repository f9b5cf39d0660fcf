/- What the functions come to, by the evaluator. Conditions: none; checked here. -/
import Derived.Test.YthiaaaedfidnjaaAjB
import Derived.ProofKit
import Derived.Test.YthiaaaedfidnjaaAjC
set_option linter.unusedVariables false
set_option linter.unusedSimpArgs false

namespace Go.Proofs.Ythiaaaedfidnjaa.Aj
open Go Go.Proofs.Ythiaaaedfidnjaa.Am Go.RowKit
set_option linter.unusedVariables false
set_option linter.unusedSimpArgs false
set_option maxRecDepth 100000
theorem strIn (rec : Rec) (H : K) (L : Nat → St → Option Res) (a b n : Int) :
    fnWay V10 6 [wS .u8 a, wS .u8 b, wS .u8 n] rec H L =
  br (decide ((edT (IntKind.u64.wrap (n.tmod 130)) [1, IntKind.u8.wrap (IntKind.u64.wrap (a.tmod 60)), 1, IntKind.u8.wrap (IntKind.u64.wrap (b.tmod 60))] true).fst.length ≤ 1000)) (
    br (decide ((edT 200 [1, IntKind.u8.wrap (IntKind.u64.wrap (a.tmod 60)), 0] true).fst.length ≤ 1000)) (
      br (decide ((edT 200 [2, IntKind.u8.wrap (IntKind.u64.wrap (a.tmod 60)), 1, IntKind.u8.wrap (IntKind.u64.wrap (b.tmod 60))] true).fst.length ≤ 1000)) (
        br (decide ((edT 200 [1, IntKind.u8.wrap (↑(BitVec.ofInt IntKind.u8.bits (IntKind.u8.wrap (IntKind.u64.wrap (a.tmod 60))) ||| BitVec.ofInt IntKind.u8.bits 128).toNat : Int), 0, 1, IntKind.u8.wrap (IntKind.u64.wrap (b.tmod 60))] true).fst.length ≤ 1000)) (
          br ((readE (IntKind.u64.wrap (n.tmod 130)) [1, IntKind.u8.wrap (IntKind.u64.wrap (a.tmod 60)), 1, IntKind.u8.wrap (IntKind.u64.wrap (b.tmod 60))] == 0) == decide (IntKind.u64.wrap (IntKind.u64.wrap (IntKind.u64.wrap (a.tmod 60) + IntKind.u64.wrap (b.tmod 60)) + 1) < IntKind.u64.wrap (n.tmod 130))) (
            br (!!decide (IntKind.u64.wrap (IntKind.u64.wrap (IntKind.u64.wrap (a.tmod 60) + IntKind.u64.wrap (b.tmod 60)) + 1) < IntKind.u64.wrap (n.tmod 130))) (
              br ((↑(isNilL (readL (IntKind.u64.wrap (n.tmod 130)) [1, IntKind.u8.wrap (IntKind.u64.wrap (a.tmod 60)), 1, IntKind.u8.wrap (IntKind.u64.wrap (b.tmod 60))]), readL (IntKind.u64.wrap (n.tmod 130)) [1, IntKind.u8.wrap (IntKind.u64.wrap (a.tmod 60)), 1, IntKind.u8.wrap (IntKind.u64.wrap (b.tmod 60))]).snd.length : Int) == 1) (
                br (inR 0 (isNilL (readL (IntKind.u64.wrap (n.tmod 130)) [1, IntKind.u8.wrap (IntKind.u64.wrap (a.tmod 60)), 1, IntKind.u8.wrap (IntKind.u64.wrap (b.tmod 60))]), readL (IntKind.u64.wrap (n.tmod 130)) [1, IntKind.u8.wrap (IntKind.u64.wrap (a.tmod 60)), 1, IntKind.u8.wrap (IntKind.u64.wrap (b.tmod 60))]).snd.length) (
                  br ((nth ((CL.int IntKind.u32).cons (CL.int IntKind.u32)) (isNilL (readL (IntKind.u64.wrap (n.tmod 130)) [1, IntKind.u8.wrap (IntKind.u64.wrap (a.tmod 60)), 1, IntKind.u8.wrap (IntKind.u64.wrap (b.tmod 60))]), readL (IntKind.u64.wrap (n.tmod 130)) [1, IntKind.u8.wrap (IntKind.u64.wrap (a.tmod 60)), 1, IntKind.u8.wrap (IntKind.u64.wrap (b.tmod 60))]).snd (Int.toNat 0)).fst == IntKind.u32.wrap (IntKind.u64.wrap (a.tmod 60)) && ((nth ((CL.int IntKind.u32).cons (CL.int IntKind.u32)) (isNilL (readL (IntKind.u64.wrap (n.tmod 130)) [1, IntKind.u8.wrap (IntKind.u64.wrap (a.tmod 60)), 1, IntKind.u8.wrap (IntKind.u64.wrap (b.tmod 60))]), readL (IntKind.u64.wrap (n.tmod 130)) [1, IntKind.u8.wrap (IntKind.u64.wrap (a.tmod 60)), 1, IntKind.u8.wrap (IntKind.u64.wrap (b.tmod 60))]).snd (Int.toNat 0)).snd == IntKind.u32.wrap (IntKind.u64.wrap (IntKind.u64.wrap (IntKind.u64.wrap (a.tmod 60) + IntKind.u64.wrap (b.tmod 60)) + 1)) && true)) (
                    br (readE 200 [1, IntKind.u8.wrap (IntKind.u64.wrap (a.tmod 60)), 0] == 21) (
                      br (readE 200 [2, IntKind.u8.wrap (IntKind.u64.wrap (a.tmod 60)), 1, IntKind.u8.wrap (IntKind.u64.wrap (b.tmod 60))] == 21) (
                        H .ret (mkSt 126 [(6, vS (.bool (readE 200 [1, IntKind.u8.wrap (↑(BitVec.ofInt IntKind.u8.bits (IntKind.u8.wrap (IntKind.u64.wrap (a.tmod 60))) ||| BitVec.ofInt IntKind.u8.bits 128).toNat : Int), 0, 1, IntKind.u8.wrap (IntKind.u64.wrap (b.tmod 60))] == 21)))] [])) (
                        H .ret (mkSt 126 [(6, vS (.bool false))] []))) (
                      H .ret (mkSt 126 [(6, vS (.bool false))] []))) (
                    H .ret (mkSt 126 [(6, vS (.bool false))] []))) (
                  none)) (
                H .ret (mkSt 126 [(6, vS (.bool false))] []))) (
              br (readE 200 [1, IntKind.u8.wrap (IntKind.u64.wrap (a.tmod 60)), 0] == 21) (
                br (readE 200 [2, IntKind.u8.wrap (IntKind.u64.wrap (a.tmod 60)), 1, IntKind.u8.wrap (IntKind.u64.wrap (b.tmod 60))] == 21) (
                  H .ret (mkSt 126 [(6, vS (.bool (readE 200 [1, IntKind.u8.wrap (↑(BitVec.ofInt IntKind.u8.bits (IntKind.u8.wrap (IntKind.u64.wrap (a.tmod 60))) ||| BitVec.ofInt IntKind.u8.bits 128).toNat : Int), 0, 1, IntKind.u8.wrap (IntKind.u64.wrap (b.tmod 60))] == 21)))] [])) (
                  H .ret (mkSt 126 [(6, vS (.bool false))] []))) (
                H .ret (mkSt 126 [(6, vS (.bool false))] [])))) (
            H .ret (mkSt 126 [(6, vS (.bool false))] []))) (
          none)) (
        none)) (
      none)) (
    none) := by kernel_rfl
theorem szIn (rec : Rec) (H : K) (L : Nat → St → Option Res) (n fr : Int) (star : Bool) (i : Int) :
    fnWay V10 5 [wS .u8 n, wS .u32 fr, tS star, wS .u8 i] rec H L =
  L 0 (mkSt 130 [(2, vS (.bool star)), (3, vS (.int .u8 i)), (9, vS (.int .i64 (IntKind.i64.wrap (IntKind.i64.wrap (n.tmod 100) + 1)))), (10, vS (.int .u32 (fr.tmod 2147483648))), (11, .s (.c (⟨.own 352 none, AV.sl ((CL.int IntKind.u32).cons (CL.int IntKind.u32)) true []⟩))), (12, vS (.int .i64 0))] []) := by kernel_rfl
theorem szRnd (rec : Rec) (H : K) (L : Nat → St → Option Res) (star : Bool) (i k u j : Int) (nl : Bool) (l : List Ed) :
    ((fnPl V10 5).at V10 5 0).way V10 5 (mkSt 130 [(2, .s (tS star)), (3, vS (.int .u8 i)), (9, vS (.int .i64 k)), (10, vS (.int .u32 u)), (11, .s (.c ⟨.own 352 none, .sl eE nl l⟩)), (12, vS (.int .i64 j))] []) rec H L =
  br (decide (j < k)) (
    br star (
      br (fits (l.length + [(u, IntKind.u32.wrap (IntKind.u32.wrap (u + 1) + IntKind.u32.wrap j))].length) (V10.P.bytesOf 50)) (
        H .normal (mkSt 130 [(2, vS (.bool star)), (3, vS (.int .u8 i)), (9, vS (.int .i64 k)), (10, vS (.int .u32 u)), (11, .s (.c (⟨.own 352 none, AV.sl ((CL.int IntKind.u32).cons (CL.int IntKind.u32)) (nl && isNilL [(u, IntKind.u32.wrap (IntKind.u32.wrap (u + 1) + IntKind.u32.wrap j))]) (l ++ [(u, IntKind.u32.wrap (IntKind.u32.wrap (u + 1) + IntKind.u32.wrap j))])⟩))), (12, vS (.int .i64 (IntKind.i64.wrap (j + 1))))] [])) (
        none)) (
      br (fits (l.length + [(IntKind.u32.wrap (u + IntKind.u32.wrap j), IntKind.u32.wrap (IntKind.u32.wrap (u + IntKind.u32.wrap j) + 1))].length) (V10.P.bytesOf 50)) (
        H .normal (mkSt 130 [(2, vS (.bool star)), (3, vS (.int .u8 i)), (9, vS (.int .i64 k)), (10, vS (.int .u32 u)), (11, .s (.c (⟨.own 352 none, AV.sl ((CL.int IntKind.u32).cons (CL.int IntKind.u32)) (nl && isNilL [(IntKind.u32.wrap (u + IntKind.u32.wrap j), IntKind.u32.wrap (IntKind.u32.wrap (u + IntKind.u32.wrap j) + 1))]) (l ++ [(IntKind.u32.wrap (u + IntKind.u32.wrap j), IntKind.u32.wrap (IntKind.u32.wrap (u + IntKind.u32.wrap j) + 1))])⟩))), (12, vS (.int .i64 (IntKind.i64.wrap (j + 1))))] [])) (
        none))) (
    H (.exit 0) (mkSt 130 [(2, vS (.bool star)), (3, vS (.int .u8 i)), (9, vS (.int .i64 k)), (10, vS (.int .u32 u)), (11, .s (.c (⟨.own 352 none, AV.sl ((CL.int IntKind.u32).cons (CL.int IntKind.u32)) nl l⟩)))] [])) := by kernel_rfl
theorem szPast (rec : Rec) (H : K) (L : Nat → St → Option Res) (star : Bool) (i k u : Int) (nl : Bool) (l : List Ed) :
    (fnPl V10 5).past V10 5 0 (.exit 0) (mkSt 130 [(2, .s (tS star)), (3, vS (.int .u8 i)), (9, vS (.int .i64 k)), (10, vS (.int .u32 u)), (11, .s (.c ⟨.own 352 none, .sl eE nl l⟩))] []) rec H L =
  br (decide (l.length ≤ 1000)) (
    br (decide ((!putOk l, putB l).snd.length ≤ 3000)) (
      br (decide ((edT 4294967296 (!putOk l, putB l).snd true).fst.length ≤ 1000)) (
        L 1 (mkSt 130 [(2, vS (.bool star)), (3, vS (.int .u8 i)), (9, vS (.int .i64 k)), (11, .s (.c (⟨.own 352 none, AV.sl ((CL.int IntKind.u32).cons (CL.int IntKind.u32)) nl l⟩))), (13, .s (.c (⟨.own 416 none, AV.sl (CL.int IntKind.u8) (!putOk l, putB l).fst (!putOk l, putB l).snd⟩))), (14, vS (.int .i64 (putE l))), (15, .s (.c (⟨.own 480 none, AV.sl ((CL.int IntKind.u32).cons (CL.int IntKind.u32)) (isNilL (readL 4294967296 (!putOk l, putB l).snd), readL 4294967296 (!putOk l, putB l).snd).fst (isNilL (readL 4294967296 (!putOk l, putB l).snd), readL 4294967296 (!putOk l, putB l).snd).snd⟩))), (16, vS (.int .i64 (readE 4294967296 (!putOk l, putB l).snd))), (17, vS (.int .i64 0)), (18, vS (.int .u32 (u.fdiv (2 ^ min (Int.toNat 7) IntKind.u32.bits))))] [])) (
        none)) (
      none)) (
    none) := by kernel_rfl
end Go.Proofs.Ythiaaaedfidnjaa.Aj

namespace Go.Proofs.Ythiaaaedfidnjaa.Aj
open Go Go.Proofs.Ythiaaaedfidnjaa.Am Go.RowKit
set_option linter.unusedVariables false
set_option linter.unusedSimpArgs false
set_option maxRecDepth 100000
/-! AdjStrange -/
theorem rd0 {n : Int} {b : List Int} (h : (edT n b true).2.2 = false) : readOk n b = false := by
  unfold readOk
  rw [h]
  rfl
theorem rdNe {n : Int} {b : List Int} {l : List Ed} {o : List Int} (h : (edT n b true).1 = l) (hp : putT l = some o) (hl : o.length ≠ b.length) : readOk n b = false := by
  unfold readOk
  have hb : putB l = o := by unfold putB; rw [hp]; rfl
  rw [h, hp, hb, baNe hl]
  cases (edT n b true).2.2 <;> rfl
theorem edOk_len {n : Int} {b : List Int} (h : b.length ≤ 1000) : (edT n b true).1.length ≤ 1000 := Nat.le_trans (edT_out n b true) h
theorem stCall {a b n : Int} (ha : 0 ≤ a ∧ a < 256) (hb : 0 ≤ b ∧ b < 256) (hn : 0 ≤ n ∧ n < 256) : ∃ k, call V10 k 6 [wS .u8 a, wS .u8 b, wS .u8 n] = some (vS (.bool true), []) := by
  have fin : finK V10.P (V10.np 6) (V10.sig 6) (V10.fin 6) (funcOf V10.P 6) .ret (mkSt 126 [(6, vS (.bool true))] []) = some (vS (.bool true), []) := by kernel_rfl
  obtain ⟨u, hu⟩ : ∃ u, u = a % 60 := ⟨_, rfl⟩
  obtain ⟨v, hv⟩ : ∃ v, v = b % 60 := ⟨_, rfl⟩
  obtain ⟨m, hm⟩ : ∃ m, m = n % 130 := ⟨_, rfl⟩
  have eu : IntKind.u64.wrap (a.tmod 60) = u := by rw [tmod_id ha.1, u64_id (by omega) (by omega), hu]
  have ev : IntKind.u64.wrap (b.tmod 60) = v := by rw [tmod_id hb.1, u64_id (by omega) (by omega), hv]
  have em : IntKind.u64.wrap (n.tmod 130) = m := by rw [tmod_id hn.1, u64_id (by omega) (by omega), hm]
  have eu8 : IntKind.u8.wrap u = u := u8_id (by omega) (by omega)
  have ev8 : IntKind.u8.wrap v = v := u8_id (by omega) (by omega)
  have eu32 : IntKind.u32.wrap u = u := u32_id (by omega) (by omega)
  have ex : IntKind.u8.wrap (BitVec.ofInt IntKind.u8.bits u ||| BitVec.ofInt IntKind.u8.bits 128).toNat = u % 128 + 128 := by
    have := more_eq (v := u) (by omega)
    unfold more at this
    rw [show w8 u = u from eu8] at this
    exact this
  have es1 : IntKind.u64.wrap (u + v) = u + v := u64_id (by omega) (by omega)
  have es : IntKind.u64.wrap (u + v + 1) = u + v + 1 := u64_id (by omega) (by omega)
  have es32 : IntKind.u32.wrap (u + v + 1) = u + v + 1 := u32_id (by omega) (by omega)
  have hu0 : 0 ≤ u ∧ u < 60 := by omega
  have hv0 : 0 ≤ v ∧ v < 60 := by omega
  have k1 := strOk (n := m) hu0.1 hu0.2 hv0.1 hv0.2
  have r1 : readOk m [1, u, 1, v] = decide (u + v + 1 < m) := by
    unfold readOk
    rw [k1]
    cases decide (u + v + 1 < m) with
    | true =>
      show (true && ((putT [(u, u + v + 1)]).isSome && _)) = true
      rw [baL (ys := [1, u, 1, v]) (by show putB [(u, u + v + 1)] = _; unfold putB; rw [putT_one hu0.1 hu0.2 hv0.1 hv0.2]; rfl), putT_one hu0.1 hu0.2 hv0.1 hv0.2]
      rfl
    | false => rfl
  have r2 : readOk 200 [1, u, 0] = false := rdNe (o := [0]) (by rw [strB1 hu0.1 hu0.2]) putT_nil (by simp)
  have r3 : readOk 200 [2, u, 1, v] = false := rd0 (strB2 hu0.1 hu0.2 hv0.1 hv0.2)
  have r4 : readOk 200 [0, u] = false := rdNe (o := [0]) (by rw [strB3 hu0.1 hu0.2]) putT_nil (by simp)
  have r5 : readOk 200 [1, u % 128 + 128, 0, 1, v] = false := rd0 (strB4 (by omega) (by omega))
  have l1 := decide_eq_true (edOk_len (n := m) (b := [1, u, 1, v]) (by simp))
  have l2 := decide_eq_true (edOk_len (n := 200) (b := [1, u, 0]) (by simp))
  have l3 := decide_eq_true (edOk_len (n := 200) (b := [2, u, 1, v]) (by simp))
  have l4 := decide_eq_true (edOk_len (n := 200) (b := [0, u]) (by simp))
  have l5 := decide_eq_true (edOk_len (n := 200) (b := [1, u % 128 + 128, 0, 1, v]) (by simp))
  have e1 : readE m [1, u, 1, v] = bif decide (u + v + 1 < m) then 0 else 21 := by unfold readE; rw [r1]
  have e2 : readE 200 [1, u, 0] = 21 := by unfold readE; rw [r2]; rfl
  have e3 : readE 200 [2, u, 1, v] = 21 := by unfold readE; rw [r3]; rfl
  have e4 : readE 200 [0, u] = 21 := by unfold readE; rw [r4]; rfl
  have e5 : readE 200 [1, u % 128 + 128, 0, 1, v] = 21 := by unfold readE; rw [r5]; rfl
  have eL : readL m [1, u, 1, v] = bif decide (u + v + 1 < m) then [(u, u + v + 1)] else [] := by
    unfold readL
    rw [r1, k1]
    cases decide (u + v + 1 < m) <;> rfl
  refine Goes.call (Goes.now fun rec H L => (strIn rec H L a b n).trans ?_) fin (by kernel_rfl)
  simp only [eu, ev, em, eu8, ev8, ex, es1, es, es32, eu32, l1, l2, l3, l4, l5, e1, e2, e3, e4, e5, eL, br_t, br_f]
  cases hc : decide (u + v + 1 < m) with
  | false => rfl
  | true =>
    simp only [cond_true]
    have e : (((u, u + v + 1) : Ed).1 == u && (((u, u + v + 1) : Ed).2 == u + v + 1 && true)) = true := by simp
    show br ((1 : Int) == 1) (br (inR 0 1) (br (((u, u + v + 1) : Ed).1 == u && (((u, u + v + 1) : Ed).2 == u + v + 1 && true)) _ _) _) _ = _
    rw [e]
    rfl
theorem stWalk (a b n : Int) (ha : (Lit.int .u8 a).wf = true) (hb : (Lit.int .u8 b).wf = true) (hn : (Lit.int .u8 n).wf = true) (w : World) :
    Calls Go.Proofs.Try.prog 6 #[.int .u8 a, .int .u8 b, .int .u8 n] w fun e w' => e = .returned (.bool true) ∧ Below w.heap.size w w' := by
  obtain ⟨j, hj⟩ := stCall (wf_u8 ha) (wf_u8 hb) (wf_u8 hn)
  exact law_of (V := V10) (bx := []) mix (sok10 _ rfl rfl) (M := fun _ _ => none) (fun _ _ _ h => by simp at h) (xs := [wS .u8 a, wS .u8 b, wS .u8 n]) ⟨⟨rfl, rfl⟩, ⟨rfl, rfl⟩, ⟨rfl, rfl⟩, trivial⟩ hj
end Go.Proofs.Ythiaaaedfidnjaa.Aj
