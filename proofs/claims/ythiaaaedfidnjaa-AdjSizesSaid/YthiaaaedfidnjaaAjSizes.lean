/- What the functions come to, by the evaluator. Conditions: none; checked here. -/
import Derived.Test.YthiaaaedfidnjaaAjStrange
import Derived.ProofKit
import Derived.Test.YthiaaaedfidnjaaAjC
set_option linter.unusedVariables false
set_option linter.unusedSimpArgs false

namespace Go.Proofs.Ythiaaaedfidnjaa.Aj
open Go Go.Proofs.Ythiaaaedfidnjaa.Am Go.RowKit
set_option linter.unusedVariables false
set_option linter.unusedSimpArgs false
set_option maxRecDepth 100000
theorem szR1 (rec : Rec) (H : K) (L : Nat → St → Option Res) (star : Bool) (i k : Int) (nl : Bool) (l : List Ed) (bl : Bool) (b : List Int) (e : Int) (xl : Bool) (x : List Ed) (f s v : Int) :
    ((fnPl V10 5).at V10 5 1).way V10 5 (mkSt 130 [(2, .s (tS star)), (3, vS (.int .u8 i)), (9, vS (.int .i64 k)), (11, .s (.c ⟨.own 352 none, .sl eE nl l⟩)), (13, .s (.c ⟨.own 416 none, .sl (.int .u8) bl b⟩)), (14, vS (.int .i64 e)), (15, .s (.c ⟨.own 480 none, .sl eE xl x⟩)), (16, vS (.int .i64 f)), (17, vS (.int .i64 s)), (18, vS (.int .u32 v))] []) rec H L =
  br (decide (v > 0)) (
    H .normal (mkSt 130 [(2, vS (.bool star)), (3, vS (.int .u8 i)), (9, vS (.int .i64 k)), (11, .s (.c (⟨.own 352 none, AV.sl ((CL.int IntKind.u32).cons (CL.int IntKind.u32)) nl l⟩))), (13, .s (.c (⟨.own 416 none, AV.sl (CL.int IntKind.u8) bl b⟩))), (14, vS (.int .i64 e)), (15, .s (.c (⟨.own 480 none, AV.sl ((CL.int IntKind.u32).cons (CL.int IntKind.u32)) xl x⟩))), (16, vS (.int .i64 f)), (17, vS (.int .i64 (IntKind.i64.wrap (s + 1)))), (18, vS (.int .u32 (v.fdiv (2 ^ min (Int.toNat 7) IntKind.u32.bits))))] [])) (
    H (.exit 2) (mkSt 130 [(2, vS (.bool star)), (3, vS (.int .u8 i)), (9, vS (.int .i64 k)), (11, .s (.c (⟨.own 352 none, AV.sl ((CL.int IntKind.u32).cons (CL.int IntKind.u32)) nl l⟩))), (13, .s (.c (⟨.own 416 none, AV.sl (CL.int IntKind.u8) bl b⟩))), (14, vS (.int .i64 e)), (15, .s (.c (⟨.own 480 none, AV.sl ((CL.int IntKind.u32).cons (CL.int IntKind.u32)) xl x⟩))), (16, vS (.int .i64 f)), (17, vS (.int .i64 s))] [])) := by kernel_rfl
theorem szP1 (rec : Rec) (H : K) (L : Nat → St → Option Res) (star : Bool) (i k : Int) (nl : Bool) (l : List Ed) (bl : Bool) (b : List Int) (e : Int) (xl : Bool) (x : List Ed) (f s : Int) :
    (fnPl V10 5).past V10 5 1 (.exit 2) (mkSt 130 [(2, .s (tS star)), (3, vS (.int .u8 i)), (9, vS (.int .i64 k)), (11, .s (.c ⟨.own 352 none, .sl eE nl l⟩)), (13, .s (.c ⟨.own 416 none, .sl (.int .u8) bl b⟩)), (14, vS (.int .i64 e)), (15, .s (.c ⟨.own 480 none, .sl eE xl x⟩)), (16, vS (.int .i64 f)), (17, vS (.int .i64 s))] []) rec H L =
  br (!star) (
    br (decide (k = 0)) (
      none) (
      br (fits l.length (V10.P.bytesOf 50)) (
        br (inR ((IntKind.i64.wrap i).tmod k) l.length) (
          br (fits (l.length + [((nth eE l ((IntKind.i64.wrap i).tmod k).toNat).fst, (nth eE l ((IntKind.i64.wrap i).tmod k).toNat).snd)].length) (V10.P.bytesOf 50)) (
            br (decide ((l ++ [((nth eE l ((IntKind.i64.wrap i).tmod k).toNat).fst, (nth eE l ((IntKind.i64.wrap i).tmod k).toNat).snd)]).length ≤ 1000)) (
              br (e == 0) (
                br (f == 0) (
                  br (decide (x.length ≤ 1000000)) (
                    br (sameE x l) (
                      br ((↑b.length : Int) == IntKind.i64.wrap (IntKind.i64.wrap (1 + s) + IntKind.i64.wrap (3 * k))) (
                        H .ret (mkSt 130 [(8, vS (.bool (putE (l ++ [((nth eE l ((IntKind.i64.wrap i).tmod k).toNat).fst, (nth eE l ((IntKind.i64.wrap i).tmod k).toNat).snd)]) == 23)))] [])) (
                        H .ret (mkSt 130 [(8, vS (.bool false))] []))) (
                      H .ret (mkSt 130 [(8, vS (.bool false))] []))) (
                    none)) (
                  H .ret (mkSt 130 [(8, vS (.bool false))] []))) (
                H .ret (mkSt 130 [(8, vS (.bool false))] []))) (
              none)) (
            none)) (
          none)) (
        none))) (
    br (decide (k = 0)) (
      none) (
      br (fits l.length (V10.P.bytesOf 50)) (
        br (inR ((IntKind.i64.wrap i).tmod k) l.length) (
          br (fits (l.length + [((nth eE l ((IntKind.i64.wrap i).tmod k).toNat).fst, (nth eE l ((IntKind.i64.wrap i).tmod k).toNat).snd)].length) (V10.P.bytesOf 50)) (
            br (decide ((l ++ [((nth eE l ((IntKind.i64.wrap i).tmod k).toNat).fst, (nth eE l ((IntKind.i64.wrap i).tmod k).toNat).snd)]).length ≤ 1000)) (
              br (e == 0) (
                br (f == 0) (
                  br (decide (x.length ≤ 1000000)) (
                    br (sameE x l) (
                      br ((↑b.length : Int) == IntKind.i64.wrap (IntKind.i64.wrap (IntKind.i64.wrap (IntKind.i64.wrap (1 + s) + 1) + 1) + k)) (
                        H .ret (mkSt 130 [(8, vS (.bool (putE (l ++ [((nth eE l ((IntKind.i64.wrap i).tmod k).toNat).fst, (nth eE l ((IntKind.i64.wrap i).tmod k).toNat).snd)]) == 23)))] [])) (
                        H .ret (mkSt 130 [(8, vS (.bool false))] []))) (
                      H .ret (mkSt 130 [(8, vS (.bool false))] []))) (
                    none)) (
                  H .ret (mkSt 130 [(8, vS (.bool false))] []))) (
                H .ret (mkSt 130 [(8, vS (.bool false))] []))) (
              none)) (
            none)) (
          none)) (
        none))) := by kernel_rfl
end Go.Proofs.Ythiaaaedfidnjaa.Aj

namespace Go.Proofs.Ythiaaaedfidnjaa.Aj
open Go Go.Proofs.Ythiaaaedfidnjaa.Am Go.RowKit
set_option linter.unusedVariables false
set_option linter.unusedSimpArgs false
set_option maxRecDepth 100000
/-! AdjSizes -/
theorem byteE : V10.P.bytesOf 50 = 8 := by kernel_rfl
def szA (star : Bool) (i k u : Int) (j : Nat) (l : List Ed) : St := mkSt 130 [(2, .s (tS star)), (3, vS (.int .u8 i)), (9, vS (.int .i64 k)), (10, vS (.int .u32 u)), (11, .s (.c ⟨.own 352 none, .sl eE (isNilL l) l⟩)), (12, vS (.int .i64 (j : Int)))] []
def szB (star : Bool) (i k u : Int) (l : List Ed) : St := mkSt 130 [(2, .s (tS star)), (3, vS (.int .u8 i)), (9, vS (.int .i64 k)), (10, vS (.int .u32 u)), (11, .s (.c ⟨.own 352 none, .sl eE (isNilL l) l⟩))] []
theorem isNil_snoc {α : Type} (l : List α) (x : α) : isNilL (l ++ [x]) = false := by cases l <;> rfl
theorem szStep {star : Bool} {i u : Int} {k j : Nat} (hu : 0 ≤ u) (hu2 : u < 2147483648) (hk : k ≤ 100) (hj : j < k) :
    Goes V10 5 ((fnPl V10 5).at V10 5 0) (((fnPl V10 5).at V10 5 0).way V10 5 (szA star i k u j (szL star u 0 j))) .normal (szA star i k u (j + 1) (szL star u 0 (j + 1))) := by
  refine Goes.now fun rec H L => (szRnd rec H L star i k u j _ (szL star u 0 j)).trans ?_
  have e1 : IntKind.i64.wrap ((j : Int) + 1) = ((j + 1 : Nat) : Int) := w64_id (by omega) (by omega)
  have e2 : IntKind.u32.wrap (j : Int) = j := u32_id (by omega) (by omega)
  have e3 : IntKind.u32.wrap (u + 1) = u + 1 := u32_id (by omega) (by omega)
  have e4 : IntKind.u32.wrap (u + 1 + (j : Int)) = u + 1 + j := u32_id (by omega) (by omega)
  have e5 : IntKind.u32.wrap (u + (j : Int)) = u + j := u32_id (by omega) (by omega)
  have e6 : IntKind.u32.wrap (u + (j : Int) + 1) = u + j + 1 := u32_id (by omega) (by omega)
  have hs : szL star u 0 (j + 1) = szL star u 0 j ++ [szE star u j] := by rw [szL_snoc, Nat.zero_add]
  rw [br_pos (decide_eq_true (by omega)), e1, e2, e3, e4, e5, e6, byteE]
  unfold szA
  rw [hs, isNil_snoc]
  have hl := szL_len (star := star) (u := u) j 0
  have hf : fits ((szL star u 0 j).length + 1) 8 = true := fits_small (by omega) (by decide)
  cases star with
  | true =>
    rw [br_t]
    refine (br_pos hf).trans ?_
    rw [show isNilL [(u, u + 1 + (j : Int))] = false from rfl, Bool.and_false]
    rfl
  | false =>
    rw [br_f]
    refine (br_pos hf).trans ?_
    rw [show isNilL [(u + (j : Int), u + (j : Int) + 1)] = false from rfl, Bool.and_false]
    rfl
theorem szLoop {star : Bool} {i u : Int} {k : Nat} (hu : 0 ≤ u) (hu2 : u < 2147483648) (hk : k ≤ 100) : Loops V10 5 (fnPl V10 5) 0 (szA star i k u 0 []) (.exit 0) (szB star i k u (szL star u 0 k)) :=
  Loops.count (S := fun j => szA star i k u j (szL star u 0 j)) (n := k) (by kernel_rfl) (fun j hj => szStep hu hu2 hk hj)
    (Goes.now fun rec H L => (szRnd rec H L star i k u k _ (szL star u 0 k)).trans (br_neg (decide_eq_false (by omega)))) (by simp)
def szC (star : Bool) (i k : Int) (l : List Ed) (bl : Bool) (b : List Int) (e : Int) (xl : Bool) (x : List Ed) (f s v : Int) : St := mkSt 130 [(2, .s (tS star)), (3, vS (.int .u8 i)), (9, vS (.int .i64 k)), (11, .s (.c ⟨.own 352 none, .sl eE (isNilL l) l⟩)), (13, .s (.c ⟨.own 416 none, .sl (.int .u8) bl b⟩)), (14, vS (.int .i64 e)), (15, .s (.c ⟨.own 480 none, .sl eE xl x⟩)), (16, vS (.int .i64 f)), (17, vS (.int .i64 s)), (18, vS (.int .u32 v))] []
def szD (star : Bool) (i k : Int) (l : List Ed) (bl : Bool) (b : List Int) (e : Int) (xl : Bool) (x : List Ed) (f s : Int) : St := mkSt 130 [(2, .s (tS star)), (3, vS (.int .u8 i)), (9, vS (.int .i64 k)), (11, .s (.c ⟨.own 352 none, .sl eE (isNilL l) l⟩)), (13, .s (.c ⟨.own 416 none, .sl (.int .u8) bl b⟩)), (14, vS (.int .i64 e)), (15, .s (.c ⟨.own 480 none, .sl eE xl x⟩)), (16, vS (.int .i64 f)), (17, vS (.int .i64 s))] []
theorem szLoop2 {star : Bool} {i k : Int} {l : List Ed} {bl : Bool} {b : List Int} {e : Int} {xl : Bool} {x : List Ed} {f : Int} : ∀ (n s : Nat) (v : Int), 0 ≤ v → v < 128 ^ n → s + n ≤ 100 →
    Loops V10 5 (fnPl V10 5) 1 (szC star i k l bl b e xl x f s v) (.exit 2) (szD star i k l bl b e xl x f ((s + szS n v : Nat) : Int))
  | 0, s, v, h, h2, hs => by
    have : v = 0 := by rw [show (128 : Int) ^ 0 = 1 from rfl] at h2; omega
    subst this
    exact Loops.done (Goes.now fun rec H L => (szR1 rec H L star i k _ l bl b e xl x f s 0).trans (br_neg (by decide))) (by simp) (by kernel_rfl)
  | n + 1, s, v, h, h2, hs => by
    by_cases hv : v > 0
    · have e1 : IntKind.i64.wrap ((s : Int) + 1) = ((s + 1 : Nat) : Int) := w64_id (by omega) (by omega)
      have e2 : v.fdiv (2 ^ min (Int.toNat 7) IntKind.u32.bits) = v / 128 := by
        show v.fdiv 128 = _
        exact fdiv_pos v (by decide)
      have st : Goes V10 5 ((fnPl V10 5).at V10 5 1) (((fnPl V10 5).at V10 5 1).way V10 5 (szC star i k l bl b e xl x f s v)) .normal (szC star i k l bl b e xl x f ((s + 1 : Nat) : Int) (v / 128)) :=
        Goes.now fun rec H L => (szR1 rec H L star i k _ l bl b e xl x f s v).trans (by rw [br_pos (decide_eq_true hv), e1, e2]; rfl)
      have := szLoop2 (star := star) (i := i) (k := k) (l := l) (bl := bl) (b := b) (e := e) (xl := xl) (x := x) (f := f) n (s + 1) (v / 128) (by omega) (by rw [Int.pow_succ] at h2; omega) (by omega)
      have hsz : s + szS (n + 1) v = s + 1 + szS n (v / 128) := by
        show s + (bif decide (v > 0) then szS n (v / 128) + 1 else 0) = _
        rw [decide_eq_true hv]
        show s + (szS n (v / 128) + 1) = _
        omega
      rw [hsz]
      exact Loops.step st this (by kernel_rfl)
    · have : v = 0 := by omega
      subst this
      have hsz : s + szS (n + 1) 0 = s := rfl
      rw [hsz]
      exact Loops.done (Goes.now fun rec H L => (szR1 rec H L star i k _ l bl b e xl x f s 0).trans (br_neg (by decide))) (by simp) (by kernel_rfl)
theorem szCall {n fr i : Int} (star : Bool) (hn : 0 ≤ n ∧ n < 256) (hf : 0 ≤ fr ∧ fr < 4294967296) (hi : 0 ≤ i ∧ i < 256) : ∃ m, call V10 m 5 [wS .u8 n, wS .u32 fr, tS star, wS .u8 i] = some (vS (.bool true), []) := by
  have fin : finK V10.P (V10.np 5) (V10.sig 5) (V10.fin 5) (funcOf V10.P 5) .ret (mkSt 130 [(8, vS (.bool true))] []) = some (vS (.bool true), []) := by kernel_rfl
  obtain ⟨k, hk⟩ : ∃ k : Nat, (k : Int) = n % 100 + 1 := ⟨(n % 100 + 1).toNat, by omega⟩
  obtain ⟨u, hu⟩ : ∃ u, u = fr % 2147483648 := ⟨_, rfl⟩
  have hu0 : 0 ≤ u := by omega
  have hu2 : u < 2147483648 := by omega
  have ek : IntKind.i64.wrap (IntKind.i64.wrap (n.tmod 100) + 1) = (k : Int) := by rw [tmod_id hn.1, w64_id (x := n % 100) (by omega) (by omega), w64_id (by omega) (by omega), hk]
  have eu : fr.tmod 2147483648 = u := by rw [tmod_id hf.1, hu]
  have ei : (IntKind.i64.wrap i).tmod (k : Int) = ((i.toNat % k : Nat) : Int) := by
    rw [w64_id (by omega) (by omega), tmod_id hi.1]
    obtain ⟨a, rfl⟩ : ∃ a : Nat, i = a := ⟨i.toNat, by omega⟩
    rw [Int.toNat_natCast, Int.natCast_emod]
  have hk1 : 0 < k := by omega
  have hk2 : k ≤ 100 := by omega
  obtain ⟨l, hl⟩ : ∃ l, l = szL star u 0 k := ⟨_, rfl⟩
  have hll : l.length = k := by rw [hl]; exact szL_len k 0
  obtain ⟨b, hb, hbl⟩ := szTot (star := star) hu0 hu2 hk1 hk2
  rw [← hl] at hb
  have hpb : putB l = b := by unfold putB; rw [hb]; rfl
  have hpe : putE l = 0 := by unfold putE putOk; rw [hb]; rfl
  have hok : ∀ e ∈ l, edOk e ∧ e.2 < 4294967296 := fun e he => by
    rw [hl] at he
    obtain ⟨q, h1, h2, rfl⟩ := szL_mem k 0 e he
    unfold szE edOk
    cases star
    · show (0 ≤ u + (q : Int) ∧ u + (q : Int) < 4294967296 ∧ 0 ≤ u + (q : Int) + 1 ∧ u + (q : Int) + 1 < 4294967296) ∧ u + (q : Int) + 1 < 4294967296
      omega
    · show (0 ≤ u ∧ u < 4294967296 ∧ 0 ≤ u + 1 + (q : Int) ∧ u + 1 + (q : Int) < 4294967296) ∧ u + 1 + (q : Int) < 4294967296
      omega
  have hrd : readOk 4294967296 b = true := readBack hb (fun e he => (hok e he).1) (by omega) (fun e he => (hok e he).2)
  have hed := edBack (n := 4294967296) hb (fun e he => (hok e he).1) (by omega) (fun e he => (hok e he).2)
  have hrl : readL 4294967296 b = l := by unfold readL; rw [hrd, hed]; rfl
  have hre : readE 4294967296 b = 0 := by unfold readE; rw [hrd]; rfl
  have hpv := putV_len u
  have hb3 : b.length ≤ 3000 := by rw [hbl]; cases star <;> simp <;> omega
  have hsz := putF_size 9 u hu0 (Int.lt_trans hu2 (by decide))
  have hin : ∀ rec H L, fnWay V10 5 [wS .u8 n, wS .u32 fr, tS star, wS .u8 i] rec H L = L 0 (szA star i k u 0 []) := fun rec H L => (szIn rec H L n fr star i).trans (by rw [ek, eu]; rfl)
  have e2 : u.fdiv (2 ^ min (Int.toNat 7) IntKind.u32.bits) = u / 128 := by
    show u.fdiv 128 = _
    exact fdiv_pos u (by decide)
  have hp1 : ∀ rec H L, (fnPl V10 5).past V10 5 0 (.exit 0) (szB star i k u (szL star u 0 k)) rec H L = L 1 (szC star i k l (!putOk l) b 0 (isNilL l) l 0 ((0 : Nat) : Int) (u / 128)) := fun rec H L => by
    rw [← hl]
    refine (szPast rec H L star i k u (isNilL l) l).trans ?_
    have q1 : (!putOk l, putB l).snd = b := hpb
    have q2 : (!putOk l, putB l).fst = (!putOk l) := rfl
    rw [q1, q2, br_pos (decide_eq_true (by omega)), br_pos (decide_eq_true hb3), br_pos (decide_eq_true (by rw [hed]; show l.length ≤ 1000; omega)), hpe, hrl, hre, e2]
    rfl
  have lp2 := szLoop2 (star := star) (i := i) (k := k) (l := l) (bl := !putOk l) (b := b) (e := 0) (xl := isNilL l) (x := l) (f := 0) 9 0 (u / 128) (by omega) (by omega) (by omega)
  rw [Nat.zero_add] at lp2
  have hp2 : Goes V10 5 (fnPl V10 5) ((fnPl V10 5).past V10 5 1 (.exit 2) (szD star i k l (!putOk l) b 0 (isNilL l) l 0 ((szS 9 (u / 128) : Nat) : Int))) .ret (mkSt 130 [(8, vS (.bool true))] []) := by
    refine Goes.now fun rec H L => (szP1 rec H L star i k (isNilL l) l (!putOk l) b 0 (isNilL l) l 0 _).trans ?_
    obtain ⟨q, hq⟩ : ∃ q, q = i.toNat % k := ⟨_, rfl⟩
    have hqk : q < k := by rw [hq]; exact Nat.mod_lt _ hk1
    have hnth : nth eE l q = szE star u q := by rw [hl, szL_nth k 0 q hqk, Nat.zero_add]
    have hbad : putE (l ++ [szE star u q]) = 23 := by
      obtain ⟨d, rfl⟩ : ∃ d, k = d + 1 := ⟨k - 1, by omega⟩
      unfold putE putOk putT
      rw [hl, szL_bad d 0 (by omega)]
      rfl
    have hs : szS 9 (u / 128) + 1 = (putV u).length := hsz.symm
    rw [ei, ← hq, Int.toNat_natCast, hnth]
    have hpr : ((szE star u q).fst, (szE star u q).snd) = szE star u q := rfl
    rw [hpr, byteE, hbad]
    have c0 : decide ((k : Int) = 0) = false := decide_eq_false (by omega)
    have c1 : fits l.length 8 = true := fits_small (by omega) (by decide)
    have c2 : inR (q : Int) l.length = true := inR_yes (by omega) (by omega)
    have c3 : fits (l.length + [szE star u q].length) 8 = true := fits_small (by simp; omega) (by decide)
    have c4 : decide ((l ++ [szE star u q]).length ≤ 1000) = true := decide_eq_true (by simp; omega)
    have c5 : decide (l.length ≤ 1000000) = true := decide_eq_true (by omega)
    rw [c0, c1, c2, c3, c4, c5, sameE_refl, hbl]
    have w1 : IntKind.i64.wrap (1 + ((szS 9 (u / 128) : Nat) : Int)) = 1 + ((szS 9 (u / 128) : Nat) : Int) := w64_id (by omega) (by omega)
    rw [w1]
    generalize hS : szS 9 (u / 128) = S at hs
    cases star with
    | true =>
      have w2 : IntKind.i64.wrap (IntKind.i64.wrap (IntKind.i64.wrap (1 + (S : Int) + 1) + 1) + (k : Int)) = 1 + S + 1 + 1 + k := by
        rw [w64_id (x := 1 + (S : Int) + 1) (by omega) (by omega), w64_id (x := 1 + (S : Int) + 1 + 1) (by omega) (by omega), w64_id (by omega) (by omega)]
      have c6 : ((((bif true then (putV u).length + 2 + k else (putV u).length + 3 * k) : Nat) : Int) == 1 + (S : Int) + 1 + 1 + k) = true := by
        rw [beq_iff_eq]
        show (((putV u).length + 2 + k : Nat) : Int) = _
        omega
      rw [w2, c6]
      rfl
    | false =>
      have w2 : IntKind.i64.wrap (1 + (S : Int) + IntKind.i64.wrap (3 * (k : Int))) = 1 + S + 3 * k := by
        rw [w64_id (x := 3 * (k : Int)) (by omega) (by omega), w64_id (by omega) (by omega)]
      have c6 : ((((bif false then (putV u).length + 2 + k else (putV u).length + 3 * k) : Nat) : Int) == 1 + (S : Int) + 3 * k) = true := by
        rw [beq_iff_eq]
        show (((putV u).length + 3 * k : Nat) : Int) = _
        omega
      rw [w2, c6]
      rfl
  exact Goes.call (Goes.of hin (Goes.loop (szLoop hu0 hu2 hk2) (Goes.of hp1 (Goes.loop lp2 hp2 (by kernel_rfl) (by kernel_rfl) rfl)) (by kernel_rfl) (by kernel_rfl) rfl)) fin (by kernel_rfl)
theorem szWalk (n fr : Int) (star : Bool) (i : Int) (hn : (Lit.int .u8 n).wf = true) (hf : (Lit.int .u32 fr).wf = true) (hi : (Lit.int .u8 i).wf = true) (w : World) :
    Calls Go.Proofs.Try.prog 5 #[.int .u8 n, .int .u32 fr, .bool star, .int .u8 i] w fun e w' => e = .returned (.bool true) ∧ Below w.heap.size w w' := by
  obtain ⟨j, hj⟩ := szCall star (wf_u8 hn) (wf_u32 hf) (wf_u8 hi)
  exact law_of (V := V10) (bx := []) mix (sok10 _ rfl rfl) (M := fun _ _ => none) (fun _ _ _ h => by simp at h) (xs := [wS .u8 n, wS .u32 fr, tS star, wS .u8 i]) ⟨⟨rfl, rfl⟩, ⟨rfl, rfl⟩, ⟨rfl, rfl⟩, ⟨rfl, rfl⟩, trivial⟩ hj
end Go.Proofs.Ythiaaaedfidnjaa.Aj
