/- What the functions come to, by the evaluator. Conditions: none; checked here. -/
import Derived.Test.YtmdhlmcoegghjaaHdA
import Derived.ProofKit
set_option linter.unusedVariables false
set_option linter.unusedSimpArgs false

namespace Go.Proofs.Ytmdhlmcoegghjaa.Hd
open Go Go.Proofs.Ytmdhlmcoegghjaa.Am Go.RowKit
set_option linter.unusedVariables false
set_option linter.unusedSimpArgs false
set_option maxRecDepth 100000
noncomputable def VA : Env := V lA
noncomputable def VB : Env := V lB
noncomputable def VC : Env := V lC
noncomputable def VD : Env := V lD
theorem stepIn (rec : Rec) (H : K) (L : Nat → St → Option Res) (s b : Int) :
    fnWay VA 33 [wS .u32 s, wS .u8 b] rec H L =
  L 0 (mkSt 21 [(0, vS (.int .u32 (IntKind.u32.wrap (↑(BitVec.ofInt IntKind.u32.bits s ^^^ BitVec.ofInt IntKind.u32.bits (IntKind.u32.wrap b)).toNat : Int)))), (9, vS (.int .i64 0))] []) := by kernel_rfl
theorem stepRnd (rec : Rec) (H : K) (L : Nat → St → Option Res) (s i : Int) :
    ((fnPl VA 33).at VA 33 0).way VA 33 (mkSt 21 [(0, vS (.int .u32 s)), (9, vS (.int .i64 i))] []) rec H L =
  br (decide (i < 8)) (
    br (IntKind.u32.wrap (↑(BitVec.ofInt IntKind.u32.bits s &&& BitVec.ofInt IntKind.u32.bits 1).toNat : Int) == 1) (
      H .normal (mkSt 21 [(0, vS (.int .u32 (IntKind.u32.wrap (↑(BitVec.ofInt IntKind.u32.bits (s.fdiv (2 ^ min (Int.toNat 1) IntKind.u32.bits)) ^^^ BitVec.ofInt IntKind.u32.bits 3988292384).toNat : Int)))), (9, vS (.int .i64 (IntKind.i64.wrap (i + 1))))] [])) (
      H .normal (mkSt 21 [(0, vS (.int .u32 (s.fdiv (2 ^ min (Int.toNat 1) IntKind.u32.bits)))), (9, vS (.int .i64 (IntKind.i64.wrap (i + 1))))] []))) (
    H (.exit 0) (mkSt 21 [(0, vS (.int .u32 s))] [])) := by kernel_rfl
theorem stepOut (rec : Rec) (H : K) (L : Nat → St → Option Res) (s : Int) :
    (fnPl VA 33).past VA 33 0 (.exit 0) (mkSt 21 [(0, vS (.int .u32 s))] []) rec H L =
  H .ret (mkSt 21 [(4, vS (.int .u32 s))] []) := by kernel_rfl
theorem nextIn (rec : Rec) (H : K) (L : Nat → St → Option Res) (s b : Int) :
    fnWay VA 25 [wS .u32 s, wS .u8 b] rec H L =
  L 0 (mkSt 26 [(5, vS (.int .u32 (IntKind.u32.wrap (↑(BitVec.ofInt IntKind.u32.bits (IntKind.u32.wrap (↑(BitVec.ofInt IntKind.u32.bits (if IntKind.u32.signed = true then -1 else IntKind.u32.max) ^^^ BitVec.ofInt IntKind.u32.bits s).toNat : Int)) ^^^ BitVec.ofInt IntKind.u32.bits (IntKind.u32.wrap b)).toNat : Int)))), (6, vS (.int .i64 0))] []) := by kernel_rfl
theorem nextRnd (rec : Rec) (H : K) (L : Nat → St → Option Res) (s i : Int) :
    ((fnPl VA 25).at VA 25 0).way VA 25 (mkSt 26 [(5, vS (.int .u32 s)), (6, vS (.int .i64 i))] []) rec H L =
  br (decide (i < 8)) (
    br (IntKind.u32.wrap (↑(BitVec.ofInt IntKind.u32.bits s &&& BitVec.ofInt IntKind.u32.bits 1).toNat : Int) == 1) (
      H .normal (mkSt 26 [(5, vS (.int .u32 (IntKind.u32.wrap (↑(BitVec.ofInt IntKind.u32.bits (s.fdiv (2 ^ min (Int.toNat 1) IntKind.u32.bits)) ^^^ BitVec.ofInt IntKind.u32.bits 3988292384).toNat : Int)))), (6, vS (.int .i64 (IntKind.i64.wrap (i + 1))))] [])) (
      H .normal (mkSt 26 [(5, vS (.int .u32 (s.fdiv (2 ^ min (Int.toNat 1) IntKind.u32.bits)))), (6, vS (.int .i64 (IntKind.i64.wrap (i + 1))))] []))) (
    H (.exit 0) (mkSt 26 [(5, vS (.int .u32 s))] [])) := by kernel_rfl
theorem nextOut (rec : Rec) (H : K) (L : Nat → St → Option Res) (s : Int) :
    (fnPl VA 25).past VA 25 0 (.exit 0) (mkSt 26 [(5, vS (.int .u32 s))] []) rec H L =
  H .ret (mkSt 26 [(4, vS (.int .u32 (IntKind.u32.wrap (↑(BitVec.ofInt IntKind.u32.bits (if IntKind.u32.signed = true then -1 else IntKind.u32.max) ^^^ BitVec.ofInt IntKind.u32.bits s).toNat : Int))))] []) := by kernel_rfl
theorem takeIn (rec : Rec) (H : K) (L : Nat → St → Option Res) (nl : Bool) (xs : List Int) :
    fnWay VA 27 [bS nl xs] rec H L =
  L 0 (mkSt 22 [(3, vS (.int .u64 0)), (6, .s (.c (⟨.ro, AV.sl (CL.int IntKind.u8) nl xs⟩))), (7, vS (.int .i64 (↑xs.length : Int))), (8, vS (.int .i64 0))] []) := by kernel_rfl
theorem takeRnd (rec : Rec) (H : K) (L : Nat → St → Option Res) (nl : Bool) (xs : List Int) (v n i : Int) :
    ((fnPl VA 27).at VA 27 0).way VA 27 (mkSt 22 [(3, vS (.int .u64 v)), (6, .s (bS nl xs)), (7, vS (.int .i64 n)), (8, vS (.int .i64 i))] []) rec H L =
  br (decide (i < n)) (
    br (inR i xs.length) (
      br (decide (IntKind.i64.wrap (8 * i) < 0)) (
        none) (
        H .normal (mkSt 22 [(3, vS (.int .u64 (IntKind.u64.wrap (↑(BitVec.ofInt IntKind.u64.bits v ||| BitVec.ofInt IntKind.u64.bits (IntKind.u64.wrap (IntKind.u64.wrap (nth (CL.int IntKind.u8) xs i.toNat) * 2 ^ min (IntKind.i64.wrap (8 * i)).toNat IntKind.u64.bits))).toNat : Int)))), (6, .s (.c (⟨.ro, AV.sl (CL.int IntKind.u8) nl xs⟩))), (7, vS (.int .i64 n)), (8, vS (.int .i64 (IntKind.i64.wrap (i + 1))))] []))) (
      none)) (
    H (.exit 0) (mkSt 22 [(3, vS (.int .u64 v))] [])) := by kernel_rfl
theorem takeOut (rec : Rec) (H : K) (L : Nat → St → Option Res) (v : Int) :
    (fnPl VA 27).past VA 27 0 (.exit 0) (mkSt 22 [(3, vS (.int .u64 v))] []) rec H L =
  H .ret (mkSt 22 [(2, vS (.int .u64 v))] []) := by kernel_rfl
theorem numberIn (rec : Rec) (H : K) (L : Nat → St → Option Res) (nl : Bool) (xs : List Int) :
    fnWay VA 29 [bS nl xs] rec H L =
  L 0 (mkSt 22 [(0, .s (.c (⟨.ro, AV.sl (CL.int IntKind.u8) nl xs⟩))), (3, vS (.int .u64 0)), (4, vS (.int .i64 0))] []) := by kernel_rfl
theorem numberRnd (rec : Rec) (H : K) (L : Nat → St → Option Res) (nl : Bool) (xs : List Int) (v i : Int) :
    ((fnPl VA 29).at VA 29 0).way VA 29 (mkSt 22 [(0, .s (bS nl xs)), (3, vS (.int .u64 v)), (4, vS (.int .i64 i))] []) rec H L =
  br (decide (i < (↑xs.length : Int))) (
    br (inR i xs.length) (
      br (decide (IntKind.i64.wrap (8 * i) < 0)) (
        none) (
        H .normal (mkSt 22 [(0, .s (.c (⟨.ro, AV.sl (CL.int IntKind.u8) nl xs⟩))), (3, vS (.int .u64 (IntKind.u64.wrap (↑(BitVec.ofInt IntKind.u64.bits v ||| BitVec.ofInt IntKind.u64.bits (IntKind.u64.wrap (IntKind.u64.wrap (nth (CL.int IntKind.u8) xs i.toNat) * 2 ^ min (IntKind.i64.wrap (8 * i)).toNat IntKind.u64.bits))).toNat : Int)))), (4, vS (.int .i64 (IntKind.i64.wrap (i + 1))))] []))) (
      none)) (
    H (.exit 0) (mkSt 22 [(3, vS (.int .u64 v))] [])) := by kernel_rfl
theorem numberOut (rec : Rec) (H : K) (L : Nat → St → Option Res) (v : Int) :
    (fnPl VA 29).past VA 29 0 (.exit 0) (mkSt 22 [(3, vS (.int .u64 v))] []) rec H L =
  H .ret (mkSt 22 [(2, vS (.int .u64 v))] []) := by kernel_rfl
theorem cloneIn (rec : Rec) (H : K) (L : Nat → St → Option Res) (nl : Bool) (xs : List Int) :
    fnWay VA 30 [bS nl xs] rec H L =
  br nl (
    H .ret (mkSt 8 [(2, .s (.c (⟨.ro, AV.nilv⟩)))] [])) (
    br (fits (0 + xs.length) (VA.P.bytesOf 5)) (
      H .ret (mkSt 8 [(2, .s (.c (⟨.own 224 none, AV.sl (CL.int IntKind.u8) (false && isNilL xs) ([] ++ xs)⟩)))] [])) (
      none)) := by kernel_rfl
theorem equalIn (rec : Rec) (H : K) (L : Nat → St → Option Res) (nl nl2 : Bool) (xs ys : List Int) :
    fnWay VA 32 [bS nl xs, bS nl2 ys] rec H L =
  br ((↑xs.length : Int) != (↑ys.length : Int)) (
    H .ret (mkSt 26 [(4, vS (.bool false))] [])) (
    L 0 (mkSt 26 [(0, .s (.c (⟨.ro, AV.sl (CL.int IntKind.u8) nl xs⟩))), (1, .s (.c (⟨.ro, AV.sl (CL.int IntKind.u8) nl2 ys⟩))), (12, vS (.int .i64 (↑xs.length : Int))), (13, vS (.int .i64 0))] [])) := by kernel_rfl
theorem equalRnd (rec : Rec) (H : K) (L : Nat → St → Option Res) (nl nl2 : Bool) (xs ys : List Int) (n i : Int) :
    ((fnPl VA 32).at VA 32 0).way VA 32 (mkSt 26 [(0, .s (bS nl xs)), (1, .s (bS nl2 ys)), (12, vS (.int .i64 n)), (13, vS (.int .i64 i))] []) rec H L =
  br (decide (i < n)) (
    br (inR i xs.length) (
      br (inR i ys.length) (
        br (nth (CL.int IntKind.u8) xs i.toNat != nth (CL.int IntKind.u8) ys i.toNat) (
          H .ret (mkSt 26 [(4, vS (.bool false))] [])) (
          H .normal (mkSt 26 [(0, .s (.c (⟨.ro, AV.sl (CL.int IntKind.u8) nl xs⟩))), (1, .s (.c (⟨.ro, AV.sl (CL.int IntKind.u8) nl2 ys⟩))), (12, vS (.int .i64 n)), (13, vS (.int .i64 (IntKind.i64.wrap (i + 1))))] []))) (
        none)) (
      none)) (
    H (.exit 0) (mkSt 26 [] [])) := by kernel_rfl
theorem equalOut (rec : Rec) (H : K) (L : Nat → St → Option Res) (x : Int) :
    (fnPl VA 32).past VA 32 0 (.exit 0) (mkSt 26 [] []) rec H L =
  H .ret (mkSt 26 [(4, vS (.bool true))] []) := by kernel_rfl
theorem putIn (rec : Rec) (H : K) (L : Nat → St → Option Res) (v n : Int) :
    fnWay VA 23 [wS .u64 v, wS .i64 n] rec H L =
  L 0 (mkSt 18 [(0, vS (.int .u64 v)), (5, .s (.c (⟨.ro, AV.nilv⟩))), (6, vS (.int .i64 n)), (7, vS (.int .i64 0))] []) := by kernel_rfl
theorem putR0 (rec : Rec) (H : K) (L : Nat → St → Option Res) (v n i : Int) :
    ((fnPl VA 23).at VA 23 0).way VA 23 (mkSt 18 [(0, vS (.int .u64 v)), (5, .s (.c (⟨.ro, AV.nilv⟩))), (6, vS (.int .i64 n)), (7, vS (.int .i64 i))] []) rec H L =
  br (decide (i < n)) (
    H .normal (mkSt 18 [(0, vS (.int .u64 (v.fdiv (2 ^ min (Int.toNat 8) IntKind.u64.bits)))), (5, .s (.c (⟨.own 416 none, AV.sl (CL.int IntKind.u8) (isNilL [IntKind.u8.wrap v]) [IntKind.u8.wrap v]⟩))), (6, vS (.int .i64 n)), (7, vS (.int .i64 (IntKind.i64.wrap (i + 1))))] [])) (
    H (.exit 0) (mkSt 18 [(5, .s (.c (⟨.ro, AV.nilv⟩)))] [])) := by kernel_rfl
theorem putR1 (rec : Rec) (H : K) (L : Nat → St → Option Res) (v n i : Int) (o : List Int) :
    ((fnPl VA 23).at VA 23 0).way VA 23 (mkSt 18 [(0, vS (.int .u64 v)), (5, .s (.c (⟨.own 416 none, .sl (.int .u8) false o⟩))), (6, vS (.int .i64 n)), (7, vS (.int .i64 i))] []) rec H L =
  br (decide (i < n)) (
    br (fits (o.length + [IntKind.u8.wrap v].length) (VA.P.bytesOf 5)) (
      H .normal (mkSt 18 [(0, vS (.int .u64 (v.fdiv (2 ^ min (Int.toNat 8) IntKind.u64.bits)))), (5, .s (.c (⟨.own 416 none, AV.sl (CL.int IntKind.u8) (false && isNilL [IntKind.u8.wrap v]) (o ++ [IntKind.u8.wrap v])⟩))), (6, vS (.int .i64 n)), (7, vS (.int .i64 (IntKind.i64.wrap (i + 1))))] [])) (
      none)) (
    H (.exit 0) (mkSt 18 [(5, .s (.c (⟨.own 416 none, AV.sl (CL.int IntKind.u8) false o⟩)))] [])) := by kernel_rfl
theorem putOut (rec : Rec) (H : K) (L : Nat → St → Option Res) (o : List Int) :
    (fnPl VA 23).past VA 23 0 (.exit 0) (mkSt 18 [(5, .s (.c (⟨.own 416 none, .sl (.int .u8) false o⟩)))] []) rec H L =
  H .ret (mkSt 18 [(4, .s (.c (⟨.own 416 none, AV.sl (CL.int IntKind.u8) false o⟩)))] []) := by kernel_rfl
theorem fixIn (rec : Rec) (H : K) (L : Nat → St → Option Res) (v n : Int) :
    fnWay VA 17 [wS .u64 v, wS .i64 n] rec H L =
  L 0 (mkSt 21 [(0, vS (.int .u64 v)), (1, vS (.int .i64 n)), (5, .s (.c (⟨.ro, AV.nilv⟩))), (6, vS (.int .i64 0))] []) := by kernel_rfl
theorem fixR0 (rec : Rec) (H : K) (L : Nat → St → Option Res) (v n i : Int) :
    ((fnPl VA 17).at VA 17 0).way VA 17 (mkSt 21 [(0, vS (.int .u64 v)), (1, vS (.int .i64 n)), (5, .s (.c (⟨.ro, AV.nilv⟩))), (6, vS (.int .i64 i))] []) rec H L =
  br (decide (i < n)) (
    br (decide (IntKind.i64.wrap (8 * i) < 0)) (
      none) (
      H .normal (mkSt 21 [(0, vS (.int .u64 v)), (1, vS (.int .i64 n)), (5, .s (.c (⟨.own 608 none, AV.sl (CL.int IntKind.u8) (isNilL [IntKind.u8.wrap (v.fdiv (2 ^ min (IntKind.i64.wrap (8 * i)).toNat IntKind.u64.bits))]) [IntKind.u8.wrap (v.fdiv (2 ^ min (IntKind.i64.wrap (8 * i)).toNat IntKind.u64.bits))]⟩))), (6, vS (.int .i64 (IntKind.i64.wrap (i + 1))))] []))) (
    H (.exit 0) (mkSt 21 [(5, .s (.c (⟨.ro, AV.nilv⟩)))] [])) := by kernel_rfl
theorem fixR1 (rec : Rec) (H : K) (L : Nat → St → Option Res) (v n i : Int) (o : List Int) :
    ((fnPl VA 17).at VA 17 0).way VA 17 (mkSt 21 [(0, vS (.int .u64 v)), (1, vS (.int .i64 n)), (5, .s (.c (⟨.own 608 none, .sl (.int .u8) false o⟩))), (6, vS (.int .i64 i))] []) rec H L =
  br (decide (i < n)) (
    br (decide (IntKind.i64.wrap (8 * i) < 0)) (
      none) (
      br (fits (o.length + [IntKind.u8.wrap (v.fdiv (2 ^ min (IntKind.i64.wrap (8 * i)).toNat IntKind.u64.bits))].length) (VA.P.bytesOf 5)) (
        H .normal (mkSt 21 [(0, vS (.int .u64 v)), (1, vS (.int .i64 n)), (5, .s (.c (⟨.own 608 none, AV.sl (CL.int IntKind.u8) (false && isNilL [IntKind.u8.wrap (v.fdiv (2 ^ min (IntKind.i64.wrap (8 * i)).toNat IntKind.u64.bits))]) (o ++ [IntKind.u8.wrap (v.fdiv (2 ^ min (IntKind.i64.wrap (8 * i)).toNat IntKind.u64.bits))])⟩))), (6, vS (.int .i64 (IntKind.i64.wrap (i + 1))))] [])) (
        none))) (
    H (.exit 0) (mkSt 21 [(5, .s (.c (⟨.own 608 none, AV.sl (CL.int IntKind.u8) false o⟩)))] [])) := by kernel_rfl
theorem fixOut (rec : Rec) (H : K) (L : Nat → St → Option Res) (o : List Int) :
    (fnPl VA 17).past VA 17 0 (.exit 0) (mkSt 21 [(5, .s (.c (⟨.own 608 none, .sl (.int .u8) false o⟩)))] []) rec H L =
  H .ret (mkSt 21 [(4, .s (.c (⟨.own 608 none, AV.sl (CL.int IntKind.u8) false o⟩)))] []) := by kernel_rfl
theorem sumPIn (rec : Rec) (H : K) (L : Nat → St → Option Res) (nl : Bool) (ps : List (Bool × List Int)) :
    fnWay VB 31 [.c ⟨.ro, .sl (.sl (.int .u8)) nl ps⟩] rec H L =
  L 0 (mkSt 27 [(3, vS (.int .u32 4294967295)), (8, .s (.c (⟨.ro, AV.sl (CL.int IntKind.u8).sl nl ps⟩))), (9, vS (.int .i64 (↑ps.length : Int))), (10, vS (.int .i64 0))] []) := by kernel_rfl
theorem sumPRnd (rec : Rec) (H : K) (L : Nat → St → Option Res) (nl : Bool) (ps : List (Bool × List Int)) (s n i : Int) :
    ((fnPl VB 31).at VB 31 0).way VB 31 (mkSt 27 [(3, vS (.int .u32 s)), (8, .s (.c ⟨.ro, .sl (.sl (.int .u8)) nl ps⟩)), (9, vS (.int .i64 n)), (10, vS (.int .i64 i))] []) rec H L =
  br (decide (i < n)) (
    br (inR i ps.length) (
      L 0 (mkSt 27 [(3, vS (.int .u32 s)), (8, .s (.c (⟨.ro, AV.sl (CL.int IntKind.u8).sl nl ps⟩))), (9, vS (.int .i64 n)), (10, vS (.int .i64 i)), (14, .s (.c (⟨.ro, AV.sl (CL.int IntKind.u8) (nth (CL.int IntKind.u8).sl ps i.toNat).fst (nth (CL.int IntKind.u8).sl ps i.toNat).snd⟩))), (15, vS (.int .i64 (↑(nth (CL.int IntKind.u8).sl ps i.toNat).snd.length : Int))), (16, vS (.int .i64 0))] [])) (
      none)) (
    H (.exit 0) (mkSt 27 [(3, vS (.int .u32 s))] [])) := by kernel_rfl
theorem sumPRnd2 (rec : Rec) (H : K) (L : Nat → St → Option Res) (nl nk : Bool) (ps : List (Bool × List Int)) (xs : List Int) (s n i m k : Int) :
    (((fnPl VB 31).at VB 31 0).at VB 31 0).way VB 31 (mkSt 27 [(3, vS (.int .u32 s)), (8, .s (.c ⟨.ro, .sl (.sl (.int .u8)) nl ps⟩)), (9, vS (.int .i64 n)), (10, vS (.int .i64 i)), (14, .s (bS nk xs)), (15, vS (.int .i64 m)), (16, vS (.int .i64 k))] []) rec H L =
  br (decide (k < m)) (
    br (inR k xs.length) (
      H .normal (mkSt 27 [(3, vS (.int .u32 (stepI s (nth (CL.int IntKind.u8) xs k.toNat)))), (8, .s (.c (⟨.ro, AV.sl (CL.int IntKind.u8).sl nl ps⟩))), (9, vS (.int .i64 n)), (10, vS (.int .i64 i)), (14, .s (.c (⟨.ro, AV.sl (CL.int IntKind.u8) nk xs⟩))), (15, vS (.int .i64 m)), (16, vS (.int .i64 (IntKind.i64.wrap (k + 1))))] [])) (
      none)) (
    H (.exit 2) (mkSt 27 [(3, vS (.int .u32 s)), (8, .s (.c (⟨.ro, AV.sl (CL.int IntKind.u8).sl nl ps⟩))), (9, vS (.int .i64 n)), (10, vS (.int .i64 i))] [])) := by kernel_rfl
theorem sumPPast (rec : Rec) (H : K) (L : Nat → St → Option Res) (nl : Bool) (ps : List (Bool × List Int)) (s n i : Int) :
    ((fnPl VB 31).at VB 31 0).past VB 31 0 (.exit 2) (mkSt 27 [(3, vS (.int .u32 s)), (8, .s (.c ⟨.ro, .sl (.sl (.int .u8)) nl ps⟩)), (9, vS (.int .i64 n)), (10, vS (.int .i64 i))] []) rec H L =
  H .normal (mkSt 27 [(3, vS (.int .u32 s)), (8, .s (.c (⟨.ro, AV.sl (CL.int IntKind.u8).sl nl ps⟩))), (9, vS (.int .i64 n)), (10, vS (.int .i64 (IntKind.i64.wrap (i + 1))))] []) := by kernel_rfl
theorem sumPOut (rec : Rec) (H : K) (L : Nat → St → Option Res) (s : Int) :
    (fnPl VB 31).past VB 31 0 (.exit 0) (mkSt 27 [(3, vS (.int .u32 s))] []) rec H L =
  H .ret (mkSt 27 [(2, vS (.int .u32 (IntKind.u32.wrap (↑(BitVec.ofInt IntKind.u32.bits (if IntKind.u32.signed = true then -1 else IntKind.u32.max) ^^^ BitVec.ofInt IntKind.u32.bits s).toNat : Int))))] []) := by kernel_rfl
theorem sumRIn (rec : Rec) (H : K) (L : Nat → St → Option Res) (nl : Bool) (ps : List (Bool × List Int)) :
    fnWay VB 18 [.c ⟨.ro, .sl (.sl (.int .u8)) nl ps⟩] rec H L =
  L 0 (mkSt 31 [(0, .s (.c (⟨.ro, AV.sl (CL.int IntKind.u8).sl nl ps⟩))), (3, vS (.int .u32 0)), (4, vS (.int .i64 0))] []) := by kernel_rfl
theorem sumRRnd (rec : Rec) (H : K) (L : Nat → St → Option Res) (nl : Bool) (ps : List (Bool × List Int)) (s i : Int) :
    ((fnPl VB 18).at VB 18 0).way VB 18 (mkSt 31 [(0, .s (.c ⟨.ro, .sl (.sl (.int .u8)) nl ps⟩)), (3, vS (.int .u32 s)), (4, vS (.int .i64 i))] []) rec H L =
  br (decide (i < (↑ps.length : Int))) (
    L 0 (mkSt 31 [(0, .s (.c (⟨.ro, AV.sl (CL.int IntKind.u8).sl nl ps⟩))), (3, vS (.int .u32 s)), (4, vS (.int .i64 i)), (5, vS (.int .i64 0))] [])) (
    H (.exit 0) (mkSt 31 [(3, vS (.int .u32 s))] [])) := by kernel_rfl
theorem sumRRnd2 (rec : Rec) (H : K) (L : Nat → St → Option Res) (nl : Bool) (ps : List (Bool × List Int)) (s i k : Int) :
    (((fnPl VB 18).at VB 18 0).at VB 18 0).way VB 18 (mkSt 31 [(0, .s (.c ⟨.ro, .sl (.sl (.int .u8)) nl ps⟩)), (3, vS (.int .u32 s)), (4, vS (.int .i64 i)), (5, vS (.int .i64 k))] []) rec H L =
  br (inR i ps.length) (
    br (decide (k < (↑(nth (CL.int IntKind.u8).sl ps i.toNat).snd.length : Int))) (
      br (inR i ps.length) (
        br (inR k (nth (CL.int IntKind.u8).sl ps i.toNat).snd.length) (
          H .normal (mkSt 31 [(0, .s (.c (⟨.ro, AV.sl (CL.int IntKind.u8).sl nl ps⟩))), (3, vS (.int .u32 (nextI s (nth (CL.int IntKind.u8) (nth (CL.int IntKind.u8).sl ps i.toNat).snd k.toNat)))), (4, vS (.int .i64 i)), (5, vS (.int .i64 (IntKind.i64.wrap (k + 1))))] [])) (
          none)) (
        none)) (
      H (.exit 2) (mkSt 31 [(0, .s (.c (⟨.ro, AV.sl (CL.int IntKind.u8).sl nl ps⟩))), (3, vS (.int .u32 s)), (4, vS (.int .i64 i))] []))) (
    none) := by kernel_rfl
theorem sumRPast (rec : Rec) (H : K) (L : Nat → St → Option Res) (nl : Bool) (ps : List (Bool × List Int)) (s i : Int) :
    ((fnPl VB 18).at VB 18 0).past VB 18 0 (.exit 2) (mkSt 31 [(0, .s (.c ⟨.ro, .sl (.sl (.int .u8)) nl ps⟩)), (3, vS (.int .u32 s)), (4, vS (.int .i64 i))] []) rec H L =
  H .normal (mkSt 31 [(0, .s (.c (⟨.ro, AV.sl (CL.int IntKind.u8).sl nl ps⟩))), (3, vS (.int .u32 s)), (4, vS (.int .i64 (IntKind.i64.wrap (i + 1))))] []) := by kernel_rfl
theorem sumROut (rec : Rec) (H : K) (L : Nat → St → Option Res) (s : Int) :
    (fnPl VB 18).past VB 18 0 (.exit 0) (mkSt 31 [(3, vS (.int .u32 s))] []) rec H L =
  H .ret (mkSt 31 [(2, vS (.int .u32 s))] []) := by kernel_rfl
theorem sealPIn (rec : Rec) (H : K) (L : Nat → St → Option Res) (nl : Bool) (xs : List Int) :
    fnWay VC 24 [bS nl xs] rec H L =
  br nl (
    br (smallP [(nl, xs)]) (
      L 0 (mkSt 21 [(3, .s (.c (⟨.own 192 none, AV.sl (CL.int IntKind.u8) true []⟩))), (4, vS (.int .u32 (sumP [(nl, xs)]))), (10, vS (.int .i64 0))] [])) (
      none)) (
    br (decide (xs.length ≤ 1000000)) (
      br (smallP [(nl, xs)]) (
        L 0 (mkSt 21 [(3, .s (.c (⟨.own 192 none, AV.sl (CL.int IntKind.u8) false xs⟩))), (4, vS (.int .u32 (sumP [(nl, xs)]))), (10, vS (.int .i64 0))] [])) (
        none)) (
      none)) := by kernel_rfl
theorem sealPR0 (rec : Rec) (H : K) (L : Nat → St → Option Res) (s i : Int) (o : List Int) :
    ((fnPl VC 24).at VC 24 0).way VC 24 (mkSt 21 [(3, .s (.c (⟨.own 192 none, .sl (.int .u8) false o⟩))), (4, vS (.int .u32 s)), (10, vS (.int .i64 i))] []) rec H L =
  br (decide (i < 4)) (
    br (fits (o.length + [IntKind.u8.wrap s].length) (VC.P.bytesOf 5)) (
      H .normal (mkSt 21 [(3, .s (.c (⟨.own 512 none, AV.sl (CL.int IntKind.u8) (false && isNilL [IntKind.u8.wrap s]) (o ++ [IntKind.u8.wrap s])⟩))), (4, vS (.int .u32 (s.fdiv (2 ^ min (Int.toNat 8) IntKind.u32.bits)))), (10, vS (.int .i64 (IntKind.i64.wrap (i + 1))))] [])) (
      none)) (
    H (.exit 0) (mkSt 21 [(3, .s (.c (⟨.own 192 none, AV.sl (CL.int IntKind.u8) false o⟩)))] [])) := by kernel_rfl
theorem sealPR1 (rec : Rec) (H : K) (L : Nat → St → Option Res) (s i : Int) (o : List Int) :
    ((fnPl VC 24).at VC 24 0).way VC 24 (mkSt 21 [(3, .s (.c (⟨.own 512 none, .sl (.int .u8) false o⟩))), (4, vS (.int .u32 s)), (10, vS (.int .i64 i))] []) rec H L =
  br (decide (i < 4)) (
    br (fits (o.length + [IntKind.u8.wrap s].length) (VC.P.bytesOf 5)) (
      H .normal (mkSt 21 [(3, .s (.c (⟨.own 512 none, AV.sl (CL.int IntKind.u8) (false && isNilL [IntKind.u8.wrap s]) (o ++ [IntKind.u8.wrap s])⟩))), (4, vS (.int .u32 (s.fdiv (2 ^ min (Int.toNat 8) IntKind.u32.bits)))), (10, vS (.int .i64 (IntKind.i64.wrap (i + 1))))] [])) (
      none)) (
    H (.exit 0) (mkSt 21 [(3, .s (.c (⟨.own 512 none, AV.sl (CL.int IntKind.u8) false o⟩)))] [])) := by kernel_rfl
theorem sealPOut (rec : Rec) (H : K) (L : Nat → St → Option Res) (o : List Int) :
    (fnPl VC 24).past VC 24 0 (.exit 0) (mkSt 21 [(3, .s (.c (⟨.own 512 none, .sl (.int .u8) false o⟩)))] []) rec H L =
  H .ret (mkSt 21 [(2, .s (.c (⟨.own 512 none, AV.sl (CL.int IntKind.u8) false o⟩)))] []) := by kernel_rfl
theorem sealRIn (rec : Rec) (H : K) (L : Nat → St → Option Res) (nl : Bool) (xs : List Int) :
    fnWay VC 22 [bS nl xs] rec H L =
  br (fits xs.length (VC.P.bytesOf 5)) (
    br (smallP [(nl, xs)]) (
      br (fits (xs.length + (fixL (IntKind.u64.wrap (sumR [(nl, xs)])) (Int.toNat 4)).length) (VC.P.bytesOf 5)) (
        H .ret (mkSt 11 [(2, .s (.c (⟨.own 320 none, AV.sl (CL.int IntKind.u8) (isNilL xs && isNilL (fixL (IntKind.u64.wrap (sumR [(nl, xs)])) (Int.toNat 4))) (xs ++ fixL (IntKind.u64.wrap (sumR [(nl, xs)])) (Int.toNat 4))⟩)))] [])) (
        none)) (
      none)) (
    none) := by kernel_rfl
theorem openRIn (rec : Rec) (H : K) (L : Nat → St → Option Res) (nl : Bool) (xs : List Int) :
    fnWay VC 28 [bS nl xs] rec H L =
  br (!decide (IntKind.i64.wrap ((↑xs.length : Int) - 4) < 0)) (
    br (leR (IntKind.i64.wrap ((↑xs.length : Int) - 4)) xs.length) (
      br (decide ((List.drop (IntKind.i64.wrap ((↑xs.length : Int) - 4)).toNat xs).length ≤ 1000000)) (
        br (leR (IntKind.i64.wrap ((↑xs.length : Int) - 4)) xs.length) (
          br (smallP [(nl, List.take (IntKind.i64.wrap ((↑xs.length : Int) - 4)).toNat xs)]) (
            br (numI (List.drop (IntKind.i64.wrap ((↑xs.length : Int) - 4)).toNat xs) != IntKind.u64.wrap (sumR [(nl, List.take (IntKind.i64.wrap ((↑xs.length : Int) - 4)).toNat xs)])) (
              H .ret (mkSt 26 [(2, .s (.c (⟨.ro, AV.nilv⟩))), (3, vS (.bool false))] [])) (
              br (leR (IntKind.i64.wrap ((↑xs.length : Int) - 4)) xs.length) (
                H .ret (mkSt 26 [(2, .s (.c (⟨.ro, AV.sl (CL.int IntKind.u8) nl (List.take (IntKind.i64.wrap ((↑xs.length : Int) - 4)).toNat xs)⟩))), (3, vS (.bool true))] [])) (
                none))) (
            none)) (
          none)) (
        none)) (
      none)) (
    H .ret (mkSt 26 [(2, .s (.c (⟨.ro, AV.nilv⟩))), (3, vS (.bool false))] [])) := by kernel_rfl
theorem flipIn (rec : Rec) (H : K) (L : Nat → St → Option Res) (nl : Bool) (xs : List Int) (a m : Int) :
    fnWay VC 21 [bS nl xs, wS .i64 a, wS .u32 m] rec H L =
  br (fits xs.length (VC.P.bytesOf 5)) (
    L 0 (mkSt 50 [(0, .s (.c (⟨.ro, AV.sl (CL.int IntKind.u8) nl xs⟩))), (1, vS (.int .i64 a)), (2, vS (.int .u32 m)), (7, .s (.c (⟨.own 320 none, AV.sl (CL.int IntKind.u8) (isNilL xs) xs⟩))), (8, vS (.int .i64 0))] [])) (
    none) := by kernel_rfl
theorem flipR0 (rec : Rec) (H : K) (L : Nat → St → Option Res) (nl : Bool) (xs o : List Int) (a m i : Int) :
    ((fnPl VC 21).at VC 21 0).way VC 21 (mkSt 50 [(0, .s (bS nl xs)), (1, vS (.int .i64 a)), (2, vS (.int .u32 m)), (7, .s (.c (⟨.own 320 none, .sl (.int .u8) false o⟩))), (8, vS (.int .i64 i))] []) rec H L =
  br (decide (i < 32)) (
    br (decide (i < 0)) (
      none) (
      br (IntKind.u32.wrap (↑(BitVec.ofInt IntKind.u32.bits (m.fdiv (2 ^ min i.toNat IntKind.u32.bits)) &&& BitVec.ofInt IntKind.u32.bits 1).toNat : Int) == 1) (
        br (decide (a ≥ IntKind.i64.wrap (0 - i))) (
          br (decide (a < IntKind.i64.wrap (IntKind.i64.wrap (8 * (↑xs.length : Int)) - i))) (
            br (inR (IntKind.i64.wrap ((IntKind.i64.wrap (a + i)).tdiv 8)) o.length) (
              br (decide ((IntKind.i64.wrap (a + i)).tmod 8 < 0)) (
                none) (
                br (inR (IntKind.i64.wrap ((IntKind.i64.wrap (a + i)).tdiv 8)) o.length) (
                  H .normal (mkSt 50 [(0, .s (.c (⟨.ro, AV.sl (CL.int IntKind.u8) nl xs⟩))), (1, vS (.int .i64 a)), (2, vS (.int .u32 m)), (7, .s (.c (⟨.own 320 none, AV.sl (CL.int IntKind.u8) false (o.set (IntKind.i64.wrap ((IntKind.i64.wrap (a + i)).tdiv 8)).toNat (IntKind.u8.wrap (↑(BitVec.ofInt IntKind.u8.bits (nth (CL.int IntKind.u8) o (IntKind.i64.wrap ((IntKind.i64.wrap (a + i)).tdiv 8)).toNat) ^^^ BitVec.ofInt IntKind.u8.bits (IntKind.u8.wrap (1 * 2 ^ min ((IntKind.i64.wrap (a + i)).tmod 8).toNat IntKind.u8.bits))).toNat : Int)))⟩))), (8, vS (.int .i64 (IntKind.i64.wrap (i + 1))))] [])) (
                  none))) (
              none)) (
            H .normal (mkSt 50 [(0, .s (.c (⟨.ro, AV.sl (CL.int IntKind.u8) nl xs⟩))), (1, vS (.int .i64 a)), (2, vS (.int .u32 m)), (7, .s (.c (⟨.own 320 none, AV.sl (CL.int IntKind.u8) false o⟩))), (8, vS (.int .i64 (IntKind.i64.wrap (i + 1))))] []))) (
          H .normal (mkSt 50 [(0, .s (.c (⟨.ro, AV.sl (CL.int IntKind.u8) nl xs⟩))), (1, vS (.int .i64 a)), (2, vS (.int .u32 m)), (7, .s (.c (⟨.own 320 none, AV.sl (CL.int IntKind.u8) false o⟩))), (8, vS (.int .i64 (IntKind.i64.wrap (i + 1))))] []))) (
        H .normal (mkSt 50 [(0, .s (.c (⟨.ro, AV.sl (CL.int IntKind.u8) nl xs⟩))), (1, vS (.int .i64 a)), (2, vS (.int .u32 m)), (7, .s (.c (⟨.own 320 none, AV.sl (CL.int IntKind.u8) false o⟩))), (8, vS (.int .i64 (IntKind.i64.wrap (i + 1))))] [])))) (
    H (.exit 0) (mkSt 50 [(7, .s (.c (⟨.own 320 none, AV.sl (CL.int IntKind.u8) false o⟩)))] [])) := by kernel_rfl
theorem flipOut (rec : Rec) (H : K) (L : Nat → St → Option Res) (o : List Int) :
    (fnPl VC 21).past VC 21 0 (.exit 0) (mkSt 50 [(7, .s (.c (⟨.own 320 none, .sl (.int .u8) false o⟩)))] []) rec H L =
  H .ret (mkSt 50 [(6, .s (.c (⟨.own 320 none, AV.sl (CL.int IntKind.u8) false o⟩)))] []) := by kernel_rfl
theorem openPIn (rec : Rec) (H : K) (L : Nat → St → Option Res) (nl : Bool) (xs : List Int) :
    fnWay VD 26 [bS nl xs] rec H L =
  br (!decide (IntKind.i64.wrap ((↑xs.length : Int) - 4) < 0)) (
    br (leR (IntKind.i64.wrap ((↑xs.length : Int) - 4)) xs.length) (
      br nl (
        none) (
        br (decide ((List.take (IntKind.i64.wrap ((↑xs.length : Int) - 4)).toNat xs).length ≤ 1000000)) (
          br (decide ((sealP (List.take (IntKind.i64.wrap ((↑xs.length : Int) - 4)).toNat xs)).length ≤ 1000000)) (
            br (!decide (sealP (List.take (IntKind.i64.wrap ((↑xs.length : Int) - 4)).toNat xs) = xs)) (
              H .ret (mkSt 23 [(2, .s (.c (⟨.ro, AV.nilv⟩))), (3, vS (.bool false))] [])) (
              br (leR (IntKind.i64.wrap ((↑xs.length : Int) - 4)) xs.length) (
                br nl (
                  H .ret (mkSt 23 [(2, .s (.c (⟨.own 704 none, AV.sl (CL.int IntKind.u8) true []⟩))), (3, vS (.bool true))] [])) (
                  br (decide ((List.take (IntKind.i64.wrap ((↑xs.length : Int) - 4)).toNat xs).length ≤ 1000000)) (
                    H .ret (mkSt 23 [(2, .s (.c (⟨.own 704 none, AV.sl (CL.int IntKind.u8) false (List.take (IntKind.i64.wrap ((↑xs.length : Int) - 4)).toNat xs)⟩))), (3, vS (.bool true))] [])) (
                    none))) (
                none))) (
            none)) (
          none))) (
      none)) (
    H .ret (mkSt 23 [(2, .s (.c (⟨.ro, AV.nilv⟩))), (3, vS (.bool false))] [])) := by kernel_rfl
end Go.Proofs.Ytmdhlmcoegghjaa.Hd

namespace Go.Proofs.Ytmdhlmcoegghjaa.Hd
open Go Go.Proofs.Ytmdhlmcoegghjaa.Am Go.RowKit
set_option linter.unusedVariables false
set_option linter.unusedSimpArgs false
set_option maxRecDepth 100000
theorem leaf_none {r : Res} {p : Prop} (h : (no : Tree).den = some r) : p := by cases h
theorem ok_some {s : S} {r : Res} (h : (ok s).den = some r) : r = (s, []) := by cases h; rfl
theorem tree_br {c : Bool} {a b : Tree} {r : Res} (h : (Tree.br c a b).den = some r) : (c = true ∧ a.den = some r) ∨ (c = false ∧ b.den = some r) := by
  cases c with
  | true => exact .inl ⟨rfl, h⟩
  | false => exact .inr ⟨rfl, h⟩
theorem tree_yes {c : Bool} {a : Tree} {r : Res} (h : (Tree.br c a no).den = some r) : c = true ∧ a.den = some r := by
  rcases tree_br h with h | ⟨_, h⟩
  · exact h
  · exact leaf_none h
theorem tree_not {c : Bool} {a : Tree} {r : Res} (h : (Tree.br c no a).den = some r) : c = false ∧ a.den = some r := by
  rcases tree_br h with ⟨_, h⟩ | h
  · exact leaf_none h
  · exact h

/-! a step of the sum -/
theorem stepLoop (s : Int) : Loops VA 33 (fnPl VA 33) 0 (mkSt 21 [(0, vS (.int .u32 s)), (9, vS (.int .i64 0))] []) (.exit 0) (mkSt 21 [(0, vS (.int .u32 (itr (fun _ => crcT) s 8)))] []) :=
  Loops.count (S := fun i => mkSt 21 [(0, vS (.int .u32 (itr (fun _ => crcT) s i))), (9, vS (.int .i64 (i : Int)))] []) (n := 8) (by kernel_rfl)
    (fun i hi => Goes.now fun rec H L => (stepRnd rec H L _ _).trans (by
      rw [br_pos (decide_eq_true (by omega)), w64_id (by omega) (by omega)]
      exact br_if (F := fun x => H .normal (mkSt 21 [(0, vS (.int .u32 x)), (9, vS (.int .i64 ((i : Int) + 1)))] []))))
    (Goes.now fun rec H L => (stepRnd rec H L _ _).trans (br_neg (decide_eq_false (by omega)))) (by simp)
theorem stepK (xs : List S1) (r : Res) (h : (stepH xs).den = some r) : ∃ n, call VA n 33 xs = some r := by
  unfold stepH at h
  split at h
  · obtain rfl := ok_some h
    exact Goes.call (Goes.of (stepIn · · · _ _) (Goes.loop (stepLoop _) (Goes.now (stepOut · · · _)) (by kernel_rfl) (by kernel_rfl) rfl)) (by kernel_rfl) (by kernel_rfl)
  · exact leaf_none h
theorem nextLoop (s : Int) : Loops VA 25 (fnPl VA 25) 0 (mkSt 26 [(5, vS (.int .u32 s)), (6, vS (.int .i64 0))] []) (.exit 0) (mkSt 26 [(5, vS (.int .u32 (itr (fun _ => crcT) s 8)))] []) :=
  Loops.count (S := fun i => mkSt 26 [(5, vS (.int .u32 (itr (fun _ => crcT) s i))), (6, vS (.int .i64 (i : Int)))] []) (n := 8) (by kernel_rfl)
    (fun i hi => Goes.now fun rec H L => (nextRnd rec H L _ _).trans (by
      rw [br_pos (decide_eq_true (by omega)), w64_id (by omega) (by omega)]
      exact br_if (F := fun x => H .normal (mkSt 26 [(5, vS (.int .u32 x)), (6, vS (.int .i64 ((i : Int) + 1)))] []))))
    (Goes.now fun rec H L => (nextRnd rec H L _ _).trans (br_neg (decide_eq_false (by omega)))) (by simp)
theorem nextK (xs : List S1) (r : Res) (h : (nextH xs).den = some r) : ∃ n, call VA n 25 xs = some r := by
  unfold nextH at h
  split at h
  · obtain rfl := ok_some h
    exact Goes.call (Goes.of (nextIn · · · _ _) (Goes.loop (nextLoop _) (Goes.now (nextOut · · · _)) (by kernel_rfl) (by kernel_rfl) rfl)) (by kernel_rfl) (by kernel_rfl)
  · exact leaf_none h

/-! numbers of bytes -/
theorem takeLoop (nl : Bool) (xs : List Int) (hx : xs.length ≤ 1000000) : Loops VA 27 (fnPl VA 27) 0 (mkSt 22 [(3, vS (.int .u64 0)), (6, .s (bS nl xs)), (7, vS (.int .i64 (xs.length : Int))), (8, vS (.int .i64 0))] []) (.exit 0) (mkSt 22 [(3, vS (.int .u64 (numI xs)))] []) :=
  Loops.count (S := fun i => mkSt 22 [(3, vS (.int .u64 (takI xs i))), (6, .s (bS nl xs)), (7, vS (.int .i64 (xs.length : Int))), (8, vS (.int .i64 (i : Int)))] []) (n := xs.length) (by kernel_rfl)
    (fun i hi => Goes.now fun rec H L => (takeRnd rec H L _ _ _ _ _).trans (by
      rw [br_pos (decide_eq_true (by omega)), br_pos (inR_yes (by omega) (by omega)), w64_id (x := 8 * (i : Int)) (by omega) (by omega), w64_id (x := (i : Int) + 1) (by omega) (by omega), br_neg (decide_eq_false (by omega))]
      simp only [takI, itr]
      rw [w64_id (x := 8 * (i : Int)) (by omega) (by omega)]
      rfl))
    (Goes.now fun rec H L => (takeRnd rec H L _ _ _ _ _).trans (br_neg (decide_eq_false (by omega)))) (by simp)
theorem takeK (xs : List S1) (r : Res) (h : (numH xs).den = some r) : ∃ n, call VA n 27 xs = some r := by
  unfold numH at h
  split at h
  · obtain ⟨hx, h⟩ := tree_yes h
    obtain rfl := ok_some h
    exact Goes.call (Goes.of (takeIn · · · _ _) (Goes.loop (takeLoop _ _ (of_decide_eq_true hx)) (Goes.now (takeOut · · · _)) (by kernel_rfl) (by kernel_rfl) rfl)) (by kernel_rfl) (by kernel_rfl)
  · exact leaf_none h
theorem numberLoop (nl : Bool) (xs : List Int) (hx : xs.length ≤ 1000000) : Loops VA 29 (fnPl VA 29) 0 (mkSt 22 [(0, .s (bS nl xs)), (3, vS (.int .u64 0)), (4, vS (.int .i64 0))] []) (.exit 0) (mkSt 22 [(3, vS (.int .u64 (numI xs)))] []) :=
  Loops.count (S := fun i => mkSt 22 [(0, .s (bS nl xs)), (3, vS (.int .u64 (takI xs i))), (4, vS (.int .i64 (i : Int)))] []) (n := xs.length) (by kernel_rfl)
    (fun i hi => Goes.now fun rec H L => (numberRnd rec H L _ _ _ _).trans (by
      rw [br_pos (decide_eq_true (by omega)), br_pos (inR_yes (by omega) (by omega)), w64_id (x := 8 * (i : Int)) (by omega) (by omega), w64_id (x := (i : Int) + 1) (by omega) (by omega), br_neg (decide_eq_false (by omega))]
      simp only [takI, itr]
      rw [w64_id (x := 8 * (i : Int)) (by omega) (by omega)]
      rfl))
    (Goes.now fun rec H L => (numberRnd rec H L _ _ _ _).trans (br_neg (decide_eq_false (by omega)))) (by simp)
theorem numberK (xs : List S1) (r : Res) (h : (numH xs).den = some r) : ∃ n, call VA n 29 xs = some r := by
  unfold numH at h
  split at h
  · obtain ⟨hx, h⟩ := tree_yes h
    obtain rfl := ok_some h
    exact Goes.call (Goes.of (numberIn · · · _ _) (Goes.loop (numberLoop _ _ (of_decide_eq_true hx)) (Goes.now (numberOut · · · _)) (by kernel_rfl) (by kernel_rfl) rfl)) (by kernel_rfl) (by kernel_rfl)
  · exact leaf_none h

/-! slices -/
theorem byteA : VA.P.bytesOf 5 = 1 := by kernel_rfl
theorem fits1 {n : Nat} (h : n ≤ 10000000) : fits n 1 = true := decide_eq_true (by unfold LIM; omega)
theorem cloneK (xs : List S1) (r : Res) (h : (cloneH xs).den = some r) : ∃ n, call VA n 30 xs = some r := by
  unfold cloneH at h
  split at h
  · rename_i nl xs
    rcases tree_br h with ⟨rfl, h⟩ | ⟨rfl, h⟩
    · obtain rfl := ok_some h
      exact Goes.call (Goes.now fun rec H L => (cloneIn rec H L true xs).trans (br_pos rfl)) (by kernel_rfl) (by kernel_rfl)
    · obtain ⟨hx, h⟩ := tree_yes h
      obtain rfl := ok_some h
      have hx := of_decide_eq_true hx
      exact Goes.call (Goes.now fun rec H L => (cloneIn rec H L false xs).trans ((br_neg rfl).trans (br_pos (by rw [byteA]; exact fits1 (by omega))))) (by kernel_rfl) (by kernel_rfl)
  · exact leaf_none h
theorem differ : ∀ {xs ys : List Int}, xs.length = ys.length → xs ≠ ys → ∃ k, k < xs.length ∧ (∀ j, j < k → nth (.int .u8) xs j = nth (.int .u8) ys j) ∧ nth (.int .u8) xs k ≠ nth (.int .u8) ys k
  | [], [], _, h => absurd rfl h
  | x :: xs, y :: ys, hl, h => by
    by_cases hxy : x = y
    · obtain ⟨k, h1, h2, h3⟩ := differ (xs := xs) (ys := ys) (by simpa using hl) (fun e => h (by rw [hxy, e]))
      refine ⟨k + 1, by simpa using h1, fun j hj => ?_, h3⟩
      cases j with
      | zero => exact hxy
      | succ j => exact h2 j (by omega)
    · exact ⟨0, by simp, fun j hj => by omega, hxy⟩
def eqSt (nl nl2 : Bool) (xs ys : List Int) (i : Nat) : St := mkSt 26 [(0, .s (bS nl xs)), (1, .s (bS nl2 ys)), (12, vS (.int .i64 (xs.length : Int))), (13, vS (.int .i64 (i : Int)))] []
theorem equalStep {nl nl2 : Bool} {xs ys : List Int} (hl : xs.length = ys.length) (hb : xs.length ≤ 1000000000) {i : Nat} (hi : i < xs.length) (he : nth (.int .u8) xs i = nth (.int .u8) ys i) :
    Goes VA 32 ((fnPl VA 32).at VA 32 0) (((fnPl VA 32).at VA 32 0).way VA 32 (eqSt nl nl2 xs ys i)) .normal (eqSt nl nl2 xs ys (i + 1)) :=
  Goes.now fun rec H L => (equalRnd rec H L nl nl2 xs ys _ _).trans (by
    rw [br_pos (decide_eq_true (by omega)), br_pos (inR_yes (by omega) (by omega)), br_pos (inR_yes (by omega) (by omega)), w64_id (x := (i : Int) + 1) (by omega) (by omega)]
    exact br_neg (by
      show (nth (.int .u8) xs i != nth (.int .u8) ys i) = false
      rw [he]
      exact bne_self_eq_false' _))
theorem equalK (args : List S1) (r : Res) (h : (equalH args).den = some r) : ∃ n, call VA n 32 args = some r := by
  unfold equalH at h
  split at h
  · rename_i nl xs nl2 ys
    obtain ⟨hb, h⟩ := tree_yes h
    have hb := of_decide_eq_true hb
    obtain rfl := ok_some h
    by_cases hl : xs.length = ys.length
    · have hin : ∀ rec H L, fnWay VA 32 [bS nl xs, bS nl2 ys] rec H L = L 0 (eqSt nl nl2 xs ys 0) := fun rec H L => (equalIn rec H L nl nl2 xs ys).trans (br_neg (by rw [hl]; exact bne_self_eq_false' _))
      by_cases he : xs = ys
      · rw [decide_eq_true he]
        have lp : Loops VA 32 (fnPl VA 32) 0 (eqSt nl nl2 xs ys 0) (.exit 0) (mkSt 26 [] []) :=
          Loops.count (S := eqSt nl nl2 xs ys) (n := xs.length) (by kernel_rfl) (fun i hi => equalStep hl (by omega) hi (by rw [he])) (Goes.now fun rec H L => (equalRnd rec H L nl nl2 xs ys _ _).trans (br_neg (decide_eq_false (by omega)))) (by simp)
        exact Goes.call (Goes.of hin (Goes.loop lp (Goes.now (equalOut · · · 0)) (by kernel_rfl) (by kernel_rfl) rfl)) (by kernel_rfl) (by kernel_rfl)
      · rw [decide_eq_false he]
        obtain ⟨k, h1, h2, h3⟩ := differ hl he
        have lp : Loops VA 32 (fnPl VA 32) 0 (eqSt nl nl2 xs ys 0) .ret (mkSt 26 [(4, vS (.bool false))] []) :=
          Loops.count (S := eqSt nl nl2 xs ys) (n := k) (by kernel_rfl) (fun i hi => equalStep hl (by omega) (by omega) (h2 i hi)) (Goes.now fun rec H L => (equalRnd rec H L nl nl2 xs ys _ _).trans (by
            rw [br_pos (decide_eq_true (by omega)), br_pos (inR_yes (by omega) (by omega)), br_pos (inR_yes (by omega) (by omega))]
            exact br_pos (by
              show (nth (.int .u8) xs k != nth (.int .u8) ys k) = true
              exact bne_iff_ne.2 h3))) (by simp)
        exact Goes.call (Goes.of hin (Goes.loop lp (Goes.here) (by kernel_rfl) (by kernel_rfl) rfl)) (by kernel_rfl) (by kernel_rfl)
    · rw [decide_eq_false (fun e => hl (by rw [e]))]
      exact Goes.call (Goes.now fun rec H L => (equalIn rec H L nl nl2 xs ys).trans (br_pos (bne_iff_ne.2 fun e => hl (by exact_mod_cast e)))) (by kernel_rfl) (by kernel_rfl)
  · exact leaf_none h
end Go.Proofs.Ytmdhlmcoegghjaa.Hd

namespace Go.Proofs.Ytmdhlmcoegghjaa.Hd
open Go Go.Proofs.Ytmdhlmcoegghjaa.Am Go.RowKit
set_option linter.unusedVariables false
set_option linter.unusedSimpArgs false
set_option maxRecDepth 100000
theorem len1 {o : List Int} {x : Int} : o.length + [x].length = o.length + 1 := rfl
theorem putL_len {v : Int} {n : Nat} : (putL v n).length = n := by unfold putL; rw [itr_append]; simp
theorem fixL_len {v : Int} {n : Nat} : (fixL v n).length = n := by unfold fixL; rw [itr_append]; simp
theorem sumL_len {s : Int} {xs : List Int} {n : Nat} : (sumL s xs n).length = xs.length + n := by unfold sumL; rw [itr_append]
def putSt (v n : Int) (i : Nat) : St := mkSt 18 [(0, vS (.int .u64 (itr (fun _ => shr8) v i))), (5, .s (.c (⟨.own 416 none, .sl (.int .u8) false (putL v i)⟩))), (6, vS (.int .i64 n)), (7, vS (.int .i64 (i : Int)))] []
theorem putLoop (v n : Int) (h0 : 0 < n) (h1 : n ≤ 1000000) : Loops VA 23 (fnPl VA 23) 0 (mkSt 18 [(0, vS (.int .u64 v)), (5, .s (.c (⟨.ro, AV.nilv⟩))), (6, vS (.int .i64 n)), (7, vS (.int .i64 0))] []) (.exit 0) (mkSt 18 [(5, .s (.c (⟨.own 416 none, .sl (.int .u8) false (putL v n.toNat)⟩)))] []) := by
  refine Loops.step (st1 := putSt v n 1) (Goes.now fun rec H L => (putR0 rec H L _ _ _).trans (br_pos (decide_eq_true (by omega)))) ?_ (by kernel_rfl)
  refine Loops.many (S := putSt v n) (n := n.toNat) (by kernel_rfl) (fun i hi => Goes.now fun rec H L => (putR1 rec H L _ _ _ _).trans ?_)
    (Loops.done (Goes.now fun rec H L => (putR1 rec H L _ _ _ _).trans (br_neg (decide_eq_false (by omega)))) (by simp) (by kernel_rfl)) (n.toNat - 1) 1 (by omega)
  rw [br_pos (decide_eq_true (by omega)), byteA, len1, br_pos (fits1 (by rw [putL_len]; omega)), w64_id (x := (i : Int) + 1) (by omega) (by omega)]
  rfl
theorem putnK (xs : List S1) (r : Res) (h : (putnH xs).den = some r) : ∃ n, call VA n 23 xs = some r := by
  unfold putnH at h
  split at h
  · obtain ⟨hx, h⟩ := tree_yes h
    obtain rfl := ok_some h
    simp only [Bool.and_eq_true, decide_eq_true_eq] at hx
    exact Goes.call (Goes.of (putIn · · · _ _) (Goes.loop (putLoop _ _ hx.1 hx.2) (Goes.now (putOut · · · _)) (by kernel_rfl) (by kernel_rfl) rfl)) (by kernel_rfl) (by kernel_rfl)
  · exact leaf_none h
def fixSt (v n : Int) (i : Nat) : St := mkSt 21 [(0, vS (.int .u64 v)), (1, vS (.int .i64 n)), (5, .s (.c (⟨.own 608 none, .sl (.int .u8) false (fixL v i)⟩))), (6, vS (.int .i64 (i : Int)))] []
theorem fixLoop (v n : Int) (h0 : 0 < n) (h1 : n ≤ 1000000) : Loops VA 17 (fnPl VA 17) 0 (mkSt 21 [(0, vS (.int .u64 v)), (1, vS (.int .i64 n)), (5, .s (.c (⟨.ro, AV.nilv⟩))), (6, vS (.int .i64 0))] []) (.exit 0) (mkSt 21 [(5, .s (.c (⟨.own 608 none, .sl (.int .u8) false (fixL v n.toNat)⟩)))] []) := by
  refine Loops.step (st1 := fixSt v n 1) (Goes.now fun rec H L => (fixR0 rec H L _ _ _).trans ((br_pos (decide_eq_true (by omega))).trans (br_neg (by decide)))) ?_ (by kernel_rfl)
  refine Loops.many (S := fixSt v n) (n := n.toNat) (by kernel_rfl) (fun i hi => Goes.now fun rec H L => (fixR1 rec H L _ _ _ _).trans ?_)
    (Loops.done (Goes.now fun rec H L => (fixR1 rec H L _ _ _ _).trans (br_neg (decide_eq_false (by omega)))) (by simp) (by kernel_rfl)) (n.toNat - 1) 1 (by omega)
  rw [br_pos (decide_eq_true (by omega)), br_neg (decide_eq_false (by rw [w64_id (by omega) (by omega)]; omega)), byteA, len1, br_pos (fits1 (by rw [fixL_len]; omega)), w64_id (x := (i : Int) + 1) (by omega) (by omega)]
  rfl
theorem fixK (xs : List S1) (r : Res) (h : (fixH xs).den = some r) : ∃ n, call VA n 17 xs = some r := by
  unfold fixH at h
  split at h
  · obtain ⟨hx, h⟩ := tree_yes h
    obtain rfl := ok_some h
    simp only [Bool.and_eq_true, decide_eq_true_eq] at hx
    exact Goes.call (Goes.of (fixIn · · · _ _) (Goes.loop (fixLoop _ _ hx.1 hx.2) (Goes.now (fixOut · · · _)) (by kernel_rfl) (by kernel_rfl) rfl)) (by kernel_rfl) (by kernel_rfl)
  · exact leaf_none h

/-! sums -/
def sumPSt (nl : Bool) (ps : List (Bool × List Int)) (i : Nat) : St := mkSt 27 [(3, vS (.int .u32 (itr (fun i s => crcL s (nth (.sl (.int .u8)) ps i).2) 4294967295 i))), (8, .s (.c ⟨.ro, .sl (.sl (.int .u8)) nl ps⟩)), (9, vS (.int .i64 (ps.length : Int))), (10, vS (.int .i64 (i : Int)))] []
theorem smallP_nth {ps : List (Bool × List Int)} (h : smallP ps = true) (i : Nat) : (nth (.sl (.int .u8)) ps i).2.length ≤ 1000000000 := by
  simp only [smallP, Bool.and_eq_true, List.all_eq_true, decide_eq_true_eq] at h
  unfold nth
  rw [List.getD_eq_getElem?_getD]
  cases hp : ps[i]? with
  | none => simp [CL.zero]
  | some p => exact h.2 p (List.mem_of_getElem? hp)
theorem sumPLoop2 (nl nk : Bool) (ps : List (Bool × List Int)) (xs : List Int) (s n i : Int) (hx : xs.length ≤ 1000000000) :
    Loops VB 31 ((fnPl VB 31).at VB 31 0) 0 (mkSt 27 [(3, vS (.int .u32 s)), (8, .s (.c ⟨.ro, .sl (.sl (.int .u8)) nl ps⟩)), (9, vS (.int .i64 n)), (10, vS (.int .i64 i)), (14, .s (bS nk xs)), (15, vS (.int .i64 (xs.length : Int))), (16, vS (.int .i64 0))] []) (.exit 2)
      (mkSt 27 [(3, vS (.int .u32 (crcL s xs))), (8, .s (.c ⟨.ro, .sl (.sl (.int .u8)) nl ps⟩)), (9, vS (.int .i64 n)), (10, vS (.int .i64 i))] []) :=
  Loops.count (S := fun k => mkSt 27 [(3, vS (.int .u32 (itr (fun i s => stepI s (nth (.int .u8) xs i)) s k))), (8, .s (.c ⟨.ro, .sl (.sl (.int .u8)) nl ps⟩)), (9, vS (.int .i64 n)), (10, vS (.int .i64 i)), (14, .s (bS nk xs)), (15, vS (.int .i64 (xs.length : Int))), (16, vS (.int .i64 (k : Int)))] []) (n := xs.length) (by kernel_rfl)
    (fun k hk => Goes.now fun rec H L => (sumPRnd2 rec H L _ _ _ _ _ _ _ _ _).trans (by
      rw [br_pos (decide_eq_true (by omega)), br_pos (inR_yes (by omega) (by omega)), w64_id (x := (k : Int) + 1) (by omega) (by omega)]
      rfl))
    (Goes.now fun rec H L => (sumPRnd2 rec H L _ _ _ _ _ _ _ _ _).trans (br_neg (decide_eq_false (by omega)))) (by simp)
theorem sumPLoop (nl : Bool) (ps : List (Bool × List Int)) (hp : smallP ps = true) : Loops VB 31 (fnPl VB 31) 0 (mkSt 27 [(3, vS (.int .u32 4294967295)), (8, .s (.c ⟨.ro, .sl (.sl (.int .u8)) nl ps⟩)), (9, vS (.int .i64 (ps.length : Int))), (10, vS (.int .i64 0))] []) (.exit 0)
    (mkSt 27 [(3, vS (.int .u32 (itr (fun i s => crcL s (nth (.sl (.int .u8)) ps i).2) 4294967295 ps.length)))] []) := by
  have hl : ps.length ≤ 1000000 := by
    simp only [smallP, Bool.and_eq_true, decide_eq_true_eq] at hp
    exact hp.1
  refine Loops.count (S := sumPSt nl ps) (n := ps.length) (by kernel_rfl) (fun i hi => ?_) (Goes.now fun rec H L => (sumPRnd rec H L _ _ _ _ _).trans (br_neg (decide_eq_false (by omega)))) (by simp)
  refine Goes.of (fun rec H L => (sumPRnd rec H L _ _ _ _ _).trans ((br_pos (decide_eq_true (by omega))).trans (br_pos (inR_yes (by omega) (by omega))))) ?_
  refine Goes.loop (sumPLoop2 _ _ _ _ _ _ _ (smallP_nth hp _)) (Goes.now fun rec H L => (sumPPast rec H L _ _ _ _ _).trans ?_) (by kernel_rfl) (by kernel_rfl) rfl
  rw [w64_id (x := (i : Int) + 1) (by omega) (by omega)]
  rfl
theorem sumPK (xs : List S1) (r : Res) (h : (sumPH xs).den = some r) : ∃ n, call VB n 31 xs = some r := by
  unfold sumPH at h
  split at h
  · obtain ⟨hx, h⟩ := tree_yes h
    obtain rfl := ok_some h
    exact Goes.call (Goes.of (sumPIn · · · _ _) (Goes.loop (sumPLoop _ _ hx) (Goes.now (sumPOut · · · _)) (by kernel_rfl) (by kernel_rfl) rfl)) (by kernel_rfl) (by kernel_rfl)
  · exact leaf_none h
theorem sumRLoop2 (nl : Bool) (ps : List (Bool × List Int)) (s : Int) (i : Nat) (hi : i < ps.length) (hp : smallP ps = true) :
    Loops VB 18 ((fnPl VB 18).at VB 18 0) 0 (mkSt 31 [(0, .s (.c ⟨.ro, .sl (.sl (.int .u8)) nl ps⟩)), (3, vS (.int .u32 s)), (4, vS (.int .i64 (i : Int))), (5, vS (.int .i64 0))] []) (.exit 2)
      (mkSt 31 [(0, .s (.c ⟨.ro, .sl (.sl (.int .u8)) nl ps⟩)), (3, vS (.int .u32 (nextL s (nth (.sl (.int .u8)) ps i).2))), (4, vS (.int .i64 (i : Int)))] []) := by
  have hx := smallP_nth hp i
  exact Loops.count (S := fun k => mkSt 31 [(0, .s (.c ⟨.ro, .sl (.sl (.int .u8)) nl ps⟩)), (3, vS (.int .u32 (itr (fun j s => nextI s (nth (.int .u8) (nth (.sl (.int .u8)) ps i).2 j)) s k))), (4, vS (.int .i64 (i : Int))), (5, vS (.int .i64 (k : Int)))] []) (n := (nth (.sl (.int .u8)) ps i).2.length) (by kernel_rfl)
    (fun k hk => Goes.now fun rec H L => (sumRRnd2 rec H L _ _ _ _ _).trans (by
      rw [br_pos (inR_yes (by omega) (by omega)), br_pos (decide_eq_true (by exact_mod_cast hk)), br_pos (inR_yes (by omega) (by omega)), br_pos (inR_yes (by omega) (by exact_mod_cast hk)), w64_id (x := (k : Int) + 1) (by omega) (by omega)]
      rfl))
    (Goes.now fun rec H L => (sumRRnd2 rec H L _ _ _ _ _).trans ((br_pos (inR_yes (by omega) (by omega))).trans (br_neg (decide_eq_false (by exact Int.lt_irrefl _))))) (by simp)
def sumRSt (nl : Bool) (ps : List (Bool × List Int)) (i : Nat) : St := mkSt 31 [(0, .s (.c ⟨.ro, .sl (.sl (.int .u8)) nl ps⟩)), (3, vS (.int .u32 (itr (fun i s => nextL s (nth (.sl (.int .u8)) ps i).2) 0 i))), (4, vS (.int .i64 (i : Int)))] []
theorem sumRLoop (nl : Bool) (ps : List (Bool × List Int)) (hp : smallP ps = true) : Loops VB 18 (fnPl VB 18) 0 (mkSt 31 [(0, .s (.c ⟨.ro, .sl (.sl (.int .u8)) nl ps⟩)), (3, vS (.int .u32 0)), (4, vS (.int .i64 0))] []) (.exit 0)
    (mkSt 31 [(3, vS (.int .u32 (sumR ps)))] []) := by
  have hl : ps.length ≤ 1000000 := by
    simp only [smallP, Bool.and_eq_true, decide_eq_true_eq] at hp
    exact hp.1
  refine Loops.count (S := sumRSt nl ps) (n := ps.length) (by kernel_rfl) (fun i hi => ?_) (Goes.now fun rec H L => (sumRRnd rec H L _ _ _ _).trans (br_neg (decide_eq_false (by omega)))) (by simp)
  refine Goes.of (fun rec H L => (sumRRnd rec H L _ _ _ _).trans (br_pos (decide_eq_true (by omega)))) ?_
  refine Goes.loop (sumRLoop2 _ _ _ _ hi hp) (Goes.now fun rec H L => (sumRPast rec H L _ _ _ _).trans ?_) (by kernel_rfl) (by kernel_rfl) rfl
  rw [w64_id (x := (i : Int) + 1) (by omega) (by omega)]
  rfl
theorem sumRK (xs : List S1) (r : Res) (h : (sumRH xs).den = some r) : ∃ n, call VB n 18 xs = some r := by
  unfold sumRH at h
  split at h
  · obtain ⟨hx, h⟩ := tree_yes h
    obtain rfl := ok_some h
    exact Goes.call (Goes.of (sumRIn · · · _ _) (Goes.loop (sumRLoop _ _ hx) (Goes.now (sumROut · · · _)) (by kernel_rfl) (by kernel_rfl) rfl)) (by kernel_rfl) (by kernel_rfl)
  · exact leaf_none h
end Go.Proofs.Ytmdhlmcoegghjaa.Hd

namespace Go.Proofs.Ytmdhlmcoegghjaa.Hd
open Go Go.Proofs.Ytmdhlmcoegghjaa.Am Go.RowKit
set_option linter.unusedVariables false
set_option linter.unusedSimpArgs false
set_option maxRecDepth 100000
theorem byteC : VC.P.bytesOf 5 = 1 := by kernel_rfl
theorem small1 {nl : Bool} {xs : List Int} (h : xs.length ≤ 1000000) : smallP [(nl, xs)] = true := by
  simp only [smallP, List.length_singleton, List.all_cons, List.all_nil, Bool.and_true, Bool.and_eq_true, decide_eq_true_eq]
  omega
def sealPSt (s : Int) (xs : List Int) (i : Nat) : St := mkSt 21 [(3, .s (.c (⟨.own 512 none, .sl (.int .u8) false (sumL s xs i)⟩))), (4, vS (.int .u32 (itr (fun _ => shr8s) s i))), (10, vS (.int .i64 (i : Int)))] []
theorem sealPLoop (s : Int) (xs : List Int) (hx : xs.length ≤ 1000000) : Loops VC 24 (fnPl VC 24) 0 (mkSt 21 [(3, .s (.c (⟨.own 192 none, .sl (.int .u8) false xs⟩))), (4, vS (.int .u32 s)), (10, vS (.int .i64 0))] []) (.exit 0)
    (mkSt 21 [(3, .s (.c (⟨.own 512 none, .sl (.int .u8) false (sumL s xs 4)⟩)))] []) := by
  refine Loops.step (st1 := sealPSt s xs 1) (Goes.now fun rec H L => (sealPR0 rec H L _ _ _).trans ((br_pos (by decide)).trans (br_pos (by rw [byteC, len1]; exact fits1 (by omega))))) ?_ (by kernel_rfl)
  refine Loops.many (S := sealPSt s xs) (n := 4) (by kernel_rfl) (fun i hi => Goes.now fun rec H L => (sealPR1 rec H L _ _ _).trans ?_)
    (Loops.done (Goes.now fun rec H L => (sealPR1 rec H L _ _ _).trans (br_neg (by decide))) (by simp) (by kernel_rfl)) 3 1 (by omega)
  rw [br_pos (decide_eq_true (by omega)), byteC, len1, br_pos (fits1 (by rw [sumL_len]; omega)), w64_id (x := (i : Int) + 1) (by omega) (by omega)]
  rfl
theorem sealPK (xs : List S1) (r : Res) (h : (sealPH xs).den = some r) : ∃ n, call VC n 24 xs = some r := by
  unfold sealPH at h
  split at h
  · rename_i nl xs
    obtain ⟨rfl, h⟩ := tree_not h
    obtain ⟨hx, h⟩ := tree_yes h
    obtain rfl := ok_some h
    have hx' := of_decide_eq_true hx
    exact Goes.call (Goes.of (fun rec H L => (sealPIn rec H L false xs).trans ((br_neg rfl).trans ((br_pos hx).trans (br_pos (small1 hx'))))) (Goes.loop (sealPLoop _ _ hx') (Goes.now (sealPOut · · · _)) (by kernel_rfl) (by kernel_rfl) rfl)) (by kernel_rfl) (by kernel_rfl)
  · exact leaf_none h
theorem nilfix {v : Int} : isNilL (fixL v (Int.toNat 4)) = false := rfl
theorem sealRK (xs : List S1) (r : Res) (h : (sealRH xs).den = some r) : ∃ n, call VC n 22 xs = some r := by
  unfold sealRH at h
  split at h
  · rename_i nl xs
    obtain ⟨rfl, h⟩ := tree_not h
    obtain ⟨hx, h⟩ := tree_yes h
    obtain rfl := ok_some h
    have hx' := of_decide_eq_true hx
    refine Goes.call (e := .ret) (st' := mkSt 11 [(2, .s (.c ⟨.own 320 none, .sl (.int .u8) false (sealR xs)⟩))] []) (Goes.now fun rec H L => (sealRIn rec H L false xs).trans ?_) (by kernel_rfl) (by kernel_rfl)
    rw [byteC, br_pos (fits1 (by omega)), br_pos (small1 hx'), br_pos (fits1 (by rw [fixL_len]; omega)), nilfix, Bool.and_false]
    rfl
  · exact leaf_none h
theorem openRK (xs : List S1) (r : Res) (h : (openRH xs).den = some r) : ∃ n, call VC n 28 xs = some r := by
  unfold openRH at h
  split at h
  · rename_i nl xs
    obtain ⟨hx, h⟩ := tree_yes h
    have hx := of_decide_eq_true hx
    have hw : IntKind.i64.wrap ((xs.length : Int) - 4) = (xs.length : Int) - 4 := w64_id (by omega) (by omega)
    rcases tree_br h with ⟨h1, h⟩ | ⟨h1, h⟩
    · obtain rfl := ok_some h
      have h1 := of_decide_eq_true h1
      exact Goes.call (Goes.now fun rec H L => (openRIn rec H L nl xs).trans (br_neg (by rw [hw, decide_eq_true (by omega)]; rfl))) (by kernel_rfl) (by kernel_rfl)
    · have h1 := of_decide_eq_false h1
      have ht : ((xs.length : Int) - 4).toNat = xs.length - 4 := by omega
      have hle : leR ((xs.length : Int) - 4) xs.length = true := leR_yes (by omega) (by omega)
      have hin : ∀ rec H L, fnWay VC 28 [bS nl xs] rec H L = _ := fun rec H L => (openRIn rec H L nl xs)
      rw [hw, ht] at hin
      have hin2 := fun rec H L => (hin rec H L).trans ((br_pos (by rw [decide_eq_false (by omega)]; rfl)).trans ((br_pos hle).trans ((br_pos (decide_eq_true (by rw [List.length_drop]; omega))).trans ((br_pos hle).trans (br_pos (small1 (by rw [List.length_take]; omega)))))))
      rcases tree_br h with ⟨h2, h⟩ | ⟨h2, h⟩
      · obtain rfl := ok_some h
        have h2 := of_decide_eq_true h2
        exact Goes.call (Goes.now fun rec H L => (hin2 rec H L).trans ((br_neg (by rw [h2]; exact bne_self_eq_false' _)).trans (br_pos hle))) (by kernel_rfl) (by kernel_rfl)
      · obtain rfl := ok_some h
        have h2 := of_decide_eq_false h2
        exact Goes.call (Goes.now fun rec H L => (hin2 rec H L).trans (br_pos (bne_iff_ne.2 h2))) (by kernel_rfl) (by kernel_rfl)
  · exact leaf_none h
theorem sealP_len {xs : List Int} : (sealP xs).length = xs.length + 4 := sumL_len
theorem openPK (xs : List S1) (r : Res) (h : (openPH xs).den = some r) : ∃ n, call VD n 26 xs = some r := by
  unfold openPH at h
  split at h
  · rename_i nl xs
    obtain ⟨rfl, h⟩ := tree_not h
    obtain ⟨hx, h⟩ := tree_yes h
    have hx := of_decide_eq_true hx
    have hw : IntKind.i64.wrap ((xs.length : Int) - 4) = (xs.length : Int) - 4 := w64_id (by omega) (by omega)
    rcases tree_br h with ⟨h1, h⟩ | ⟨h1, h⟩
    · obtain rfl := ok_some h
      have h1 := of_decide_eq_true h1
      exact Goes.call (Goes.now fun rec H L => (openPIn rec H L false xs).trans (br_neg (by rw [hw, decide_eq_true (by omega)]; rfl))) (by kernel_rfl) (by kernel_rfl)
    · have h1 := of_decide_eq_false h1
      have ht : ((xs.length : Int) - 4).toNat = xs.length - 4 := by omega
      have hle : leR ((xs.length : Int) - 4) xs.length = true := leR_yes (by omega) (by omega)
      have hin : ∀ rec H L, fnWay VD 26 [bS false xs] rec H L = _ := fun rec H L => (openPIn rec H L false xs)
      rw [hw, ht] at hin
      have hlt : decide ((List.take (xs.length - 4) xs).length ≤ 1000000) = true := decide_eq_true (by rw [List.length_take]; omega)
      have hin2 := fun rec H L => (hin rec H L).trans ((br_pos (by rw [decide_eq_false (by omega)]; rfl)).trans ((br_pos hle).trans ((br_neg rfl).trans ((br_pos hlt).trans (br_pos (decide_eq_true (by rw [sealP_len, List.length_take]; omega)))))))
      rcases tree_br h with ⟨h2, h⟩ | ⟨h2, h⟩
      · obtain rfl := ok_some h
        exact Goes.call (Goes.now fun rec H L => (hin2 rec H L).trans ((br_neg (by rw [h2]; rfl)).trans ((br_pos hle).trans ((br_neg rfl).trans (br_pos hlt))))) (by kernel_rfl) (by kernel_rfl)
      · obtain rfl := ok_some h
        exact Goes.call (Goes.now fun rec H L => (hin2 rec H L).trans (br_pos (by rw [h2]; rfl))) (by kernel_rfl) (by kernel_rfl)
  · exact leaf_none h

/-! Flip -/
theorem flip1_len {n : Nat} {a m : Int} {i : Nat} {o : List Int} : (flip1 n a m i o).length = o.length := by
  unfold flip1
  cases ((w32 (BitVec.ofInt IntKind.u32.bits (m.fdiv (2 ^ min i IntKind.u32.bits)) &&& BitVec.ofInt IntKind.u32.bits 1).toNat == 1) && decide (a ≥ -(i : Int)) && decide (a < 8 * (n : Int) - i)) <;> simp
theorem flipI_len {n : Nat} {a m : Int} {xs : List Int} : ∀ {i : Nat}, (itr (flip1 n a m) xs i).length = xs.length
  | 0 => rfl
  | i + 1 => by simp only [itr, flip1_len, flipI_len (i := i)]
def flipSt (nl : Bool) (xs : List Int) (a m : Int) (i : Nat) : St := mkSt 50 [(0, .s (bS nl xs)), (1, vS (.int .i64 a)), (2, vS (.int .u32 m)), (7, .s (.c (⟨.own 320 none, .sl (.int .u8) false (itr (flip1 xs.length a m) xs i)⟩))), (8, vS (.int .i64 (i : Int)))] []
theorem flipLoop (nl : Bool) (xs : List Int) (a m : Int) (hx : xs.length ≤ 1000000) (h0 : 0 ≤ a) (h1 : a ≤ 1000000) : Loops VC 21 (fnPl VC 21) 0 (flipSt nl xs a m 0) (.exit 0)
    (mkSt 50 [(7, .s (.c (⟨.own 320 none, .sl (.int .u8) false (flipL xs a m)⟩)))] []) := by
  refine Loops.count (S := flipSt nl xs a m) (n := 32) (by kernel_rfl) (fun i hi => Goes.now fun rec H L => (flipR0 rec H L _ _ _ _ _ _).trans ?_) (Goes.now fun rec H L => (flipR0 rec H L _ _ _ _ _ _).trans (br_neg (decide_eq_false (by omega)))) (by simp)
  rw [br_pos (decide_eq_true (by omega)), br_neg (decide_eq_false (by omega))]
  have e1 : IntKind.i64.wrap (0 - (i : Int)) = -(i : Int) := by rw [w64_id (by omega) (by omega)]; omega
  have e2 : IntKind.i64.wrap (IntKind.i64.wrap (8 * (xs.length : Int)) - (i : Int)) = 8 * (xs.length : Int) - i := by rw [w64_id (x := 8 * (xs.length : Int)) (by omega) (by omega), w64_id (by omega) (by omega)]
  have e3 : IntKind.i64.wrap (a + (i : Int)) = a + i := w64_id (by omega) (by omega)
  have e4 : IntKind.i64.wrap ((a + (i : Int)).tdiv 8) = (a + i).tdiv 8 := by
    rw [Int.tdiv_eq_ediv_of_nonneg (by omega)]
    exact w64_id (by omega) (by omega)
  have e5 : IntKind.i64.wrap ((i : Int) + 1) = ((i + 1 : Nat) : Int) := w64_id (by omega) (by omega)
  have e6 : (i : Int).toNat = i := rfl
  rw [e1, e2, e3, e4, e5, e6]
  have goal : flipSt nl xs a m (i + 1) = mkSt 50 [(0, .s (bS nl xs)), (1, vS (.int .i64 a)), (2, vS (.int .u32 m)), (7, .s (.c (⟨.own 320 none, .sl (.int .u8) false (flip1 xs.length a m i (itr (flip1 xs.length a m) xs i))⟩))), (8, vS (.int .i64 ((i + 1 : Nat) : Int)))] [] := rfl
  rw [goal]
  have hlen : (itr (flip1 xs.length a m) xs i).length = xs.length := flipI_len
  generalize hG : itr (flip1 xs.length a m) xs i = o at hlen ⊢
  unfold flip1
  refine br_eqs (fun c1 => ?_) (fun c1 => ?_)
  · refine br_eqs (fun c2 => ?_) (fun c2 => ?_)
    · refine br_eqs (fun c3 => ?_) (fun c3 => ?_)
      · have c2' := of_decide_eq_true c2
        have c3' := of_decide_eq_true c3
        have hin : inR ((a + (i : Int)).tdiv 8) o.length = true := by
          rw [Int.tdiv_eq_ediv_of_nonneg (by omega)]
          exact inR_yes (by omega) (by omega)
        have hm : decide ((a + (i : Int)).tmod 8 < 0) = false := decide_eq_false (by
          rw [Int.tmod_eq_emod_of_nonneg (by omega)]
          omega)
        rw [br_pos hin, br_neg hm, br_pos hin]
        have hc : ((w32 (BitVec.ofInt IntKind.u32.bits (m.fdiv (2 ^ min i IntKind.u32.bits)) &&& BitVec.ofInt IntKind.u32.bits 1).toNat == 1) && decide (a ≥ -(i : Int)) && decide (a < 8 * (xs.length : Int) - i)) = true := by rw [c1, c2, c3]; rfl
        rw [hc]
        rfl
      · have hc : ((w32 (BitVec.ofInt IntKind.u32.bits (m.fdiv (2 ^ min i IntKind.u32.bits)) &&& BitVec.ofInt IntKind.u32.bits 1).toNat == 1) && decide (a ≥ -(i : Int)) && decide (a < 8 * (xs.length : Int) - i)) = false := by rw [c3]; exact Bool.and_false _
        rw [hc]
        rfl
    · have hc : ((w32 (BitVec.ofInt IntKind.u32.bits (m.fdiv (2 ^ min i IntKind.u32.bits)) &&& BitVec.ofInt IntKind.u32.bits 1).toNat == 1) && decide (a ≥ -(i : Int)) && decide (a < 8 * (xs.length : Int) - i)) = false := by rw [c2, Bool.and_false]; rfl
      rw [hc]
      rfl
  · have hc : ((w32 (BitVec.ofInt IntKind.u32.bits (m.fdiv (2 ^ min i IntKind.u32.bits)) &&& BitVec.ofInt IntKind.u32.bits 1).toNat == 1) && decide (a ≥ -(i : Int)) && decide (a < 8 * (xs.length : Int) - i)) = false := by rw [c1]; rfl
    rw [hc]
    rfl
theorem flipK (xs : List S1) (r : Res) (h : (flipH xs).den = some r) : ∃ n, call VC n 21 xs = some r := by
  unfold flipH at h
  split at h
  · rename_i nl xs a m
    obtain ⟨hx, h⟩ := tree_yes h
    obtain rfl := ok_some h
    simp only [Bool.and_eq_true, decide_eq_true_eq, Bool.not_eq_true'] at hx
    obtain ⟨⟨⟨hn, hx⟩, h0⟩, h1⟩ := hx
    refine Goes.call (Goes.of (fun rec H L => (flipIn rec H L nl xs a m).trans ((br_pos (by rw [byteC]; exact fits1 (by omega))).trans (?_ : _ = L 0 (flipSt nl xs a m 0)))) (Goes.loop (flipLoop nl xs a m hx h0 h1) (Goes.now (flipOut · · · _)) (by kernel_rfl) (by kernel_rfl) rfl)) (by kernel_rfl) (by kernel_rfl)
    rw [hn]
    rfl
  · exact leaf_none h

/-! all of them as stubs -/
theorem mix : Go.Proofs.Try.prog.follows .mixedOrders = true := by kernel_rfl
abbrev SOK (l : Stubs) : Prop := ∀ V' : Env, V'.P = Go.Proofs.Try.prog → V'.stub = Stubs.look l → StubOK V'
theorem sokA : SOK lA := fun V' _ h => stubs_nil h
theorem sokB : SOK lB :=
  stubs_cons (x := (33, stepH)) (known_of (V := VA) mix (sokA _ rfl rfl) stepK) <|
  stubs_cons (x := (25, nextH)) (known_of (V := VA) mix (sokA _ rfl rfl) nextK) <|
  stubs_cons (x := (29, numH)) (known_of (V := VA) mix (sokA _ rfl rfl) numberK) <|
  stubs_cons (x := (27, numH)) (known_of (V := VA) mix (sokA _ rfl rfl) takeK) <|
  stubs_cons (x := (30, cloneH)) (known_of (V := VA) mix (sokA _ rfl rfl) cloneK) <|
  stubs_cons (x := (32, equalH)) (known_of (V := VA) mix (sokA _ rfl rfl) equalK) <|
  stubs_cons (x := (23, putnH)) (known_of (V := VA) mix (sokA _ rfl rfl) putnK) <|
  stubs_cons (x := (17, fixH)) (known_of (V := VA) mix (sokA _ rfl rfl) fixK) sokA
theorem sokC : SOK lC :=
  stubs_cons (x := (31, sumPH)) (known_of (V := VB) mix (sokB _ rfl rfl) sumPK) <|
  stubs_cons (x := (18, sumRH)) (known_of (V := VB) mix (sokB _ rfl rfl) sumRK) sokB
theorem sokD : SOK lD :=
  stubs_cons (x := (24, sealPH)) (known_of (V := VC) mix (sokC _ rfl rfl) sealPK) <|
  stubs_cons (x := (22, sealRH)) (known_of (V := VC) mix (sokC _ rfl rfl) sealRK) <|
  stubs_cons (x := (28, openRH)) (known_of (V := VC) mix (sokC _ rfl rfl) openRK) <|
  stubs_cons (x := (21, flipH)) (known_of (V := VC) mix (sokC _ rfl rfl) flipK) sokC
theorem sokE : SOK lE :=
  stubs_cons (x := (26, openPH)) (known_of (V := VD) mix (sokD _ rfl rfl) openPK) sokD
end Go.Proofs.Ytmdhlmcoegghjaa.Hd
