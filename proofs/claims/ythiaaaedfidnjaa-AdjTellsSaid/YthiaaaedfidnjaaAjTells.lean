/- What the functions come to, by the evaluator. Conditions: none; checked here. -/
import Derived.Test.YthiaaaedfidnjaaAjF
import Derived.Test.YthiaaaedfidnjaaAjD
import Derived.ProofKit
import Derived.Test.YthiaaaedfidnjaaAjG
set_option linter.unusedVariables false
set_option linter.unusedSimpArgs false

namespace Go.Proofs.Ythiaaaedfidnjaa.Aj
open Go Go.Proofs.Ythiaaaedfidnjaa.Am Go.RowKit
set_option linter.unusedVariables false
set_option linter.unusedSimpArgs false
set_option maxRecDepth 100000
def lT : Stubs := l19 ++ lL
theorem sokT : SOK lT := sok_app sok19 sokL
noncomputable def VT : Env := V lT
theorem telIn (rec : Rec) (H : K) (L : Nat → St → Option Res) (rl : Bool) (raw : List Ed) (k : Int) (ll : Bool) (l : List Int) (near : Int) (bl : Bool) (by' : List Int) (how at' c : Int) (ml : Bool) (m : List Int) (n : Int) :
    fnWay VT 3 [eS rl raw, wS .u8 k, bS ll l, wS .u8 near, bS bl by', wS .u8 how, wS .u16 at', wS .u8 c, bS ml m, wS .u64 n] rec H L =
  br (!decide ((↑raw.length : Int) > 30)) (
    br (!decide ((↑l.length : Int) > 60)) (
      br (!decide ((↑by'.length : Int) > 60)) (
        br (decide ((↑m.length : Int) > 8)) (
          H .ret (mkSt 158 [(20, vS (.bool true))] [])) (
          br (hisOK k l) (
            br (decide (0 ≤ near) && (decide (near < 256) && decide ((isNilL (hisR k l), hisR k l).snd.length ≤ 1000))) (
              br (decide ((isNilL (hisR k l), hisR k l).snd.length ≤ 1000)) (
                br (decide ((isNilL (atR (vtT k) (isNilL (hisR k l), hisR k l).snd (timR (isNilL (hisR k l), hisR k l).snd near)), atR (vtT k) (isNilL (hisR k l), hisR k l).snd (timR (isNilL (hisR k l), hisR k l).snd near)).snd.length ≤ 2000) && (isNilL (atR (vtT k) (isNilL (hisR k l), hisR k l).snd (timR (isNilL (hisR k l), hisR k l).snd near)), atR (vtT k) (isNilL (hisR k l), hisR k l).snd (timR (isNilL (hisR k l), hisR k l).snd near)).snd.all edB) (
                  br (fits (isNilL (atR (vtT k) (isNilL (hisR k l), hisR k l).snd (timR (isNilL (hisR k l), hisR k l).snd near)), atR (vtT k) (isNilL (hisR k l), hisR k l).snd (timR (isNilL (hisR k l), hisR k l).snd near)).snd.length (VT.P.bytesOf 50)) (
                    br (fits ((isNilL (atR (vtT k) (isNilL (hisR k l), hisR k l).snd (timR (isNilL (hisR k l), hisR k l).snd near)), atR (vtT k) (isNilL (hisR k l), hisR k l).snd (timR (isNilL (hisR k l), hisR k l).snd near)).snd.length + raw.length) (VT.P.bytesOf 50)) (
                      L 0 (mkSt 158 [(4, .s (.c (⟨.ro, AV.sl (CL.int IntKind.u8) bl by'⟩))), (5, vS (.int .u8 how)), (6, vS (.int .u16 at')), (7, vS (.int .u8 c)), (8, .s (.c (⟨.ro, AV.sl (CL.int IntKind.u8) ml m⟩))), (9, vS (.int .u64 n)), (21, .s (.c (⟨.ro, AV.ptr 0 0⟩))), (24, .s (.c (⟨.own 768 none, AV.sl (CL.int IntKind.u8) (!(apT (isNilL (atR (vtT k) (isNilL (hisR k l), hisR k l).snd (timR (isNilL (hisR k l), hisR k l).snd near)), atR (vtT k) (isNilL (hisR k l), hisR k l).snd (timR (isNilL (hisR k l), hisR k l).snd near)).snd).isSome, (apT (isNilL (atR (vtT k) (isNilL (hisR k l), hisR k l).snd (timR (isNilL (hisR k l), hisR k l).snd near)), atR (vtT k) (isNilL (hisR k l), hisR k l).snd (timR (isNilL (hisR k l), hisR k l).snd near)).snd).getD []).fst (!(apT (isNilL (atR (vtT k) (isNilL (hisR k l), hisR k l).snd (timR (isNilL (hisR k l), hisR k l).snd near)), atR (vtT k) (isNilL (hisR k l), hisR k l).snd (timR (isNilL (hisR k l), hisR k l).snd near)).snd).isSome, (apT (isNilL (atR (vtT k) (isNilL (hisR k l), hisR k l).snd (timR (isNilL (hisR k l), hisR k l).snd near)), atR (vtT k) (isNilL (hisR k l), hisR k l).snd (timR (isNilL (hisR k l), hisR k l).snd near)).snd).getD []).snd⟩))), (82, .s (.c (⟨.own 2624 none, AV.sl ((CL.int IntKind.u32).cons (CL.int IntKind.u32)).sl false [(rl, raw), ((isNilL (atR (vtT k) (isNilL (hisR k l), hisR k l).snd (timR (isNilL (hisR k l), hisR k l).snd near)), atR (vtT k) (isNilL (hisR k l), hisR k l).snd (timR (isNilL (hisR k l), hisR k l).snd near)).fst, (isNilL (atR (vtT k) (isNilL (hisR k l), hisR k l).snd (timR (isNilL (hisR k l), hisR k l).snd near)), atR (vtT k) (isNilL (hisR k l), hisR k l).snd (timR (isNilL (hisR k l), hisR k l).snd near)).snd), (isNilL (isNilL (atR (vtT k) (isNilL (hisR k l), hisR k l).snd (timR (isNilL (hisR k l), hisR k l).snd near)), atR (vtT k) (isNilL (hisR k l), hisR k l).snd (timR (isNilL (hisR k l), hisR k l).snd near)).snd && isNilL raw, (isNilL (atR (vtT k) (isNilL (hisR k l), hisR k l).snd (timR (isNilL (hisR k l), hisR k l).snd near)), atR (vtT k) (isNilL (hisR k l), hisR k l).snd (timR (isNilL (hisR k l), hisR k l).snd near)).snd ++ raw)]⟩))), (83, vS (.int .i64 (↑[(rl, raw), ((isNilL (atR (vtT k) (isNilL (hisR k l), hisR k l).snd (timR (isNilL (hisR k l), hisR k l).snd near)), atR (vtT k) (isNilL (hisR k l), hisR k l).snd (timR (isNilL (hisR k l), hisR k l).snd near)).fst, (isNilL (atR (vtT k) (isNilL (hisR k l), hisR k l).snd (timR (isNilL (hisR k l), hisR k l).snd near)), atR (vtT k) (isNilL (hisR k l), hisR k l).snd (timR (isNilL (hisR k l), hisR k l).snd near)).snd), (isNilL (isNilL (atR (vtT k) (isNilL (hisR k l), hisR k l).snd (timR (isNilL (hisR k l), hisR k l).snd near)), atR (vtT k) (isNilL (hisR k l), hisR k l).snd (timR (isNilL (hisR k l), hisR k l).snd near)).snd && isNilL raw, (isNilL (atR (vtT k) (isNilL (hisR k l), hisR k l).snd (timR (isNilL (hisR k l), hisR k l).snd near)), atR (vtT k) (isNilL (hisR k l), hisR k l).snd (timR (isNilL (hisR k l), hisR k l).snd near)).snd ++ raw)].length : Int))), (84, vS (.int .i64 0))] [[vC (.int .u64 (vtT k)), ⟨.ro, AV.sl ((CL.int IntKind.i64).cons (((CL.int IntKind.u32).cons (CL.int IntKind.u32)).cons CL.bool)) (isNilL (hisR k l), hisR k l).fst (isNilL (hisR k l), hisR k l).snd⟩]])) (
                      none)) (
                    none)) (
                  none)) (
                none)) (
              none)) (
            none))) (
        H .ret (mkSt 158 [(20, vS (.bool true))] []))) (
      H .ret (mkSt 158 [(20, vS (.bool true))] []))) (
    H .ret (mkSt 158 [(20, vS (.bool true))] [])) := by kernel_rfl
theorem telRnd (rec : Rec) (H : K) (L : Nat → St → Option Res) (h : Int) (hl : Bool) (hs : List Ev) (bl : Bool) (by' : List Int) (how at' c : Int) (ml : Bool) (m : List Int) (n : Int) (pl : Bool) (p : List Int) (xs : List (Bool × List Ed)) (len i : Int) :
    ((fnPl VT 3).at VT 3 0).way VT 3 (mkSt 158 [(4, .s (bS bl by')), (5, vS (.int .u8 how)), (6, vS (.int .u16 at')), (7, vS (.int .u8 c)), (8, .s (bS ml m)), (9, vS (.int .u64 n)), (21, .s (.c ⟨.ro, .ptr 0 0⟩)), (24, oS 768 pl p), (82, .s (.c ⟨.own 2624 none, .sl (.sl eE) false xs⟩)), (83, vS (.int .i64 len)), (84, vS (.int .i64 i))] [[vC (.int .u64 h), ⟨.ro, .sl vE hl hs⟩]]) rec H L =
  br (decide (i < len)) (
    br (inR i xs.length) (
      br (decide ((nth eE.sl xs i.toNat).snd.length ≤ 2000)) (
        br (decide ((nth eE.sl xs i.toNat).snd.length ≤ 2000) && (nth eE.sl xs i.toNat).snd.all edB) (
          br (!putE (nth eE.sl xs i.toNat).snd != apE (nth eE.sl xs i.toNat).snd) (
            br (!(baOf (!putOk (nth eE.sl xs i.toNat).snd, putB (nth eE.sl xs i.toNat).snd).snd).toList == (baOf (!(apT (nth eE.sl xs i.toNat).snd).isSome, (apT (nth eE.sl xs i.toNat).snd).getD []).snd).toList) (
              H .ret (mkSt 158 [(20, vS (.bool false))] [])) (
              H .normal (mkSt 158 [(4, .s (.c (⟨.ro, AV.sl (CL.int IntKind.u8) bl by'⟩))), (5, vS (.int .u8 how)), (6, vS (.int .u16 at')), (7, vS (.int .u8 c)), (8, .s (.c (⟨.ro, AV.sl (CL.int IntKind.u8) ml m⟩))), (9, vS (.int .u64 n)), (21, .s (.c (⟨.ro, AV.ptr 0 0⟩))), (24, .s (.c (⟨.own 768 none, AV.sl (CL.int IntKind.u8) pl p⟩))), (82, .s (.c (⟨.own 2624 none, AV.sl ((CL.int IntKind.u32).cons (CL.int IntKind.u32)).sl false xs⟩))), (83, vS (.int .i64 len)), (84, vS (.int .i64 (IntKind.i64.wrap (i + 1))))] [[vC (.int .u64 h), ⟨.ro, AV.sl ((CL.int IntKind.i64).cons (((CL.int IntKind.u32).cons (CL.int IntKind.u32)).cons CL.bool)) hl hs⟩]]))) (
            H .ret (mkSt 158 [(20, vS (.bool false))] []))) (
          none)) (
        none)) (
      none)) (
    H (.exit 0) (mkSt 158 [(4, .s (.c (⟨.ro, AV.sl (CL.int IntKind.u8) bl by'⟩))), (5, vS (.int .u8 how)), (6, vS (.int .u16 at')), (7, vS (.int .u8 c)), (8, .s (.c (⟨.ro, AV.sl (CL.int IntKind.u8) ml m⟩))), (9, vS (.int .u64 n)), (21, .s (.c (⟨.ro, AV.ptr 0 0⟩))), (24, .s (.c (⟨.own 768 none, AV.sl (CL.int IntKind.u8) pl p⟩)))] [[vC (.int .u64 h), ⟨.ro, AV.sl ((CL.int IntKind.i64).cons (((CL.int IntKind.u32).cons (CL.int IntKind.u32)).cons CL.bool)) hl hs⟩]])) := by kernel_rfl
theorem telMid (rec : Rec) (H : K) (L : Nat → St → Option Res) (h : Int) (hl : Bool) (hs : List Ev) (bl : Bool) (by' : List Int) (how at' c : Int) (ml : Bool) (m : List Int) (n : Int) (pl : Bool) (p : List Int) :
    (fnPl VT 3).past VT 3 0 (.exit 0) (mkSt 158 [(4, .s (bS bl by')), (5, vS (.int .u8 how)), (6, vS (.int .u16 at')), (7, vS (.int .u8 c)), (8, .s (bS ml m)), (9, vS (.int .u64 n)), (21, .s (.c ⟨.ro, .ptr 0 0⟩)), (24, oS 768 pl p)] [[vC (.int .u64 h), ⟨.ro, .sl vE hl hs⟩]]) rec H L =
  br (decide (p.length ≤ 100000) && (decide (m.length ≤ 100000) && (decide (0 ≤ how) && (decide (0 ≤ at') && decide (at' < 65536))))) (
    br (fits ([1].length + by'.length) (VT.P.bytesOf 5)) (
      L 1 (mkSt 158 [(9, vS (.int .u64 n)), (21, .s (.c (⟨.ro, AV.ptr 0 0⟩))), (120, .s (.c (⟨.own 3840 none, AV.sl (CL.int IntKind.u8).sl false [(bl, by'), (pl, p), (chgN p how at' c m, chgR p how at' c m), (false && isNilL by', [1] ++ by')]⟩))), (121, vS (.int .i64 (↑[(bl, by'), (pl, p), (chgN p how at' c m, chgR p how at' c m), (false && isNilL by', [1] ++ by')].length : Int))), (122, vS (.int .i64 0))] [[vC (.int .u64 h), ⟨.ro, AV.sl ((CL.int IntKind.i64).cons (((CL.int IntKind.u32).cons (CL.int IntKind.u32)).cons CL.bool)) hl hs⟩]])) (
      none)) (
    none) := by kernel_rfl
theorem telR1 (rec : Rec) (H : K) (L : Nat → St → Option Res) (h : Int) (hl : Bool) (hs : List Ev) (n : Int) (xs : List (Bool × List Int)) (len i : Int) :
    ((fnPl VT 3).at VT 3 1).way VT 3 (mkSt 158 [(9, vS (.int .u64 n)), (21, .s (.c ⟨.ro, .ptr 0 0⟩)), (120, .s (.c ⟨.own 3840 none, .sl (.sl (.int .u8)) false xs⟩)), (121, vS (.int .i64 len)), (122, vS (.int .i64 i))] [[vC (.int .u64 h), ⟨.ro, .sl vE hl hs⟩]]) rec H L =
  br (decide (i < len)) (
    br (inR i xs.length) (
      L 0 (mkSt 158 [(9, vS (.int .u64 n)), (21, .s (.c (⟨.ro, AV.ptr 0 0⟩))), (33, .s (.c (⟨.ro, AV.sl (CL.int IntKind.u8) (nth (CL.int IntKind.u8).sl xs i.toNat).fst (nth (CL.int IntKind.u8).sl xs i.toNat).snd⟩))), (120, .s (.c (⟨.own 3840 none, AV.sl (CL.int IntKind.u8).sl false xs⟩))), (121, vS (.int .i64 len)), (122, vS (.int .i64 i)), (129, .s (.c (⟨.own 4128 none, AV.sl (CL.int IntKind.u64) false [n, h, 5]⟩))), (130, vS (.int .i64 (↑[n, h, 5].length : Int))), (131, vS (.int .i64 0))] [[vC (.int .u64 h), ⟨.ro, AV.sl ((CL.int IntKind.i64).cons (((CL.int IntKind.u32).cons (CL.int IntKind.u32)).cons CL.bool)) hl hs⟩]])) (
      none)) (
    H (.exit 2) (mkSt 158 [] [])) := by kernel_rfl
theorem telR2 (rec : Rec) (H : K) (L : Nat → St → Option Res) (h : Int) (hl : Bool) (hs : List Ev) (n : Int) (bl : Bool) (b : List Int) (xs : List (Bool × List Int)) (len i : Int) (ns : List Int) (len2 j : Int) :
    (((fnPl VT 3).at VT 3 1).at VT 3 0).way VT 3 (mkSt 158 [(9, vS (.int .u64 n)), (21, .s (.c ⟨.ro, .ptr 0 0⟩)), (33, .s (bS bl b)), (120, .s (.c ⟨.own 3840 none, .sl (.sl (.int .u8)) false xs⟩)), (121, vS (.int .i64 len)), (122, vS (.int .i64 i)), (129, ouS 4128 false ns), (130, vS (.int .i64 len2)), (131, vS (.int .i64 j))] [[vC (.int .u64 h), ⟨.ro, .sl vE hl hs⟩]]) rec H L =
  br (decide (j < len2)) (
    br (inR j ns.length) (
      br (decide (b.length ≤ 3000)) (
        br (decide ((edT (nth (CL.int IntKind.u64) ns j.toNat) b true).fst.length ≤ 2000)) (
          br (decide (b.length ≤ 2000)) (
            br (!readE (nth (CL.int IntKind.u64) ns j.toNat) b != rdE (nth (CL.int IntKind.u64) ns j.toNat) b) (
              br (decide ((isNilL (readL (nth (CL.int IntKind.u64) ns j.toNat) b), readL (nth (CL.int IntKind.u64) ns j.toNat) b).snd.length ≤ 1000000)) (
                br (!sameE (isNilL (readL (nth (CL.int IntKind.u64) ns j.toNat) b), readL (nth (CL.int IntKind.u64) ns j.toNat) b).snd (isNilL (rdL (nth (CL.int IntKind.u64) ns j.toNat) b), rdL (nth (CL.int IntKind.u64) ns j.toNat) b).snd) (
                  H .ret (mkSt 158 [(20, vS (.bool false))] [])) (
                  H .normal (mkSt 158 [(9, vS (.int .u64 n)), (21, .s (.c (⟨.ro, AV.ptr 0 0⟩))), (33, .s (.c (⟨.ro, AV.sl (CL.int IntKind.u8) bl b⟩))), (120, .s (.c (⟨.own 3840 none, AV.sl (CL.int IntKind.u8).sl false xs⟩))), (121, vS (.int .i64 len)), (122, vS (.int .i64 i)), (129, .s (.c (⟨.own 4128 none, AV.sl (CL.int IntKind.u64) false ns⟩))), (130, vS (.int .i64 len2)), (131, vS (.int .i64 (IntKind.i64.wrap (j + 1))))] [[vC (.int .u64 h), ⟨.ro, AV.sl ((CL.int IntKind.i64).cons (((CL.int IntKind.u32).cons (CL.int IntKind.u32)).cons CL.bool)) hl hs⟩]]))) (
                none)) (
              H .ret (mkSt 158 [(20, vS (.bool false))] []))) (
            none)) (
          none)) (
        none)) (
      none)) (
    H (.exit 4) (mkSt 158 [(9, vS (.int .u64 n)), (21, .s (.c (⟨.ro, AV.ptr 0 0⟩))), (120, .s (.c (⟨.own 3840 none, AV.sl (CL.int IntKind.u8).sl false xs⟩))), (121, vS (.int .i64 len)), (122, vS (.int .i64 i))] [[vC (.int .u64 h), ⟨.ro, AV.sl ((CL.int IntKind.i64).cons (((CL.int IntKind.u32).cons (CL.int IntKind.u32)).cons CL.bool)) hl hs⟩]])) := by kernel_rfl
theorem telP2 (rec : Rec) (H : K) (L : Nat → St → Option Res) (h : Int) (hl : Bool) (hs : List Ev) (n : Int) (xs : List (Bool × List Int)) (len i : Int) :
    ((fnPl VT 3).at VT 3 1).past VT 3 0 (.exit 4) (mkSt 158 [(9, vS (.int .u64 n)), (21, .s (.c ⟨.ro, .ptr 0 0⟩)), (120, .s (.c ⟨.own 3840 none, .sl (.sl (.int .u8)) false xs⟩)), (121, vS (.int .i64 len)), (122, vS (.int .i64 i))] [[vC (.int .u64 h), ⟨.ro, .sl vE hl hs⟩]]) rec H L =
  H .normal (mkSt 158 [(9, vS (.int .u64 n)), (21, .s (.c (⟨.ro, AV.ptr 0 0⟩))), (120, .s (.c (⟨.own 3840 none, AV.sl (CL.int IntKind.u8).sl false xs⟩))), (121, vS (.int .i64 len)), (122, vS (.int .i64 (IntKind.i64.wrap (i + 1))))] [[vC (.int .u64 h), ⟨.ro, AV.sl ((CL.int IntKind.i64).cons (((CL.int IntKind.u32).cons (CL.int IntKind.u32)).cons CL.bool)) hl hs⟩]]) := by kernel_rfl
theorem telOut (rec : Rec) (H : K) (L : Nat → St → Option Res) (z : Int) :
    (fnPl VT 3).past VT 3 1 (.exit 2) (mkSt 158 [] []) rec H L =
  H .ret (mkSt 158 [(20, vS (.bool true))] []) := by kernel_rfl
end Go.Proofs.Ythiaaaedfidnjaa.Aj

namespace Go.Proofs.Ythiaaaedfidnjaa.Aj
open Go Go.Proofs.Ythiaaaedfidnjaa.Am Go.RowKit
set_option linter.unusedVariables false
set_option linter.unusedSimpArgs false
set_option maxRecDepth 100000
/-! AdjTells -/
theorem byT : VT.P.bytesOf 5 = 1 := by kernel_rfl
theorem byT50 : VT.P.bytesOf 50 = 8 := by kernel_rfl
abbrev hB (h : Int) (hl : Bool) (hs : List Ev) : List (List C) := [[vC (.int .u64 h), ⟨.ro, .sl vE hl hs⟩]]
def telS (h : Int) (hl : Bool) (hs : List Ev) (bl : Bool) (by' : List Int) (how at' c : Int) (ml : Bool) (m : List Int) (n : Int) (pl : Bool) (p : List Int) (xs : List (Bool × List Ed)) (len i : Int) : St := mkSt 158 [(4, .s (bS bl by')), (5, vS (.int .u8 how)), (6, vS (.int .u16 at')), (7, vS (.int .u8 c)), (8, .s (bS ml m)), (9, vS (.int .u64 n)), (21, .s (.c ⟨.ro, .ptr 0 0⟩)), (24, oS 768 pl p), (82, .s (.c ⟨.own 2624 none, .sl (.sl eE) false xs⟩)), (83, vS (.int .i64 len)), (84, vS (.int .i64 i))] (hB h hl hs)
def telE (h : Int) (hl : Bool) (hs : List Ev) (bl : Bool) (by' : List Int) (how at' c : Int) (ml : Bool) (m : List Int) (n : Int) (pl : Bool) (p : List Int) : St := mkSt 158 [(4, .s (bS bl by')), (5, vS (.int .u8 how)), (6, vS (.int .u16 at')), (7, vS (.int .u8 c)), (8, .s (bS ml m)), (9, vS (.int .u64 n)), (21, .s (.c ⟨.ro, .ptr 0 0⟩)), (24, oS 768 pl p)] (hB h hl hs)
theorem put_same {l : List Ed} (hok : ∀ e ∈ l, edOk e) (hl : l.length ≤ 2000) : putE l = apE l ∧ putB l = (apT l).getD [] := by
  have := apT_eq hok hl
  unfold putE putOk apE putB
  rw [this]
  exact ⟨rfl, rfl⟩
theorem all_edB {l : List Ed} (hok : ∀ e ∈ l, edOk e) : l.all edB = true := by
  rw [List.all_eq_true]
  exact fun e he => edB_ok.2 (hok e he)
theorem nthP_ok {α : CL} {P : α.den → Prop} {xs : List α.den} {i : Nat} (hi : i < xs.length) (h : ∀ x ∈ xs, P x) : P (nth α xs i) := by
  refine h _ ?_
  unfold nth
  rw [List.getD_eq_getElem?_getD, List.getElem?_eq_getElem hi]
  exact List.getElem_mem hi
theorem telLoop1 {h : Int} {hl : Bool} {hs : List Ev} {bl : Bool} {by' : List Int} {how at' c : Int} {ml : Bool} {m : List Int} {n : Int} {pl : Bool} {p : List Int} {xs : List (Bool × List Ed)} (hx : ∀ x ∈ xs, (∀ e ∈ x.2, edOk e) ∧ x.2.length ≤ 2000) (hlen : xs.length ≤ 10) :
    Loops VT 3 (fnPl VT 3) 0 (telS h hl hs bl by' how at' c ml m n pl p xs (xs.length : Int) 0) (.exit 0) (telE h hl hs bl by' how at' c ml m n pl p) := by
  have key := Loops.count (V := VT) (f := 3) (q := fnPl VT 3) (j := 0) (S := fun i => telS h hl hs bl by' how at' c ml m n pl p xs (xs.length : Int) (i : Int)) (n := xs.length) (e := .exit 0) (st' := telE h hl hs bl by' how at' c ml m n pl p) (by kernel_rfl) (fun i hi => by
    obtain ⟨hok, hl2⟩ := nthP_ok (α := .sl eE) (P := fun x => (∀ e ∈ x.2, edOk e) ∧ x.2.length ≤ 2000) hi hx
    have e1 : IntKind.i64.wrap ((i : Int) + 1) = ((i + 1 : Nat) : Int) := w64_id (by omega) (by omega)
    refine Goes.now fun rec H L => (telRnd rec H L h hl hs bl by' how at' c ml m n pl p xs _ i).trans ?_
    rw [br_pos (decide_eq_true (by omega)), br_pos (inR_yes (by omega) (by omega)), Int.toNat_natCast, e1]
    obtain ⟨s1, s2⟩ := put_same hok hl2
    have hA := all_edB hok
    generalize nth (CL.sl eE) xs i = x at *
    refine (br_pos (decide_eq_true hl2)).trans ((br_pos (by rw [decide_eq_true hl2, hA]; rfl)).trans ?_)
    rw [s1]
    have e2 : (!(apE x.2 != apE x.2)) = true := by simp
    refine (br_pos e2).trans ?_
    show br (!((baOf (putB x.2)).toList == (baOf ((apT x.2).getD [])).toList)) _ _ = _
    rw [s2, beq_self_eq_true]
    rfl) (Goes.now fun rec H L => (telRnd rec H L h hl hs bl by' how at' c ml m n pl p xs _ _).trans (br_neg (decide_eq_false (by omega)))) (by simp)
  exact key
def telQ (h : Int) (hl : Bool) (hs : List Ev) (n : Int) (xs : List (Bool × List Int)) (len i : Int) : St := mkSt 158 [(9, vS (.int .u64 n)), (21, .s (.c ⟨.ro, .ptr 0 0⟩)), (120, .s (.c ⟨.own 3840 none, .sl (.sl (.int .u8)) false xs⟩)), (121, vS (.int .i64 len)), (122, vS (.int .i64 i))] (hB h hl hs)
def telQI (h : Int) (hl : Bool) (hs : List Ev) (n : Int) (bl : Bool) (b : List Int) (xs : List (Bool × List Int)) (len i : Int) (ns : List Int) (len2 j : Int) : St := mkSt 158 [(9, vS (.int .u64 n)), (21, .s (.c ⟨.ro, .ptr 0 0⟩)), (33, .s (bS bl b)), (120, .s (.c ⟨.own 3840 none, .sl (.sl (.int .u8)) false xs⟩)), (121, vS (.int .i64 len)), (122, vS (.int .i64 i)), (129, ouS 4128 false ns), (130, vS (.int .i64 len2)), (131, vS (.int .i64 j))] (hB h hl hs)
noncomputable abbrev q3 : Pl := (fnPl VT 3).at VT 3 1
theorem telLoopI {h : Int} {hl : Bool} {hs : List Ev} {n : Int} {bl : Bool} {b : List Int} {xs : List (Bool × List Int)} {len i : Int} {ns : List Int} (hb : inB b) (hbl : b.length ≤ 2000) (hns : ns.length ≤ 10) :
    Loops VT 3 q3 0 (telQI h hl hs n bl b xs len i ns (ns.length : Int) 0) (.exit 4) (telQ h hl hs n xs len i) := by
  have key := Loops.count (V := VT) (f := 3) (q := q3) (j := 0) (S := fun j => telQI h hl hs n bl b xs len i ns (ns.length : Int) (j : Int)) (n := ns.length) (e := .exit 4) (st' := telQ h hl hs n xs len i) (by kernel_rfl) (fun j hj => by
    have e1 : IntKind.i64.wrap ((j : Int) + 1) = ((j + 1 : Nat) : Int) := w64_id (by omega) (by omega)
    refine Goes.now fun rec H L => (telR2 rec H L h hl hs n bl b xs len i ns _ j).trans ?_
    rw [br_pos (decide_eq_true (by omega)), br_pos (inR_yes (by omega) (by omega)), Int.toNat_natCast, e1]
    generalize nth (CL.int IntKind.u64) ns j = k
    obtain ⟨s1, s2⟩ := read_same (n := k) hb hbl
    have hl3 : (readL k b).length ≤ 1000000 := by
      unfold readL
      have := edT_out k b true
      cases readOk k b
      · exact Nat.zero_le _
      · show (edT k b true).1.length ≤ _; omega
    refine (br_pos (decide_eq_true (by omega))).trans ((br_pos (decide_eq_true (Nat.le_trans (edT_out k b true) hbl))).trans ((br_pos (decide_eq_true hbl)).trans ?_))
    have e2 : (!(readE k b != rdE k b)) = true := by rw [s1]; simp
    refine (br_pos e2).trans ((br_pos (decide_eq_true hl3)).trans ?_)
    show br (!sameE (readL k b) (rdL k b)) _ _ = _
    rw [s2, sameE_refl]
    rfl) (Goes.now fun rec H L => (telR2 rec H L h hl hs n bl b xs len i ns _ _).trans (br_neg (decide_eq_false (by omega)))) (by simp)
  exact key
theorem telLoop2 {h : Int} {hl : Bool} {hs : List Ev} {n : Int} {xs : List (Bool × List Int)} (hx : ∀ x ∈ xs, inB x.2 ∧ x.2.length ≤ 2000) (hlen : xs.length ≤ 10) :
    Loops VT 3 (fnPl VT 3) 1 (telQ h hl hs n xs (xs.length : Int) 0) (.exit 2) (mkSt 158 [] []) := by
  have key := Loops.count (V := VT) (f := 3) (q := fnPl VT 3) (j := 1) (S := fun i => telQ h hl hs n xs (xs.length : Int) (i : Int)) (n := xs.length) (e := .exit 2) (st' := mkSt 158 [] []) (by kernel_rfl) (fun i hi => by
    obtain ⟨hb, hbl⟩ := nthP_ok (α := .sl (.int .u8)) (P := fun x => inB x.2 ∧ x.2.length ≤ 2000) hi hx
    have e1 : IntKind.i64.wrap ((i : Int) + 1) = ((i + 1 : Nat) : Int) := w64_id (by omega) (by omega)
    have hin : ∀ rec H L, q3.way VT 3 (telQ h hl hs n xs (xs.length : Int) (i : Int)) rec H L = L 0 (telQI h hl hs n (nth (.sl (.int .u8)) xs i).1 (nth (.sl (.int .u8)) xs i).2 xs (xs.length : Int) i [n, h, 5] (([n, h, 5] : List Int).length : Int) 0) := fun rec H L => by
      refine (telR1 rec H L h hl hs n xs _ i).trans ?_
      rw [br_pos (decide_eq_true (by omega)), br_pos (inR_yes (by omega) (by omega)), Int.toNat_natCast]
      rfl
    refine Goes.of hin (Goes.loop (telLoopI hb hbl (by simp)) (Goes.now fun rec H L => (telP2 rec H L h hl hs n xs _ i).trans (by rw [e1]; rfl)) (by kernel_rfl) (by kernel_rfl) rfl)) (Goes.now fun rec H L => (telR1 rec H L h hl hs n xs _ _).trans (br_neg (decide_eq_false (by omega)))) (by simp)
  exact key
theorem chg_ok {b m : List Int} {how at' x : Int} (hb : inB b) (hm : inB m) (hx : 0 ≤ x ∧ x < 256) : inB (chgR b how at' x m) ∧ (chgR b how at' x m).length ≤ b.length + m.length := by
  unfold chgR
  have ht : ∀ k, inB (b.take k) := fun k z hz => hb z (List.mem_of_mem_take hz)
  have hd : ∀ k, inB (b.drop k) := fun k z hz => hb z (List.mem_of_mem_drop hz)
  cases isNilL b with
  | true => exact ⟨hm, by show m.length ≤ _; omega⟩
  | false =>
    cases (how % 5 == 0 || how % 5 == 1) with
    | true =>
      refine ⟨fun z hz => ?_, by show (b.set _ x).length ≤ _; rw [List.length_set]; omega⟩
      rcases List.mem_or_eq_of_mem_set (show z ∈ b.set (at' % b.length).toNat x from hz) with hz | rfl
      · exact hb z hz
      · exact hx
    | false =>
      cases (how % 5 == 2) with
      | true => exact ⟨inB_app (inB_app (ht _) hm) (hd _), by show (b.take _ ++ m ++ b.drop _).length ≤ _; rw [List.length_append, List.length_append, List.length_take, List.length_drop]; omega⟩
      | false =>
        cases (how % 5 == 3) with
        | true => exact ⟨ht _, by show (b.take _).length ≤ _; rw [List.length_take]; omega⟩
        | false => exact ⟨inB_app (ht _) (hd _), by show (b.take _ ++ b.drop _).length ≤ _; rw [List.length_append, List.length_take, List.length_drop]; omega⟩
theorem telCall {rl : Bool} {raw : List Ed} {k near : Int} {ll : Bool} {l : List Int} {bl : Bool} {by' : List Int} {how at' c : Int} {ml : Bool} {m : List Int} {n : Int} (hraw : ∀ e ∈ raw, edOk e) (hk : 0 ≤ k ∧ k < 256) (hl : ∀ x ∈ l, 0 ≤ x ∧ x < 256) (hr : 0 ≤ near ∧ near < 256) (hby : inB by') (hhow : 0 ≤ how ∧ how < 256) (hat : 0 ≤ at' ∧ at' < 65536) (hc : 0 ≤ c ∧ c < 256) (hm : inB m) :
    ∃ j, call VT j 3 [eS rl raw, wS .u8 k, bS ll l, wS .u8 near, bS bl by', wS .u8 how, wS .u16 at', wS .u8 c, bS ml m, wS .u64 n] = some (vS (.bool true), []) := by
  have fin : finK VT.P (VT.np 3) (VT.sig 3) (VT.fin 3) (funcOf VT.P 3) .ret (mkSt 158 [(20, vS (.bool true))] []) = some (vS (.bool true), []) := by kernel_rfl
  have hin := fun rec H L => telIn rec H L rl raw k ll l near bl by' how at' c ml m n
  by_cases h1 : (raw.length : Int) > 30
  · exact Goes.call (Goes.now fun rec H L => (hin rec H L).trans (br_neg (by rw [decide_eq_true h1]; rfl))) fin (by kernel_rfl)
  by_cases h2 : (l.length : Int) > 60
  · exact Goes.call (Goes.now fun rec H L => (hin rec H L).trans ((br_pos (by rw [decide_eq_false h1]; rfl)).trans (br_neg (by rw [decide_eq_true h2]; rfl)))) fin (by kernel_rfl)
  by_cases h3 : (by'.length : Int) > 60
  · exact Goes.call (Goes.now fun rec H L => (hin rec H L).trans ((br_pos (by rw [decide_eq_false h1]; rfl)).trans ((br_pos (by rw [decide_eq_false h2]; rfl)).trans (br_neg (by rw [decide_eq_true h3]; rfl))))) fin (by kernel_rfl)
  by_cases h4 : (m.length : Int) > 8
  · exact Goes.call (Goes.now fun rec H L => (hin rec H L).trans ((br_pos (by rw [decide_eq_false h1]; rfl)).trans ((br_pos (by rw [decide_eq_false h2]; rfl)).trans ((br_pos (by rw [decide_eq_false h3]; rfl)).trans (br_pos (decide_eq_true h4)))))) fin (by kernel_rfl)
  have hvt : 2 ≤ vtT k ∧ vtT k ≤ 4294967296 := vt_bd hk.1
  obtain ⟨hge, hhl⟩ := his_good (k := k) (l := l) (by omega)
  obtain ⟨hg, hnl⟩ := at_gd (t := timR (hisR k l) near) hge
  have hH : hisOK k l = true := by
    unfold hisOK
    simp only [Bool.and_eq_true, decide_eq_true_eq, List.all_eq_true]
    exact ⟨hk.1, hk.2, by omega, hl⟩
  have hin1 := fun rec H L => (hin rec H L).trans ((br_pos (by rw [decide_eq_false h1]; rfl)).trans ((br_pos (by rw [decide_eq_false h2]; rfl)).trans ((br_pos (by rw [decide_eq_false h3]; rfl)).trans ((br_neg (decide_eq_false h4)).trans (br_pos hH)))))
  clear hin
  generalize hisR k l = hs at *
  have hok : ∀ e ∈ atR (vtT k) hs (timR hs near), edOk e := hg.ok hvt.2
  have hin2 : ∀ rec H L, fnWay VT 3 [eS rl raw, wS .u8 k, bS ll l, wS .u8 near, bS bl by', wS .u8 how, wS .u16 at', wS .u8 c, bS ml m, wS .u64 n] rec H L =
      L 0 (telS (vtT k) (isNilL hs) hs bl by' how at' c ml m n (!(apT (atR (vtT k) hs (timR hs near))).isSome) ((apT (atR (vtT k) hs (timR hs near))).getD []) [(rl, raw), (isNilL (atR (vtT k) hs (timR hs near)), atR (vtT k) hs (timR hs near)), (isNilL (atR (vtT k) hs (timR hs near)) && isNilL raw, atR (vtT k) hs (timR hs near) ++ raw)] (3 : Int) 0) := fun rec H L => by
    refine (hin1 rec H L).trans ?_
    have c1 : (decide (0 ≤ near) && (decide (near < 256) && decide (hs.length ≤ 1000))) = true := by
      simp only [Bool.and_eq_true, decide_eq_true_eq]
      omega
    have c2 : (decide ((atR (vtT k) hs (timR hs near)).length ≤ 2000) && (atR (vtT k) hs (timR hs near)).all edB) = true := by
      rw [all_edB hok, decide_eq_true (by omega)]
      rfl
    rw [byT50]
    refine (br_pos c1).trans ((br_pos (decide_eq_true (by show hs.length ≤ 1000; omega))).trans ((br_pos c2).trans ((br_pos (fits_small (by show (atR (vtT k) hs (timR hs near)).length ≤ _; omega) (by decide))).trans ((br_pos (fits_small (by show (atR (vtT k) hs (timR hs near)).length + raw.length ≤ _; omega) (by decide))).trans ?_))))
    rfl
  generalize atR (vtT k) hs (timR hs near) = now at *
  have hput := putT_some hg hvt.2 (by omega)
  have hap := apT_eq hok (by omega)
  have hpb := putT_inB hput
  have hpl := putT_len hput
  have hpe : (apT now).getD [] = putB now := by rw [hap, hput]; rfl
  rw [hpe] at hin2
  generalize putB now = p at *
  generalize (!(apT now).isSome) = pl at *
  have lp1 := telLoop1 (h := vtT k) (hl := isNilL hs) (hs := hs) (bl := bl) (by' := by') (how := how) (at' := at') (c := c) (ml := ml) (m := m) (n := n) (pl := pl) (p := p) (xs := [(rl, raw), (isNilL now, now), (isNilL now && isNilL raw, now ++ raw)]) (fun x hx => by
    simp only [List.mem_cons, List.not_mem_nil, or_false] at hx
    rcases hx with rfl | rfl | rfl
    · exact ⟨hraw, by show raw.length ≤ 2000; omega⟩
    · exact ⟨hok, by show now.length ≤ 2000; omega⟩
    · refine ⟨fun e he => ?_, by show (now ++ raw).length ≤ 2000; rw [List.length_append]; omega⟩
      rcases List.mem_append.1 he with he | he
      · exact hok e he
      · exact hraw e he) (by simp)
  obtain ⟨g1, g2⟩ := chg_ok (how := how) (at' := at') hpb hm hc
  have hmid : ∀ rec H L, (fnPl VT 3).past VT 3 0 (.exit 0) (telE (vtT k) (isNilL hs) hs bl by' how at' c ml m n pl p) rec H L = L 1 (telQ (vtT k) (isNilL hs) hs n [(bl, by'), (pl, p), (chgN p how at' c m, chgR p how at' c m), (false && isNilL by', [1] ++ by')] (4 : Int) 0) := fun rec H L => by
    refine (telMid rec H L (vtT k) _ hs bl by' how at' c ml m n pl p).trans ?_
    have c3 : (decide (p.length ≤ 100000) && (decide (m.length ≤ 100000) && (decide (0 ≤ how) && (decide (0 ≤ at') && decide (at' < 65536))))) = true := by
      simp only [Bool.and_eq_true, decide_eq_true_eq]
      omega
    rw [byT, br_pos c3, br_pos (fits_small (by rw [List.length_singleton]; omega) (by decide))]
    rfl
  have lp2 := telLoop2 (h := vtT k) (hl := isNilL hs) (hs := hs) (n := n) (xs := [(bl, by'), (pl, p), (chgN p how at' c m, chgR p how at' c m), (false && isNilL by', [1] ++ by')]) (fun x hx => by
    simp only [List.mem_cons, List.not_mem_nil, or_false] at hx
    rcases hx with rfl | rfl | rfl | rfl
    · exact ⟨hby, by show by'.length ≤ 2000; omega⟩
    · exact ⟨hpb, by show p.length ≤ 2000; omega⟩
    · exact ⟨g1, by show (chgR p how at' c m).length ≤ 2000; omega⟩
    · refine ⟨inB_app (fun z hz => ?_) hby, by show ([1] ++ by').length ≤ 2000; rw [List.length_append, List.length_singleton]; omega⟩
      rw [List.mem_singleton.1 hz]
      decide) (by simp)
  exact Goes.call (Goes.of hin2 (Goes.loop lp1 (Goes.of hmid (Goes.loop lp2 (Goes.now (telOut · · · 0)) (by kernel_rfl) (by kernel_rfl) rfl)) (by kernel_rfl) (by kernel_rfl) rfl)) fin (by kernel_rfl)
theorem okd_ed {l : List Ed} (h : ∀ x ∈ l, okd eE x) : ∀ e ∈ l, edOk e := fun e he => by
  obtain ⟨h1, h2⟩ := h e he
  have h1 := wf_u32 h1
  have h2 := wf_u32 h2
  exact ⟨h1.1, h1.2, h2.1, h2.2⟩
theorem okd_u8' {l : List Int} (h : ∀ x ∈ l, okd (.int .u8) x) : inB l := fun x hx => wf_u8 (h x hx)
theorem telWalk (k near how at' c n : Int) (hk : (Lit.int .u8 k).wf = true) (hr : (Lit.int .u8 near).wf = true) (hhow : (Lit.int .u8 how).wf = true) (hat : (Lit.int .u16 at').wf = true) (hc : (Lit.int .u8 c).wf = true) {rl ll bl ml : Bool} {raw : List Ed} {l by' m : List Int} {u0 u1 u2 u3 : Value} (w : World)
    (b0 : IsRow (eE.sees (memOf w) (memOf w)) 2 rl raw u0) (o0 : ∀ x ∈ raw, okd eE x) (b1 : IsRow ((CL.int .u8).sees (memOf w) (memOf w)) 1 ll l u1) (o1 : ∀ x ∈ l, okd (.int .u8) x) (b2 : IsRow ((CL.int .u8).sees (memOf w) (memOf w)) 1 bl by' u2) (o2 : ∀ x ∈ by', okd (.int .u8) x) (b3 : IsRow ((CL.int .u8).sees (memOf w) (memOf w)) 1 ml m u3) (o3 : ∀ x ∈ m, okd (.int .u8) x) :
    Calls Go.Proofs.Try.prog 3 #[u0, .int .u8 k, u1, .int .u8 near, u2, .int .u8 how, .int .u16 at', .int .u8 c, u3, .int .u64 n] w fun e w' => e = .returned (.bool true) ∧ Below w.heap.size w w' := by
  obtain ⟨j, hj⟩ := telCall (rl := rl) (ll := ll) (bl := bl) (ml := ml) (n := n) (okd_ed o0) (wf_u8 hk) (okd_u8' o1) (wf_u8 hr) (okd_u8' o2) (wf_u8 hhow) (wf_u16 hat) (wf_u8 hc) (okd_u8' o3)
  exact law_of (V := VT) (bx := []) mix (sokT _ rfl rfl) (M := memOf w) (fun _ _ _ h => h) (xs := [eS rl raw, wS .u8 k, bS ll l, wS .u8 near, bS bl by', wS .u8 how, wS .u16 at', wS .u8 c, bS ml m, wS .u64 n]) ⟨b0, ⟨rfl, rfl⟩, b1, ⟨rfl, rfl⟩, b2, ⟨rfl, rfl⟩, ⟨rfl, rfl⟩, ⟨rfl, rfl⟩, b3, ⟨rfl, rfl⟩, trivial⟩ hj
end Go.Proofs.Ythiaaaedfidnjaa.Aj
