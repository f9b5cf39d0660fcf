/- What the functions come to, by the evaluator. Conditions: none; checked here. -/
import Derived.Test.YthiaaaedfidnjaaAjA
import Derived.ProofKit
set_option linter.unusedVariables false
set_option linter.unusedSimpArgs false

namespace Go.Proofs.Ythiaaaedfidnjaa.Aj
open Go Go.Proofs.Ythiaaaedfidnjaa.Am Go.RowKit
set_option linter.unusedVariables false
set_option linter.unusedSimpArgs false
set_option maxRecDepth 100000
noncomputable def V8 : Env := V l8
theorem puIn (rec : Rec) (H : K) (L : Nat → St → Option Res) (nl : Bool) (xs : List Ed) :
    fnWay V7 12 [eS nl xs] rec H L =
  br (decide (xs.length ≤ 1000000)) (
    br (!risB xs) (
      H .ret (mkSt 85 [(2, .s (.c (⟨.own 64 none, AV.sl (CL.int IntKind.u8) true []⟩))), (3, vS (.int .i64 23))] [])) (
      L 0 (mkSt 85 [(0, .s (.c (⟨.ro, AV.sl ((CL.int IntKind.u32).cons (CL.int IntKind.u32)) nl xs⟩))), (4, .s (.c (⟨.ro, AV.nilv⟩))), (5, vS (.int .u64 0)), (6, vS (.int .u64 0)), (7, vS (.int .i64 0))] []))) (
    none) := by kernel_rfl
theorem puRndN (rec : Rec) (H : K) (L : Nat → St → Option Res) (nl : Bool) (xs : List Ed) (many nx i : Int) :
    ((fnPl V7 12).at V7 12 0).way V7 12 (mkSt 85 [(0, .s (eS nl xs)), (4, .s (.c ⟨.ro, .nilv⟩)), (5, vS (.int .u64 many)), (6, vS (.int .u64 nx)), (7, vS (.int .i64 i))] []) rec H L =
  br (decide (i < (↑xs.length : Int))) (
    br (inR i xs.length) (
      L 0 (mkSt 85 [(0, .s (.c (⟨.ro, AV.sl ((CL.int IntKind.u32).cons (CL.int IntKind.u32)) nl xs⟩))), (4, .s (.c (⟨.ro, AV.nilv⟩))), (5, vS (.int .u64 many)), (6, vS (.int .u64 nx)), (7, vS (.int .i64 i)), (8, vS (.int .u32 (nth eE xs i.toNat).fst)), (9, vS (.int .i64 i)), (10, .s (.c (⟨.ro, AV.nilv⟩))), (11, vS (.int .u64 (IntKind.u64.wrap (nth eE xs i.toNat).fst)))] [])) (
      none)) (
    H (.exit 0) (mkSt 85 [(4, .s (.c (⟨.ro, AV.nilv⟩))), (5, vS (.int .u64 many))] [])) := by kernel_rfl
theorem puIONRN (rec : Rec) (H : K) (L : Nat → St → Option Res) (nl : Bool) (xs : List Ed) (many nx i u k last : Int) :
    (((fnPl V7 12).at V7 12 0).at V7 12 0).way V7 12 (mkSt 85 [(0, .s (eS nl xs)), (4, .s (.c ⟨.ro, .nilv⟩)), (5, vS (.int .u64 many)), (6, vS (.int .u64 nx)), (7, vS (.int .i64 i)), (8, vS (.int .u32 u)), (9, vS (.int .i64 k)), (10, .s (.c ⟨.ro, .nilv⟩)), (11, vS (.int .u64 last))] []) rec H L =
  br (decide (i < (↑xs.length : Int))) (
    br (inR i xs.length) (
      br ((nth eE xs i.toNat).fst == u) (
        br (inR i xs.length) (
          br (decide (IntKind.u64.wrap (nth eE xs i.toNat).snd ≤ last)) (
            H .ret (mkSt 85 [(2, .s (.c (⟨.own 64 none, AV.sl (CL.int IntKind.u8) true []⟩))), (3, vS (.int .i64 23))] [])) (
            br (!false && decide ([IntKind.u64.wrap (IntKind.u64.wrap (IntKind.u64.wrap (nth eE xs i.toNat).snd - last) - 1)].length ≤ 1000) && [IntKind.u64.wrap (IntKind.u64.wrap (IntKind.u64.wrap (nth eE xs i.toNat).snd - last) - 1)].all fun x => decide (x < 18446744073709551616)) (
              br (fits (putVs [IntKind.u64.wrap (IntKind.u64.wrap (IntKind.u64.wrap (nth eE xs i.toNat).snd - last) - 1)]).length (V7.P.bytesOf 5)) (
                H .normal (mkSt 85 [(0, .s (.c (⟨.ro, AV.sl ((CL.int IntKind.u32).cons (CL.int IntKind.u32)) nl xs⟩))), (4, .s (.c (⟨.ro, AV.nilv⟩))), (5, vS (.int .u64 many)), (6, vS (.int .u64 nx)), (7, vS (.int .i64 (IntKind.i64.wrap (i + 1)))), (8, vS (.int .u32 u)), (9, vS (.int .i64 k)), (10, .s (.c (⟨.own 1888 none, AV.sl (CL.int IntKind.u8) (isNilL (putVs [IntKind.u64.wrap (IntKind.u64.wrap (IntKind.u64.wrap (nth eE xs i.toNat).snd - last) - 1)])) (putVs [IntKind.u64.wrap (IntKind.u64.wrap (IntKind.u64.wrap (nth eE xs i.toNat).snd - last) - 1)])⟩))), (11, vS (.int .u64 (IntKind.u64.wrap (nth eE xs i.toNat).snd)))] [])) (
                none)) (
              none))) (
          none)) (
        H (.exit 2) (mkSt 85 [(0, .s (.c (⟨.ro, AV.sl ((CL.int IntKind.u32).cons (CL.int IntKind.u32)) nl xs⟩))), (4, .s (.c (⟨.ro, AV.nilv⟩))), (5, vS (.int .u64 many)), (6, vS (.int .u64 nx)), (7, vS (.int .i64 i)), (8, vS (.int .u32 u)), (9, vS (.int .i64 k)), (10, .s (.c (⟨.ro, AV.nilv⟩)))] []))) (
      none)) (
    H (.exit 2) (mkSt 85 [(0, .s (.c (⟨.ro, AV.sl ((CL.int IntKind.u32).cons (CL.int IntKind.u32)) nl xs⟩))), (4, .s (.c (⟨.ro, AV.nilv⟩))), (5, vS (.int .u64 many)), (6, vS (.int .u64 nx)), (7, vS (.int .i64 i)), (8, vS (.int .u32 u)), (9, vS (.int .i64 k)), (10, .s (.c (⟨.ro, AV.nilv⟩)))] [])) := by kernel_rfl
theorem puIONR (rec : Rec) (H : K) (L : Nat → St → Option Res) (nl : Bool) (xs : List Ed) (r : List Int) (many nx i u k last : Int) :
    (((fnPl V7 12).at V7 12 0).at V7 12 0).way V7 12 (mkSt 85 [(0, .s (eS nl xs)), (4, .s (.c ⟨.ro, .nilv⟩)), (5, vS (.int .u64 many)), (6, vS (.int .u64 nx)), (7, vS (.int .i64 i)), (8, vS (.int .u32 u)), (9, vS (.int .i64 k)), (10, .s (.c ⟨.own 1888 none, .sl (.int .u8) false r⟩)), (11, vS (.int .u64 last))] []) rec H L =
  br (decide (i < (↑xs.length : Int))) (
    br (inR i xs.length) (
      br ((nth eE xs i.toNat).fst == u) (
        br (inR i xs.length) (
          br (decide (IntKind.u64.wrap (nth eE xs i.toNat).snd ≤ last)) (
            H .ret (mkSt 85 [(2, .s (.c (⟨.own 64 none, AV.sl (CL.int IntKind.u8) true []⟩))), (3, vS (.int .i64 23))] [])) (
            br (!false && decide ([IntKind.u64.wrap (IntKind.u64.wrap (IntKind.u64.wrap (nth eE xs i.toNat).snd - last) - 1)].length ≤ 1000) && [IntKind.u64.wrap (IntKind.u64.wrap (IntKind.u64.wrap (nth eE xs i.toNat).snd - last) - 1)].all fun x => decide (x < 18446744073709551616)) (
              br (fits (r.length + (putVs [IntKind.u64.wrap (IntKind.u64.wrap (IntKind.u64.wrap (nth eE xs i.toNat).snd - last) - 1)]).length) (V7.P.bytesOf 5)) (
                H .normal (mkSt 85 [(0, .s (.c (⟨.ro, AV.sl ((CL.int IntKind.u32).cons (CL.int IntKind.u32)) nl xs⟩))), (4, .s (.c (⟨.ro, AV.nilv⟩))), (5, vS (.int .u64 many)), (6, vS (.int .u64 nx)), (7, vS (.int .i64 (IntKind.i64.wrap (i + 1)))), (8, vS (.int .u32 u)), (9, vS (.int .i64 k)), (10, .s (.c (⟨.own 1888 none, AV.sl (CL.int IntKind.u8) (false && isNilL (putVs [IntKind.u64.wrap (IntKind.u64.wrap (IntKind.u64.wrap (nth eE xs i.toNat).snd - last) - 1)])) (r ++ putVs [IntKind.u64.wrap (IntKind.u64.wrap (IntKind.u64.wrap (nth eE xs i.toNat).snd - last) - 1)])⟩))), (11, vS (.int .u64 (IntKind.u64.wrap (nth eE xs i.toNat).snd)))] [])) (
                none)) (
              none))) (
          none)) (
        H (.exit 2) (mkSt 85 [(0, .s (.c (⟨.ro, AV.sl ((CL.int IntKind.u32).cons (CL.int IntKind.u32)) nl xs⟩))), (4, .s (.c (⟨.ro, AV.nilv⟩))), (5, vS (.int .u64 many)), (6, vS (.int .u64 nx)), (7, vS (.int .i64 i)), (8, vS (.int .u32 u)), (9, vS (.int .i64 k)), (10, .s (.c (⟨.own 1888 none, AV.sl (CL.int IntKind.u8) false r⟩)))] []))) (
      none)) (
    H (.exit 2) (mkSt 85 [(0, .s (.c (⟨.ro, AV.sl ((CL.int IntKind.u32).cons (CL.int IntKind.u32)) nl xs⟩))), (4, .s (.c (⟨.ro, AV.nilv⟩))), (5, vS (.int .u64 many)), (6, vS (.int .u64 nx)), (7, vS (.int .i64 i)), (8, vS (.int .u32 u)), (9, vS (.int .i64 k)), (10, .s (.c (⟨.own 1888 none, AV.sl (CL.int IntKind.u8) false r⟩)))] [])) := by kernel_rfl
theorem puPastN (rec : Rec) (H : K) (L : Nat → St → Option Res) (nl : Bool) (xs : List Ed) (r : List Int) (many nx i u k : Int) :
    ((fnPl V7 12).at V7 12 0).past V7 12 0 (.exit 2) (mkSt 85 [(0, .s (eS nl xs)), (4, .s (.c ⟨.ro, .nilv⟩)), (5, vS (.int .u64 many)), (6, vS (.int .u64 nx)), (7, vS (.int .i64 i)), (8, vS (.int .u32 u)), (9, vS (.int .i64 k)), (10, .s (.c ⟨.own 1888 none, .sl (.int .u8) false r⟩))] []) rec H L =
  br (!false && decide ([IntKind.u64.wrap (IntKind.u64.wrap u - nx), IntKind.u64.wrap (IntKind.i64.wrap (i - k))].length ≤ 1000) && [IntKind.u64.wrap (IntKind.u64.wrap u - nx), IntKind.u64.wrap (IntKind.i64.wrap (i - k))].all fun x => decide (x < 18446744073709551616)) (
    br (fits (putVs [IntKind.u64.wrap (IntKind.u64.wrap u - nx), IntKind.u64.wrap (IntKind.i64.wrap (i - k))]).length (V7.P.bytesOf 5)) (
      br (fits ((putVs [IntKind.u64.wrap (IntKind.u64.wrap u - nx), IntKind.u64.wrap (IntKind.i64.wrap (i - k))]).length + r.length) (V7.P.bytesOf 5)) (
        H .normal (mkSt 85 [(0, .s (.c (⟨.ro, AV.sl ((CL.int IntKind.u32).cons (CL.int IntKind.u32)) nl xs⟩))), (4, .s (.c (⟨.own 2368 none, AV.sl (CL.int IntKind.u8) (isNilL (putVs [IntKind.u64.wrap (IntKind.u64.wrap u - nx), IntKind.u64.wrap (IntKind.i64.wrap (i - k))]) && isNilL r) (putVs [IntKind.u64.wrap (IntKind.u64.wrap u - nx), IntKind.u64.wrap (IntKind.i64.wrap (i - k))] ++ r)⟩))), (5, vS (.int .u64 (IntKind.u64.wrap (many + 1)))), (6, vS (.int .u64 (IntKind.u64.wrap (IntKind.u64.wrap u + 1)))), (7, vS (.int .i64 i))] [])) (
        none)) (
      none)) (
    none) := by kernel_rfl
theorem puOutN (rec : Rec) (H : K) (L : Nat → St → Option Res) (many : Int) :
    (fnPl V7 12).past V7 12 0 (.exit 0) (mkSt 85 [(4, .s (.c ⟨.ro, .nilv⟩)), (5, vS (.int .u64 many))] []) rec H L =
  br (!false && decide ([many].length ≤ 1000) && [many].all fun x => decide (x < 18446744073709551616)) (
    br (fits ((putVs [many]).length + 0) (V7.P.bytesOf 5)) (
      H .ret (mkSt 85 [(2, .s (.c (⟨.own 64 none, AV.sl (CL.int IntKind.u8) (false && true) (putVs [many] ++ [])⟩))), (3, vS (.int .i64 0))] [])) (
      none)) (
    none) := by kernel_rfl
theorem puRnd (rec : Rec) (H : K) (L : Nat → St → Option Res) (nl : Bool) (xs : List Ed) (o : List Int) (many nx i : Int) :
    ((fnPl V7 12).at V7 12 0).way V7 12 (mkSt 85 [(0, .s (eS nl xs)), (4, .s (.c ⟨.own 2368 none, .sl (.int .u8) false o⟩)), (5, vS (.int .u64 many)), (6, vS (.int .u64 nx)), (7, vS (.int .i64 i))] []) rec H L =
  br (decide (i < (↑xs.length : Int))) (
    br (inR i xs.length) (
      L 0 (mkSt 85 [(0, .s (.c (⟨.ro, AV.sl ((CL.int IntKind.u32).cons (CL.int IntKind.u32)) nl xs⟩))), (4, .s (.c (⟨.own 2368 none, AV.sl (CL.int IntKind.u8) false o⟩))), (5, vS (.int .u64 many)), (6, vS (.int .u64 nx)), (7, vS (.int .i64 i)), (8, vS (.int .u32 (nth eE xs i.toNat).fst)), (9, vS (.int .i64 i)), (10, .s (.c (⟨.ro, AV.nilv⟩))), (11, vS (.int .u64 (IntKind.u64.wrap (nth eE xs i.toNat).fst)))] [])) (
      none)) (
    H (.exit 0) (mkSt 85 [(4, .s (.c (⟨.own 2368 none, AV.sl (CL.int IntKind.u8) false o⟩))), (5, vS (.int .u64 many))] [])) := by kernel_rfl
theorem puIORN (rec : Rec) (H : K) (L : Nat → St → Option Res) (nl : Bool) (xs : List Ed) (o : List Int) (many nx i u k last : Int) :
    (((fnPl V7 12).at V7 12 0).at V7 12 0).way V7 12 (mkSt 85 [(0, .s (eS nl xs)), (4, .s (.c ⟨.own 2368 none, .sl (.int .u8) false o⟩)), (5, vS (.int .u64 many)), (6, vS (.int .u64 nx)), (7, vS (.int .i64 i)), (8, vS (.int .u32 u)), (9, vS (.int .i64 k)), (10, .s (.c ⟨.ro, .nilv⟩)), (11, vS (.int .u64 last))] []) rec H L =
  br (decide (i < (↑xs.length : Int))) (
    br (inR i xs.length) (
      br ((nth eE xs i.toNat).fst == u) (
        br (inR i xs.length) (
          br (decide (IntKind.u64.wrap (nth eE xs i.toNat).snd ≤ last)) (
            H .ret (mkSt 85 [(2, .s (.c (⟨.own 64 none, AV.sl (CL.int IntKind.u8) true []⟩))), (3, vS (.int .i64 23))] [])) (
            br (!false && decide ([IntKind.u64.wrap (IntKind.u64.wrap (IntKind.u64.wrap (nth eE xs i.toNat).snd - last) - 1)].length ≤ 1000) && [IntKind.u64.wrap (IntKind.u64.wrap (IntKind.u64.wrap (nth eE xs i.toNat).snd - last) - 1)].all fun x => decide (x < 18446744073709551616)) (
              br (fits (putVs [IntKind.u64.wrap (IntKind.u64.wrap (IntKind.u64.wrap (nth eE xs i.toNat).snd - last) - 1)]).length (V7.P.bytesOf 5)) (
                H .normal (mkSt 85 [(0, .s (.c (⟨.ro, AV.sl ((CL.int IntKind.u32).cons (CL.int IntKind.u32)) nl xs⟩))), (4, .s (.c (⟨.own 2368 none, AV.sl (CL.int IntKind.u8) false o⟩))), (5, vS (.int .u64 many)), (6, vS (.int .u64 nx)), (7, vS (.int .i64 (IntKind.i64.wrap (i + 1)))), (8, vS (.int .u32 u)), (9, vS (.int .i64 k)), (10, .s (.c (⟨.own 1888 none, AV.sl (CL.int IntKind.u8) (isNilL (putVs [IntKind.u64.wrap (IntKind.u64.wrap (IntKind.u64.wrap (nth eE xs i.toNat).snd - last) - 1)])) (putVs [IntKind.u64.wrap (IntKind.u64.wrap (IntKind.u64.wrap (nth eE xs i.toNat).snd - last) - 1)])⟩))), (11, vS (.int .u64 (IntKind.u64.wrap (nth eE xs i.toNat).snd)))] [])) (
                none)) (
              none))) (
          none)) (
        H (.exit 2) (mkSt 85 [(0, .s (.c (⟨.ro, AV.sl ((CL.int IntKind.u32).cons (CL.int IntKind.u32)) nl xs⟩))), (4, .s (.c (⟨.own 2368 none, AV.sl (CL.int IntKind.u8) false o⟩))), (5, vS (.int .u64 many)), (6, vS (.int .u64 nx)), (7, vS (.int .i64 i)), (8, vS (.int .u32 u)), (9, vS (.int .i64 k)), (10, .s (.c (⟨.ro, AV.nilv⟩)))] []))) (
      none)) (
    H (.exit 2) (mkSt 85 [(0, .s (.c (⟨.ro, AV.sl ((CL.int IntKind.u32).cons (CL.int IntKind.u32)) nl xs⟩))), (4, .s (.c (⟨.own 2368 none, AV.sl (CL.int IntKind.u8) false o⟩))), (5, vS (.int .u64 many)), (6, vS (.int .u64 nx)), (7, vS (.int .i64 i)), (8, vS (.int .u32 u)), (9, vS (.int .i64 k)), (10, .s (.c (⟨.ro, AV.nilv⟩)))] [])) := by kernel_rfl
theorem puIOR (rec : Rec) (H : K) (L : Nat → St → Option Res) (nl : Bool) (xs : List Ed) (o : List Int) (r : List Int) (many nx i u k last : Int) :
    (((fnPl V7 12).at V7 12 0).at V7 12 0).way V7 12 (mkSt 85 [(0, .s (eS nl xs)), (4, .s (.c ⟨.own 2368 none, .sl (.int .u8) false o⟩)), (5, vS (.int .u64 many)), (6, vS (.int .u64 nx)), (7, vS (.int .i64 i)), (8, vS (.int .u32 u)), (9, vS (.int .i64 k)), (10, .s (.c ⟨.own 1888 none, .sl (.int .u8) false r⟩)), (11, vS (.int .u64 last))] []) rec H L =
  br (decide (i < (↑xs.length : Int))) (
    br (inR i xs.length) (
      br ((nth eE xs i.toNat).fst == u) (
        br (inR i xs.length) (
          br (decide (IntKind.u64.wrap (nth eE xs i.toNat).snd ≤ last)) (
            H .ret (mkSt 85 [(2, .s (.c (⟨.own 64 none, AV.sl (CL.int IntKind.u8) true []⟩))), (3, vS (.int .i64 23))] [])) (
            br (!false && decide ([IntKind.u64.wrap (IntKind.u64.wrap (IntKind.u64.wrap (nth eE xs i.toNat).snd - last) - 1)].length ≤ 1000) && [IntKind.u64.wrap (IntKind.u64.wrap (IntKind.u64.wrap (nth eE xs i.toNat).snd - last) - 1)].all fun x => decide (x < 18446744073709551616)) (
              br (fits (r.length + (putVs [IntKind.u64.wrap (IntKind.u64.wrap (IntKind.u64.wrap (nth eE xs i.toNat).snd - last) - 1)]).length) (V7.P.bytesOf 5)) (
                H .normal (mkSt 85 [(0, .s (.c (⟨.ro, AV.sl ((CL.int IntKind.u32).cons (CL.int IntKind.u32)) nl xs⟩))), (4, .s (.c (⟨.own 2368 none, AV.sl (CL.int IntKind.u8) false o⟩))), (5, vS (.int .u64 many)), (6, vS (.int .u64 nx)), (7, vS (.int .i64 (IntKind.i64.wrap (i + 1)))), (8, vS (.int .u32 u)), (9, vS (.int .i64 k)), (10, .s (.c (⟨.own 1888 none, AV.sl (CL.int IntKind.u8) (false && isNilL (putVs [IntKind.u64.wrap (IntKind.u64.wrap (IntKind.u64.wrap (nth eE xs i.toNat).snd - last) - 1)])) (r ++ putVs [IntKind.u64.wrap (IntKind.u64.wrap (IntKind.u64.wrap (nth eE xs i.toNat).snd - last) - 1)])⟩))), (11, vS (.int .u64 (IntKind.u64.wrap (nth eE xs i.toNat).snd)))] [])) (
                none)) (
              none))) (
          none)) (
        H (.exit 2) (mkSt 85 [(0, .s (.c (⟨.ro, AV.sl ((CL.int IntKind.u32).cons (CL.int IntKind.u32)) nl xs⟩))), (4, .s (.c (⟨.own 2368 none, AV.sl (CL.int IntKind.u8) false o⟩))), (5, vS (.int .u64 many)), (6, vS (.int .u64 nx)), (7, vS (.int .i64 i)), (8, vS (.int .u32 u)), (9, vS (.int .i64 k)), (10, .s (.c (⟨.own 1888 none, AV.sl (CL.int IntKind.u8) false r⟩)))] []))) (
      none)) (
    H (.exit 2) (mkSt 85 [(0, .s (.c (⟨.ro, AV.sl ((CL.int IntKind.u32).cons (CL.int IntKind.u32)) nl xs⟩))), (4, .s (.c (⟨.own 2368 none, AV.sl (CL.int IntKind.u8) false o⟩))), (5, vS (.int .u64 many)), (6, vS (.int .u64 nx)), (7, vS (.int .i64 i)), (8, vS (.int .u32 u)), (9, vS (.int .i64 k)), (10, .s (.c (⟨.own 1888 none, AV.sl (CL.int IntKind.u8) false r⟩)))] [])) := by kernel_rfl
theorem puPast (rec : Rec) (H : K) (L : Nat → St → Option Res) (nl : Bool) (xs : List Ed) (o : List Int) (r : List Int) (many nx i u k : Int) :
    ((fnPl V7 12).at V7 12 0).past V7 12 0 (.exit 2) (mkSt 85 [(0, .s (eS nl xs)), (4, .s (.c ⟨.own 2368 none, .sl (.int .u8) false o⟩)), (5, vS (.int .u64 many)), (6, vS (.int .u64 nx)), (7, vS (.int .i64 i)), (8, vS (.int .u32 u)), (9, vS (.int .i64 k)), (10, .s (.c ⟨.own 1888 none, .sl (.int .u8) false r⟩))] []) rec H L =
  br (!false && decide ([IntKind.u64.wrap (IntKind.u64.wrap u - nx), IntKind.u64.wrap (IntKind.i64.wrap (i - k))].length ≤ 1000) && [IntKind.u64.wrap (IntKind.u64.wrap u - nx), IntKind.u64.wrap (IntKind.i64.wrap (i - k))].all fun x => decide (x < 18446744073709551616)) (
    br (fits (o.length + (putVs [IntKind.u64.wrap (IntKind.u64.wrap u - nx), IntKind.u64.wrap (IntKind.i64.wrap (i - k))]).length) (V7.P.bytesOf 5)) (
      br (fits ((o ++ putVs [IntKind.u64.wrap (IntKind.u64.wrap u - nx), IntKind.u64.wrap (IntKind.i64.wrap (i - k))]).length + r.length) (V7.P.bytesOf 5)) (
        H .normal (mkSt 85 [(0, .s (.c (⟨.ro, AV.sl ((CL.int IntKind.u32).cons (CL.int IntKind.u32)) nl xs⟩))), (4, .s (.c (⟨.own 2368 none, AV.sl (CL.int IntKind.u8) (false && isNilL (putVs [IntKind.u64.wrap (IntKind.u64.wrap u - nx), IntKind.u64.wrap (IntKind.i64.wrap (i - k))]) && isNilL r) (o ++ putVs [IntKind.u64.wrap (IntKind.u64.wrap u - nx), IntKind.u64.wrap (IntKind.i64.wrap (i - k))] ++ r)⟩))), (5, vS (.int .u64 (IntKind.u64.wrap (many + 1)))), (6, vS (.int .u64 (IntKind.u64.wrap (IntKind.u64.wrap u + 1)))), (7, vS (.int .i64 i))] [])) (
        none)) (
      none)) (
    none) := by kernel_rfl
theorem puOut (rec : Rec) (H : K) (L : Nat → St → Option Res) (o : List Int) (many : Int) :
    (fnPl V7 12).past V7 12 0 (.exit 0) (mkSt 85 [(4, .s (.c ⟨.own 2368 none, .sl (.int .u8) false o⟩)), (5, vS (.int .u64 many))] []) rec H L =
  br (!false && decide ([many].length ≤ 1000) && [many].all fun x => decide (x < 18446744073709551616)) (
    br (fits ((putVs [many]).length + o.length) (V7.P.bytesOf 5)) (
      H .ret (mkSt 85 [(2, .s (.c (⟨.own 64 none, AV.sl (CL.int IntKind.u8) (false && isNilL o) (putVs [many] ++ o)⟩))), (3, vS (.int .i64 0))] [])) (
      none)) (
    none) := by kernel_rfl
end Go.Proofs.Ythiaaaedfidnjaa.Aj

namespace Go.Proofs.Ythiaaaedfidnjaa.Aj
open Go Go.Proofs.Ythiaaaedfidnjaa.Am Go.RowKit
set_option linter.unusedVariables false
set_option linter.unusedSimpArgs false
set_option maxRecDepth 100000
/-! edges' bytes -/
theorem byte7 : V7.P.bytesOf 5 = 1 := by kernel_rfl
theorem putV_ne (v : Int) : ∃ y t, putV v = y :: t := by
  unfold putV putF
  cases decide (v ≥ 128) with
  | true => exact ⟨_, _, rfl⟩
  | false => exact ⟨_, _, rfl⟩
theorem putVs_ne (v : Int) (l : List Int) : ∃ y t, putVs (v :: l) = y :: t := by
  obtain ⟨y, t, h⟩ := putV_ne v
  exact ⟨y, t ++ putVs l, by show putV v ++ putVs l = _; rw [h]; rfl⟩
theorem putV_len (v : Int) : (putV v).length ≤ 10 := putF_len 9 v
theorem vok1 {x : Int} (h : x < 18446744073709551616) : (!false && decide ([x].length ≤ 1000) && [x].all fun x => decide (x < 18446744073709551616)) = true := by
  simp [h]
theorem vok2 {x y : Int} (h : x < 18446744073709551616) (h' : y < 18446744073709551616) : (!false && decide ([x, y].length ≤ 1000) && [x, y].all fun x => decide (x < 18446744073709551616)) = true := by
  simp [h, h']
theorem putVs1_len (x : Int) : (putVs [x]).length ≤ 10 := by
  have := putV_len x
  show (putV x ++ []).length ≤ _
  simp; omega
theorem putVs2_len (x y : Int) : (putVs [x, y]).length ≤ 20 := by
  have := putV_len x
  have := putV_len y
  show (putV x ++ (putV y ++ [])).length ≤ _
  simp; omega
def rC (k : Nat) (r : List Int) : C := match r with
  | [] => ⟨.ro, .nilv⟩
  | x :: l => ⟨.own k none, .sl (.int .u8) false (x :: l)⟩
def puIS (nl : Bool) (xs : List Ed) (o : List Int) (many nx : Int) (i : Nat) (u : Int) (k : Nat) (r : List Int) (last : Int) : St := mkSt 85 [(0, .s (eS nl xs)), (4, .s (.c (rC 2368 o))), (5, vS (.int .u64 many)), (6, vS (.int .u64 nx)), (7, vS (.int .i64 (i : Int))), (8, vS (.int .u32 u)), (9, vS (.int .i64 (k : Int))), (10, .s (.c (rC 1888 r))), (11, vS (.int .u64 last))] []
def puPS (nl : Bool) (xs : List Ed) (o : List Int) (many nx : Int) (i : Nat) (u : Int) (k : Nat) (r : List Int) : St := mkSt 85 [(0, .s (eS nl xs)), (4, .s (.c (rC 2368 o))), (5, vS (.int .u64 many)), (6, vS (.int .u64 nx)), (7, vS (.int .i64 (i : Int))), (8, vS (.int .u32 u)), (9, vS (.int .i64 (k : Int))), (10, .s (.c (rC 1888 r)))] []
def puTS (nl : Bool) (xs : List Ed) (o : List Int) (many nx : Int) (i : Nat) : St := mkSt 85 [(0, .s (eS nl xs)), (4, .s (.c (rC 2368 o))), (5, vS (.int .u64 many)), (6, vS (.int .u64 nx)), (7, vS (.int .i64 (i : Int)))] []
abbrev puErr : St := mkSt 85 [(2, .s (.c (⟨.own 64 none, .sl (.int .u8) true []⟩))), (3, vS (.int .i64 23))] []
noncomputable abbrev q12 : Pl := (fnPl V7 12).at V7 12 0
noncomputable abbrev q12i : Pl := q12.at V7 12 0
theorem puWay {nl : Bool} {xs : List Ed} {o : List Int} {many nx : Int} {i : Nat} {u : Int} {k : Nat} {r : List Int} {last : Int} (hx : xs.length ≤ 2000) (hi : i < xs.length) (hr : r.length ≤ 100000) :
    ∀ rec H L, q12i.way V7 12 (puIS nl xs o many nx i u k r last) rec H L =
      br ((nE xs i).1 == u) (br (decide (w64u (nE xs i).2 ≤ last)) (H .ret puErr) (H .normal (puIS nl xs o many nx (i + 1) u k (r ++ putVs [gap last (nE xs i)]) (w64u (nE xs i).2)))) (H (.exit 2) (puPS nl xs o many nx i u k r)) := fun rec H L => by
  have e1 : IntKind.i64.wrap ((i : Int) + 1) = ((i + 1 : Nat) : Int) := w64_id (by omega) (by omega)
  have hg : gap last (nE xs i) < 18446744073709551616 := w64u_lt _
  have hl := putVs1_len (gap last (nE xs i))
  have e2 : IntKind.u64.wrap (IntKind.u64.wrap (IntKind.u64.wrap (nth eE xs i).snd - last) - 1) = gap last (nE xs i) := rfl
  obtain ⟨y, t, ht⟩ := putVs_ne (gap last (nE xs i)) []
  cases o with
  | nil =>
    cases r with
    | nil =>
      refine (puIONRN rec H L nl xs many nx _ u _ last).trans ?_
      simp only [Int.toNat_natCast]
      rw [br_pos (decide_eq_true (by omega)), br_pos (inR_yes (by omega) (by omega)), br_pos (inR_yes (by omega) (by omega)), e1, e2, br_pos (vok1 hg), byte7, br_pos (fits_small (by omega) (by decide)), ht]
      rfl
    | cons a r =>
      refine (puIONR rec H L nl xs (a :: r) many nx _ u _ last).trans ?_
      simp only [Int.toNat_natCast]
      rw [br_pos (decide_eq_true (by omega)), br_pos (inR_yes (by omega) (by omega)), br_pos (inR_yes (by omega) (by omega)), e1, e2, br_pos (vok1 hg), byte7, br_pos (fits_small (by omega) (by decide)), ht]
      rfl
  | cons b o =>
    cases r with
    | nil =>
      refine (puIORN rec H L nl xs (b :: o) many nx _ u _ last).trans ?_
      simp only [Int.toNat_natCast]
      rw [br_pos (decide_eq_true (by omega)), br_pos (inR_yes (by omega) (by omega)), br_pos (inR_yes (by omega) (by omega)), e1, e2, br_pos (vok1 hg), byte7, br_pos (fits_small (by omega) (by decide)), ht]
      rfl
    | cons a r =>
      refine (puIOR rec H L nl xs (b :: o) (a :: r) many nx _ u _ last).trans ?_
      simp only [Int.toNat_natCast]
      rw [br_pos (decide_eq_true (by omega)), br_pos (inR_yes (by omega) (by omega)), br_pos (inR_yes (by omega) (by omega)), e1, e2, br_pos (vok1 hg), byte7, br_pos (fits_small (by omega) (by decide)), ht]
      rfl
theorem puEnd {nl : Bool} {xs : List Ed} {o : List Int} {many nx : Int} {i : Nat} {u : Int} {k : Nat} {r : List Int} {last : Int} (hi : ¬ i < xs.length) :
    ∀ rec H L, q12i.way V7 12 (puIS nl xs o many nx i u k r last) rec H L = H (.exit 2) (puPS nl xs o many nx i u k r) := fun rec H L => by
  have h : decide ((i : Int) < (xs.length : Int)) = false := decide_eq_false (by omega)
  cases o with
  | nil =>
    cases r with
    | nil => exact (puIONRN rec H L nl xs many nx _ u _ last).trans (br_neg h)
    | cons a r => exact (puIONR rec H L nl xs (a :: r) many nx _ u _ last).trans (br_neg h)
  | cons b o =>
    cases r with
    | nil => exact (puIORN rec H L nl xs (b :: o) many nx _ u _ last).trans (br_neg h)
    | cons a r => exact (puIOR rec H L nl xs (b :: o) (a :: r) many nx _ u _ last).trans (br_neg h)
/-- The inner loop: out of order, or a row. -/
theorem puLoopI {nl : Bool} {xs : List Ed} {o : List Int} {many nx : Int} {u : Int} {k : Nat} (hx : xs.length ≤ 2000) : ∀ (d i : Nat) (r : List Int) (last : Int) (c : Nat), i + d = xs.length → r.length ≤ 10 * c → i = k + c →
    (rowI u (xs.drop i) last r c = none ∧ Loops V7 12 q12 0 (puIS nl xs o many nx i u k r last) .ret puErr) ∨
    ∃ r' c', rowI u (xs.drop i) last r c = some (r', c', xs.drop (k + c')) ∧ c ≤ c' ∧ k + c' ≤ xs.length ∧ r'.length ≤ 10 * c' ∧ Loops V7 12 q12 0 (puIS nl xs o many nx i u k r last) (.exit 2) (puPS nl xs o many nx (k + c') u k r')
  | 0, i, r, last, c, h, hr, hk => by
    refine .inr ⟨r, c, ?_, Nat.le_refl _, by omega, hr, ?_⟩
    · rw [List.drop_of_length_le (by omega), List.drop_of_length_le (by omega)]
      rfl
    · rw [← hk]
      exact Loops.done (Goes.now (puEnd (by omega))) (by simp) (by kernel_rfl)
  | d + 1, i, r, last, c, h, hr, hk => by
    have hd := nthE_drop (xs := xs) (i := i) (by omega)
    have hw := puWay (nl := nl) (o := o) (many := many) (nx := nx) (u := u) (k := k) (r := r) (last := last) hx (i := i) (by omega) (by omega)
    rw [hd]
    unfold rowI
    cases h1 : ((nE xs i).1 == u) with
    | false =>
      refine .inr ⟨r, c, ?_, Nat.le_refl _, by omega, hr, ?_⟩
      · rw [← hk, hd]
        rfl
      · rw [← hk]
        exact Loops.done (Goes.now fun rec H L => (hw rec H L).trans (br_neg h1)) (by simp) (by kernel_rfl)
    | true =>
      cases h2 : decide (w64u (nE xs i).2 ≤ last) with
      | true => exact .inl ⟨rfl, Loops.done (Goes.now fun rec H L => (hw rec H L).trans ((br_pos h1).trans (br_pos h2))) (by simp) (by kernel_rfl)⟩
      | false =>
        have st : Goes V7 12 q12i (q12i.way V7 12 (puIS nl xs o many nx i u k r last)) .normal _ := Goes.now fun rec H L => (hw rec H L).trans ((br_pos h1).trans (br_neg h2))
        have hl := putVs1_len (gap last (nE xs i))
        rcases puLoopI (nl := nl) (o := o) (many := many) (nx := nx) (u := u) (k := k) hx d (i + 1) (r ++ putVs [gap last (nE xs i)]) (w64u (nE xs i).2) (c + 1) (by omega) (by rw [List.length_append]; omega) (by omega) with ⟨h3, h4⟩ | ⟨r', c', h3, h4, h5, h6, h7⟩
        · exact .inl ⟨h3, Loops.step st h4 (by kernel_rfl)⟩
        · exact .inr ⟨r', c', h3, by omega, h5, h6, Loops.step st h7 (by kernel_rfl)⟩
theorem puPastG {nl : Bool} {xs : List Ed} {o : List Int} {many nx : Int} {u : Int} {k c : Nat} {r : List Int} (hr0 : r ≠ []) (hr : r.length ≤ 100000) (ho : o.length ≤ 100000) (hk : k + c ≤ 2000) :
    Goes V7 12 q12 (q12.past V7 12 0 (.exit 2) (puPS nl xs o many nx (k + c) u k r)) .normal (puTS nl xs (o ++ putVs [w64u (w64u u - nx), w64u (c : Int)] ++ r) (w64u (many + 1)) (w64u (w64u u + 1)) (k + c)) := by
  refine Goes.now fun rec H L => ?_
  have e1 : IntKind.i64.wrap (((k + c : Nat) : Int) - (k : Int)) = (c : Int) := by rw [w64_id (by omega) (by omega)]; omega
  have hl := putVs2_len (IntKind.u64.wrap (IntKind.u64.wrap u - nx)) (IntKind.u64.wrap (c : Int))
  obtain ⟨y, t, ht⟩ := putVs_ne (IntKind.u64.wrap (IntKind.u64.wrap u - nx)) [IntKind.u64.wrap (c : Int)]
  show _ = H .normal (puTS nl xs (o ++ putVs [IntKind.u64.wrap (IntKind.u64.wrap u - nx), IntKind.u64.wrap (c : Int)] ++ r) (w64u (many + 1)) (w64u (w64u u + 1)) (k + c))
  cases r with
  | nil => exact absurd rfl hr0
  | cons a r =>
    cases o with
    | nil =>
      refine (puPastN rec H L nl xs (a :: r) many nx _ u _).trans ?_
      rw [e1, br_pos (vok2 (w64u_lt _) (w64u_lt _)), byte7, br_pos (fits_small (by omega) (by decide)), br_pos (fits_small (by omega) (by decide)), ht]
      rfl
    | cons b o =>
      refine (puPast rec H L nl xs (b :: o) (a :: r) many nx _ u _).trans ?_
      rw [e1, br_pos (vok2 (w64u_lt _) (w64u_lt _)), byte7, br_pos (fits_small (by omega) (by decide)), br_pos (fits_small (by rw [List.length_append]; omega) (by decide)), ht]
      rfl
theorem puRow {nl : Bool} {xs : List Ed} {o : List Int} {many nx : Int} {i : Nat} (hi : i < xs.length) :
    ∀ rec H L, q12.way V7 12 (puTS nl xs o many nx i) rec H L = L 0 (puIS nl xs o many nx i (nE xs i).1 i [] (w64u (nE xs i).1)) := fun rec H L => by
  cases o with
  | nil => exact (puRndN rec H L nl xs many nx _).trans ((br_pos (decide_eq_true (by omega))).trans (br_pos (inR_yes (by omega) (by omega))))
  | cons b o => exact (puRnd rec H L nl xs (b :: o) many nx _).trans ((br_pos (decide_eq_true (by omega))).trans (br_pos (inR_yes (by omega) (by omega))))
abbrev puES (o : List Int) (many : Int) : St := mkSt 85 [(4, .s (.c (rC 2368 o))), (5, vS (.int .u64 many))] []
theorem puRowEnd {nl : Bool} {xs : List Ed} {o : List Int} {many nx : Int} {i : Nat} (hi : ¬ i < xs.length) :
    ∀ rec H L, q12.way V7 12 (puTS nl xs o many nx i) rec H L = H (.exit 0) (puES o many) := fun rec H L => by
  have h : decide ((i : Int) < (xs.length : Int)) = false := decide_eq_false (by omega)
  cases o with
  | nil => exact (puRndN rec H L nl xs many nx _).trans (br_neg h)
  | cons b o => exact (puRnd rec H L nl xs (b :: o) many nx _).trans (br_neg h)
theorem rowI_one {u : Int} {e : Ed} {l : List Ed} {last : Int} {r : List Int} {c : Nat} {t : List Int × Nat × List Ed} (h : rowI u (e :: l) last r c = some t) (hu : e.1 = u) : ∃ a b, rowI u l a b (c + 1) = some t ∧ b ≠ [] := by
  unfold rowI at h
  rw [hu, show (u == u) = true from beq_self_eq_true u] at h
  cases h2 : decide (w64u e.2 ≤ last) with
  | true => rw [h2] at h; cases h
  | false =>
    rw [h2] at h
    refine ⟨_, _, h, ?_⟩
    obtain ⟨y, t, ht⟩ := putVs_ne (gap last e) []
    rw [ht]
    simp
theorem rowI_mono {u : Int} : ∀ {l : List Ed} {last : Int} {r : List Int} {c : Nat} {t : List Int × Nat × List Ed}, rowI u l last r c = some t → c ≤ t.2.1 ∧ (r ≠ [] → t.1 ≠ [])
  | [], last, r, c, t, h => by
    cases h
    exact ⟨Nat.le_refl _, id⟩
  | e :: l, last, r, c, t, h => by
    unfold rowI at h
    cases h1 : (e.1 == u) with
    | false => rw [h1] at h; cases h; exact ⟨Nat.le_refl _, id⟩
    | true =>
      rw [h1] at h
      cases h2 : decide (w64u e.2 ≤ last) with
      | true => rw [h2] at h; cases h
      | false =>
        rw [h2] at h
        obtain ⟨h3, h4⟩ := rowI_mono (l := l) h
        refine ⟨by omega, fun hr => h4 ?_⟩
        simp [hr]
theorem puLoopO {nl : Bool} {xs : List Ed} (hx : xs.length ≤ 2000) : ∀ (f i : Nat) (o : List Int) (many nx : Int), i ≤ xs.length → xs.length - i < f → o.length ≤ 30 * i → many < 18446744073709551616 →
    (putO f (xs.drop i) nx many o = none ∧ Loops V7 12 (fnPl V7 12) 0 (puTS nl xs o many nx i) .ret puErr) ∨
    ∃ m o', putO f (xs.drop i) nx many o = some (m, o') ∧ m < 18446744073709551616 ∧ o'.length ≤ 60000 ∧ Loops V7 12 (fnPl V7 12) 0 (puTS nl xs o many nx i) (.exit 0) (puES o' m)
  | 0, i, o, many, nx, hi, h, ho, hm => absurd h (by omega)
  | f + 1, i, o, many, nx, hi, h, ho, hm => by
    by_cases hl : i < xs.length
    · have hd := nthE_drop hl
      have hrow := puRow (nl := nl) (o := o) (many := many) (nx := nx) hl
      rw [hd]
      rcases puLoopI (nl := nl) (o := o) (many := many) (nx := nx) (u := (nE xs i).1) (k := i) hx (xs.length - i) i [] (w64u (nE xs i).1) 0 (by omega) (by simp) rfl with ⟨h3, h4⟩ | ⟨r', c', h3, h4, h5, h6, h7⟩
      · rw [hd] at h3
        refine .inl ⟨?_, Loops.done (Goes.of hrow (Goes.loop h4 Goes.here (by kernel_rfl) (by kernel_rfl) rfl)) (by simp) (by kernel_rfl)⟩
        unfold putO
        rw [h3]
      · rw [hd] at h3
        obtain ⟨a, b, hab, hb⟩ := rowI_one h3 rfl
        obtain ⟨hc, hr⟩ := rowI_mono hab
        have hc : 1 ≤ c' := by simpa using hc
        have hr : r' ≠ [] := hr hb
        have st := Goes.of hrow (Goes.loop h7 (puPastG hr (by omega) (by omega) (by omega)) (by kernel_rfl) (by kernel_rfl) rfl)
        have hp := putVs2_len (w64u (w64u (nE xs i).1 - nx)) (w64u (c' : Int))
        have e : putO (f + 1) (nE xs i :: xs.drop (i + 1)) nx many o = putO f (xs.drop (i + c')) (w64u (w64u (nE xs i).1 + 1)) (w64u (many + 1)) (o ++ putVs [w64u (w64u (nE xs i).1 - nx), w64u (c' : Int)] ++ r') := by
          show (match rowI (nE xs i).1 (nE xs i :: xs.drop (i + 1)) (w64u (nE xs i).1) [] 0 with | none => none | some (r, c, l') => _) = _
          rw [h3]
        rw [e]
        rcases puLoopO (nl := nl) hx f (i + c') (o ++ putVs [w64u (w64u (nE xs i).1 - nx), w64u (c' : Int)] ++ r') (w64u (many + 1)) (w64u (w64u (nE xs i).1 + 1)) h5 (by omega) (by rw [List.length_append, List.length_append]; omega) (w64u_lt _) with ⟨k1, k2⟩ | ⟨m, o', k1, k2, k3, k4⟩
        · exact .inl ⟨k1, Loops.step st k2 (by kernel_rfl)⟩
        · exact .inr ⟨m, o', k1, k2, k3, Loops.step st k4 (by kernel_rfl)⟩
    · rw [List.drop_of_length_le (by omega)]
      exact .inr ⟨many, o, rfl, hm, by omega, Loops.done (Goes.now (puRowEnd hl)) (by simp) (by kernel_rfl)⟩
theorem puOutG {o : List Int} {many : Int} (ho : o.length ≤ 60000) (hm : many < 18446744073709551616) : Goes V7 12 (fnPl V7 12) ((fnPl V7 12).past V7 12 0 (.exit 0) (puES o many)) .ret (mkSt 85 [(2, .s (.c ⟨.own 64 none, .sl (.int .u8) false (putVs [many] ++ o)⟩)), (3, vS (.int .i64 0))] []) := by
  refine Goes.now fun rec H L => ?_
  have hl := putVs1_len many
  cases o with
  | nil =>
    refine (puOutN rec H L many).trans ?_
    rw [br_pos (vok1 hm), byte7, br_pos (fits_small (by omega) (by decide))]
    rfl
  | cons b o =>
    refine (puOut rec H L (b :: o) many).trans ?_
    rw [br_pos (vok1 hm), byte7, br_pos (fits_small (by omega) (by decide))]
    rfl
theorem puK (args : List S1) (r : Res) (h : (putH args).den = some r) : ∃ n, call V7 n 12 args = some r := by
  unfold putH at h
  split at h
  · rename_i nl xs
    obtain ⟨hx, h⟩ := tree_yes h
    have hx := of_decide_eq_true hx
    obtain rfl := ok_some h
    have hi := fun rec H L => (puIn rec H L nl xs).trans (br_pos (decide_eq_true (by omega)))
    cases hs : risB xs with
    | false =>
      have e : putT xs = none := by unfold putT; rw [hs]; rfl
      have e2 : putR xs = .tup [.c ⟨.own 64 none, .sl (.int .u8) true []⟩, wS .i64 23] := by unfold putR putE putOk putB; rw [e]; rfl
      rw [e2]
      exact Goes.call (Goes.now fun rec H L => (hi rec H L).trans (br_pos (notF hs))) (by kernel_rfl) (by kernel_rfl)
    | true =>
      have hin : ∀ rec H L, fnWay V7 12 [eS nl xs] rec H L = L 0 (puTS nl xs [] 0 0 0) := fun rec H L => (hi rec H L).trans (br_neg (notT hs))
      rcases puLoopO (nl := nl) hx (xs.length + 1) 0 [] 0 0 (by omega) (by omega) (by simp) (by decide) with ⟨h1, h2⟩ | ⟨m, o', h1, h2, h3, h4⟩
      · have e : putT xs = none := by unfold putT; rw [hs]; rw [List.drop_zero] at h1; rw [h1]; rfl
        have e2 : putR xs = .tup [.c ⟨.own 64 none, .sl (.int .u8) true []⟩, wS .i64 23] := by unfold putR putE putOk putB; rw [e]; rfl
        rw [e2]
        exact Goes.call (Goes.of hin (Goes.loop h2 Goes.here (by kernel_rfl) (by kernel_rfl) rfl)) (by kernel_rfl) (by kernel_rfl)
      · have e : putT xs = some (putVs [m] ++ o') := by unfold putT; rw [hs]; rw [List.drop_zero] at h1; rw [h1]; rfl
        have e2 : putR xs = .tup [.c ⟨.own 64 none, .sl (.int .u8) false (putVs [m] ++ o')⟩, wS .i64 0] := by unfold putR putE putOk putB; rw [e]; rfl
        rw [e2]
        exact Goes.call (Goes.of hin (Goes.loop h4 (puOutG h3 h2) (by kernel_rfl) (by kernel_rfl) rfl)) (by kernel_rfl) (by kernel_rfl)
  · obtain rfl := ok_some h
    exact ⟨99, by kernel_rfl⟩
  · exact leaf_none h
theorem sok8 : SOK l8 := stubs_cons (x := (12, plain putH)) (known_plain (V := V7) mix (sok7 _ rfl rfl) puK) sok7
end Go.Proofs.Ythiaaaedfidnjaa.Aj

namespace Go.Proofs.Ythiaaaedfidnjaa.Aj
open Go Go.Proofs.Ythiaaaedfidnjaa.Am Go.RowKit
set_option linter.unusedVariables false
set_option linter.unusedSimpArgs false
set_option maxRecDepth 100000
noncomputable def V9 : Env := V l9
theorem readIn (rec : Rec) (H : K) (L : Nat → St → Option Res) (nl : Bool) (b : List Int) (n : Int) :
    fnWay V8 14 [bS nl b, wS .u64 n] rec H L =
  br (decide (b.length ≤ 3000)) (
    br (isNilL (edT n b true).fst) (
      br (!!(edT n b true).snd.snd) (
        br (!(baOf (!putOk [], putB []).snd).toList == (baOf b).toList) (
          H .ret (mkSt 37 [(4, .s (.c (⟨.own 128 none, AV.sl ((CL.int IntKind.u32).cons (CL.int IntKind.u32)) true []⟩))), (5, vS (.int .i64 21))] [])) (
          H .ret (mkSt 37 [(4, .s (.c (⟨.own 128 none, AV.sl ((CL.int IntKind.u32).cons (CL.int IntKind.u32)) true []⟩))), (5, vS (.int .i64 0))] []))) (
        H .ret (mkSt 37 [(4, .s (.c (⟨.own 128 none, AV.sl ((CL.int IntKind.u32).cons (CL.int IntKind.u32)) true []⟩))), (5, vS (.int .i64 21))] []))) (
      br (decide ((edT n b true).fst.length ≤ 2000)) (
        br (!!(edT n b true).snd.snd) (
          br (!putE (edT n b true).fst != 0) (
            br (!(baOf (!putOk (edT n b true).fst, putB (edT n b true).fst).snd).toList == (baOf b).toList) (
              H .ret (mkSt 37 [(4, .s (.c (⟨.own 128 none, AV.sl ((CL.int IntKind.u32).cons (CL.int IntKind.u32)) true []⟩))), (5, vS (.int .i64 21))] [])) (
              H .ret (mkSt 37 [(4, .s (.c (⟨.own 128 none, AV.sl ((CL.int IntKind.u32).cons (CL.int IntKind.u32)) false (edT n b true).fst⟩))), (5, vS (.int .i64 0))] []))) (
            H .ret (mkSt 37 [(4, .s (.c (⟨.own 128 none, AV.sl ((CL.int IntKind.u32).cons (CL.int IntKind.u32)) true []⟩))), (5, vS (.int .i64 21))] []))) (
          H .ret (mkSt 37 [(4, .s (.c (⟨.own 128 none, AV.sl ((CL.int IntKind.u32).cons (CL.int IntKind.u32)) true []⟩))), (5, vS (.int .i64 21))] []))) (
        none))) (
    none) := by kernel_rfl
theorem sameIn (rec : Rec) (H : K) (L : Nat → St → Option Res) (nl ml : Bool) (xs ys : List Ed) :
    fnWay V8 16 [eS nl xs, eS ml ys] rec H L =
  br ((↑xs.length : Int) != (↑ys.length : Int)) (
    H .ret (mkSt 26 [(4, vS (.bool false))] [])) (
    L 0 (mkSt 26 [(0, .s (.c (⟨.ro, AV.sl ((CL.int IntKind.u32).cons (CL.int IntKind.u32)) nl xs⟩))), (1, .s (.c (⟨.ro, AV.sl ((CL.int IntKind.u32).cons (CL.int IntKind.u32)) ml ys⟩))), (5, vS (.int .i64 0))] [])) := by kernel_rfl
theorem sameInN (rec : Rec) (H : K) (L : Nat → St → Option Res) (ml : Bool) (ys : List Ed) :
    fnWay V8 16 [.c ⟨.ro, .nilv⟩, eS ml ys] rec H L =
  br (0 != (↑ys.length : Int)) (
    H .ret (mkSt 26 [(4, vS (.bool false))] [])) (
    L 0 (mkSt 26 [(0, .s (.c (⟨.ro, AV.nilv⟩))), (1, .s (.c (⟨.ro, AV.sl ((CL.int IntKind.u32).cons (CL.int IntKind.u32)) ml ys⟩))), (5, vS (.int .i64 0))] [])) := by kernel_rfl
theorem sameInM (rec : Rec) (H : K) (L : Nat → St → Option Res) (nl : Bool) (xs : List Ed) :
    fnWay V8 16 [eS nl xs, .c ⟨.ro, .nilv⟩] rec H L =
  br ((↑xs.length : Int) != 0) (
    H .ret (mkSt 26 [(4, vS (.bool false))] [])) (
    L 0 (mkSt 26 [(0, .s (.c (⟨.ro, AV.sl ((CL.int IntKind.u32).cons (CL.int IntKind.u32)) nl xs⟩))), (1, .s (.c (⟨.ro, AV.nilv⟩))), (5, vS (.int .i64 0))] [])) := by kernel_rfl
theorem sameRnd (rec : Rec) (H : K) (L : Nat → St → Option Res) (nl ml : Bool) (xs ys : List Ed) (i : Int) :
    ((fnPl V8 16).at V8 16 0).way V8 16 (mkSt 26 [(0, .s (eS nl xs)), (1, .s (eS ml ys)), (5, vS (.int .i64 i))] []) rec H L =
  br (decide (i < (↑xs.length : Int))) (
    br (inR i xs.length) (
      br (inR i ys.length) (
        br (!((nth eE xs i.toNat).fst == (nth eE ys i.toNat).fst && ((nth eE xs i.toNat).snd == (nth eE ys i.toNat).snd && true))) (
          H .ret (mkSt 26 [(4, vS (.bool false))] [])) (
          H .normal (mkSt 26 [(0, .s (.c (⟨.ro, AV.sl ((CL.int IntKind.u32).cons (CL.int IntKind.u32)) nl xs⟩))), (1, .s (.c (⟨.ro, AV.sl ((CL.int IntKind.u32).cons (CL.int IntKind.u32)) ml ys⟩))), (5, vS (.int .i64 (IntKind.i64.wrap (i + 1))))] []))) (
        none)) (
      none)) (
    H (.exit 0) (mkSt 26 [] [])) := by kernel_rfl
theorem sameRndN (rec : Rec) (H : K) (L : Nat → St → Option Res) (ml : Bool) (ys : List Ed) (i : Int) :
    ((fnPl V8 16).at V8 16 0).way V8 16 (mkSt 26 [(0, .s (.c ⟨.ro, .nilv⟩)), (1, .s (eS ml ys)), (5, vS (.int .i64 i))] []) rec H L =
  br (decide (i < 0)) (
    none) (
    H (.exit 0) (mkSt 26 [] [])) := by kernel_rfl
theorem sameRndM (rec : Rec) (H : K) (L : Nat → St → Option Res) (nl : Bool) (xs : List Ed) (i : Int) :
    ((fnPl V8 16).at V8 16 0).way V8 16 (mkSt 26 [(0, .s (eS nl xs)), (1, .s (.c ⟨.ro, .nilv⟩)), (5, vS (.int .i64 i))] []) rec H L =
  br (decide (i < (↑xs.length : Int))) (
    br (inR i xs.length) (
      none) (
      none)) (
    H (.exit 0) (mkSt 26 [] [])) := by kernel_rfl
theorem sameOut (rec : Rec) (H : K) (L : Nat → St → Option Res) (z : Int) :
    (fnPl V8 16).past V8 16 0 (.exit 0) (mkSt 26 [] []) rec H L =
  H .ret (mkSt 26 [(4, vS (.bool true))] []) := by kernel_rfl
end Go.Proofs.Ythiaaaedfidnjaa.Aj

namespace Go.Proofs.Ythiaaaedfidnjaa.Aj
open Go Go.Proofs.Ythiaaaedfidnjaa.Am Go.RowKit
set_option linter.unusedVariables false
set_option linter.unusedSimpArgs false
set_option maxRecDepth 100000
/-! edges out of bytes; the same edges -/
theorem readK (args : List S1) (r : Res) (h : (readH args).den = some r) : ∃ n, call V8 n 14 args = some r := by
  unfold readH at h
  split at h
  · rename_i nl b n
    obtain ⟨h1, h⟩ := tree_yes h
    obtain ⟨h2, h⟩ := tree_yes h
    obtain rfl := ok_some h
    have hin := fun rec H L => (readIn rec H L nl b n).trans (br_pos h1)
    unfold readR readE readL readOk
    generalize edT n b true = t at hin h2 ⊢
    obtain ⟨out, b', o⟩ := t
    change decide (out.length ≤ 2000) = true at h2
    have hp : (!putE out != 0) = putOk out := by unfold putE; cases putOk out <;> rfl
    change ∃ m, call V8 m 14 [bS nl b, wS .u64 n] = some (.tup [.c ⟨.own 128 none, .sl eE (isNilL (bif (o && (putOk out && (baOf (putB out)).toList == (baOf b).toList)) then out else [])) (bif (o && (putOk out && (baOf (putB out)).toList == (baOf b).toList)) then out else [])⟩, wS .i64 (bif (o && (putOk out && (baOf (putB out)).toList == (baOf b).toList)) then 0 else 21)], [])
    cases out with
    | nil =>
      have hin2 := fun rec H L => (hin rec H L).trans (br_pos rfl)
      have e : putOk [] = true := by kernel_rfl
      rw [e]
      cases o with
      | false => exact Goes.call (Goes.now fun rec H L => (hin2 rec H L).trans (br_neg rfl)) (by kernel_rfl) (by kernel_rfl)
      | true =>
        cases h3 : (baOf (putB [])).toList == (baOf b).toList with
        | true => exact Goes.call (Goes.now fun rec H L => (hin2 rec H L).trans ((br_pos rfl).trans (br_neg (notT h3)))) (by kernel_rfl) (by kernel_rfl)
        | false => exact Goes.call (Goes.now fun rec H L => (hin2 rec H L).trans ((br_pos rfl).trans (br_pos (notF h3)))) (by kernel_rfl) (by kernel_rfl)
    | cons x l =>
      have hin2 := fun rec H L => (hin rec H L).trans ((br_neg rfl).trans (br_pos h2))
      cases o with
      | false => exact Goes.call (Goes.now fun rec H L => (hin2 rec H L).trans (br_neg rfl)) (by kernel_rfl) (by kernel_rfl)
      | true =>
        cases e : putOk (x :: l) with
        | false => exact Goes.call (Goes.now fun rec H L => (hin2 rec H L).trans ((br_pos rfl).trans (br_neg (hp.trans e)))) (by kernel_rfl) (by kernel_rfl)
        | true =>
          cases h3 : (baOf (putB (x :: l))).toList == (baOf b).toList with
          | true => exact Goes.call (Goes.now fun rec H L => (hin2 rec H L).trans ((br_pos rfl).trans ((br_pos (hp.trans e)).trans (br_neg (notT h3))))) (by kernel_rfl) (by kernel_rfl)
          | false => exact Goes.call (Goes.now fun rec H L => (hin2 rec H L).trans ((br_pos rfl).trans ((br_pos (hp.trans e)).trans (br_pos (notF h3))))) (by kernel_rfl) (by kernel_rfl)
  · exact leaf_none h
theorem sameE_len : ∀ {xs ys : List Ed}, xs.length ≠ ys.length → sameE xs ys = false
  | [], [], h => absurd rfl h
  | [], _ :: _, _ => rfl
  | _ :: _, [], _ => rfl
  | a :: l, b :: r, h => by
    show ((a.1 == b.1 && (a.2 == b.2 && true)) && sameE l r) = false
    rw [sameE_len (xs := l) (ys := r) (by simpa using h)]
    simp
def saSt (nl ml : Bool) (xs ys : List Ed) (i : Nat) : St := mkSt 26 [(0, .s (eS nl xs)), (1, .s (eS ml ys)), (5, vS (.int .i64 (i : Int)))] []
theorem saLoop {nl ml : Bool} {xs ys : List Ed} (hx : xs.length ≤ 1000000) (hy : xs.length = ys.length) : ∀ d i, i + d = xs.length →
    (sameE (xs.drop i) (ys.drop i) = false ∧ Loops V8 16 (fnPl V8 16) 0 (saSt nl ml xs ys i) .ret (mkSt 26 [(4, vS (.bool false))] [])) ∨
    (sameE (xs.drop i) (ys.drop i) = true ∧ Loops V8 16 (fnPl V8 16) 0 (saSt nl ml xs ys i) (.exit 0) (mkSt 26 [] []))
  | 0, i, h => by
    rw [List.drop_of_length_le (by omega), List.drop_of_length_le (by omega)]
    exact .inr ⟨rfl, Loops.done (Goes.now fun rec H L => (sameRnd rec H L nl ml xs ys _).trans (br_neg (decide_eq_false (by omega)))) (by simp) (by kernel_rfl)⟩
  | d + 1, i, h => by
    rw [nthE_drop (xs := xs) (i := i) (by omega), nthE_drop (xs := ys) (i := i) (by omega)]
    have e1 : IntKind.i64.wrap ((i : Int) + 1) = ((i + 1 : Nat) : Int) := w64_id (by omega) (by omega)
    have hin : ∀ rec H L, ((fnPl V8 16).at V8 16 0).way V8 16 (saSt nl ml xs ys i) rec H L = br (!((nE xs i).fst == (nE ys i).fst && ((nE xs i).snd == (nE ys i).snd && true))) (H .ret (mkSt 26 [(4, vS (.bool false))] [])) (H .normal (saSt nl ml xs ys (i + 1))) := fun rec H L => by
      refine (sameRnd rec H L nl ml xs ys _).trans ?_
      rw [br_pos (decide_eq_true (by omega)), br_pos (inR_yes (by omega) (by omega)), br_pos (inR_yes (by omega) (by omega)), e1]
      rfl
    show (((nE xs i).1 == (nE ys i).1 && ((nE xs i).2 == (nE ys i).2 && true)) && sameE (xs.drop (i + 1)) (ys.drop (i + 1))) = false ∧ _ ∨ (((nE xs i).1 == (nE ys i).1 && ((nE xs i).2 == (nE ys i).2 && true)) && sameE (xs.drop (i + 1)) (ys.drop (i + 1))) = true ∧ _
    cases hc : ((nE xs i).fst == (nE ys i).fst && ((nE xs i).snd == (nE ys i).snd && true)) with
    | false => exact .inl ⟨rfl, Loops.done (Goes.now fun rec H L => (hin rec H L).trans (br_pos (notF hc))) (by simp) (by kernel_rfl)⟩
    | true =>
      have st : Goes V8 16 ((fnPl V8 16).at V8 16 0) (((fnPl V8 16).at V8 16 0).way V8 16 (saSt nl ml xs ys i)) .normal _ := Goes.now fun rec H L => (hin rec H L).trans (br_neg (notT hc))
      rcases saLoop (nl := nl) (ml := ml) hx hy d (i + 1) (by omega) with ⟨h1, h2⟩ | ⟨h1, h2⟩
      · exact .inl ⟨h1, Loops.step st h2 (by kernel_rfl)⟩
      · exact .inr ⟨h1, Loops.step st h2 (by kernel_rfl)⟩
theorem sameK (args : List S1) (r : Res) (h : (sameH args).den = some r) : ∃ n, call V8 n 16 args = some r := by
  unfold sameH at h
  split at h
  · rename_i nl xs ml ys
    obtain ⟨hx, h⟩ := tree_yes h
    obtain rfl := ok_some h
    by_cases hl : xs.length = ys.length
    · have hin : ∀ rec H L, fnWay V8 16 [eS nl xs, eS ml ys] rec H L = L 0 (saSt nl ml xs ys 0) := fun rec H L => (sameIn rec H L nl ml xs ys).trans (br_neg (by rw [hl]; simp))
      rcases saLoop (nl := nl) (ml := ml) (of_decide_eq_true hx) hl xs.length 0 (by omega) with ⟨h1, h2⟩ | ⟨h1, h2⟩
      · rw [List.drop_zero, List.drop_zero] at h1
        rw [h1]
        exact Goes.call (Goes.of hin (Goes.loop h2 Goes.here (by kernel_rfl) (by kernel_rfl) rfl)) (by kernel_rfl) (by kernel_rfl)
      · rw [List.drop_zero, List.drop_zero] at h1
        rw [h1]
        exact Goes.call (Goes.of hin (Goes.loop h2 (Goes.now (sameOut · · · 0)) (by kernel_rfl) (by kernel_rfl) rfl)) (by kernel_rfl) (by kernel_rfl)
    · rw [sameE_len hl]
      exact Goes.call (Goes.now fun rec H L => (sameIn rec H L nl ml xs ys).trans (br_pos (by simp; omega))) (by kernel_rfl) (by kernel_rfl)
  · rename_i ml ys
    obtain rfl := ok_some h
    cases ys with
    | cons y l => exact Goes.call (Goes.now fun rec H L => (sameInN rec H L ml (y :: l)).trans (br_pos (by simp; omega))) (by kernel_rfl) (by kernel_rfl)
    | nil => exact Goes.call (Goes.of (fun rec H L => (sameInN rec H L ml []).trans (br_neg rfl)) (Goes.loop (Loops.done (Goes.now fun rec H L => (sameRndN rec H L ml [] 0).trans (br_neg rfl)) (by simp) (by kernel_rfl)) (Goes.now (sameOut · · · 0)) (by kernel_rfl) (by kernel_rfl) rfl)) (by kernel_rfl) (by kernel_rfl)
  · rename_i nl xs
    obtain rfl := ok_some h
    cases xs with
    | cons y l => exact Goes.call (Goes.now fun rec H L => (sameInM rec H L nl (y :: l)).trans (br_pos (by simp; omega))) (by kernel_rfl) (by kernel_rfl)
    | nil => exact Goes.call (Goes.of (fun rec H L => (sameInM rec H L nl []).trans (br_neg rfl)) (Goes.loop (Loops.done (Goes.now fun rec H L => (sameRndM rec H L nl [] 0).trans (br_neg rfl)) (by simp) (by kernel_rfl)) (Goes.now (sameOut · · · 0)) (by kernel_rfl) (by kernel_rfl) rfl)) (by kernel_rfl) (by kernel_rfl)
  · obtain rfl := ok_some h
    exact ⟨99, by kernel_rfl⟩
  · exact leaf_none h
theorem sok9 : SOK l9 := stubs_cons (x := (14, plain readH)) (known_plain (V := V8) mix (sok8 _ rfl rfl) readK) (stubs_cons (x := (16, plain sameH)) (known_plain (V := V8) mix (sok8 _ rfl rfl) sameK) sok8)
end Go.Proofs.Ythiaaaedfidnjaa.Aj

namespace Go.Proofs.Ythiaaaedfidnjaa.Aj
open Go Go.Proofs.Ythiaaaedfidnjaa.Am Go.RowKit
set_option linter.unusedVariables false
set_option linter.unusedSimpArgs false
set_option maxRecDepth 100000
/-! the gap that is known -/
def knownH : List S1 → Tree
  | [] => ok (vS (.bool true))
  | _ => no
def l10 : Stubs := (7, plain knownH) :: l9
theorem knownK (args : List S1) (r : Res) (h : (knownH args).den = some r) : ∃ n, call V9 n 7 args = some r := by
  unfold knownH at h
  split at h
  · obtain rfl := ok_some h
    exact ⟨99, by kernel_rfl⟩
  · exact leaf_none h
theorem sok10 : SOK l10 := stubs_cons (x := (7, plain knownH)) (known_plain (V := V9) mix (sok9 _ rfl rfl) knownK) sok9
noncomputable def V10 : Env := V l10
end Go.Proofs.Ythiaaaedfidnjaa.Aj
