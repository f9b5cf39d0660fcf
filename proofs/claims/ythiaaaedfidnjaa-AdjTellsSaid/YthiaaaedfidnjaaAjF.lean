/- What the functions come to, by the evaluator. Conditions: none; checked here. -/
import Derived.Test.YthiaaaedfidnjaaAjA
import Derived.Test.YthiaaaedfidnjaaAjC
import Derived.ProofKit
import Derived.Test.YthiaaaedfidnjaaAjD
import Derived.Test.YthiaaaedfidnjaaAjE
set_option linter.unusedVariables false
set_option linter.unusedSimpArgs false

namespace Go.Proofs.Ythiaaaedfidnjaa.Aj
open Go Go.Proofs.Ythiaaaedfidnjaa.Am
/-! the reference's numbers, edges' bytes -/
abbrev uS (nl : Bool) (xs : List Int) : S1 := .c ⟨.ro, .sl (.int .u64) nl xs⟩
def inU (xs : List Int) : Bool := xs.all fun x => decide (0 ≤ x) && decide (x < 18446744073709551616)
def rpH : List S1 → Tree
  | [.c ⟨.ro, .sl (.int .u64) _ xs⟩] => .br (decide (xs.length ≤ 1000) && inU xs) (ok (.s (.c ⟨.own 64 none, .sl (.int .u8) (isNilL (putVs xs)) (putVs xs)⟩))) no
  | _ => no
def nearR (f g : Int) : Option Int := bif decide (g > 4294967296) || decide (f + g + 1 ≥ 4294967296) then none else some (f + g + 1)
def nearV (f g : Int) : Int := (nearR f g).getD 0
def nearO (f g : Int) : Bool := (nearR f g).isSome
def nearH : List S1 → Tree
  | [.c ⟨.ro, .v (.int .i64 f)⟩, .c ⟨.ro, .v (.int .u64 g)⟩] => .br (decide (-1 ≤ f) && (decide (f ≤ 4294967296) && decide (0 ≤ g))) (ok (.tup [wS .i64 (nearV f g), .c (vC (.bool (nearO f g)))])) no
  | _ => no
def l17 : Stubs := (25, plain rpH) :: (38, plain takeH) :: (31, plain nearH) :: l12
/-! edges' bytes, of the reference -/
def badE (p : Option Ed) (e : Ed) : Bool := decide (e.1 ≥ e.2) || (match p with | none => false | some q => !lessR q e)
def sameU (p : Option Ed) (e : Ed) : Bool := match p with | none => false | some q => q.1 == e.1
def prevV (p : Option Ed) : Int := match p with | none => 0 | some q => q.2
def lastU (p : Option Ed) : Int := match p with | none => -1 | some q => q.1
def cntU (u : Int) : List Ed → Nat
  | [] => 0
  | x :: r => bif x.1 == u then cntU u r + 1 else 0
def apL : Option Ed → List Ed → List Int → Int → Option (Int × List Int)
  | _, [], o, us => some (us, o)
  | p, e :: r, o, us => bif badE p e then none else bif sameU p e then apL (some e) r (o ++ putVs [e.2 - prevV p - 1]) us else
      apL (some e) r (o ++ putVs [e.1 - lastU p - 1, (cntU e.1 (e :: r) : Nat), e.2 - e.1 - 1]) (us + 1)
def apT (l : List Ed) : Option (List Int) := match apL none l [] 0 with
  | none => none
  | some (us, o) => some (putVs [us] ++ o)
def edB (e : Ed) : Bool := decide (0 ≤ e.1) && (decide (e.1 < 4294967296) && (decide (0 ≤ e.2) && decide (e.2 < 4294967296)))
def apE (l : List Ed) : Int := bif (apT l).isSome then 0 else 23
def apH : List S1 → Tree
  | [.c ⟨.ro, .sl (.cons (.int .u32) (.int .u32)) _ xs⟩] => .br (decide (xs.length ≤ 2000) && xs.all edB) (ok (.tup [.c ⟨.own 64 none, .sl (.int .u8) (!(apT xs).isSome) ((apT xs).getD [])⟩, wS .i64 (apE xs)])) no
  | _ => no
/-! all numbers of some bytes -/
def nbF : Nat → List Int → List Int → Option (List Int)
  | 0, _, o => some o
  | f + 1, b, o => bif isNilL b then some o else bif (takeT 9223372036854775807 b).2.2 != 0 then none else nbF f (b.drop (takeT 9223372036854775807 b).2.1.toNat) (o ++ [(takeT 9223372036854775807 b).1])
def nbT (b : List Int) : Option (List Int) := nbF (b.length + 1) b []
def nbH : List S1 → Tree
  | [.c ⟨.ro, .sl (.int .u8) _ b⟩] => .br (decide (b.length ≤ 100000)) (ok (.tup [uS (isNilL ((nbT b).getD [])) ((nbT b).getD []), .c (vC (.bool (nbT b).isSome))])) no
  | _ => no
def l18 : Stubs := (11, co [cE] (plain apH)) :: (30, co [[some (.int .u8)]] (plain nbH)) :: l17
end Go.Proofs.Ythiaaaedfidnjaa.Aj

namespace Go.Proofs.Ythiaaaedfidnjaa.Aj
open Go Go.Proofs.Ythiaaaedfidnjaa.Am
/-! edges out of bytes, of the reference; changed bytes -/
def rdIL (n u c : Int) : Int → Int → List Int → List Ed → Option (List Int × List Ed)
  | k, _, [], o => bif decide (k < c) then none else some ([], o)
  | k, w, x :: r, o => bif decide (k < c) then (bif !nearO w x || decide (w64u (nearV w x) ≥ n) then none else rdIL n u c (k + 1) (nearV w x) r (o ++ [(w32 u, w32 (nearV w x))])) else some (x :: r, o)
def rdOL (n : Int) : Nat → Int → List Int → List Ed → Option (List Ed)
  | 0, _, _, _ => none
  | _ + 1, _, [], o => some o
  | f + 1, u, x :: r, o => bif !nearO u x then none else match r with
    | [] => none
    | c :: r' => match rdIL n (nearV u x) c 0 (nearV u x) r' o with
      | none => none
      | some (l', o') => rdOL n f (nearV u x) l' o'
def rdT (n : Int) (b : List Int) : Option (List Ed) := match nbT b with
  | none => none
  | some [] => none
  | some (_ :: r) => match rdOL n (r.length + 1) (-1) r [] with
    | none => none
    | some l => match apT l with
      | none => none
      | some b' => bif (baOf b').toList == (baOf b).toList then some l else none
def rdL (n : Int) (b : List Int) : List Ed := (rdT n b).getD []
def rdE (n : Int) (b : List Int) : Int := bif (rdT n b).isSome then 0 else 21
def rdH : List S1 → Tree
  | [.c ⟨.ro, .sl (.int .u8) _ b⟩, .c ⟨.ro, .v (.int .u64 n)⟩] => .br (decide (b.length ≤ 2000)) (ok (.tup [eS (isNilL (rdL n b)) (rdL n b), wS .i64 (rdE n b)])) no
  | _ => no
def chgR (b : List Int) (how at' x : Int) (m : List Int) : List Int :=
  bif isNilL b then m else
  bif how % 5 == 0 || how % 5 == 1 then b.set (at' % b.length).toNat x else
  bif how % 5 == 2 then b.take (at' % b.length).toNat ++ m ++ b.drop (at' % b.length).toNat else
  bif how % 5 == 3 then b.take (at' % b.length).toNat else b.take (at' % b.length).toNat ++ b.drop ((at' % b.length).toNat + 1)
def chgN (b : List Int) (how at' x : Int) (m : List Int) : Bool := bif !isNilL b && how % 5 == 3 then false else isNilL (chgR b how at' x m)
def chgH : List S1 → Tree
  | [.c ⟨.ro, .sl (.int .u8) _ b⟩, .c ⟨.ro, .v (.int .u8 how)⟩, .c ⟨.ro, .v (.int .u16 at')⟩, .c ⟨.ro, .v (.int .u8 x)⟩, .c ⟨.ro, .sl (.int .u8) _ m⟩] =>
    .br (decide (b.length ≤ 100000) && (decide (m.length ≤ 100000) && (decide (0 ≤ how) && (decide (0 ≤ at') && decide (at' < 65536))))) (ok (.s (.c ⟨.ro, .sl (.int .u8) (chgN b how at' x m) (chgR b how at' x m)⟩))) no
  | _ => no
abbrev cB : List (Option CL) := [some (.int .u8)]
def l19 : Stubs := (15, co [cB] (plain rdH)) :: (13, co [cB, [], [], [], cB] (plain chgH)) :: l18
end Go.Proofs.Ythiaaaedfidnjaa.Aj

namespace Go.Proofs.Ythiaaaedfidnjaa.Aj
open Go Go.Proofs.Ythiaaaedfidnjaa.Am Go.RowKit
set_option linter.unusedVariables false
set_option linter.unusedSimpArgs false
set_option maxRecDepth 100000
theorem rpIn (rec : Rec) (H : K) (L : Nat → St → Option Res) (nl : Bool) (xs : List Int) :
    fnWay V0 25 [.c ⟨.ro, .sl (.int .u64) nl xs⟩] rec H L =
  L 0 (mkSt 33 [(0, .s (.c (⟨.ro, AV.sl (CL.int IntKind.u64) nl xs⟩))), (3, .s (.c (⟨.own 96 none, AV.sl (CL.int IntKind.u8) true []⟩))), (4, vS (.int .i64 0))] []) := by kernel_rfl
theorem rpRnd (rec : Rec) (H : K) (L : Nat → St → Option Res) (nl : Bool) (xs : List Int) (ol : Bool) (o : List Int) (i : Int) :
    ((fnPl V0 25).at V0 25 0).way V0 25 (mkSt 33 [(0, .s (.c ⟨.ro, .sl (.int .u64) nl xs⟩)), (3, .s (.c ⟨.own 96 none, .sl (.int .u8) ol o⟩)), (4, vS (.int .i64 i))] []) rec H L =
  br (decide (i < (↑xs.length : Int))) (
    br (inR i xs.length) (
      L 0 (mkSt 33 [(0, .s (.c (⟨.ro, AV.sl (CL.int IntKind.u64) nl xs⟩))), (3, .s (.c (⟨.own 96 none, AV.sl (CL.int IntKind.u8) ol o⟩))), (4, vS (.int .i64 i)), (5, vS (.int .u64 (nth (CL.int IntKind.u64) xs i.toNat)))] [])) (
      none)) (
    H (.exit 0) (mkSt 33 [(3, .s (.c (⟨.own 96 none, AV.sl (CL.int IntKind.u8) ol o⟩)))] [])) := by kernel_rfl
theorem rpI (rec : Rec) (H : K) (L : Nat → St → Option Res) (nl : Bool) (xs : List Int) (ol : Bool) (o : List Int) (i v : Int) :
    (((fnPl V0 25).at V0 25 0).at V0 25 0).way V0 25 (mkSt 33 [(0, .s (.c ⟨.ro, .sl (.int .u64) nl xs⟩)), (3, .s (.c ⟨.own 96 none, .sl (.int .u8) ol o⟩)), (4, vS (.int .i64 i)), (5, vS (.int .u64 v))] []) rec H L =
  br (decide (v ≥ 128)) (
    br (fits (o.length + [IntKind.u8.wrap (↑(BitVec.ofInt IntKind.u8.bits (IntKind.u8.wrap (IntKind.u64.wrap (↑(BitVec.ofInt IntKind.u64.bits v &&& BitVec.ofInt IntKind.u64.bits 127).toNat : Int))) ||| BitVec.ofInt IntKind.u8.bits 128).toNat : Int)].length) (V0.P.bytesOf 5)) (
      H .normal (mkSt 33 [(0, .s (.c (⟨.ro, AV.sl (CL.int IntKind.u64) nl xs⟩))), (3, .s (.c (⟨.own 96 none, AV.sl (CL.int IntKind.u8) (ol && isNilL [IntKind.u8.wrap (↑(BitVec.ofInt IntKind.u8.bits (IntKind.u8.wrap (IntKind.u64.wrap (↑(BitVec.ofInt IntKind.u64.bits v &&& BitVec.ofInt IntKind.u64.bits 127).toNat : Int))) ||| BitVec.ofInt IntKind.u8.bits 128).toNat : Int)]) (o ++ [IntKind.u8.wrap (↑(BitVec.ofInt IntKind.u8.bits (IntKind.u8.wrap (IntKind.u64.wrap (↑(BitVec.ofInt IntKind.u64.bits v &&& BitVec.ofInt IntKind.u64.bits 127).toNat : Int))) ||| BitVec.ofInt IntKind.u8.bits 128).toNat : Int)])⟩))), (4, vS (.int .i64 i)), (5, vS (.int .u64 (v.fdiv (2 ^ min (Int.toNat 7) IntKind.u64.bits))))] [])) (
      none)) (
    H (.exit 2) (mkSt 33 [(0, .s (.c (⟨.ro, AV.sl (CL.int IntKind.u64) nl xs⟩))), (3, .s (.c (⟨.own 96 none, AV.sl (CL.int IntKind.u8) ol o⟩))), (4, vS (.int .i64 i)), (5, vS (.int .u64 v))] [])) := by kernel_rfl
theorem rpP (rec : Rec) (H : K) (L : Nat → St → Option Res) (nl : Bool) (xs : List Int) (ol : Bool) (o : List Int) (i v : Int) :
    ((fnPl V0 25).at V0 25 0).past V0 25 0 (.exit 2) (mkSt 33 [(0, .s (.c ⟨.ro, .sl (.int .u64) nl xs⟩)), (3, .s (.c ⟨.own 96 none, .sl (.int .u8) ol o⟩)), (4, vS (.int .i64 i)), (5, vS (.int .u64 v))] []) rec H L =
  br (fits (o.length + [IntKind.u8.wrap v].length) (V0.P.bytesOf 5)) (
    H .normal (mkSt 33 [(0, .s (.c (⟨.ro, AV.sl (CL.int IntKind.u64) nl xs⟩))), (3, .s (.c (⟨.own 96 none, AV.sl (CL.int IntKind.u8) (ol && isNilL [IntKind.u8.wrap v]) (o ++ [IntKind.u8.wrap v])⟩))), (4, vS (.int .i64 (IntKind.i64.wrap (i + 1))))] [])) (
    none) := by kernel_rfl
theorem rpOut (rec : Rec) (H : K) (L : Nat → St → Option Res) (ol : Bool) (o : List Int) :
    (fnPl V0 25).past V0 25 0 (.exit 0) (mkSt 33 [(3, .s (.c ⟨.own 96 none, .sl (.int .u8) ol o⟩))] []) rec H L =
  H .ret (mkSt 33 [(2, .s (.c (⟨.own 64 none, AV.sl (CL.int IntKind.u8) ol o⟩)))] []) := by kernel_rfl
theorem rtIn (rec : Rec) (H : K) (L : Nat → St → Option Res) (nl : Bool) (b : List Int) (m : Int) :
    fnWay V0 38 [bS nl b, wS .u64 m] rec H L =
  L 0 (mkSt 57 [(0, .s (.c (⟨.ro, AV.sl (CL.int IntKind.u8) nl b⟩))), (1, vS (.int .u64 m)), (7, vS (.int .u64 0)), (8, vS (.int .i64 0))] []) := by kernel_rfl
theorem rtRnd (rec : Rec) (H : K) (L : Nat → St → Option Res) (nl : Bool) (b : List Int) (m v i : Int) :
    ((fnPl V0 38).at V0 38 0).way V0 38 (mkSt 57 [(0, .s (bS nl b)), (1, vS (.int .u64 m)), (7, vS (.int .u64 v)), (8, vS (.int .i64 i))] []) rec H L =
  br (decide (i < (↑b.length : Int))) (
    br (i == 9) (
      br (inR i b.length) (
        br (decide (nth (CL.int IntKind.u8) b i.toNat > 1)) (
          H .ret (mkSt 57 [(4, vS (.int .u64 0)), (5, vS (.int .i64 0)), (6, vS (.int .i64 21))] [])) (
          br (inR i b.length) (
            br (decide (IntKind.i64.wrap (7 * i) < 0)) (
              none) (
              br (inR i b.length) (
                br (decide (nth (CL.int IntKind.u8) b i.toNat < 128)) (
                  br (inR i b.length) (
                    br (nth (CL.int IntKind.u8) b i.toNat == 0) (
                      br (decide (i > 0)) (
                        H .ret (mkSt 57 [(4, vS (.int .u64 0)), (5, vS (.int .i64 0)), (6, vS (.int .i64 21))] [])) (
                        br (decide (IntKind.u64.wrap (↑(BitVec.ofInt IntKind.u64.bits v ||| BitVec.ofInt IntKind.u64.bits (IntKind.u64.wrap (IntKind.u64.wrap (IntKind.u8.wrap (↑(BitVec.ofInt IntKind.u8.bits (nth (CL.int IntKind.u8) b i.toNat) &&& BitVec.ofInt IntKind.u8.bits 127).toNat : Int)) * 2 ^ min (IntKind.i64.wrap (7 * i)).toNat IntKind.u64.bits))).toNat : Int) > m)) (
                          H .ret (mkSt 57 [(4, vS (.int .u64 0)), (5, vS (.int .i64 0)), (6, vS (.int .i64 22))] [])) (
                          H .ret (mkSt 57 [(4, vS (.int .u64 (IntKind.u64.wrap (↑(BitVec.ofInt IntKind.u64.bits v ||| BitVec.ofInt IntKind.u64.bits (IntKind.u64.wrap (IntKind.u64.wrap (IntKind.u8.wrap (↑(BitVec.ofInt IntKind.u8.bits (nth (CL.int IntKind.u8) b i.toNat) &&& BitVec.ofInt IntKind.u8.bits 127).toNat : Int)) * 2 ^ min (IntKind.i64.wrap (7 * i)).toNat IntKind.u64.bits))).toNat : Int)))), (5, vS (.int .i64 (IntKind.i64.wrap (i + 1)))), (6, vS (.int .i64 0))] [])))) (
                      br (decide (IntKind.u64.wrap (↑(BitVec.ofInt IntKind.u64.bits v ||| BitVec.ofInt IntKind.u64.bits (IntKind.u64.wrap (IntKind.u64.wrap (IntKind.u8.wrap (↑(BitVec.ofInt IntKind.u8.bits (nth (CL.int IntKind.u8) b i.toNat) &&& BitVec.ofInt IntKind.u8.bits 127).toNat : Int)) * 2 ^ min (IntKind.i64.wrap (7 * i)).toNat IntKind.u64.bits))).toNat : Int) > m)) (
                        H .ret (mkSt 57 [(4, vS (.int .u64 0)), (5, vS (.int .i64 0)), (6, vS (.int .i64 22))] [])) (
                        H .ret (mkSt 57 [(4, vS (.int .u64 (IntKind.u64.wrap (↑(BitVec.ofInt IntKind.u64.bits v ||| BitVec.ofInt IntKind.u64.bits (IntKind.u64.wrap (IntKind.u64.wrap (IntKind.u8.wrap (↑(BitVec.ofInt IntKind.u8.bits (nth (CL.int IntKind.u8) b i.toNat) &&& BitVec.ofInt IntKind.u8.bits 127).toNat : Int)) * 2 ^ min (IntKind.i64.wrap (7 * i)).toNat IntKind.u64.bits))).toNat : Int)))), (5, vS (.int .i64 (IntKind.i64.wrap (i + 1)))), (6, vS (.int .i64 0))] [])))) (
                    none)) (
                  H .normal (mkSt 57 [(0, .s (.c (⟨.ro, AV.sl (CL.int IntKind.u8) nl b⟩))), (1, vS (.int .u64 m)), (7, vS (.int .u64 (IntKind.u64.wrap (↑(BitVec.ofInt IntKind.u64.bits v ||| BitVec.ofInt IntKind.u64.bits (IntKind.u64.wrap (IntKind.u64.wrap (IntKind.u8.wrap (↑(BitVec.ofInt IntKind.u8.bits (nth (CL.int IntKind.u8) b i.toNat) &&& BitVec.ofInt IntKind.u8.bits 127).toNat : Int)) * 2 ^ min (IntKind.i64.wrap (7 * i)).toNat IntKind.u64.bits))).toNat : Int)))), (8, vS (.int .i64 (IntKind.i64.wrap (i + 1))))] []))) (
                none))) (
            none))) (
        none)) (
      br (inR i b.length) (
        br (decide (IntKind.i64.wrap (7 * i) < 0)) (
          none) (
          br (inR i b.length) (
            br (decide (nth (CL.int IntKind.u8) b i.toNat < 128)) (
              br (inR i b.length) (
                br (nth (CL.int IntKind.u8) b i.toNat == 0) (
                  br (decide (i > 0)) (
                    H .ret (mkSt 57 [(4, vS (.int .u64 0)), (5, vS (.int .i64 0)), (6, vS (.int .i64 21))] [])) (
                    br (decide (IntKind.u64.wrap (↑(BitVec.ofInt IntKind.u64.bits v ||| BitVec.ofInt IntKind.u64.bits (IntKind.u64.wrap (IntKind.u64.wrap (IntKind.u8.wrap (↑(BitVec.ofInt IntKind.u8.bits (nth (CL.int IntKind.u8) b i.toNat) &&& BitVec.ofInt IntKind.u8.bits 127).toNat : Int)) * 2 ^ min (IntKind.i64.wrap (7 * i)).toNat IntKind.u64.bits))).toNat : Int) > m)) (
                      H .ret (mkSt 57 [(4, vS (.int .u64 0)), (5, vS (.int .i64 0)), (6, vS (.int .i64 22))] [])) (
                      H .ret (mkSt 57 [(4, vS (.int .u64 (IntKind.u64.wrap (↑(BitVec.ofInt IntKind.u64.bits v ||| BitVec.ofInt IntKind.u64.bits (IntKind.u64.wrap (IntKind.u64.wrap (IntKind.u8.wrap (↑(BitVec.ofInt IntKind.u8.bits (nth (CL.int IntKind.u8) b i.toNat) &&& BitVec.ofInt IntKind.u8.bits 127).toNat : Int)) * 2 ^ min (IntKind.i64.wrap (7 * i)).toNat IntKind.u64.bits))).toNat : Int)))), (5, vS (.int .i64 (IntKind.i64.wrap (i + 1)))), (6, vS (.int .i64 0))] [])))) (
                  br (decide (IntKind.u64.wrap (↑(BitVec.ofInt IntKind.u64.bits v ||| BitVec.ofInt IntKind.u64.bits (IntKind.u64.wrap (IntKind.u64.wrap (IntKind.u8.wrap (↑(BitVec.ofInt IntKind.u8.bits (nth (CL.int IntKind.u8) b i.toNat) &&& BitVec.ofInt IntKind.u8.bits 127).toNat : Int)) * 2 ^ min (IntKind.i64.wrap (7 * i)).toNat IntKind.u64.bits))).toNat : Int) > m)) (
                    H .ret (mkSt 57 [(4, vS (.int .u64 0)), (5, vS (.int .i64 0)), (6, vS (.int .i64 22))] [])) (
                    H .ret (mkSt 57 [(4, vS (.int .u64 (IntKind.u64.wrap (↑(BitVec.ofInt IntKind.u64.bits v ||| BitVec.ofInt IntKind.u64.bits (IntKind.u64.wrap (IntKind.u64.wrap (IntKind.u8.wrap (↑(BitVec.ofInt IntKind.u8.bits (nth (CL.int IntKind.u8) b i.toNat) &&& BitVec.ofInt IntKind.u8.bits 127).toNat : Int)) * 2 ^ min (IntKind.i64.wrap (7 * i)).toNat IntKind.u64.bits))).toNat : Int)))), (5, vS (.int .i64 (IntKind.i64.wrap (i + 1)))), (6, vS (.int .i64 0))] [])))) (
                none)) (
              H .normal (mkSt 57 [(0, .s (.c (⟨.ro, AV.sl (CL.int IntKind.u8) nl b⟩))), (1, vS (.int .u64 m)), (7, vS (.int .u64 (IntKind.u64.wrap (↑(BitVec.ofInt IntKind.u64.bits v ||| BitVec.ofInt IntKind.u64.bits (IntKind.u64.wrap (IntKind.u64.wrap (IntKind.u8.wrap (↑(BitVec.ofInt IntKind.u8.bits (nth (CL.int IntKind.u8) b i.toNat) &&& BitVec.ofInt IntKind.u8.bits 127).toNat : Int)) * 2 ^ min (IntKind.i64.wrap (7 * i)).toNat IntKind.u64.bits))).toNat : Int)))), (8, vS (.int .i64 (IntKind.i64.wrap (i + 1))))] []))) (
            none))) (
        none))) (
    H (.exit 0) (mkSt 57 [] [])) := by kernel_rfl
theorem rtOut (rec : Rec) (H : K) (L : Nat → St → Option Res) (z : Int) :
    (fnPl V0 38).past V0 38 0 (.exit 0) (mkSt 57 [] []) rec H L =
  H .ret (mkSt 57 [(4, vS (.int .u64 0)), (5, vS (.int .i64 0)), (6, vS (.int .i64 20))] []) := by kernel_rfl
theorem nearIn (rec : Rec) (H : K) (L : Nat → St → Option Res) (f g : Int) :
    fnWay V0 31 [wS .i64 f, wS .u64 g] rec H L =
  br (!decide (g > 4294967296)) (
    br (decide (IntKind.i64.wrap (IntKind.i64.wrap (f + IntKind.i64.wrap g) + 1) ≥ 4294967296)) (
      H .ret (mkSt 21 [(4, vS (.int .i64 0)), (5, vS (.bool false))] [])) (
      H .ret (mkSt 21 [(4, vS (.int .i64 (IntKind.i64.wrap (IntKind.i64.wrap (f + IntKind.i64.wrap g) + 1)))), (5, vS (.bool true))] []))) (
    H .ret (mkSt 21 [(4, vS (.int .i64 0)), (5, vS (.bool false))] [])) := by kernel_rfl
end Go.Proofs.Ythiaaaedfidnjaa.Aj

namespace Go.Proofs.Ythiaaaedfidnjaa.Aj
open Go Go.Proofs.Ythiaaaedfidnjaa.Am Go.RowKit
set_option linter.unusedVariables false
set_option linter.unusedSimpArgs false
set_option maxRecDepth 100000
/-! the reference's numbers -/
theorem by5 : V0.P.bytesOf 5 = 1 := by kernel_rfl
theorem and127 {v : Int} (h : 0 ≤ v) (h2 : v < 18446744073709551616) : IntKind.u64.wrap (BitVec.ofInt IntKind.u64.bits v &&& BitVec.ofInt IntKind.u64.bits 127).toNat = v % 128 := by
  obtain ⟨a, rfl⟩ : ∃ a : Nat, v = a := ⟨v.toNat, by omega⟩
  have e : (BitVec.ofInt IntKind.u64.bits (a : Int) &&& BitVec.ofInt IntKind.u64.bits 127).toNat = a % 128 := by
    show (BitVec.ofInt 64 (a : Int) &&& BitVec.ofInt 64 127).toNat = a % 128
    rw [BitVec.toNat_and, BitVec.ofInt_natCast, BitVec.toNat_ofNat, Nat.mod_eq_of_lt (by omega), show (BitVec.ofInt 64 127).toNat = 2 ^ 7 - 1 from by decide, Nat.and_two_pow_sub_one_eq_mod]
  rw [e]
  have : IntKind.u64.wrap ((a % 128 : Nat) : Int) = ((a % 128 : Nat) : Int) := u64_id (by omega) (by omega)
  rw [this]
  omega
theorem more_ref {v : Int} (h : 0 ≤ v) (h2 : v < 18446744073709551616) : IntKind.u8.wrap (BitVec.ofInt IntKind.u8.bits (IntKind.u8.wrap (IntKind.u64.wrap (BitVec.ofInt IntKind.u64.bits v &&& BitVec.ofInt IntKind.u64.bits 127).toNat)) ||| BitVec.ofInt IntKind.u8.bits 128).toNat = more v := by
  rw [and127 h h2, u8_id (x := v % 128) (by omega) (by omega), more_eq h]
  have := moreTab (v % 128).toNat (by omega)
  rw [show (((v % 128).toNat : Nat) : Int) = v % 128 by omega] at this
  refine this.trans ?_
  omega
def rpS (nl : Bool) (xs o : List Int) (i : Nat) : St := mkSt 33 [(0, .s (uS nl xs)), (3, .s (.c ⟨.own 96 none, .sl (.int .u8) (isNilL o) o⟩)), (4, vS (.int .i64 (i : Int)))] []
def rpSI (nl : Bool) (xs o : List Int) (i : Nat) (v : Int) : St := mkSt 33 [(0, .s (uS nl xs)), (3, .s (.c ⟨.own 96 none, .sl (.int .u8) (isNilL o) o⟩)), (4, vS (.int .i64 (i : Int))), (5, vS (.int .u64 v))] []
noncomputable abbrev q25 : Pl := (fnPl V0 25).at V0 25 0
theorem rpILoop {nl : Bool} {xs : List Int} {i : Nat} : ∀ (n : Nat) (o : List Int) (v : Int), 0 ≤ v → v < 18446744073709551616 → v < 128 ^ (n + 1) → o.length + n ≤ 10000000 →
    ∃ o' v', Loops V0 25 q25 0 (rpSI nl xs o i v) (.exit 2) (rpSI nl xs o' i v') ∧ o' ++ [w8 v'] = o ++ putF n v ∧ o'.length ≤ o.length + n
  | 0, o, v, h0, h1, hv, ho => ⟨o, v, Loops.done (Goes.now fun rec H L => (rpI rec H L nl xs _ o _ v).trans (br_neg (decide_eq_false (by simpa using hv)))) (by simp) (by kernel_rfl), rfl, by omega⟩
  | n + 1, o, v, h0, h1, hv, ho => by
    by_cases h : v ≥ 128
    · have h2 : shr7 v < 128 ^ (n + 1) := by
        rw [shr7_eq]
        rw [Int.pow_succ] at hv
        exact Int.ediv_lt_of_lt_mul (by decide) hv
      have h3 := shr7_eq v
      obtain ⟨o', v', k1, k2, k3⟩ := rpILoop (nl := nl) (xs := xs) (i := i) n (o ++ [more v]) (shr7 v) (by omega) (by omega) h2 (by simp; omega)
      refine ⟨o', v', Loops.step (Goes.now fun rec H L => (rpI rec H L nl xs _ o _ v).trans ?_) k1 (by kernel_rfl), ?_, by simp at k3; omega⟩
      · rw [more_ref h0 h1, by5]
        refine (br_pos (decide_eq_true h)).trans ((br_pos (fits_small (by rw [List.length_singleton]; omega) (by decide))).trans ?_)
        unfold rpSI
        rw [isNil_app]
        rfl
      · rw [k2, List.append_assoc]
        congr 1
        show _ = bif decide (v ≥ 128) then more v :: putF n (shr7 v) else [w8 v]
        rw [decide_eq_true h]
        rfl
    · refine ⟨o, v, Loops.done (Goes.now fun rec H L => (rpI rec H L nl xs _ o _ v).trans (br_neg (decide_eq_false h))) (by simp) (by kernel_rfl), ?_, by omega⟩
      congr 1
      show _ = bif decide (v ≥ 128) then more v :: putF n (shr7 v) else [w8 v]
      rw [decide_eq_false h]
      rfl
theorem rpRound {nl : Bool} {xs o : List Int} {i : Nat} (hx : xs.length ≤ 1000) (hi : i < xs.length) (ho : o.length ≤ 9000000) (hv : 0 ≤ nth (.int .u64) xs i ∧ nth (.int .u64) xs i < (18446744073709551616 : Int)) :
    Goes V0 25 q25 (q25.way V0 25 (rpS nl xs o i)) .normal (rpS nl xs (o ++ putV (nth (.int .u64) xs i)) (i + 1)) := by
  have hin : ∀ rec H L, q25.way V0 25 (rpS nl xs o i) rec H L = L 0 (rpSI nl xs o i (nth (.int .u64) xs i)) := fun rec H L => (rpRnd rec H L nl xs _ o _).trans ((br_pos (decide_eq_true (by omega))).trans (br_pos (inR_yes (by omega) (by omega))))
  obtain ⟨o', v', h3, h4, h5⟩ := rpILoop (nl := nl) (xs := xs) (i := i) 9 o (nth (.int .u64) xs i) hv.1 hv.2 (Int.lt_trans hv.2 (by decide)) (by omega)
  refine Goes.of hin (Goes.loop h3 (Goes.now fun rec H L => (rpP rec H L nl xs _ o' _ v').trans ?_) (by kernel_rfl) (by kernel_rfl) rfl)
  have e : IntKind.i64.wrap ((i : Int) + 1) = ((i + 1 : Nat) : Int) := w64_id (by omega) (by omega)
  rw [by5, e, br_pos (fits_small (by rw [List.length_singleton]; omega) (by decide)), isNil_app]
  show H .normal (rpS nl xs (o' ++ [w8 v']) (i + 1)) = _
  rw [h4]
  rfl
theorem rpLoop {nl : Bool} {xs : List Int} (hx : xs.length ≤ 1000) (hb : ∀ i, 0 ≤ nth (.int .u64) xs i ∧ nth (.int .u64) xs i < (18446744073709551616 : Int)) : ∀ d i o, i + d = xs.length → o.length ≤ 10 * i →
    Loops V0 25 (fnPl V0 25) 0 (rpS nl xs o i) (.exit 0) (mkSt 33 [(3, .s (.c ⟨.own 96 none, .sl (.int .u8) (isNilL (o ++ putVs (xs.drop i))) (o ++ putVs (xs.drop i))⟩))] [])
  | 0, i, o, h, ho => by
    rw [List.drop_of_length_le (by omega)]
    show Loops V0 25 (fnPl V0 25) 0 (rpS nl xs o i) (.exit 0) (mkSt 33 [(3, .s (.c ⟨.own 96 none, .sl (.int .u8) (isNilL (o ++ [])) (o ++ [])⟩))] [])
    rw [List.append_nil]
    exact Loops.done (Goes.now fun rec H L => (rpRnd rec H L nl xs _ o _).trans (br_neg (decide_eq_false (by omega)))) (by simp) (by kernel_rfl)
  | d + 1, i, o, h, ho => by
    have hd : xs.drop i = nth (.int .u64) xs i :: xs.drop (i + 1) := nth_drop (e := .int .u64) (by omega)
    have hl := putF_len 9 (nth (.int .u64) xs i)
    have := rpLoop (nl := nl) hx hb d (i + 1) (o ++ putV (nth (.int .u64) xs i)) (by omega) (by rw [List.length_append]; show o.length + (putF 9 _).length ≤ _; omega)
    rw [List.append_assoc] at this
    rw [hd]
    exact Loops.step (rpRound hx (by omega) (by omega) (hb i)) this (by kernel_rfl)
theorem rpK (args : List S1) (r : Res) (h : (rpH args).den = some r) : ∃ n, call V0 n 25 args = some r := by
  unfold rpH at h
  split at h
  · rename_i nl xs
    obtain ⟨hx, h⟩ := tree_yes h
    obtain rfl := ok_some h
    unfold inU at hx
    simp only [Bool.and_eq_true, decide_eq_true_eq, List.all_eq_true] at hx
    obtain ⟨hx, hb⟩ := hx
    have hb' : ∀ i, 0 ≤ nth (.int .u64) xs i ∧ nth (.int .u64) xs i < (18446744073709551616 : Int) := fun i => by
      unfold nth
      rw [List.getD_eq_getElem?_getD]
      cases hi : xs[i]? with
      | none => exact ⟨Int.le_refl 0, (by decide : (0 : Int) < 18446744073709551616)⟩
      | some y => exact hb y (List.mem_of_getElem? hi)
    have hin : ∀ rec H L, fnWay V0 25 [uS nl xs] rec H L = L 0 (rpS nl xs [] 0) := fun rec H L => rpIn rec H L nl xs
    have lp := rpLoop (nl := nl) hx hb' xs.length 0 [] (by omega) (by simp)
    rw [List.drop_zero, List.nil_append] at lp
    exact Goes.call (Goes.of hin (Goes.loop lp (Goes.now (rpOut · · · _ _)) (by kernel_rfl) (by kernel_rfl) rfl)) (by kernel_rfl) (by kernel_rfl)
  · exact leaf_none h
def rtSt (nl : Bool) (b : List Int) (m v : Int) (i : Nat) : St := mkSt 57 [(0, .s (bS nl b)), (1, vS (.int .u64 m)), (7, vS (.int .u64 v)), (8, vS (.int .i64 (i : Int)))] []
abbrev rtEnd (t : Int × Int × Int) : St := mkSt 57 [(4, vS (.int .u64 t.1)), (5, vS (.int .i64 t.2.1)), (6, vS (.int .i64 t.2.2))] []
theorem rtRnd2 (rec : Rec) (H : K) (L : Nat → St → Option Res) (nl : Bool) (xs : List Int) (m v : Int) (i : Nat) (hx : xs.length ≤ 1000000) (hi : i < xs.length) :
    ((fnPl V0 38).at V0 38 0).way V0 38 (rtSt nl xs m v i) rec H L =
    br ((decide (i = 9) && decide (nth (.int .u8) xs i > 1)) || (decide (i > 0) && nth (.int .u8) xs i == 0)) (H .ret (rtEnd (0, 0, 21)))
      (br (decide (nth (.int .u8) xs i ≥ 128)) (H .normal (rtSt nl xs m (take7 v (nth (.int .u8) xs i) i) (i + 1)))
        (br (decide (take7 v (nth (.int .u8) xs i) i > m)) (H .ret (rtEnd (0, 0, 22))) (H .ret (rtEnd (take7 v (nth (.int .u8) xs i) i, (i : Int) + 1, 0))))) := by
  refine (rtRnd rec H L nl xs m v _).trans ?_
  have e7 : decide (IntKind.i64.wrap (7 * (i : Int)) < 0) = false := decide_eq_false (by rw [w64_id (by omega) (by omega)]; omega)
  have e1 : IntKind.i64.wrap ((i : Int) + 1) = ((i + 1 : Nat) : Int) := w64_id (by omega) (by omega)
  have e0 : decide ((i : Int) > 0) = decide (i > 0) := by
    by_cases h : i > 0
    · rw [decide_eq_true h, decide_eq_true (by omega)]
    · rw [decide_eq_false h, decide_eq_false (by omega)]
  have e9 : ((i : Int) == 9) = decide (i = 9) := by
    by_cases h : i = 9
    · subst h; rfl
    · rw [decide_eq_false h]
      exact beq_eq_false_iff_ne.2 (by omega)
  have eR : inR (i : Int) xs.length = true := inR_yes (by omega) (by omega)
  rw [br_pos (decide_eq_true (show (i : Int) < (xs.length : Int) by omega)), eR, e7, e1, e0, e9, Int.toNat_natCast]
  obtain ⟨c, hcv⟩ : ∃ c : Int, nth (CL.int IntKind.u8) xs i = c := ⟨_, rfl⟩
  rw [hcv]
  by_cases hc : c < 128
  · rw [decide_eq_true hc, decide_eq_false (show ¬ c ≥ 128 by omega)]
    cases hz : (c == 0) with
    | true =>
      have : c = 0 := eq_of_beq hz
      have h1 : decide (c > 1) = false := decide_eq_false (by omega)
      rw [h1]
      cases decide (i = 9) <;> cases decide (i > 0) <;> rfl
    | false => cases decide (i = 9) <;> cases decide (c > 1) <;> cases decide (i > 0) <;> rfl
  · have hz : (c == 0) = false := beq_eq_false_iff_ne.2 (by omega)
    rw [decide_eq_false hc, decide_eq_true (show c ≥ 128 by omega), hz]
    cases decide (i = 9) <;> cases decide (c > 1) <;> cases decide (i > 0) <;> rfl
theorem rtLoop (nl : Bool) (xs : List Int) (m : Int) (hx : xs.length ≤ 1000000) : ∀ d i v, i + d = xs.length →
    (Loops V0 38 (fnPl V0 38) 0 (rtSt nl xs m v i) .ret (rtEnd (takeR m (xs.drop i) i v)) ∨ (takeR m (xs.drop i) i v = (0, 0, 20) ∧ Loops V0 38 (fnPl V0 38) 0 (rtSt nl xs m v i) (.exit 0) (mkSt 57 [] [])))
  | 0, i, v, h => .inr ⟨by rw [List.drop_of_length_le (by omega)]; rfl, Loops.done (Goes.now fun rec H L => (rtRnd rec H L nl xs m v _).trans (br_neg (decide_eq_false (by omega)))) (by simp) (by kernel_rfl)⟩
  | d + 1, i, v, h => by
    have hd : xs.drop i = nth (.int .u8) xs i :: xs.drop (i + 1) := nth_drop (e := .int .u8) (by omega)
    have hr := fun rec H L => rtRnd2 rec H L nl xs m v i hx (by omega)
    rw [hd]
    show Loops V0 38 (fnPl V0 38) 0 _ .ret (rtEnd (bif (decide (i = 9) && decide (nth (.int .u8) xs i > 1)) || (decide (i > 0) && nth (.int .u8) xs i == 0) then (0, 0, 21) else bif decide (nth (.int .u8) xs i ≥ 128) then takeR m (xs.drop (i + 1)) (i + 1) (take7 v (nth (.int .u8) xs i) i) else
      bif decide (take7 v (nth (.int .u8) xs i) i > m) then (0, 0, 22) else (take7 v (nth (.int .u8) xs i) i, (i : Int) + 1, 0))) ∨ ((bif (decide (i = 9) && decide (nth (.int .u8) xs i > 1)) || (decide (i > 0) && nth (.int .u8) xs i == 0) then (0, 0, 21) else bif decide (nth (.int .u8) xs i ≥ 128) then takeR m (xs.drop (i + 1)) (i + 1) (take7 v (nth (.int .u8) xs i) i) else
      bif decide (take7 v (nth (.int .u8) xs i) i > m) then (0, 0, 22) else (take7 v (nth (.int .u8) xs i) i, (i : Int) + 1, 0)) = (0, 0, 20) ∧ _)
    cases c1 : ((decide (i = 9) && decide (nth (.int .u8) xs i > 1)) || (decide (i > 0) && nth (.int .u8) xs i == 0)) with
    | true => exact .inl (Loops.done (Goes.now fun rec H L => (hr rec H L).trans (br_pos c1)) (by simp) (by kernel_rfl))
    | false =>
      cases c2 : decide (nth (.int .u8) xs i ≥ 128) with
      | true =>
        have st : Goes V0 38 ((fnPl V0 38).at V0 38 0) (((fnPl V0 38).at V0 38 0).way V0 38 (rtSt nl xs m v i)) .normal (rtSt nl xs m (take7 v (nth (.int .u8) xs i) i) (i + 1)) := Goes.now fun rec H L => (hr rec H L).trans ((br_neg c1).trans (br_pos c2))
        rcases rtLoop nl xs m hx d (i + 1) (take7 v (nth (.int .u8) xs i) i) (by omega) with h1 | ⟨h0, h1⟩
        · exact .inl (Loops.step st h1 (by kernel_rfl))
        · exact .inr ⟨h0, Loops.step st h1 (by kernel_rfl)⟩
      | false =>
        cases c3 : decide (take7 v (nth (.int .u8) xs i) i > m) with
        | true => exact .inl (Loops.done (Goes.now fun rec H L => (hr rec H L).trans ((br_neg c1).trans ((br_neg c2).trans (br_pos c3)))) (by simp) (by kernel_rfl))
        | false => exact .inl (Loops.done (Goes.now fun rec H L => (hr rec H L).trans ((br_neg c1).trans ((br_neg c2).trans (br_neg c3)))) (by simp) (by kernel_rfl))
theorem rtK (xs : List S1) (r : Res) (h : (takeH xs).den = some r) : ∃ n, call V0 n 38 xs = some r := by
  unfold takeH at h
  split at h
  · rename_i nl xs m
    obtain ⟨hx, h⟩ := tree_yes h
    obtain rfl := ok_some h
    have hin : ∀ rec H L, fnWay V0 38 [bS nl xs, wS .u64 m] rec H L = L 0 (rtSt nl xs m 0 0) := fun rec H L => rtIn rec H L nl xs m
    rcases rtLoop nl xs m (of_decide_eq_true hx) xs.length 0 0 (by omega) with h1 | ⟨h0, h1⟩
    · rw [List.drop_zero] at h1
      exact Goes.call (Goes.of hin (Goes.loop h1 Goes.here (by kernel_rfl) (by kernel_rfl) rfl)) (by kernel_rfl) (by kernel_rfl)
    · rw [List.drop_zero] at h0
      rw [show takeT m xs = (0, 0, 20) from h0]
      exact Goes.call (Goes.of hin (Goes.loop h1 (Goes.now (rtOut · · · 0)) (by kernel_rfl) (by kernel_rfl) rfl)) (by kernel_rfl) (by kernel_rfl)
  · exact leaf_none h
theorem nearK (args : List S1) (r : Res) (h : (nearH args).den = some r) : ∃ n, call V0 n 31 args = some r := by
  unfold nearH at h
  split at h
  · rename_i f g
    obtain ⟨hx, h⟩ := tree_yes h
    obtain rfl := ok_some h
    simp only [Bool.and_eq_true, decide_eq_true_eq] at hx
    obtain ⟨h1, h2, h3⟩ := hx
    unfold nearV nearO nearR
    by_cases hg : g > 4294967296
    · rw [decide_eq_true hg]
      exact Goes.call (Goes.now fun rec H L => (nearIn rec H L f g).trans (br_neg (by rw [decide_eq_true hg]; rfl))) (by kernel_rfl) (by kernel_rfl)
    · have e : IntKind.i64.wrap (IntKind.i64.wrap (f + IntKind.i64.wrap g) + 1) = f + g + 1 := by
        rw [w64_id (x := g) (by omega) (by omega), w64_id (x := f + g) (by omega) (by omega), w64_id (by omega) (by omega)]
      have hin := fun rec H L => (nearIn rec H L f g).trans (br_pos (by rw [decide_eq_false hg]; rfl))
      rw [decide_eq_false hg, Bool.false_or]
      cases hc : decide (f + g + 1 ≥ 4294967296) with
      | true => exact Goes.call (Goes.now fun rec H L => (hin rec H L).trans (by rw [e, hc]; rfl)) (by kernel_rfl) (by kernel_rfl)
      | false => exact Goes.call (Goes.now fun rec H L => (hin rec H L).trans (by rw [e, hc]; rfl)) (by kernel_rfl) (by kernel_rfl)
  · exact leaf_none h
theorem sok17 : SOK l17 :=
  stubs_cons (x := (25, plain rpH)) (known_plain (V := V0) mix (sok0 _ rfl rfl) rpK) <|
  stubs_cons (x := (38, plain takeH)) (known_plain (V := V0) mix (sok0 _ rfl rfl) rtK) <|
  stubs_cons (x := (31, plain nearH)) (known_plain (V := V0) mix (sok0 _ rfl rfl) nearK) sok12
end Go.Proofs.Ythiaaaedfidnjaa.Aj

namespace Go.Proofs.Ythiaaaedfidnjaa.Aj
open Go Go.Proofs.Ythiaaaedfidnjaa.Am Go.RowKit
set_option linter.unusedVariables false
set_option linter.unusedSimpArgs false
set_option maxRecDepth 100000
noncomputable def V17 : Env := V l17
abbrev oS (g : Nat) (nl : Bool) (xs : List Int) : S := .s (.c ⟨.own g none, .sl (.int .u8) nl xs⟩)
abbrev ouS (g : Nat) (nl : Bool) (xs : List Int) : S := .s (.c ⟨.own g none, .sl (.int .u64) nl xs⟩)
theorem nbIn (rec : Rec) (H : K) (L : Nat → St → Option Res) (nl : Bool) (b : List Int) :
    fnWay V17 30 [bS nl b] rec H L =
  L 0 (mkSt 31 [(0, .s (.c (⟨.ro, AV.sl (CL.int IntKind.u8) nl b⟩))), (4, .s (.c (⟨.own 128 none, AV.sl (CL.int IntKind.u64) true []⟩))), (5, vS (.int .i64 0))] []) := by kernel_rfl
theorem nbRnd (rec : Rec) (H : K) (L : Nat → St → Option Res) (nl : Bool) (b : List Int) (ol : Bool) (o : List Int) (i : Int) :
    ((fnPl V17 30).at V17 30 0).way V17 30 (mkSt 31 [(0, .s (bS nl b)), (4, ouS 128 ol o), (5, vS (.int .i64 i))] []) rec H L =
  br (decide (i < (↑b.length : Int))) (
    br (leR i b.length) (
      br (decide ((List.drop i.toNat b).length ≤ 1000000)) (
        br (((takeT 9223372036854775807 (List.drop i.toNat b)).snd.fst, (takeT 9223372036854775807 (List.drop i.toNat b)).snd.snd).snd != 0) (
          H .ret (mkSt 31 [(2, .s (.c (⟨.ro, AV.sl (CL.int IntKind.u64) true []⟩))), (3, vS (.bool false))] [])) (
          br (fits (o.length + [(takeT 9223372036854775807 (List.drop i.toNat b)).fst].length) (V17.P.bytesOf 25)) (
            H .normal (mkSt 31 [(0, .s (.c (⟨.ro, AV.sl (CL.int IntKind.u8) nl b⟩))), (4, .s (.c (⟨.own 128 none, AV.sl (CL.int IntKind.u64) (ol && isNilL [(takeT 9223372036854775807 (List.drop i.toNat b)).fst]) (o ++ [(takeT 9223372036854775807 (List.drop i.toNat b)).fst])⟩))), (5, vS (.int .i64 (IntKind.i64.wrap (i + ((takeT 9223372036854775807 (List.drop i.toNat b)).snd.fst, (takeT 9223372036854775807 (List.drop i.toNat b)).snd.snd).fst))))] [])) (
            none))) (
        none)) (
      none)) (
    H (.exit 0) (mkSt 31 [(4, .s (.c (⟨.own 128 none, AV.sl (CL.int IntKind.u64) ol o⟩)))] [])) := by kernel_rfl
theorem nbOut (rec : Rec) (H : K) (L : Nat → St → Option Res) (ol : Bool) (o : List Int) :
    (fnPl V17 30).past V17 30 0 (.exit 0) (mkSt 31 [(4, ouS 128 ol o)] []) rec H L =
  H .ret (mkSt 31 [(2, .s (.c (⟨.own 128 none, AV.sl (CL.int IntKind.u64) ol o⟩))), (3, vS (.bool true))] []) := by kernel_rfl
theorem apIn (rec : Rec) (H : K) (L : Nat → St → Option Res) (nl : Bool) (xs : List Ed) :
    fnWay V17 11 [eS nl xs] rec H L =
  L 0 (mkSt 143 [(0, .s (.c (⟨.ro, AV.sl ((CL.int IntKind.u32).cons (CL.int IntKind.u32)) nl xs⟩))), (4, .s (.c (⟨.own 128 none, AV.sl (CL.int IntKind.u8) true []⟩))), (5, vS (.int .i64 0)), (6, vS (.int .i64 (-1))), (7, vS (.int .i64 0))] []) := by kernel_rfl
theorem apRnd (rec : Rec) (H : K) (L : Nat → St → Option Res) (nl : Bool) (xs : List Ed) (ol : Bool) (o : List Int) (us last i : Int) :
    ((fnPl V17 11).at V17 11 0).way V17 11 (mkSt 143 [(0, .s (eS nl xs)), (4, oS 128 ol o), (5, vS (.int .i64 us)), (6, vS (.int .i64 last)), (7, vS (.int .i64 i))] []) rec H L =
  br (decide (i < (↑xs.length : Int))) (
    br (inR i xs.length) (
      br (inR i xs.length) (
        br (!decide ((nth eE xs i.toNat).fst ≥ (nth eE xs i.toNat).snd)) (
          br (decide (i > 0)) (
            br (inR (IntKind.i64.wrap (i - 1)) xs.length) (
              br (inR i xs.length) (
                br (!lessR ((nth eE xs (IntKind.i64.wrap (i - 1)).toNat).fst, (nth eE xs (IntKind.i64.wrap (i - 1)).toNat).snd) ((nth eE xs i.toNat).fst, (nth eE xs i.toNat).snd)) (
                  H .ret (mkSt 143 [(2, .s (.c (⟨.own 64 none, AV.sl (CL.int IntKind.u8) true []⟩))), (3, vS (.int .i64 23))] [])) (
                  br (decide (i > 0)) (
                    br (inR (IntKind.i64.wrap (i - 1)) xs.length) (
                      br (inR i xs.length) (
                        br ((nth eE xs (IntKind.i64.wrap (i - 1)).toNat).fst == (nth eE xs i.toNat).fst) (
                          br (inR i xs.length) (
                            br (inR (IntKind.i64.wrap (i - 1)) xs.length) (
                              br (decide ([IntKind.u64.wrap (IntKind.u32.wrap (IntKind.u32.wrap ((nth eE xs i.toNat).snd - (nth eE xs (IntKind.i64.wrap (i - 1)).toNat).snd) - 1))].length ≤ 1000) && inU [IntKind.u64.wrap (IntKind.u32.wrap (IntKind.u32.wrap ((nth eE xs i.toNat).snd - (nth eE xs (IntKind.i64.wrap (i - 1)).toNat).snd) - 1))]) (
                                br (fits (o.length + (putVs [IntKind.u64.wrap (IntKind.u32.wrap (IntKind.u32.wrap ((nth eE xs i.toNat).snd - (nth eE xs (IntKind.i64.wrap (i - 1)).toNat).snd) - 1))]).length) (V17.P.bytesOf 5)) (
                                  H .normal (mkSt 143 [(0, .s (.c (⟨.ro, AV.sl ((CL.int IntKind.u32).cons (CL.int IntKind.u32)) nl xs⟩))), (4, .s (.c (⟨.own 128 none, AV.sl (CL.int IntKind.u8) (ol && isNilL (putVs [IntKind.u64.wrap (IntKind.u32.wrap (IntKind.u32.wrap ((nth eE xs i.toNat).snd - (nth eE xs (IntKind.i64.wrap (i - 1)).toNat).snd) - 1))])) (o ++ putVs [IntKind.u64.wrap (IntKind.u32.wrap (IntKind.u32.wrap ((nth eE xs i.toNat).snd - (nth eE xs (IntKind.i64.wrap (i - 1)).toNat).snd) - 1))])⟩))), (5, vS (.int .i64 us)), (6, vS (.int .i64 last)), (7, vS (.int .i64 (IntKind.i64.wrap (i + 1))))] [])) (
                                  none)) (
                                none)) (
                              none)) (
                            none)) (
                          L 0 (mkSt 143 [(0, .s (.c (⟨.ro, AV.sl ((CL.int IntKind.u32).cons (CL.int IntKind.u32)) nl xs⟩))), (4, .s (.c (⟨.own 128 none, AV.sl (CL.int IntKind.u8) ol o⟩))), (5, vS (.int .i64 us)), (6, vS (.int .i64 last)), (7, vS (.int .i64 i)), (8, vS (.int .i64 0))] []))) (
                        none)) (
                      none)) (
                    L 0 (mkSt 143 [(0, .s (.c (⟨.ro, AV.sl ((CL.int IntKind.u32).cons (CL.int IntKind.u32)) nl xs⟩))), (4, .s (.c (⟨.own 128 none, AV.sl (CL.int IntKind.u8) ol o⟩))), (5, vS (.int .i64 us)), (6, vS (.int .i64 last)), (7, vS (.int .i64 i)), (8, vS (.int .i64 0))] [])))) (
                none)) (
              none)) (
            br (decide (i > 0)) (
              br (inR (IntKind.i64.wrap (i - 1)) xs.length) (
                br (inR i xs.length) (
                  br ((nth eE xs (IntKind.i64.wrap (i - 1)).toNat).fst == (nth eE xs i.toNat).fst) (
                    br (inR i xs.length) (
                      br (inR (IntKind.i64.wrap (i - 1)) xs.length) (
                        br (decide ([IntKind.u64.wrap (IntKind.u32.wrap (IntKind.u32.wrap ((nth eE xs i.toNat).snd - (nth eE xs (IntKind.i64.wrap (i - 1)).toNat).snd) - 1))].length ≤ 1000) && inU [IntKind.u64.wrap (IntKind.u32.wrap (IntKind.u32.wrap ((nth eE xs i.toNat).snd - (nth eE xs (IntKind.i64.wrap (i - 1)).toNat).snd) - 1))]) (
                          br (fits (o.length + (putVs [IntKind.u64.wrap (IntKind.u32.wrap (IntKind.u32.wrap ((nth eE xs i.toNat).snd - (nth eE xs (IntKind.i64.wrap (i - 1)).toNat).snd) - 1))]).length) (V17.P.bytesOf 5)) (
                            H .normal (mkSt 143 [(0, .s (.c (⟨.ro, AV.sl ((CL.int IntKind.u32).cons (CL.int IntKind.u32)) nl xs⟩))), (4, .s (.c (⟨.own 128 none, AV.sl (CL.int IntKind.u8) (ol && isNilL (putVs [IntKind.u64.wrap (IntKind.u32.wrap (IntKind.u32.wrap ((nth eE xs i.toNat).snd - (nth eE xs (IntKind.i64.wrap (i - 1)).toNat).snd) - 1))])) (o ++ putVs [IntKind.u64.wrap (IntKind.u32.wrap (IntKind.u32.wrap ((nth eE xs i.toNat).snd - (nth eE xs (IntKind.i64.wrap (i - 1)).toNat).snd) - 1))])⟩))), (5, vS (.int .i64 us)), (6, vS (.int .i64 last)), (7, vS (.int .i64 (IntKind.i64.wrap (i + 1))))] [])) (
                            none)) (
                          none)) (
                        none)) (
                      none)) (
                    L 0 (mkSt 143 [(0, .s (.c (⟨.ro, AV.sl ((CL.int IntKind.u32).cons (CL.int IntKind.u32)) nl xs⟩))), (4, .s (.c (⟨.own 128 none, AV.sl (CL.int IntKind.u8) ol o⟩))), (5, vS (.int .i64 us)), (6, vS (.int .i64 last)), (7, vS (.int .i64 i)), (8, vS (.int .i64 0))] []))) (
                  none)) (
                none)) (
              L 0 (mkSt 143 [(0, .s (.c (⟨.ro, AV.sl ((CL.int IntKind.u32).cons (CL.int IntKind.u32)) nl xs⟩))), (4, .s (.c (⟨.own 128 none, AV.sl (CL.int IntKind.u8) ol o⟩))), (5, vS (.int .i64 us)), (6, vS (.int .i64 last)), (7, vS (.int .i64 i)), (8, vS (.int .i64 0))] [])))) (
          H .ret (mkSt 143 [(2, .s (.c (⟨.own 64 none, AV.sl (CL.int IntKind.u8) true []⟩))), (3, vS (.int .i64 23))] []))) (
        none)) (
      none)) (
    H (.exit 0) (mkSt 143 [(4, .s (.c (⟨.own 128 none, AV.sl (CL.int IntKind.u8) ol o⟩))), (5, vS (.int .i64 us))] [])) := by kernel_rfl
theorem apI (rec : Rec) (H : K) (L : Nat → St → Option Res) (nl : Bool) (xs : List Ed) (ol : Bool) (o : List Int) (us last i n : Int) :
    (((fnPl V17 11).at V17 11 0).at V17 11 0).way V17 11 (mkSt 143 [(0, .s (eS nl xs)), (4, oS 128 ol o), (5, vS (.int .i64 us)), (6, vS (.int .i64 last)), (7, vS (.int .i64 i)), (8, vS (.int .i64 n))] []) rec H L =
  br (decide (IntKind.i64.wrap (i + n) < (↑xs.length : Int))) (
    br (inR (IntKind.i64.wrap (i + n)) xs.length) (
      br (inR i xs.length) (
        br ((nth eE xs (IntKind.i64.wrap (i + n)).toNat).fst == (nth eE xs i.toNat).fst) (
          H .normal (mkSt 143 [(0, .s (.c (⟨.ro, AV.sl ((CL.int IntKind.u32).cons (CL.int IntKind.u32)) nl xs⟩))), (4, .s (.c (⟨.own 128 none, AV.sl (CL.int IntKind.u8) ol o⟩))), (5, vS (.int .i64 us)), (6, vS (.int .i64 last)), (7, vS (.int .i64 i)), (8, vS (.int .i64 (IntKind.i64.wrap (n + 1))))] [])) (
          H (.exit 2) (mkSt 143 [(0, .s (.c (⟨.ro, AV.sl ((CL.int IntKind.u32).cons (CL.int IntKind.u32)) nl xs⟩))), (4, .s (.c (⟨.own 128 none, AV.sl (CL.int IntKind.u8) ol o⟩))), (5, vS (.int .i64 us)), (6, vS (.int .i64 last)), (7, vS (.int .i64 i)), (8, vS (.int .i64 n))] []))) (
        none)) (
      none)) (
    H (.exit 2) (mkSt 143 [(0, .s (.c (⟨.ro, AV.sl ((CL.int IntKind.u32).cons (CL.int IntKind.u32)) nl xs⟩))), (4, .s (.c (⟨.own 128 none, AV.sl (CL.int IntKind.u8) ol o⟩))), (5, vS (.int .i64 us)), (6, vS (.int .i64 last)), (7, vS (.int .i64 i)), (8, vS (.int .i64 n))] [])) := by kernel_rfl
theorem apP (rec : Rec) (H : K) (L : Nat → St → Option Res) (nl : Bool) (xs : List Ed) (ol : Bool) (o : List Int) (us last i n : Int) :
    ((fnPl V17 11).at V17 11 0).past V17 11 0 (.exit 2) (mkSt 143 [(0, .s (eS nl xs)), (4, oS 128 ol o), (5, vS (.int .i64 us)), (6, vS (.int .i64 last)), (7, vS (.int .i64 i)), (8, vS (.int .i64 n))] []) rec H L =
  br (inR i xs.length) (
    br (inR i xs.length) (
      br (inR i xs.length) (
        br (decide ([IntKind.u64.wrap (IntKind.i64.wrap (IntKind.i64.wrap (IntKind.i64.wrap (nth eE xs i.toNat).fst - last) - 1)), IntKind.u64.wrap n, IntKind.u64.wrap (IntKind.u32.wrap (IntKind.u32.wrap ((nth eE xs i.toNat).snd - (nth eE xs i.toNat).fst) - 1))].length ≤ 1000) && inU [IntKind.u64.wrap (IntKind.i64.wrap (IntKind.i64.wrap (IntKind.i64.wrap (nth eE xs i.toNat).fst - last) - 1)), IntKind.u64.wrap n, IntKind.u64.wrap (IntKind.u32.wrap (IntKind.u32.wrap ((nth eE xs i.toNat).snd - (nth eE xs i.toNat).fst) - 1))]) (
          br (fits (o.length + (putVs [IntKind.u64.wrap (IntKind.i64.wrap (IntKind.i64.wrap (IntKind.i64.wrap (nth eE xs i.toNat).fst - last) - 1)), IntKind.u64.wrap n, IntKind.u64.wrap (IntKind.u32.wrap (IntKind.u32.wrap ((nth eE xs i.toNat).snd - (nth eE xs i.toNat).fst) - 1))]).length) (V17.P.bytesOf 5)) (
            br (inR i xs.length) (
              H .normal (mkSt 143 [(0, .s (.c (⟨.ro, AV.sl ((CL.int IntKind.u32).cons (CL.int IntKind.u32)) nl xs⟩))), (4, .s (.c (⟨.own 128 none, AV.sl (CL.int IntKind.u8) (ol && isNilL (putVs [IntKind.u64.wrap (IntKind.i64.wrap (IntKind.i64.wrap (IntKind.i64.wrap (nth eE xs i.toNat).fst - last) - 1)), IntKind.u64.wrap n, IntKind.u64.wrap (IntKind.u32.wrap (IntKind.u32.wrap ((nth eE xs i.toNat).snd - (nth eE xs i.toNat).fst) - 1))])) (o ++ putVs [IntKind.u64.wrap (IntKind.i64.wrap (IntKind.i64.wrap (IntKind.i64.wrap (nth eE xs i.toNat).fst - last) - 1)), IntKind.u64.wrap n, IntKind.u64.wrap (IntKind.u32.wrap (IntKind.u32.wrap ((nth eE xs i.toNat).snd - (nth eE xs i.toNat).fst) - 1))])⟩))), (5, vS (.int .i64 (IntKind.i64.wrap (us + 1)))), (6, vS (.int .i64 (IntKind.i64.wrap (nth eE xs i.toNat).fst))), (7, vS (.int .i64 (IntKind.i64.wrap (i + 1))))] [])) (
              none)) (
            none)) (
          none)) (
        none)) (
      none)) (
    none) := by kernel_rfl
theorem apOut (rec : Rec) (H : K) (L : Nat → St → Option Res) (ol : Bool) (o : List Int) (us : Int) :
    (fnPl V17 11).past V17 11 0 (.exit 0) (mkSt 143 [(4, oS 128 ol o), (5, vS (.int .i64 us))] []) rec H L =
  br (decide ([IntKind.u64.wrap us].length ≤ 1000) && inU [IntKind.u64.wrap us]) (
    br (fits ((putVs [IntKind.u64.wrap us]).length + o.length) (V17.P.bytesOf 5)) (
      H .ret (mkSt 143 [(2, .s (.c (⟨.own 64 none, AV.sl (CL.int IntKind.u8) (isNilL (putVs [IntKind.u64.wrap us]) && isNilL o) (putVs [IntKind.u64.wrap us] ++ o)⟩))), (3, vS (.int .i64 0))] [])) (
      none)) (
    none) := by kernel_rfl
end Go.Proofs.Ythiaaaedfidnjaa.Aj

namespace Go.Proofs.Ythiaaaedfidnjaa.Aj
open Go Go.Proofs.Ythiaaaedfidnjaa.Am Go.RowKit
set_option linter.unusedVariables false
set_option linter.unusedSimpArgs false
set_option maxRecDepth 100000
/-! all numbers of some bytes; edges' bytes, of the reference -/
theorem by25 : V17.P.bytesOf 25 = 8 := by kernel_rfl
theorem by5' : V17.P.bytesOf 5 = 1 := by kernel_rfl
def nbSt (nl : Bool) (b o : List Int) (i : Nat) : St := mkSt 31 [(0, .s (bS nl b)), (4, ouS 128 (isNilL o) o), (5, vS (.int .i64 (i : Int)))] []
theorem takeR_le' (m : Int) (b : List Int) : 0 ≤ (takeT m b).2.1 ∧ (takeT m b).2.1 ≤ (b.length : Int) := by
  have := takeR_le m b 0 0
  rw [Nat.zero_add] at this
  exact this
theorem nbLoop {nl : Bool} {b : List Int} (hb : b.length ≤ 100000) : ∀ (f i : Nat) (o : List Int), i ≤ b.length → b.length + 1 ≤ i + f → o.length ≤ i →
    (nbF f (b.drop i) o = none ∧ Loops V17 30 (fnPl V17 30) 0 (nbSt nl b o i) .ret (mkSt 31 [(2, .s (uS true [])), (3, vS (.bool false))] [])) ∨
    ∃ o', nbF f (b.drop i) o = some o' ∧ Loops V17 30 (fnPl V17 30) 0 (nbSt nl b o i) (.exit 0) (mkSt 31 [(4, ouS 128 (isNilL o') o')] [])
  | 0, i, o, h, hf, ho => absurd hf (by omega)
  | f + 1, i, o, h, hf, ho => by
    by_cases hi : i < b.length
    · have hne : isNilL (b.drop i) = false := by
        cases hd : b.drop i with
        | nil =>
          have := congrArg List.length hd
          rw [List.length_drop] at this
          simp at this
          omega
        | cons x r => rfl
      have e : nbF (f + 1) (b.drop i) o = bif (takeT 9223372036854775807 (b.drop i)).2.2 != 0 then none else nbF f ((b.drop i).drop (takeT 9223372036854775807 (b.drop i)).2.1.toNat) (o ++ [(takeT 9223372036854775807 (b.drop i)).1]) := by
        show (bif isNilL (b.drop i) then _ else _) = _
        rw [hne]
        rfl
      rw [e]
      have hin := fun rec H L => (nbRnd rec H L nl b (isNilL o) o i).trans ((br_pos (decide_eq_true (by omega))).trans ((br_pos (leR_yes (by omega) (by omega))).trans (br_pos (decide_eq_true (by rw [List.length_drop]; omega)))))
      rw [Int.toNat_natCast] at hin
      have hle := takeR_le' 9223372036854775807 (b.drop i)
      rw [List.length_drop] at hle
      have hone := takeR_one 9223372036854775807 (b.drop i) 0 0
      change (takeT 9223372036854775807 (b.drop i)).2.2 = 0 → 1 ≤ (takeT 9223372036854775807 (b.drop i)).2.1 ∧ _ at hone
      generalize takeT 9223372036854775807 (b.drop i) = t at hin hle hone ⊢
      cases hc : (t.2.2 != 0) with
      | true => exact .inl ⟨rfl, Loops.done (Goes.now fun rec H L => (hin rec H L).trans (br_pos hc)) (by simp) (by kernel_rfl)⟩
      | false =>
        have h0 : t.2.2 = 0 := by simpa using hc
        have h1 := (hone h0).1
        obtain ⟨k, hk⟩ : ∃ k : Nat, t.2.1 = k := ⟨t.2.1.toNat, by omega⟩
        rw [hk, Int.toNat_natCast, List.drop_drop]
        have e1 : IntKind.i64.wrap ((i : Int) + (k : Int)) = ((i + k : Nat) : Int) := w64_id (by omega) (by omega)
        have st : Goes V17 30 ((fnPl V17 30).at V17 30 0) (((fnPl V17 30).at V17 30 0).way V17 30 (nbSt nl b o i)) .normal (nbSt nl b (o ++ [t.1]) (i + k)) := Goes.now fun rec H L => (hin rec H L).trans ((br_neg hc).trans ((br_pos (by rw [by25]; exact fits_small (by rw [List.length_singleton]; omega) (by decide))).trans (by
          show H .normal (mkSt 31 [(0, .s (bS nl b)), (4, ouS 128 (isNilL o && isNilL [t.1]) (o ++ [t.1])), (5, vS (.int .i64 (IntKind.i64.wrap ((i : Int) + t.2.1))))] []) = _
          rw [hk, e1, isNil_app]
          rfl)))
        rcases nbLoop (nl := nl) hb f (i + k) (o ++ [t.1]) (by omega) (by omega) (by simp; omega) with ⟨k1, k2⟩ | ⟨o', k1, k2⟩
        · exact .inl ⟨k1, Loops.step st k2 (by kernel_rfl)⟩
        · exact .inr ⟨o', k1, Loops.step st k2 (by kernel_rfl)⟩
    · rw [List.drop_of_length_le (by omega)]
      exact .inr ⟨o, rfl, Loops.done (Goes.now fun rec H L => (nbRnd rec H L nl b (isNilL o) o i).trans (br_neg (decide_eq_false (by omega)))) (by simp) (by kernel_rfl)⟩
theorem nbK (args : List S1) (r : Res) (h : (nbH args).den = some r) : ∃ n, call V17 n 30 args = some r := by
  unfold nbH at h
  split at h
  · rename_i nl b
    obtain ⟨hx, h⟩ := tree_yes h
    obtain rfl := ok_some h
    have hin : ∀ rec H L, fnWay V17 30 [bS nl b] rec H L = L 0 (nbSt nl b [] 0) := fun rec H L => nbIn rec H L nl b
    rcases nbLoop (nl := nl) (of_decide_eq_true hx) (b.length + 1) 0 [] (by omega) (by omega) (by simp) with ⟨h1, h2⟩ | ⟨o', h1, h2⟩
    · rw [List.drop_zero] at h1
      rw [show nbT b = none from h1]
      exact Goes.call (Goes.of hin (Goes.loop h2 Goes.here (by kernel_rfl) (by kernel_rfl) rfl)) (by kernel_rfl) (by kernel_rfl)
    · rw [List.drop_zero] at h1
      rw [show nbT b = some o' from h1]
      exact Goes.call (Goes.of hin (Goes.loop h2 (Goes.now (nbOut · · · _ _)) (by kernel_rfl) (by kernel_rfl) rfl)) (by kernel_rfl) (by kernel_rfl)
  · exact leaf_none h
def prevE (xs : List Ed) : Nat → Option Ed
  | 0 => none
  | j + 1 => some (nE xs j)
def apSt (nl : Bool) (xs : List Ed) (o : List Int) (us last : Int) (i : Nat) : St := mkSt 143 [(0, .s (eS nl xs)), (4, oS 128 (isNilL o) o), (5, vS (.int .i64 us)), (6, vS (.int .i64 last)), (7, vS (.int .i64 (i : Int)))] []
def apSI (nl : Bool) (xs : List Ed) (o : List Int) (us last : Int) (i n : Nat) : St := mkSt 143 [(0, .s (eS nl xs)), (4, oS 128 (isNilL o) o), (5, vS (.int .i64 us)), (6, vS (.int .i64 last)), (7, vS (.int .i64 (i : Int))), (8, vS (.int .i64 (n : Int)))] []
abbrev apErr : St := mkSt 143 [(2, oS 64 true []), (3, vS (.int .i64 23))] []
noncomputable abbrev q11 : Pl := (fnPl V17 11).at V17 11 0
theorem edB_iff {e : Ed} : edB e = true ↔ 0 ≤ e.1 ∧ e.1 < 4294967296 ∧ 0 ≤ e.2 ∧ e.2 < 4294967296 := by
  unfold edB
  simp only [Bool.and_eq_true, decide_eq_true_eq]
theorem nE_ok {xs : List Ed} (h : ∀ e ∈ xs, edB e = true) {i : Nat} (hi : i < xs.length) : 0 ≤ (nE xs i).1 ∧ (nE xs i).1 < 4294967296 ∧ 0 ≤ (nE xs i).2 ∧ (nE xs i).2 < 4294967296 := by
  refine edB_iff.1 (h _ ?_)
  unfold nE nth
  rw [List.getD_eq_getElem?_getD, List.getElem?_eq_getElem hi]
  exact List.getElem_mem hi
theorem apBad {nl : Bool} {xs : List Ed} {o : List Int} {us last : Int} {i : Nat} (hx : xs.length ≤ 2000) (hi : i < xs.length) (hb : badE (prevE xs i) (nE xs i) = true) : Goes V17 11 q11 (q11.way V17 11 (apSt nl xs o us last i)) .ret apErr := by
  refine Goes.now fun rec H L => (apRnd rec H L nl xs _ o us last i).trans ?_
  have q1 : inR (i : Int) xs.length = true := inR_yes (by omega) (by omega)
  rw [br_pos (decide_eq_true (by omega)), q1, Int.toNat_natCast]
  show br true (br true (br (!decide ((nE xs i).1 ≥ (nE xs i).2)) _ _) _) _ = _
  cases hd : decide ((nE xs i).1 ≥ (nE xs i).2) with
  | true => rfl
  | false =>
    cases i with
    | zero =>
      unfold badE prevE at hb
      rw [hd] at hb
      cases hb
    | succ j =>
      have hl : lessR (nE xs j) (nE xs (j + 1)) = false := by
        unfold badE prevE at hb
        rw [hd] at hb
        simpa using hb
      have e0 : IntKind.i64.wrap (((j + 1 : Nat) : Int) - 1) = (j : Int) := by rw [w64_id (by omega) (by omega)]; omega
      have q2 : inR (j : Int) xs.length = true := inR_yes (by omega) (by omega)
      have hp : decide (((j + 1 : Nat) : Int) > 0) = true := decide_eq_true (by omega)
      rw [e0, q2, hp, Int.toNat_natCast]
      show br (!lessR (nE xs j) (nE xs (j + 1))) _ _ = _
      rw [hl]
      rfl
theorem apSame {nl : Bool} {xs : List Ed} {o : List Int} {us last : Int} {i : Nat} (hx : xs.length ≤ 2000) (hok : ∀ e ∈ xs, edB e = true) (ho : o.length ≤ 100000) (hi : i < xs.length) (hb : badE (prevE xs i) (nE xs i) = false) (hs : sameU (prevE xs i) (nE xs i) = true) :
    Goes V17 11 q11 (q11.way V17 11 (apSt nl xs o us last i)) .normal (apSt nl xs (o ++ putVs [(nE xs i).2 - prevV (prevE xs i) - 1]) us last (i + 1)) := by
  refine Goes.now fun rec H L => (apRnd rec H L nl xs _ o us last i).trans ?_
  have q1 : inR (i : Int) xs.length = true := inR_yes (by omega) (by omega)
  cases i with
  | zero => cases hs
  | succ j =>
    have e1 : IntKind.i64.wrap (((j + 1 : Nat) : Int) + 1) = ((j + 1 + 1 : Nat) : Int) := w64_id (by omega) (by omega)
    have e0 : IntKind.i64.wrap (((j + 1 : Nat) : Int) - 1) = (j : Int) := by rw [w64_id (by omega) (by omega)]; omega
    have q2 : inR (j : Int) xs.length = true := inR_yes (by omega) (by omega)
    have hp : decide (((j + 1 : Nat) : Int) > 0) = true := decide_eq_true (by omega)
    simp only [badE, prevE, Bool.or_eq_false_iff] at hb
    obtain ⟨hd, hl⟩ := hb
    have hl : lessR (nE xs j) (nE xs (j + 1)) = true := by simpa using hl
    have hs : ((nE xs j).1 == (nE xs (j + 1)).1) = true := hs
    have hs' := eq_of_beq hs
    have k1 := nE_ok hok (show j < xs.length by omega)
    have k2 := nE_ok hok hi
    have hl2 := less_iff.1 hl
    have ew : IntKind.u64.wrap (IntKind.u32.wrap (IntKind.u32.wrap ((nth eE xs (j + 1)).snd - (nth eE xs j).snd) - 1)) = (nE xs (j + 1)).2 - (nE xs j).2 - 1 := by
      show IntKind.u64.wrap (IntKind.u32.wrap (IntKind.u32.wrap ((nE xs (j + 1)).2 - (nE xs j).2) - 1)) = _
      rw [u32_id (x := (nE xs (j + 1)).2 - (nE xs j).2) (by omega) (by omega), u32_id (by omega) (by omega), u64_id (by omega) (by omega)]
    rw [br_pos (decide_eq_true (by omega)), q1, e0, q2, hp, e1, Int.toNat_natCast, Int.toNat_natCast, ew, by5']
    have hU : (decide ([(nE xs (j + 1)).2 - (nE xs j).2 - 1].length ≤ 1000) && inU [(nE xs (j + 1)).2 - (nE xs j).2 - 1]) = true := by
      simp only [inU, List.all_cons, List.all_nil, Bool.and_true, List.length_singleton, Bool.and_eq_true, decide_eq_true_eq]
      omega
    have hl3 := putVs1_len ((nE xs (j + 1)).2 - (nE xs j).2 - 1)
    have hF : fits (o.length + (putVs [(nE xs (j + 1)).2 - (nE xs j).2 - 1]).length) 1 = true := fits_small (by omega) (by decide)
    show br true (br true (br (!decide ((nE xs (j + 1)).1 ≥ (nE xs (j + 1)).2)) (br true (br true (br true (br (!lessR (nE xs j) (nE xs (j + 1))) _ (br true (br true (br true (br ((nE xs j).1 == (nE xs (j + 1)).1) (br true (br true (br (decide ([(nE xs (j + 1)).2 - (nE xs j).2 - 1].length ≤ 1000) && inU [(nE xs (j + 1)).2 - (nE xs j).2 - 1]) (br (fits (o.length + (putVs [(nE xs (j + 1)).2 - (nE xs j).2 - 1]).length) 1) _ _) _) _) _) _) _) _) _)) _) _) _) _) _) _ = _
    rw [hd, hl, hs, hU, hF]
    unfold apSt
    rw [← isNil_app]
    rfl
theorem apNew {nl : Bool} {xs : List Ed} {o : List Int} {us last : Int} {i : Nat} (hx : xs.length ≤ 2000) (hi : i < xs.length) (hb : badE (prevE xs i) (nE xs i) = false) (hs : sameU (prevE xs i) (nE xs i) = false) :
    ∀ rec H L, q11.way V17 11 (apSt nl xs o us last i) rec H L = L 0 (apSI nl xs o us last i 0) := fun rec H L => by
  refine (apRnd rec H L nl xs _ o us last i).trans ?_
  have q1 : inR (i : Int) xs.length = true := inR_yes (by omega) (by omega)
  rw [br_pos (decide_eq_true (by omega)), q1]
  simp only [badE, Bool.or_eq_false_iff] at hb
  obtain ⟨hd, hl⟩ := hb
  cases i with
  | zero =>
    show br true (br true (br (!decide ((nE xs 0).1 ≥ (nE xs 0).2)) _ _) _) _ = _
    rw [hd]
    rfl
  | succ j =>
    have e0 : IntKind.i64.wrap (((j + 1 : Nat) : Int) - 1) = (j : Int) := by rw [w64_id (by omega) (by omega)]; omega
    have q2 : inR (j : Int) xs.length = true := inR_yes (by omega) (by omega)
    have hp : decide (((j + 1 : Nat) : Int) > 0) = true := decide_eq_true (by omega)
    have hl : lessR (nE xs j) (nE xs (j + 1)) = true := by simpa [prevE] using hl
    have hs : ((nE xs j).1 == (nE xs (j + 1)).1) = false := hs
    rw [e0, q2, hp, Int.toNat_natCast, Int.toNat_natCast]
    show br true (br true (br (!decide ((nE xs (j + 1)).1 ≥ (nE xs (j + 1)).2)) (br true (br true (br true (br (!lessR (nE xs j) (nE xs (j + 1))) _ (br true (br true (br true (br ((nE xs j).1 == (nE xs (j + 1)).1) _ _) _) _) _)) _) _) _) _) _) _ = _
    rw [hd, hl, hs]
    rfl
theorem apILoop {nl : Bool} {xs : List Ed} {o : List Int} {us last : Int} {i : Nat} (hx : xs.length ≤ 2000) (hi : i < xs.length) : ∀ d n, i + n + d = xs.length →
    Loops V17 11 q11 0 (apSI nl xs o us last i n) (.exit 2) (apSI nl xs o us last i (n + cntU (nE xs i).1 (xs.drop (i + n))))
  | 0, n, h => by
    have e1 : IntKind.i64.wrap ((i : Int) + (n : Int)) = ((i + n : Nat) : Int) := w64_id (by omega) (by omega)
    rw [List.drop_of_length_le (by omega)]
    exact Loops.done (Goes.now fun rec H L => (apI rec H L nl xs _ o us last i n).trans (br_neg (decide_eq_false (by rw [e1]; omega)))) (by simp) (by kernel_rfl)
  | d + 1, n, h => by
    have e1 : IntKind.i64.wrap ((i : Int) + (n : Int)) = ((i + n : Nat) : Int) := w64_id (by omega) (by omega)
    have e2 : IntKind.i64.wrap ((n : Int) + 1) = ((n + 1 : Nat) : Int) := w64_id (by omega) (by omega)
    have hw : ∀ rec H L, (q11.at V17 11 0).way V17 11 (apSI nl xs o us last i n) rec H L = br ((nE xs (i + n)).1 == (nE xs i).1) (H .normal (apSI nl xs o us last i (n + 1))) (H (.exit 2) (apSI nl xs o us last i n)) := fun rec H L => by
      refine (apI rec H L nl xs _ o us last i n).trans ?_
      rw [e1, e2, br_pos (decide_eq_true (by omega)), br_pos (inR_yes (by omega) (by omega)), br_pos (inR_yes (by omega) (by omega)), Int.toNat_natCast, Int.toNat_natCast]
      rfl
    rw [nthE_drop (by omega)]
    show Loops V17 11 q11 0 _ (.exit 2) (apSI nl xs o us last i (n + bif (nE xs (i + n)).1 == (nE xs i).1 then cntU (nE xs i).1 (xs.drop (i + n + 1)) + 1 else 0))
    cases hc : ((nE xs (i + n)).1 == (nE xs i).1) with
    | true =>
      have := apILoop (nl := nl) (o := o) (us := us) (last := last) hx hi d (n + 1) (by omega)
      rw [show i + (n + 1) = i + n + 1 by omega, show n + 1 + cntU (nE xs i).1 (xs.drop (i + n + 1)) = n + (cntU (nE xs i).1 (xs.drop (i + n + 1)) + 1) by omega] at this
      exact Loops.step (Goes.now fun rec H L => (hw rec H L).trans (br_pos hc)) this (by kernel_rfl)
    | false => exact Loops.done (Goes.now fun rec H L => (hw rec H L).trans (br_neg hc)) (by simp) (by kernel_rfl)
theorem putVs3_len (x y z : Int) : (putVs [x, y, z]).length ≤ 30 := by
  have := putV_len x
  have := putV_len y
  have := putV_len z
  show (putV x ++ (putV y ++ (putV z ++ []))).length ≤ _
  simp; omega
theorem apPast {nl : Bool} {xs : List Ed} {o : List Int} {us last : Int} {i c : Nat} (hx : xs.length ≤ 2000) (hok : ∀ e ∈ xs, edB e = true) (ho : o.length ≤ 100000) (hi : i < xs.length) (hc : c ≤ 2000) (hus : 0 ≤ us ∧ us ≤ 2000) (hl : -1 ≤ last ∧ last < (nE xs i).1) (hv : (nE xs i).1 < (nE xs i).2) :
    Goes V17 11 q11 (q11.past V17 11 0 (.exit 2) (apSI nl xs o us last i c)) .normal (apSt nl xs (o ++ putVs [(nE xs i).1 - last - 1, (c : Int), (nE xs i).2 - (nE xs i).1 - 1]) (us + 1) (nE xs i).1 (i + 1)) := by
  refine Goes.now fun rec H L => (apP rec H L nl xs _ o us last i c).trans ?_
  have k2 := nE_ok hok hi
  have q1 : inR (i : Int) xs.length = true := inR_yes (by omega) (by omega)
  have e1 : IntKind.i64.wrap ((i : Int) + 1) = ((i + 1 : Nat) : Int) := w64_id (by omega) (by omega)
  have e2 : IntKind.i64.wrap (us + 1) = us + 1 := w64_id (by omega) (by omega)
  have e3 : IntKind.u64.wrap (c : Int) = c := u64_id (by omega) (by omega)
  have e4 : IntKind.i64.wrap (nth eE xs i).fst = (nE xs i).1 := w64_id (x := (nE xs i).1) (by omega) (by omega)
  have e5 : IntKind.u64.wrap (IntKind.i64.wrap (IntKind.i64.wrap ((nE xs i).1 - last) - 1)) = (nE xs i).1 - last - 1 := by
    rw [w64_id (x := (nE xs i).1 - last) (by omega) (by omega), w64_id (x := (nE xs i).1 - last - 1) (by omega) (by omega), u64_id (by omega) (by omega)]
  have e6 : IntKind.u64.wrap (IntKind.u32.wrap (IntKind.u32.wrap ((nth eE xs i).snd - (nth eE xs i).fst) - 1)) = (nE xs i).2 - (nE xs i).1 - 1 := by
    show IntKind.u64.wrap (IntKind.u32.wrap (IntKind.u32.wrap ((nE xs i).2 - (nE xs i).1) - 1)) = _
    rw [u32_id (x := (nE xs i).2 - (nE xs i).1) (by omega) (by omega), u32_id (by omega) (by omega), u64_id (by omega) (by omega)]
  rw [q1, e1, e2, e3, Int.toNat_natCast, e4, e5, e6, by5']
  have hU : (decide ([(nE xs i).1 - last - 1, (c : Int), (nE xs i).2 - (nE xs i).1 - 1].length ≤ 1000) && inU [(nE xs i).1 - last - 1, (c : Int), (nE xs i).2 - (nE xs i).1 - 1]) = true := by
    simp only [inU, List.all_cons, List.all_nil, Bool.and_true, List.length_cons, List.length_nil, Bool.and_eq_true, decide_eq_true_eq]
    omega
  have hl3 := putVs3_len ((nE xs i).1 - last - 1) (c : Int) ((nE xs i).2 - (nE xs i).1 - 1)
  have hF : fits (o.length + (putVs [(nE xs i).1 - last - 1, (c : Int), (nE xs i).2 - (nE xs i).1 - 1]).length) 1 = true := fits_small (by omega) (by decide)
  rw [hU, hF]
  unfold apSt
  rw [← isNil_app]
  rfl
theorem cntU_le (u : Int) : ∀ l : List Ed, cntU u l ≤ l.length
  | [] => Nat.le_refl _
  | x :: r => by
    show (bif x.1 == u then cntU u r + 1 else 0) ≤ r.length + 1
    have := cntU_le u r
    cases (x.1 == u)
    · exact Nat.zero_le _
    · show cntU u r + 1 ≤ _; omega
theorem apLoop {nl : Bool} {xs : List Ed} (hx : xs.length ≤ 2000) (hok : ∀ e ∈ xs, edB e = true) : ∀ (d i : Nat) (o : List Int) (us : Int), i + d = xs.length → o.length ≤ 30 * i → 0 ≤ us → us ≤ i →
    (apL (prevE xs i) (xs.drop i) o us = none ∧ Loops V17 11 (fnPl V17 11) 0 (apSt nl xs o us (lastU (prevE xs i)) i) .ret apErr) ∨
    ∃ us' o', apL (prevE xs i) (xs.drop i) o us = some (us', o') ∧ 0 ≤ us' ∧ us' ≤ 2000 ∧ o'.length ≤ 100000 ∧ Loops V17 11 (fnPl V17 11) 0 (apSt nl xs o us (lastU (prevE xs i)) i) (.exit 0) (mkSt 143 [(4, oS 128 (isNilL o') o'), (5, vS (.int .i64 us'))] [])
  | 0, i, o, us, h, ho, hu, hu2 => by
    rw [List.drop_of_length_le (by omega)]
    exact .inr ⟨us, o, rfl, hu, by omega, by omega, Loops.done (Goes.now fun rec H L => (apRnd rec H L nl xs _ o us _ i).trans (br_neg (decide_eq_false (by omega)))) (by simp) (by kernel_rfl)⟩
  | d + 1, i, o, us, h, ho, hu, hu2 => by
    have hd := nthE_drop (xs := xs) (i := i) (by omega)
    have hi : i < xs.length := by omega
    rw [hd]
    show ((bif badE (prevE xs i) (nE xs i) then none else bif sameU (prevE xs i) (nE xs i) then apL (some (nE xs i)) (xs.drop (i + 1)) (o ++ putVs [(nE xs i).2 - prevV (prevE xs i) - 1]) us else
      apL (some (nE xs i)) (xs.drop (i + 1)) (o ++ putVs [(nE xs i).1 - lastU (prevE xs i) - 1, (cntU (nE xs i).1 (nE xs i :: xs.drop (i + 1)) : Nat), (nE xs i).2 - (nE xs i).1 - 1]) (us + 1)) = none ∧ _) ∨ ∃ us' o', (bif badE (prevE xs i) (nE xs i) then none else bif sameU (prevE xs i) (nE xs i) then apL (some (nE xs i)) (xs.drop (i + 1)) (o ++ putVs [(nE xs i).2 - prevV (prevE xs i) - 1]) us else
      apL (some (nE xs i)) (xs.drop (i + 1)) (o ++ putVs [(nE xs i).1 - lastU (prevE xs i) - 1, (cntU (nE xs i).1 (nE xs i :: xs.drop (i + 1)) : Nat), (nE xs i).2 - (nE xs i).1 - 1]) (us + 1)) = some (us', o') ∧ _
    cases hb : badE (prevE xs i) (nE xs i) with
    | true => exact .inl ⟨rfl, Loops.done (apBad hx hi hb) (by simp) (by kernel_rfl)⟩
    | false =>
      have hpe : lastU (prevE xs (i + 1)) = (nE xs i).1 := rfl
      cases hs : sameU (prevE xs i) (nE xs i) with
      | true =>
        have hl3 := putVs1_len ((nE xs i).2 - prevV (prevE xs i) - 1)
        have hlast : lastU (prevE xs i) = (nE xs i).1 := by
          cases hq : prevE xs i with
          | none => rw [hq] at hs; cases hs
          | some q => rw [hq] at hs; exact eq_of_beq hs
        have st := apSame (nl := nl) (o := o) (us := us) (last := lastU (prevE xs i)) hx hok (by omega) hi hb hs
        rw [hlast] at st ⊢
        rcases apLoop (nl := nl) hx hok d (i + 1) (o ++ putVs [(nE xs i).2 - prevV (prevE xs i) - 1]) us (by omega) (by rw [List.length_append]; omega) hu (by omega) with ⟨k1, k2⟩ | ⟨us', o', k1, k2, k3, k4, k5⟩
        · rw [hpe] at k2
          exact .inl ⟨k1, Loops.step st k2 (by kernel_rfl)⟩
        · rw [hpe] at k5
          exact .inr ⟨us', o', k1, k2, k3, k4, Loops.step st k5 (by kernel_rfl)⟩
      | false =>
        have hc := cntU_le (nE xs i).1 (xs.drop i)
        rw [List.length_drop] at hc
        have hdd : nE xs i :: xs.drop (i + 1) = xs.drop i := hd.symm
        rw [hdd]
        have k2 := nE_ok hok hi
        have hv : (nE xs i).1 < (nE xs i).2 := by
          unfold badE at hb
          simp only [Bool.or_eq_false_iff, decide_eq_false_iff_not] at hb
          omega
        have hl : -1 ≤ lastU (prevE xs i) ∧ lastU (prevE xs i) < (nE xs i).1 := by
          cases i with
          | zero => show -1 ≤ (-1 : Int) ∧ (-1 : Int) < _; omega
          | succ j =>
            have kj := nE_ok hok (show j < xs.length by omega)
            have hls : lessR (nE xs j) (nE xs (j + 1)) = true := by
              simp only [badE, prevE, Bool.or_eq_false_iff] at hb
              simpa using hb.2
            have hls := less_iff.1 hls
            have hne : ¬ (nE xs j).1 = (nE xs (j + 1)).1 := fun hq => by
              have : sameU (prevE xs (j + 1)) (nE xs (j + 1)) = true := by show ((nE xs j).1 == _) = true; rw [hq]; exact beq_self_eq_true _
              rw [this] at hs
              cases hs
            show -1 ≤ (nE xs j).1 ∧ (nE xs j).1 < _
            omega
        have li := apILoop (nl := nl) (o := o) (us := us) (last := lastU (prevE xs i)) hx hi (xs.length - i) 0 (by omega)
        rw [Nat.zero_add, Nat.add_zero] at li
        have hl3 := putVs3_len ((nE xs i).1 - lastU (prevE xs i) - 1) (cntU (nE xs i).1 (xs.drop i) : Nat) ((nE xs i).2 - (nE xs i).1 - 1)
        have st := Goes.of (apNew (nl := nl) (o := o) (us := us) (last := lastU (prevE xs i)) hx hi hb hs) (Goes.loop li (apPast hx hok (by omega) hi (by omega) ⟨hu, by omega⟩ hl hv) (by kernel_rfl) (by kernel_rfl) rfl)
        rcases apLoop (nl := nl) hx hok d (i + 1) (o ++ putVs [(nE xs i).1 - lastU (prevE xs i) - 1, (cntU (nE xs i).1 (xs.drop i) : Nat), (nE xs i).2 - (nE xs i).1 - 1]) (us + 1) (by omega) (by rw [List.length_append]; omega) (by omega) (by omega) with ⟨m1, m2⟩ | ⟨us', o', m1, m2, m3, m4, m5⟩
        · rw [hpe] at m2
          exact .inl ⟨m1, Loops.step st m2 (by kernel_rfl)⟩
        · rw [hpe] at m5
          exact .inr ⟨us', o', m1, m2, m3, m4, Loops.step st m5 (by kernel_rfl)⟩
theorem apK (args : List S1) (r : Res) (h : (apH args).den = some r) : ∃ n, call V17 n 11 args = some r := by
  unfold apH at h
  split at h
  · rename_i nl xs
    obtain ⟨hx, h⟩ := tree_yes h
    simp only [Bool.and_eq_true, decide_eq_true_eq, List.all_eq_true] at hx
    obtain ⟨hx, hok⟩ := hx
    obtain rfl := ok_some h
    have hin : ∀ rec H L, fnWay V17 11 [eS nl xs] rec H L = L 0 (apSt nl xs [] 0 (lastU (prevE xs 0)) 0) := fun rec H L => apIn rec H L nl xs
    rcases apLoop (nl := nl) hx hok xs.length 0 [] 0 (by omega) (by simp) (by omega) (by omega) with ⟨h1, h2⟩ | ⟨us, o, h1, h2, h3, h4, h5⟩
    · rw [List.drop_zero] at h1
      have e : apT xs = none := by unfold apT; rw [show apL none xs [] 0 = none from h1]
      unfold apE
      rw [e]
      exact Goes.call (Goes.of hin (Goes.loop h2 Goes.here (by kernel_rfl) (by kernel_rfl) rfl)) (by kernel_rfl) (by kernel_rfl)
    · rw [List.drop_zero] at h1
      have e : apT xs = some (putVs [us] ++ o) := by unfold apT; rw [show apL none xs [] 0 = some (us, o) from h1]
      unfold apE
      rw [e]
      have hU : (decide ([us].length ≤ 1000) && inU [us]) = true := by
        simp only [inU, List.all_cons, List.all_nil, Bool.and_true, List.length_singleton, Bool.and_eq_true, decide_eq_true_eq]
        omega
      have hl := putVs1_len us
      obtain ⟨y, t, hy⟩ := putVs_ne us []
      refine Goes.call (e := .ret) (st' := mkSt 143 [(2, oS 64 false (putVs [us] ++ o)), (3, vS (.int .i64 0))] []) (Goes.of hin (Goes.loop h5 (Goes.now fun rec H L => (apOut rec H L _ o us).trans ?_) (by kernel_rfl) (by kernel_rfl) rfl)) (by kernel_rfl) (by kernel_rfl)
      rw [u64_id (x := us) (by omega) (by omega), br_pos hU, by5', br_pos (fits_small (by omega) (by decide)), hy]
      rfl
  · exact leaf_none h
theorem sok18 : SOK l18 :=
  stubs_cons (x := (11, co [cE] (plain apH))) (known_co [cE] (known_plain (V := V17) mix (sok17 _ rfl rfl) apK)) <|
  stubs_cons (x := (30, co [[some (.int .u8)]] (plain nbH))) (known_co [[some (.int .u8)]] (known_plain (V := V17) mix (sok17 _ rfl rfl) nbK)) sok17
end Go.Proofs.Ythiaaaedfidnjaa.Aj

namespace Go.Proofs.Ythiaaaedfidnjaa.Aj
open Go Go.Proofs.Ythiaaaedfidnjaa.Am Go.RowKit
set_option linter.unusedVariables false
set_option linter.unusedSimpArgs false
set_option maxRecDepth 100000
noncomputable def V18 : Env := V l18
abbrev oeS (g : Nat) (nl : Bool) (xs : List Ed) : S := .s (.c ⟨.own g none, .sl eE nl xs⟩)
theorem rdIn (rec : Rec) (H : K) (L : Nat → St → Option Res) (nl : Bool) (b : List Int) (n : Int) :
    fnWay V18 15 [bS nl b, wS .u64 n] rec H L =
  br (decide (b.length ≤ 100000)) (
    br (!!(nbT b).isSome) (
      br ((↑(isNilL ((nbT b).getD []), (nbT b).getD []).snd.length : Int) == 0) (
        H .ret (mkSt 115 [(4, .s (.c (⟨.ro, AV.sl ((CL.int IntKind.u32).cons (CL.int IntKind.u32)) true []⟩))), (5, vS (.int .i64 21))] [])) (
        L 0 (mkSt 115 [(0, .s (.c (⟨.ro, AV.sl (CL.int IntKind.u8) nl b⟩))), (1, vS (.int .u64 n)), (6, .s (.c (⟨.ro, AV.sl (CL.int IntKind.u64) (isNilL ((nbT b).getD []), (nbT b).getD []).fst (isNilL ((nbT b).getD []), (nbT b).getD []).snd⟩))), (8, .s (.c (⟨.own 256 none, AV.sl ((CL.int IntKind.u32).cons (CL.int IntKind.u32)) true []⟩))), (9, vS (.int .i64 (-1))), (10, vS (.int .i64 1))] []))) (
      H .ret (mkSt 115 [(4, .s (.c (⟨.ro, AV.sl ((CL.int IntKind.u32).cons (CL.int IntKind.u32)) true []⟩))), (5, vS (.int .i64 21))] []))) (
    none) := by kernel_rfl
theorem rdRnd (rec : Rec) (H : K) (L : Nat → St → Option Res) (nl : Bool) (b : List Int) (n : Int) (vl : Bool) (v : List Int) (ol : Bool) (o : List Ed) (u i : Int) :
    ((fnPl V18 15).at V18 15 0).way V18 15 (mkSt 115 [(0, .s (bS nl b)), (1, vS (.int .u64 n)), (6, .s (uS vl v)), (8, oeS 256 ol o), (9, vS (.int .i64 u)), (10, vS (.int .i64 i))] []) rec H L =
  br (decide (i < (↑v.length : Int))) (
    br (inR i v.length) (
      br (decide (-1 ≤ u) && (decide (u ≤ 4294967296) && decide (0 ≤ nth (CL.int IntKind.u64) v i.toNat))) (
        br (!!nearO u (nth (CL.int IntKind.u64) v i.toNat)) (
          br (decide (IntKind.i64.wrap (i + 1) ≥ (↑v.length : Int))) (
            H .ret (mkSt 115 [(4, .s (.c (⟨.ro, AV.sl ((CL.int IntKind.u32).cons (CL.int IntKind.u32)) true []⟩))), (5, vS (.int .i64 21))] [])) (
            br (inR (IntKind.i64.wrap (i + 1)) v.length) (
              L 0 (mkSt 115 [(0, .s (.c (⟨.ro, AV.sl (CL.int IntKind.u8) nl b⟩))), (1, vS (.int .u64 n)), (6, .s (.c (⟨.ro, AV.sl (CL.int IntKind.u64) vl v⟩))), (8, .s (.c (⟨.own 256 none, AV.sl ((CL.int IntKind.u32).cons (CL.int IntKind.u32)) ol o⟩))), (9, vS (.int .i64 (nearV u (nth (CL.int IntKind.u64) v i.toNat)))), (10, vS (.int .i64 (IntKind.i64.wrap (i + 2)))), (13, vS (.int .u64 (nth (CL.int IntKind.u64) v (IntKind.i64.wrap (i + 1)).toNat))), (14, vS (.int .i64 (nearV u (nth (CL.int IntKind.u64) v i.toNat)))), (15, vS (.int .u64 0))] [])) (
              none))) (
          H .ret (mkSt 115 [(4, .s (.c (⟨.ro, AV.sl ((CL.int IntKind.u32).cons (CL.int IntKind.u32)) true []⟩))), (5, vS (.int .i64 21))] []))) (
        none)) (
      none)) (
    H (.exit 0) (mkSt 115 [(0, .s (.c (⟨.ro, AV.sl (CL.int IntKind.u8) nl b⟩))), (8, .s (.c (⟨.own 256 none, AV.sl ((CL.int IntKind.u32).cons (CL.int IntKind.u32)) ol o⟩)))] [])) := by kernel_rfl
theorem rdI (rec : Rec) (H : K) (L : Nat → St → Option Res) (nl : Bool) (b : List Int) (n : Int) (vl : Bool) (v : List Int) (ol : Bool) (o : List Ed) (u i c w k : Int) :
    (((fnPl V18 15).at V18 15 0).at V18 15 0).way V18 15 (mkSt 115 [(0, .s (bS nl b)), (1, vS (.int .u64 n)), (6, .s (uS vl v)), (8, oeS 256 ol o), (9, vS (.int .i64 u)), (10, vS (.int .i64 i)), (13, vS (.int .u64 c)), (14, vS (.int .i64 w)), (15, vS (.int .u64 k))] []) rec H L =
  br (decide (k < c)) (
    br (decide (i ≥ (↑v.length : Int))) (
      H .ret (mkSt 115 [(4, .s (.c (⟨.ro, AV.sl ((CL.int IntKind.u32).cons (CL.int IntKind.u32)) true []⟩))), (5, vS (.int .i64 21))] [])) (
      br (inR i v.length) (
        br (decide (-1 ≤ w) && (decide (w ≤ 4294967296) && decide (0 ≤ nth (CL.int IntKind.u64) v i.toNat))) (
          br (!!nearO w (nth (CL.int IntKind.u64) v i.toNat)) (
            br (decide (IntKind.u64.wrap (nearV w (nth (CL.int IntKind.u64) v i.toNat)) ≥ n)) (
              H .ret (mkSt 115 [(4, .s (.c (⟨.ro, AV.sl ((CL.int IntKind.u32).cons (CL.int IntKind.u32)) true []⟩))), (5, vS (.int .i64 21))] [])) (
              br (fits (o.length + [(IntKind.u32.wrap u, IntKind.u32.wrap (nearV w (nth (CL.int IntKind.u64) v i.toNat)))].length) (V18.P.bytesOf 50)) (
                H .normal (mkSt 115 [(0, .s (.c (⟨.ro, AV.sl (CL.int IntKind.u8) nl b⟩))), (1, vS (.int .u64 n)), (6, .s (.c (⟨.ro, AV.sl (CL.int IntKind.u64) vl v⟩))), (8, .s (.c (⟨.own 256 none, AV.sl ((CL.int IntKind.u32).cons (CL.int IntKind.u32)) (ol && isNilL [(IntKind.u32.wrap u, IntKind.u32.wrap (nearV w (nth (CL.int IntKind.u64) v i.toNat)))]) (o ++ [(IntKind.u32.wrap u, IntKind.u32.wrap (nearV w (nth (CL.int IntKind.u64) v i.toNat)))])⟩))), (9, vS (.int .i64 u)), (10, vS (.int .i64 (IntKind.i64.wrap (i + 1)))), (13, vS (.int .u64 c)), (14, vS (.int .i64 (nearV w (nth (CL.int IntKind.u64) v i.toNat)))), (15, vS (.int .u64 (IntKind.u64.wrap (k + 1))))] [])) (
                none))) (
            H .ret (mkSt 115 [(4, .s (.c (⟨.ro, AV.sl ((CL.int IntKind.u32).cons (CL.int IntKind.u32)) true []⟩))), (5, vS (.int .i64 21))] []))) (
          none)) (
        none))) (
    H (.exit 2) (mkSt 115 [(0, .s (.c (⟨.ro, AV.sl (CL.int IntKind.u8) nl b⟩))), (1, vS (.int .u64 n)), (6, .s (.c (⟨.ro, AV.sl (CL.int IntKind.u64) vl v⟩))), (8, .s (.c (⟨.own 256 none, AV.sl ((CL.int IntKind.u32).cons (CL.int IntKind.u32)) ol o⟩))), (9, vS (.int .i64 u)), (10, vS (.int .i64 i))] [])) := by kernel_rfl
theorem rdP (rec : Rec) (H : K) (L : Nat → St → Option Res) (nl : Bool) (b : List Int) (n : Int) (vl : Bool) (v : List Int) (ol : Bool) (o : List Ed) (u i : Int) :
    ((fnPl V18 15).at V18 15 0).past V18 15 0 (.exit 2) (mkSt 115 [(0, .s (bS nl b)), (1, vS (.int .u64 n)), (6, .s (uS vl v)), (8, oeS 256 ol o), (9, vS (.int .i64 u)), (10, vS (.int .i64 i))] []) rec H L =
  H .normal (mkSt 115 [(0, .s (.c (⟨.ro, AV.sl (CL.int IntKind.u8) nl b⟩))), (1, vS (.int .u64 n)), (6, .s (.c (⟨.ro, AV.sl (CL.int IntKind.u64) vl v⟩))), (8, .s (.c (⟨.own 256 none, AV.sl ((CL.int IntKind.u32).cons (CL.int IntKind.u32)) ol o⟩))), (9, vS (.int .i64 u)), (10, vS (.int .i64 i))] []) := by kernel_rfl
theorem rdOut (rec : Rec) (H : K) (L : Nat → St → Option Res) (nl : Bool) (b : List Int) (ol : Bool) (o : List Ed) :
    (fnPl V18 15).past V18 15 0 (.exit 0) (mkSt 115 [(0, .s (bS nl b)), (8, oeS 256 ol o)] []) rec H L =
  br (decide (o.length ≤ 2000) && o.all edB) (
    br (!apE o != 0) (
      br (!(baOf (!(apT o).isSome, (apT o).getD []).snd).toList == (baOf b).toList) (
        H .ret (mkSt 115 [(4, .s (.c (⟨.ro, AV.sl ((CL.int IntKind.u32).cons (CL.int IntKind.u32)) true []⟩))), (5, vS (.int .i64 21))] [])) (
        H .ret (mkSt 115 [(4, .s (.c (⟨.own 256 none, AV.sl ((CL.int IntKind.u32).cons (CL.int IntKind.u32)) ol o⟩))), (5, vS (.int .i64 0))] []))) (
      H .ret (mkSt 115 [(4, .s (.c (⟨.ro, AV.sl ((CL.int IntKind.u32).cons (CL.int IntKind.u32)) true []⟩))), (5, vS (.int .i64 21))] []))) (
    none) := by kernel_rfl
theorem chgIn (rec : Rec) (H : K) (L : Nat → St → Option Res) (nl : Bool) (b : List Int) (how at' x : Int) (ml : Bool) (m : List Int) :
    fnWay V18 13 [bS nl b, wS .u8 how, wS .u16 at', wS .u8 x, bS ml m] rec H L =
  br (fits b.length (V18.P.bytesOf 5)) (
    br ((↑b.length : Int) == 0) (
      br (fits m.length (V18.P.bytesOf 5)) (
        H .ret (mkSt 61 [(10, .s (.c (⟨.own 608 none, AV.sl (CL.int IntKind.u8) (isNilL m) m⟩)))] [])) (
        none)) (
      br (decide ((↑b.length : Int) = 0)) (
        none) (
        br (how.tmod 5 == 0) (
          br (inR ((IntKind.i64.wrap at').tmod (↑b.length : Int)) b.length) (
            H .ret (mkSt 61 [(10, .s (.c (⟨.own 352 none, AV.sl (CL.int IntKind.u8) (isNilL b) (b.set ((IntKind.i64.wrap at').tmod (↑b.length : Int)).toNat x)⟩)))] [])) (
            none)) (
          br (how.tmod 5 == 1) (
            br (inR ((IntKind.i64.wrap at').tmod (↑b.length : Int)) b.length) (
              H .ret (mkSt 61 [(10, .s (.c (⟨.own 352 none, AV.sl (CL.int IntKind.u8) (isNilL b) (b.set ((IntKind.i64.wrap at').tmod (↑b.length : Int)).toNat x)⟩)))] [])) (
              none)) (
            br (how.tmod 5 == 2) (
              br (leR ((IntKind.i64.wrap at').tmod (↑b.length : Int)) b.length) (
                br (fits (List.take ((IntKind.i64.wrap at').tmod (↑b.length : Int)).toNat b).length (V18.P.bytesOf 5)) (
                  br (fits ((List.take ((IntKind.i64.wrap at').tmod (↑b.length : Int)).toNat b).length + m.length) (V18.P.bytesOf 5)) (
                    br (leR ((IntKind.i64.wrap at').tmod (↑b.length : Int)) b.length) (
                      br (fits ((List.take ((IntKind.i64.wrap at').tmod (↑b.length : Int)).toNat b ++ m).length + (List.drop ((IntKind.i64.wrap at').tmod (↑b.length : Int)).toNat b).length) (V18.P.bytesOf 5)) (
                        H .ret (mkSt 61 [(10, .s (.c (⟨.own 1728 none, AV.sl (CL.int IntKind.u8) (isNilL (List.take ((IntKind.i64.wrap at').tmod (↑b.length : Int)).toNat b) && isNilL m && isNilL (List.drop ((IntKind.i64.wrap at').tmod (↑b.length : Int)).toNat b)) (List.take ((IntKind.i64.wrap at').tmod (↑b.length : Int)).toNat b ++ m ++ List.drop ((IntKind.i64.wrap at').tmod (↑b.length : Int)).toNat b)⟩)))] [])) (
                        none)) (
                      none)) (
                    none)) (
                  none)) (
                none)) (
              br (how.tmod 5 == 3) (
                br (leR ((IntKind.i64.wrap at').tmod (↑b.length : Int)) b.length) (
                  H .ret (mkSt 61 [(10, .s (.c (⟨.own 352 (some 0), AV.sl (CL.int IntKind.u8) (isNilL b) (List.take ((IntKind.i64.wrap at').tmod (↑b.length : Int)).toNat b)⟩)))] [])) (
                  none)) (
                br (leR ((IntKind.i64.wrap at').tmod (↑b.length : Int)) b.length) (
                  br (fits (List.take ((IntKind.i64.wrap at').tmod (↑b.length : Int)).toNat b).length (V18.P.bytesOf 5)) (
                    br (leR (IntKind.i64.wrap ((IntKind.i64.wrap at').tmod (↑b.length : Int) + 1)) b.length) (
                      br (fits ((List.take ((IntKind.i64.wrap at').tmod (↑b.length : Int)).toNat b).length + (List.drop (IntKind.i64.wrap ((IntKind.i64.wrap at').tmod (↑b.length : Int) + 1)).toNat b).length) (V18.P.bytesOf 5)) (
                        H .ret (mkSt 61 [(10, .s (.c (⟨.own 352 none, AV.sl (CL.int IntKind.u8) (isNilL (List.take ((IntKind.i64.wrap at').tmod (↑b.length : Int)).toNat b) && isNilL (List.drop (IntKind.i64.wrap ((IntKind.i64.wrap at').tmod (↑b.length : Int) + 1)).toNat b)) (List.take ((IntKind.i64.wrap at').tmod (↑b.length : Int)).toNat b ++ List.drop (IntKind.i64.wrap ((IntKind.i64.wrap at').tmod (↑b.length : Int) + 1)).toNat b)⟩)))] [])) (
                        none)) (
                      none)) (
                    none)) (
                  none)))))))) (
    none) := by kernel_rfl
end Go.Proofs.Ythiaaaedfidnjaa.Aj

namespace Go.Proofs.Ythiaaaedfidnjaa.Aj
open Go Go.Proofs.Ythiaaaedfidnjaa.Am Go.RowKit
set_option linter.unusedVariables false
set_option linter.unusedSimpArgs false
set_option maxRecDepth 100000
/-! edges out of bytes, of the reference; changed bytes -/
theorem by50' : V18.P.bytesOf 50 = 8 := by kernel_rfl
theorem by5'' : V18.P.bytesOf 5 = 1 := by kernel_rfl
def rdS (nl : Bool) (b : List Int) (n : Int) (vl : Bool) (v : List Int) (o : List Ed) (u : Int) (i : Nat) : St := mkSt 115 [(0, .s (bS nl b)), (1, vS (.int .u64 n)), (6, .s (uS vl v)), (8, oeS 256 (isNilL o) o), (9, vS (.int .i64 u)), (10, vS (.int .i64 (i : Int)))] []
def rdSI (nl : Bool) (b : List Int) (n : Int) (vl : Bool) (v : List Int) (o : List Ed) (u : Int) (i : Nat) (c w k : Int) : St := mkSt 115 [(0, .s (bS nl b)), (1, vS (.int .u64 n)), (6, .s (uS vl v)), (8, oeS 256 (isNilL o) o), (9, vS (.int .i64 u)), (10, vS (.int .i64 (i : Int))), (13, vS (.int .u64 c)), (14, vS (.int .i64 w)), (15, vS (.int .u64 k))] []
abbrev rdErr : St := mkSt 115 [(4, .s (eS true [])), (5, vS (.int .i64 21))] []
noncomputable abbrev q15 : Pl := (fnPl V18 15).at V18 15 0
abbrev nU (v : List Int) (i : Nat) : Int := nth (.int .u64) v i
theorem nU_ok {v : List Int} (h : ∀ x ∈ v, 0 ≤ x ∧ x < 18446744073709551616) (i : Nat) : 0 ≤ nU v i ∧ nU v i < 18446744073709551616 := by
  unfold nU nth
  rw [List.getD_eq_getElem?_getD]
  cases hi : v[i]? with
  | none => exact ⟨Int.le_refl 0, (by decide : (0 : Int) < 18446744073709551616)⟩
  | some y => exact h y (List.mem_of_getElem? hi)
theorem near_bd {f g : Int} (hf : -1 ≤ f) (hg : 0 ≤ g) (h : nearO f g = true) : nearV f g = f + g + 1 ∧ 0 ≤ f + g + 1 ∧ f + g + 1 < 4294967296 := by
  unfold nearO nearV nearR at *
  cases hc : (decide (g > 4294967296) || decide (f + g + 1 ≥ 4294967296)) with
  | true => rw [hc] at h; cases h
  | false =>
    simp only [Bool.or_eq_false_iff, decide_eq_false_iff_not] at hc
    refine ⟨rfl, by omega, by omega⟩
theorem rdILoop {nl : Bool} {b : List Int} {n : Int} {vl : Bool} {v : List Int} {u c : Int} (hv : v.length ≤ 100000) (hvo : ∀ x ∈ v, 0 ≤ x ∧ x < 18446744073709551616) (hc : c < 18446744073709551616) :
    ∀ (d i : Nat) (o : List Ed) (w k : Int), i + d = v.length → o.length ≤ i → 0 ≤ k → -1 ≤ w → w < 4294967296 →
    (rdIL n u c k w (v.drop i) o = none ∧ Loops V18 15 q15 0 (rdSI nl b n vl v o u i c w k) .ret rdErr) ∨
    ∃ j o', rdIL n u c k w (v.drop i) o = some (v.drop j, o') ∧ i ≤ j ∧ j ≤ v.length ∧ o'.length ≤ j ∧ Loops V18 15 q15 0 (rdSI nl b n vl v o u i c w k) (.exit 2) (rdS nl b n vl v o' u j)
  | 0, i, o, w, k, h, ho, hk, hw, hw2 => by
    have hd : v.drop i = [] := List.drop_of_length_le (by omega)
    cases hkc : decide (k < c) with
    | true =>
      refine .inl ⟨?_, Loops.done (Goes.now fun rec H L => (rdI rec H L nl b n vl v _ o u i c w k).trans ((br_pos hkc).trans (br_pos (decide_eq_true (by omega))))) (by simp) (by kernel_rfl)⟩
      rw [hd]
      show (bif decide (k < c) then none else _) = none
      rw [hkc]
      rfl
    | false =>
      refine .inr ⟨i, o, ?_, Nat.le_refl _, by omega, ho, Loops.done (Goes.now fun rec H L => (rdI rec H L nl b n vl v _ o u i c w k).trans (br_neg hkc)) (by simp) (by kernel_rfl)⟩
      rw [hd]
      show (bif decide (k < c) then none else _) = _
      rw [hkc]
      rfl
  | d + 1, i, o, w, k, h, ho, hk, hw, hw2 => by
    have hd : v.drop i = nU v i :: v.drop (i + 1) := nth_drop (e := .int .u64) (by omega)
    have hx := nU_ok hvo i
    rw [hd]
    show ((bif decide (k < c) then (bif !nearO w (nU v i) || decide (w64u (nearV w (nU v i)) ≥ n) then none else rdIL n u c (k + 1) (nearV w (nU v i)) (v.drop (i + 1)) (o ++ [(w32 u, w32 (nearV w (nU v i)))])) else some (nU v i :: v.drop (i + 1), o)) = none ∧ _) ∨
      ∃ j o', (bif decide (k < c) then (bif !nearO w (nU v i) || decide (w64u (nearV w (nU v i)) ≥ n) then none else rdIL n u c (k + 1) (nearV w (nU v i)) (v.drop (i + 1)) (o ++ [(w32 u, w32 (nearV w (nU v i)))])) else some (nU v i :: v.drop (i + 1), o)) = some (v.drop j, o') ∧ _
    cases hkc : decide (k < c) with
    | false =>
      refine .inr ⟨i, o, by rw [hd]; rfl, Nat.le_refl _, by omega, ho, Loops.done (Goes.now fun rec H L => (rdI rec H L nl b n vl v _ o u i c w k).trans (br_neg hkc)) (by simp) (by kernel_rfl)⟩
    | true =>
      have hkc' := of_decide_eq_true hkc
      have e1 : IntKind.i64.wrap ((i : Int) + 1) = ((i + 1 : Nat) : Int) := w64_id (by omega) (by omega)
      have e2 : IntKind.u64.wrap (k + 1) = k + 1 := u64_id (by omega) (by omega)
      have hpre : (decide (-1 ≤ w) && (decide (w ≤ 4294967296) && decide (0 ≤ nU v i))) = true := by
        simp only [Bool.and_eq_true, decide_eq_true_eq]
        omega
      have hin : ∀ rec H L, (q15.at V18 15 0).way V18 15 (rdSI nl b n vl v o u i c w k) rec H L = br (!!nearO w (nU v i)) (br (decide (w64u (nearV w (nU v i)) ≥ n)) (H .ret rdErr) (H .normal (rdSI nl b n vl v (o ++ [(w32 u, w32 (nearV w (nU v i)))]) u (i + 1) c (nearV w (nU v i)) (k + 1)))) (H .ret rdErr) := fun rec H L => by
        refine (rdI rec H L nl b n vl v _ o u i c w k).trans ?_
        rw [br_pos hkc, br_neg (decide_eq_false (by omega)), br_pos (inR_yes (by omega) (by omega)), Int.toNat_natCast, e1, e2, by50']
        refine (br_pos hpre).trans ?_
        have hF : fits (o.length + [(IntKind.u32.wrap u, IntKind.u32.wrap (nearV w (nU v i)))].length) 8 = true := fits_small (by rw [List.length_singleton]; omega) (by decide)
        show br (!!nearO w (nU v i)) (br (decide (IntKind.u64.wrap (nearV w (nU v i)) ≥ n)) _ (br (fits (o.length + [(IntKind.u32.wrap u, IntKind.u32.wrap (nearV w (nU v i)))].length) 8) _ _)) _ = _
        rw [hF]
        unfold rdSI
        rw [← isNil_app]
        rfl
      cases hn : nearO w (nU v i) with
      | false => exact .inl ⟨rfl, Loops.done (Goes.now fun rec H L => (hin rec H L).trans (br_neg (by rw [hn]; rfl))) (by simp) (by kernel_rfl)⟩
      | true =>
        obtain ⟨hn1, hn2, hn3⟩ := near_bd hw hx.1 hn
        cases hg : decide (w64u (nearV w (nU v i)) ≥ n) with
        | true => exact .inl ⟨rfl, Loops.done (Goes.now fun rec H L => (hin rec H L).trans ((br_pos (by rw [hn]; rfl)).trans (br_pos hg))) (by simp) (by kernel_rfl)⟩
        | false =>
          have st : Goes V18 15 (q15.at V18 15 0) ((q15.at V18 15 0).way V18 15 (rdSI nl b n vl v o u i c w k)) .normal _ := Goes.now fun rec H L => (hin rec H L).trans ((br_pos (by rw [hn]; rfl)).trans (br_neg hg))
          rcases rdILoop (nl := nl) (b := b) (n := n) (vl := vl) (u := u) hv hvo hc d (i + 1) (o ++ [(w32 u, w32 (nearV w (nU v i)))]) (nearV w (nU v i)) (k + 1) (by omega) (by simp; omega) (by omega) (by omega) (by omega) with ⟨k1, k2⟩ | ⟨j, o', k1, k2, k3, k4, k5⟩
          · exact .inl ⟨k1, Loops.step st k2 (by kernel_rfl)⟩
          · exact .inr ⟨j, o', k1, by omega, k3, k4, Loops.step st k5 (by kernel_rfl)⟩
theorem rdOLoop {nl : Bool} {b : List Int} {n : Int} {vl : Bool} {v : List Int} (hv : v.length ≤ 100000) (hvo : ∀ x ∈ v, 0 ≤ x ∧ x < 18446744073709551616) :
    ∀ (f i : Nat) (o : List Ed) (u : Int), i ≤ v.length → v.length < i + f → o.length ≤ i → -1 ≤ u → u < 4294967296 →
    (rdOL n f u (v.drop i) o = none ∧ Loops V18 15 (fnPl V18 15) 0 (rdS nl b n vl v o u i) .ret rdErr) ∨
    ∃ o', rdOL n f u (v.drop i) o = some o' ∧ o'.length ≤ v.length ∧ Loops V18 15 (fnPl V18 15) 0 (rdS nl b n vl v o u i) (.exit 0) (mkSt 115 [(0, .s (bS nl b)), (8, oeS 256 (isNilL o') o')] [])
  | 0, i, o, u, h, hf, _, _, _ => absurd hf (by omega)
  | f + 1, i, o, u, h, hf, ho, hu, hu2 => by
    by_cases hi : i < v.length
    · have hd : v.drop i = nU v i :: v.drop (i + 1) := nth_drop (e := .int .u64) hi
      have hx := nU_ok hvo i
      have e1 : IntKind.i64.wrap ((i : Int) + 1) = ((i + 1 : Nat) : Int) := w64_id (by omega) (by omega)
      have e2 : IntKind.i64.wrap ((i : Int) + 2) = ((i + 2 : Nat) : Int) := w64_id (by omega) (by omega)
      have hpre : (decide (-1 ≤ u) && (decide (u ≤ 4294967296) && decide (0 ≤ nU v i))) = true := by
        simp only [Bool.and_eq_true, decide_eq_true_eq]
        omega
      have hin : ∀ rec H L, q15.way V18 15 (rdS nl b n vl v o u i) rec H L = br (!!nearO u (nU v i)) (br (decide (((i + 1 : Nat) : Int) ≥ (v.length : Int))) (H .ret rdErr) (br (inR ((i + 1 : Nat) : Int) v.length) (L 0 (rdSI nl b n vl v o (nearV u (nU v i)) (i + 2) (nU v (i + 1)) (nearV u (nU v i)) 0)) none)) (H .ret rdErr) := fun rec H L => by
        refine (rdRnd rec H L nl b n vl v _ o u i).trans ?_
        rw [br_pos (decide_eq_true (by omega)), br_pos (inR_yes (by omega) (by omega)), e1, e2, Int.toNat_natCast, Int.toNat_natCast]
        exact br_pos hpre
      rw [hd]
      show ((bif !nearO u (nU v i) then none else match v.drop (i + 1) with | [] => none | c :: r' => match rdIL n (nearV u (nU v i)) c 0 (nearV u (nU v i)) r' o with | none => none | some (l', o') => rdOL n f (nearV u (nU v i)) l' o') = none ∧ _) ∨
        ∃ o', (bif !nearO u (nU v i) then none else match v.drop (i + 1) with | [] => none | c :: r' => match rdIL n (nearV u (nU v i)) c 0 (nearV u (nU v i)) r' o with | none => none | some (l', o') => rdOL n f (nearV u (nU v i)) l' o') = some o' ∧ _
      cases hn : nearO u (nU v i) with
      | false => exact .inl ⟨rfl, Loops.done (Goes.now fun rec H L => (hin rec H L).trans (br_neg (by rw [hn]; rfl))) (by simp) (by kernel_rfl)⟩
      | true =>
        obtain ⟨hn1, hn2, hn3⟩ := near_bd hu hx.1 hn
        have hin2 := fun rec H L => (hin rec H L).trans (br_pos (by rw [hn]; rfl))
        by_cases hi1 : i + 1 < v.length
        · have hd1 : v.drop (i + 1) = nU v (i + 1) :: v.drop (i + 1 + 1) := nth_drop (e := .int .u64) hi1
          have hx1 := nU_ok hvo (i + 1)
          have hin3 : ∀ rec H L, q15.way V18 15 (rdS nl b n vl v o u i) rec H L = L 0 (rdSI nl b n vl v o (nearV u (nU v i)) (i + 2) (nU v (i + 1)) (nearV u (nU v i)) 0) := fun rec H L => (hin2 rec H L).trans ((br_neg (decide_eq_false (by omega))).trans (br_pos (inR_yes (by omega) (by omega))))
          rw [hd1]
          simp only [Bool.not_true, cond_false]
          rcases rdILoop (nl := nl) (b := b) (n := n) (vl := vl) (u := nearV u (nU v i)) hv hvo hx1.2 (v.length - (i + 2)) (i + 2) o (nearV u (nU v i)) 0 (by omega) (by omega) (by omega) (by omega) (by omega) with ⟨k1, k2⟩ | ⟨j, o', k1, k2, k3, k4, k5⟩
          · rw [k1]
            exact .inl ⟨rfl, Loops.done (Goes.of hin3 (Goes.loop k2 Goes.here (by kernel_rfl) (by kernel_rfl) rfl)) (by simp) (by kernel_rfl)⟩
          · rw [k1]
            have st : Goes V18 15 q15 (q15.way V18 15 (rdS nl b n vl v o u i)) .normal (rdS nl b n vl v o' (nearV u (nU v i)) j) := Goes.of hin3 (Goes.loop k5 (Goes.now fun rec H L => rdP rec H L nl b n vl v _ o' _ j) (by kernel_rfl) (by kernel_rfl) rfl)
            rcases rdOLoop (nl := nl) (b := b) (n := n) (vl := vl) hv hvo f j o' (nearV u (nU v i)) k3 (by omega) k4 (by omega) (by omega) with ⟨m1, m2⟩ | ⟨o2, m1, m2, m3⟩
            · exact .inl ⟨m1, Loops.step st m2 (by kernel_rfl)⟩
            · exact .inr ⟨o2, m1, m2, Loops.step st m3 (by kernel_rfl)⟩
        · rw [List.drop_of_length_le (by omega)]
          exact .inl ⟨rfl, Loops.done (Goes.now fun rec H L => (hin2 rec H L).trans (br_pos (decide_eq_true (by omega)))) (by simp) (by kernel_rfl)⟩
    · rw [List.drop_of_length_le (by omega)]
      exact .inr ⟨o, rfl, by omega, Loops.done (Goes.now fun rec H L => (rdRnd rec H L nl b n vl v _ o u i).trans (br_neg (decide_eq_false (by omega)))) (by simp) (by kernel_rfl)⟩
theorem takeR_val (m : Int) : ∀ (b : List Int) (i : Nat) (v : Int), 0 ≤ (takeR m b i v).1 ∧ (takeR m b i v).1 < 18446744073709551616
  | [], i, v => ⟨Int.le_refl 0, by show (0 : Int) < _; decide⟩
  | c :: r, i, v => by
    have ih := takeR_val m r (i + 1) (take7 v c i)
    unfold takeR
    cases ((decide (i = 9) && decide (c > 1)) || (decide (i > 0) && c == 0)) with
    | true => exact ⟨Int.le_refl 0, by show (0 : Int) < _; decide⟩
    | false =>
      cases decide (c ≥ 128) with
      | true => exact ih
      | false =>
        cases decide (take7 v c i > m) with
        | true => exact ⟨Int.le_refl 0, by show (0 : Int) < _; decide⟩
        | false => exact ⟨w64u_ge _, w64u_lt _⟩
theorem nbF_ok : ∀ (f : Nat) (b o o' : List Int), nbF f b o = some o' → (∀ x ∈ o, 0 ≤ x ∧ x < 18446744073709551616) → (∀ x ∈ o', 0 ≤ x ∧ x < 18446744073709551616) ∧ o'.length ≤ o.length + b.length
  | 0, b, o, o', h, ho => by cases h; exact ⟨ho, by omega⟩
  | f + 1, b, o, o', h, ho => by
    unfold nbF at h
    cases hn : isNilL b with
    | true => rw [hn] at h; cases h; exact ⟨ho, by omega⟩
    | false =>
      rw [hn] at h
      have hv := takeR_val 9223372036854775807 b 0 0
      change 0 ≤ (takeT 9223372036854775807 b).1 ∧ (takeT 9223372036854775807 b).1 < _ at hv
      have hone := takeR_one 9223372036854775807 b 0 0
      change (takeT 9223372036854775807 b).2.2 = 0 → 1 ≤ (takeT 9223372036854775807 b).2.1 ∧ _ at hone
      generalize takeT 9223372036854775807 b = t at h hv hone
      cases hc : (t.2.2 != 0) with
      | true => rw [hc] at h; cases h
      | false =>
        rw [hc] at h
        have h0 : t.2.2 = 0 := by simpa using hc
        obtain ⟨h1, h2⟩ := hone h0
        have := nbF_ok f (b.drop t.2.1.toNat) (o ++ [t.1]) o' h fun x hx => by
          rcases List.mem_append.1 hx with hx | hx
          · exact ho x hx
          · rw [List.mem_singleton.1 hx]; exact hv
        refine ⟨this.1, ?_⟩
        have h3 := this.2
        have h4 : 0 < b.length := List.length_pos_iff.mpr h2
        rw [List.length_append, List.length_singleton, List.length_drop] at h3
        omega
theorem rdIL_edB {n u c : Int} : ∀ (l : List Int) (k w : Int) (o : List Ed) (t : List Int × List Ed), rdIL n u c k w l o = some t → (∀ e ∈ o, edB e = true) → ∀ e ∈ t.2, edB e = true
  | [], k, w, o, t, h, ho => by
    have h : (bif decide (k < c) then none else some (([] : List Int), o)) = some t := h
    cases hk : decide (k < c) with
    | true => rw [hk] at h; cases h
    | false => rw [hk] at h; cases h; exact ho
  | x :: r, k, w, o, t, h, ho => by
    unfold rdIL at h
    cases hk : decide (k < c) with
    | false => rw [hk] at h; cases h; exact ho
    | true =>
      rw [hk] at h
      simp only [cond_true] at h
      cases hn : (!nearO w x || decide (w64u (nearV w x) ≥ n)) with
      | true => rw [hn] at h; cases h
      | false =>
        rw [hn] at h
        refine rdIL_edB r _ _ _ t h fun e he => ?_
        rcases List.mem_append.1 he with he | he
        · exact ho e he
        · rw [List.mem_singleton.1 he]
          exact edB_iff.2 ⟨w32_ge _, w32_lt _, w32_ge _, w32_lt _⟩
theorem rdOL_edB {n : Int} : ∀ (f : Nat) (u : Int) (l : List Int) (o o' : List Ed), rdOL n f u l o = some o' → (∀ e ∈ o, edB e = true) → ∀ e ∈ o', edB e = true
  | 0, _, _, _, _, h, _ => by cases h
  | f + 1, u, [], o, o', h, ho => by cases h; exact ho
  | f + 1, u, x :: r, o, o', h, ho => by
    unfold rdOL at h
    cases hn : (!nearO u x) with
    | true => rw [hn] at h; cases h
    | false =>
      rw [hn] at h
      cases r with
      | nil => cases h
      | cons c r' =>
        simp only [cond_false] at h
        split at h
        · cases h
        · rename_i l' o1 hr
          exact rdOL_edB f _ _ _ _ h (rdIL_edB _ _ _ _ _ hr ho)
theorem rdK (args : List S1) (r : Res) (h : (rdH args).den = some r) : ∃ n, call V18 n 15 args = some r := by
  unfold rdH at h
  split at h
  · rename_i nl b n
    obtain ⟨hx, h⟩ := tree_yes h
    have hx := of_decide_eq_true hx
    obtain rfl := ok_some h
    have hin := fun rec H L => (rdIn rec H L nl b n).trans (br_pos (decide_eq_true (by omega)))
    unfold rdE rdL rdT
    have hnb := nbF_ok (b.length + 1) b []
    change ∀ o', nbT b = some o' → _ at hnb
    cases hq : nbT b with
    | none =>
      rw [hq] at hin
      exact Goes.call (Goes.now fun rec H L => (hin rec H L).trans (br_neg rfl)) (by kernel_rfl) (by kernel_rfl)
    | some v =>
      rw [hq] at hin
      have hin1 := fun rec H L => (hin rec H L).trans (br_pos rfl)
      obtain ⟨hvo, hvl⟩ := hnb v hq (fun x hx => by simp at hx)
      simp at hvl
      cases v with
      | nil => exact Goes.call (Goes.now fun rec H L => (hin1 rec H L).trans (br_pos rfl)) (by kernel_rfl) (by kernel_rfl)
      | cons x r =>
        have hin2 : ∀ rec H L, fnWay V18 15 [bS nl b, wS .u64 n] rec H L = L 0 (rdS nl b n false (x :: r) [] (-1) 1) := fun rec H L => (hin1 rec H L).trans (br_neg rfl)
        have hlen : (x :: r).length ≤ 2000 := by simp at hvl ⊢; omega
        have lp := rdOLoop (nl := nl) (b := b) (n := n) (vl := false) (v := x :: r) (by omega) hvo (r.length + 1) 1 [] (-1) (by rw [List.length_cons]; omega) (by rw [List.length_cons]; omega) (by simp) (by omega) (by omega)
        change (rdOL n (r.length + 1) (-1) r [] = none ∧ _) ∨ ∃ o', rdOL n (r.length + 1) (-1) r [] = some o' ∧ _ at lp
        have hed := rdOL_edB (n := n) (r.length + 1) (-1) r []
        rcases lp with ⟨k1, k2⟩ | ⟨l, k1, k2, k3⟩
        · simp only [k1]
          exact Goes.call (Goes.of hin2 (Goes.loop k2 Goes.here (by kernel_rfl) (by kernel_rfl) rfl)) (by kernel_rfl) (by kernel_rfl)
        · have hedl := hed l k1 (fun e he => by simp at he)
          simp only [k1]
          have hpre : (decide (l.length ≤ 2000) && l.all edB) = true := by
            simp only [Bool.and_eq_true, decide_eq_true_eq, List.all_eq_true]
            exact ⟨by omega, hedl⟩
          have hout := fun rec H L => (rdOut rec H L nl b (isNilL l) l).trans (br_pos hpre)
          have hE : apE l = bif (apT l).isSome then 0 else 23 := rfl
          cases ha : apT l with
          | none =>
            rw [ha] at hE hout
            simp only
            exact Goes.call (Goes.of hin2 (Goes.loop k3 (Goes.now fun rec H L => (hout rec H L).trans (by rw [hE]; rfl)) (by kernel_rfl) (by kernel_rfl) rfl)) (by kernel_rfl) (by kernel_rfl)
          | some b' =>
            rw [ha] at hE hout
            simp only
            cases hc : ((baOf b').toList == (baOf b).toList) with
            | true => exact Goes.call (e := .ret) (st' := mkSt 115 [(4, oeS 256 (isNilL l) l), (5, vS (.int .i64 0))] []) (Goes.of hin2 (Goes.loop k3 (Goes.now fun rec H L => (hout rec H L).trans (by rw [hE]; show br (!((baOf b').toList == (baOf b).toList)) _ _ = _; rw [hc]; rfl)) (by kernel_rfl) (by kernel_rfl) rfl)) (by kernel_rfl) (by kernel_rfl)
            | false => exact Goes.call (Goes.of hin2 (Goes.loop k3 (Goes.now fun rec H L => (hout rec H L).trans (by rw [hE]; show br (!((baOf b').toList == (baOf b).toList)) _ _ = _; rw [hc]; rfl)) (by kernel_rfl) (by kernel_rfl) rfl)) (by kernel_rfl) (by kernel_rfl)
  · exact leaf_none h
theorem chgK (args : List S1) (r : Res) (h : (chgH args).den = some r) : ∃ n, call V18 n 13 args = some r := by
  unfold chgH at h
  split at h
  · rename_i nl b how a x ml m
    obtain ⟨hx, h⟩ := tree_yes h
    simp only [Bool.and_eq_true, decide_eq_true_eq] at hx
    obtain ⟨hb, hm, hh, ha, ha2⟩ := hx
    obtain rfl := ok_some h
    have hin := fun rec H L => (chgIn rec H L nl b how a x ml m).trans (br_pos (by rw [by5'']; exact fits_small (by omega) (by decide)))
    rw [tmod_id hh] at hin
    cases b with
    | nil =>
      exact Goes.call (e := .ret) (st' := mkSt 61 [(10, oS 608 (isNilL m) m)] []) (Goes.now fun rec H L => (hin rec H L).trans ((br_pos rfl).trans (br_pos (by rw [by5'']; exact fits_small (by omega) (by decide))))) (by kernel_rfl) (by kernel_rfl)
    | cons y t =>
      have hin1 := fun rec H L => (hin rec H L).trans ((br_neg (beq_eq_false_iff_ne.2 (show ¬ ((y :: t).length : Int) = 0 by rw [List.length_cons]; omega))).trans (br_neg (decide_eq_false (show ¬ ((y :: t).length : Int) = 0 by rw [List.length_cons]; omega))))
      have hl0 : 0 < (y :: t).length := by simp
      have hnil : isNilL (y :: t) = false := rfl
      generalize y :: t = b at *
      obtain ⟨k, hk⟩ : ∃ k : Nat, a % (b.length : Int) = k := ⟨(a % (b.length : Int)).toNat, by have := Int.emod_nonneg a (show (b.length : Int) ≠ 0 by omega); omega⟩
      have hk2 : k < b.length := by
        have := Int.emod_lt_of_pos a (show (0 : Int) < b.length by omega)
        omega
      have ek : (IntKind.i64.wrap a).tmod (b.length : Int) = (k : Int) := by rw [w64_id (by omega) (by omega), tmod_id ha, hk]
      have e1 : IntKind.i64.wrap ((k : Int) + 1) = ((k + 1 : Nat) : Int) := w64_id (by omega) (by omega)
      have q1 : inR (k : Int) b.length = true := inR_yes (by omega) (by omega)
      have q2 : leR (k : Int) b.length = true := leR_yes (by omega) (by omega)
      have q3 : leR ((k + 1 : Nat) : Int) b.length = true := leR_yes (by omega) (by omega)
      have f1 : fits (List.take k b).length 1 = true := fits_small (by rw [List.length_take]; omega) (by decide)
      have f2 : fits ((List.take k b).length + m.length) 1 = true := fits_small (by rw [List.length_take]; omega) (by decide)
      have f3 : fits ((List.take k b ++ m).length + (List.drop k b).length) 1 = true := fits_small (by rw [List.length_append, List.length_take, List.length_drop]; omega) (by decide)
      have f4 : fits ((List.take k b).length + (List.drop (k + 1) b).length) 1 = true := fits_small (by rw [List.length_take, List.length_drop]; omega) (by decide)
      rw [ek, e1, by5'', Int.toNat_natCast, Int.toNat_natCast, q1, q2, q3, f1, f2, f3, f4] at hin1
      unfold chgN chgR
      rw [hnil, hk, Int.toNat_natCast]
      simp only [cond_false, Bool.not_false, Bool.true_and]
      cases c0 : (how % 5 == 0) with
      | true =>
        have c3 : (how % 5 == 3) = false := by rw [eq_of_beq c0]; rfl
        rw [c3]
        have hne : isNilL (b.set k x) = false := by
          cases hs : b.set k x with
          | nil => have := congrArg List.length hs; rw [List.length_set, List.length_nil] at this; omega
          | cons _ _ => rfl
        simp only [Bool.true_or, cond_true, cond_false]
        rw [hne]
        exact Goes.call (e := .ret) (st' := mkSt 61 [(10, oS 352 false (b.set k x))] []) (Goes.now fun rec H L => (hin1 rec H L).trans (by rw [c0, hnil]; rfl)) (by kernel_rfl) (by kernel_rfl)
      | false =>
        cases c1 : (how % 5 == 1) with
        | true =>
          have c3 : (how % 5 == 3) = false := by rw [eq_of_beq c1]; rfl
          rw [c3]
          have hne : isNilL (b.set k x) = false := by
            cases hs : b.set k x with
            | nil => have := congrArg List.length hs; rw [List.length_set, List.length_nil] at this; omega
            | cons _ _ => rfl
          simp only [Bool.or_true, cond_true, cond_false]
          rw [hne]
          exact Goes.call (e := .ret) (st' := mkSt 61 [(10, oS 352 false (b.set k x))] []) (Goes.now fun rec H L => (hin1 rec H L).trans (by rw [c0, c1, hnil]; rfl)) (by kernel_rfl) (by kernel_rfl)
        | false =>
          cases c2 : (how % 5 == 2) with
          | true =>
            have c3 : (how % 5 == 3) = false := by rw [eq_of_beq c2]; rfl
            rw [c3]
            simp only [Bool.or_false, cond_true, cond_false]
            exact Goes.call (e := .ret) (st' := mkSt 61 [(10, oS 1728 (isNilL (List.take k b ++ m ++ List.drop k b)) (List.take k b ++ m ++ List.drop k b))] []) (Goes.now fun rec H L => (hin1 rec H L).trans (by rw [c0, c1, c2, isNil_app (List.take k b) m, isNil_app (List.take k b ++ m)]; rfl)) (by kernel_rfl) (by kernel_rfl)
          | false =>
            cases c3 : (how % 5 == 3) with
            | true =>
              simp only [Bool.or_false, cond_true, cond_false]
              exact Goes.call (e := .ret) (st' := mkSt 61 [(10, .s (.c (⟨.own 352 (some 0), .sl (.int .u8) false (List.take k b)⟩)))] []) (Goes.now fun rec H L => (hin1 rec H L).trans (by rw [c0, c1, c2, c3, hnil]; rfl)) (by kernel_rfl) (by kernel_rfl)
            | false =>
              simp only [Bool.or_false, cond_false]
              exact Goes.call (e := .ret) (st' := mkSt 61 [(10, oS 352 (isNilL (List.take k b ++ List.drop (k + 1) b)) (List.take k b ++ List.drop (k + 1) b))] []) (Goes.now fun rec H L => (hin1 rec H L).trans (by rw [c0, c1, c2, c3, isNil_app (List.take k b) (List.drop (k + 1) b)]; rfl)) (by kernel_rfl) (by kernel_rfl)
  · exact leaf_none h
theorem sok19 : SOK l19 :=
  stubs_cons (x := (15, co [cB] (plain rdH))) (known_co [cB] (known_plain (V := V18) mix (sok18 _ rfl rfl) rdK)) <|
  stubs_cons (x := (13, co [cB, [], [], [], cB] (plain chgH))) (known_co [cB, [], [], [], cB] (known_plain (V := V18) mix (sok18 _ rfl rfl) chgK)) sok18
end Go.Proofs.Ythiaaaedfidnjaa.Aj
