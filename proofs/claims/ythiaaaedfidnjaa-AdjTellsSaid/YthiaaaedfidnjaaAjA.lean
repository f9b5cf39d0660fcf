/- What the functions come to, by the evaluator. Conditions: none; checked here. -/
import Derived.Test.YthiaaaedfidnjaaAmD
import Derived.Test.YthiaaaedfidnjaaProg
import Derived.ProofKit
set_option linter.unusedVariables false
set_option linter.unusedSimpArgs false

namespace Go.Proofs.Ythiaaaedfidnjaa.Aj
open Go Go.Proofs.Ythiaaaedfidnjaa.Am

/-! what adj's functions come to, in plain words -/
abbrev eE : CL := (CL.int IntKind.u32).cons (CL.int IntKind.u32)
abbrev Ed := Int × Int
abbrev eS (nl : Bool) (xs : List Ed) : S1 := .c ⟨.ro, .sl eE nl xs⟩
def cmpI (a b : Int) : Int := bif decide (a < b) then -1 else bif decide (a > b) then 1 else 0
def orL : List Int → Int
  | [] => 0
  | x :: r => bif x != 0 then x else orL r
def cmpE (a b : Ed) : Int := orL [cmpI a.1 b.1, cmpI a.2 b.2]
def lessE (a b : Ed) : Bool := decide (cmpE a b < 0)
def risB : List Ed → Bool
  | a :: b :: r => lessE a b && risB (b :: r)
  | _ => true
def take7 (v c : Int) (i : Int) : Int := w64u (BitVec.ofInt IntKind.u64.bits v ||| BitVec.ofInt IntKind.u64.bits (w64u (w64u (w8 (BitVec.ofInt IntKind.u8.bits c &&& BitVec.ofInt IntKind.u8.bits 127).toNat) * 2 ^ min (IntKind.i64.wrap (7 * i)).toNat IntKind.u64.bits))).toNat
/-- A number out of bytes: the number, its bytes, the error. -/
def takeR (m : Int) : List Int → Nat → Int → Int × Int × Int
  | [], _, _ => (0, 0, 20)
  | c :: r, i, v => bif (decide (i = 9) && decide (c > 1)) || (decide (i > 0) && c == 0) then (0, 0, 21) else
    bif decide (c ≥ 128) then takeR m r (i + 1) (take7 v c i) else
    bif decide (take7 v c i > m) then (0, 0, 22) else (take7 v c i, (i : Int) + 1, 0)
def takeT (m : Int) (xs : List Int) : Int × Int × Int := takeR m xs 0 0
def takeH : List S1 → Tree
  | [.c ⟨.ro, .sl (.int .u8) _ xs⟩, .c ⟨.ro, .v (.int .u64 m)⟩] => .br (decide (xs.length ≤ 1000000)) (ok (.tup [wS .u64 (takeT m xs).1, wS .i64 (takeT m xs).2.1, wS .i64 (takeT m xs).2.2])) no
  | _ => no
/-- What the reader reads: the number; what it leaves. -/
def numT (b : List Int) : Int × Int × Int := takeT 4294967295 b
def numB (b : List Int) : List Int := b.drop (numT b).2.1.toNat
def numO (b : List Int) (o : Bool) : Bool := bif o then (numT b).2.2 == 0 else false
abbrev rdB (nl : Bool) (b : List Int) (o : Bool) : List C := [⟨.ro, .sl (.int .u8) nl b⟩, vC (.bool o)]
def numH : Stub := fun xs0 bx => match xs0, bx with
  | [.c ⟨.ro, .ptr 0 0⟩], [[⟨.ro, .sl (.int .u8) nl b⟩, ⟨.ro, .v (.bool o)⟩]] => .br (decide (b.length ≤ 1000000)) (okB (vS (.int .u64 (numT b).1)) [rdB nl (numB b) (numO b o)]) no
  | _, _ => no
def eqH : List S1 → Tree
  | [.c ⟨.ro, .sl (.int .u8) _ xs⟩, .c ⟨.ro, .sl (.int .u8) _ ys⟩] => ok (vS (.bool ((baOf xs).toList == (baOf ys).toList)))
  | _ => no
def nanH : List S1 → Tree
  | [.c ⟨.ro, .v (.int .u32 _)⟩] => ok (vS (.bool false))
  | _ => no
def cmpH : List S1 → Tree
  | [.c ⟨.ro, .v (.int .u32 a)⟩, .c ⟨.ro, .v (.int .u32 b)⟩] => ok (vS (.int .i64 (cmpI a b)))
  | _ => no
def orH : List S1 → Tree
  | [.c ⟨.ro, .sl (.int .i64) _ xs⟩] => .br (decide (xs.length ≤ 1000000)) (ok (vS (.int .i64 (orL xs)))) no
  | _ => no
def cmpEH : List S1 → Tree
  | [.agg [⟨.ro, .v (.int .u32 a)⟩, ⟨.ro, .v (.int .u32 b)⟩], .agg [⟨.ro, .v (.int .u32 c)⟩, ⟨.ro, .v (.int .u32 d)⟩]] => ok (vS (.int .i64 (cmpE (a, b) (c, d))))
  | _ => no
def lessH : List S1 → Tree
  | [.agg [⟨.ro, .v (.int .u32 a)⟩, ⟨.ro, .v (.int .u32 b)⟩], .agg [⟨.ro, .v (.int .u32 c)⟩, ⟨.ro, .v (.int .u32 d)⟩]] => ok (vS (.bool (lessE (a, b) (c, d))))
  | _ => no
def risH : List S1 → Tree
  | [.c ⟨.ro, .sl (.cons (.int .u32) (.int .u32)) _ xs⟩] => .br (decide (xs.length ≤ 1000000)) (ok (vS (.bool (risB xs)))) no
  | [.c ⟨.ro, .nilv⟩] => ok (vS (.bool true))
  | _ => no
def shr7 (v : Int) : Int := v.fdiv (2 ^ min (Int.toNat 7) IntKind.u64.bits)
def more (v : Int) : Int := w8 (BitVec.ofInt IntKind.u8.bits (w8 v) ||| BitVec.ofInt IntKind.u8.bits 128).toNat
/-- A number's bytes. -/
def putF : Nat → Int → List Int
  | 0, v => [w8 v]
  | n + 1, v => bif decide (v ≥ 128) then more v :: putF n (shr7 v) else [w8 v]
def putV (v : Int) : List Int := putF 9 v
def putVs : List Int → List Int
  | [] => []
  | x :: r => putV x ++ putVs r
def vpH : List S1 → Tree
  | [.c ⟨.ro, .sl (.int .u64) _ xs⟩] => .br (!isNilL xs && decide (xs.length ≤ 1000) && xs.all fun x => decide (x < 18446744073709551616)) (ok (.s (.c ⟨.own 832 none, .sl (.int .u8) false (putVs xs)⟩))) no
  | _ => no
/-- The edges of one vertex. -/
def edL (last : Int) (b : List Int) : Int := w64u (last + w64u ((numT b).1 + 1))
def edG (n last : Int) (b : List Int) (o : Bool) : Bool := bif numO b o then (bif decide (edL last b < n) then decide (edL last b ≤ 4294967295) else false) else false
def edI (n u : Int) : Nat → Int → Int → List Int → Bool → List Ed → List Ed × List Int × Bool
  | 0, _, _, b, o, out => (out, b, o)
  | f + 1, last, k, b, o, out => bif decide (k > 0) && o then
      edI n u f (edL last b) (w64u (k - 1)) (numB b) (edG n last b o) (bif edG n last b o then out ++ [(w32 u, w32 (edL last b))] else out)
    else (out, b, o)
def edO (n : Int) : Nat → Int → Int → List Int → Bool → List Ed → List Ed × List Int × Bool
  | 0, _, _, b, o, out => (out, b, o)
  | f + 1, nx, many, b, o, out => bif decide (many > 0) && o then
      (fun (t : List Ed × List Int × Bool) => edO n f (w64u (w64u (nx + (numT b).1) + 1)) (w64u (many - 1)) t.2.1 t.2.2 t.1)
        (edI n (w64u (nx + (numT b).1)) ((numB (numB b)).length + 2) (w64u (nx + (numT b).1)) (numT (numB b)).1 (numB (numB b)) (numO (numB b) (numO b o)) out)
    else (out, b, o)
def edT (n : Int) (b : List Int) (o : Bool) : List Ed × List Int × Bool := edO n ((numB b).length + 2) 0 (numT b).1 (numB b) (numO b o) []
def edH : Stub := fun xs0 bx => match xs0, bx with
  | [.c ⟨.ro, .ptr 0 0⟩, .c ⟨.ro, .v (.int .u64 n)⟩], [[⟨.ro, .sl (.int .u8) nl b⟩, ⟨.ro, .v (.bool o)⟩]] => .br (decide (b.length ≤ 3000))
      (.br (isNilL (edT n b o).1) (okB (.s (.c ⟨.ro, .nilv⟩)) [rdB nl (edT n b o).2.1 (edT n b o).2.2]) (okB (.s (.c ⟨.own 2368 none, .sl eE false (edT n b o).1⟩)) [rdB nl (edT n b o).2.1 (edT n b o).2.2])) no
  | _, _ => no
def l0 : Stubs := []
def l1 : Stubs := [(44, plain nanH), (41, plain takeH), (29, plain eqH), (42, plain orH)]
def l2 : Stubs := (43, plain cmpH) :: (37, numH) :: l1
def l3 : Stubs := (40, plain cmpEH) :: l2
def l4 : Stubs := (36, plain lessH) :: l3
def l5 : Stubs := (26, plain risH) :: l4
def l6 : Stubs := (27, plain vpH) :: l5
def l7 : Stubs := (28, edH) :: l6
end Go.Proofs.Ythiaaaedfidnjaa.Aj

namespace Go.Proofs.Ythiaaaedfidnjaa.Aj
open Go Go.Proofs.Ythiaaaedfidnjaa.Am
/-! edges' bytes, and edges out of bytes -/
/-- A row: the gaps of one vertex's neighbours, how many, and the edges behind. -/
def gap (last : Int) (e : Ed) : Int := w64u (w64u (w64u e.2 - last) - 1)
def rowI (u : Int) : List Ed → Int → List Int → Nat → Option (List Int × Nat × List Ed)
  | [], _, r, c => some (r, c, [])
  | e :: l, last, r, c => bif e.1 == u then (bif decide (w64u e.2 ≤ last) then none else rowI u l (w64u e.2) (r ++ putVs [gap last e]) (c + 1)) else some (r, c, e :: l)
def putO : Nat → List Ed → Int → Int → List Int → Option (Int × List Int)
  | 0, _, _, _, _ => none
  | _ + 1, [], _, many, o => some (many, o)
  | f + 1, e :: l, nx, many, o => match rowI e.1 (e :: l) (w64u e.1) [] 0 with
    | none => none
    | some (r, c, l') => putO f l' (w64u (w64u e.1 + 1)) (w64u (many + 1)) (o ++ putVs [w64u (w64u e.1 - nx), w64u (c : Int)] ++ r)
def putT (l : List Ed) : Option (List Int) := bif risB l then (match putO (l.length + 1) l 0 0 [] with | none => none | some (m, o) => some (putVs [m] ++ o)) else none
def putB (l : List Ed) : List Int := (putT l).getD []
def putOk (l : List Ed) : Bool := (putT l).isSome
def putE (l : List Ed) : Int := bif putOk l then 0 else 23
def putR (l : List Ed) : S := .tup [.c ⟨.own 64 none, .sl (.int .u8) (!putOk l) (putB l)⟩, wS .i64 (putE l)]
def putH : List S1 → Tree
  | [.c ⟨.ro, .sl (.cons (.int .u32) (.int .u32)) _ xs⟩] => .br (decide (xs.length ≤ 2000)) (ok (putR xs)) no
  | [.c ⟨.ro, .nilv⟩] => ok (putR [])
  | _ => no
def l8 : Stubs := (12, plain putH) :: l7
def readOk (n : Int) (b : List Int) : Bool := (edT n b true).2.2 && ((putT (edT n b true).1).isSome && (baOf (putB (edT n b true).1)).toList == (baOf b).toList)
def readL (n : Int) (b : List Int) : List Ed := bif readOk n b then (edT n b true).1 else []
def readE (n : Int) (b : List Int) : Int := bif readOk n b then 0 else 21
def readR (n : Int) (b : List Int) : S := .tup [.c ⟨.own 128 none, .sl eE (isNilL (readL n b)) (readL n b)⟩, wS .i64 (readE n b)]
def readH : List S1 → Tree
  | [.c ⟨.ro, .sl (.int .u8) _ b⟩, .c ⟨.ro, .v (.int .u64 n)⟩] => .br (decide (b.length ≤ 3000)) (.br (decide ((edT n b true).1.length ≤ 2000)) (ok (readR n b)) no) no
  | _ => no
def sameE : List Ed → List Ed → Bool
  | [], [] => true
  | a :: l, b :: r => (a.1 == b.1 && (a.2 == b.2 && true)) && sameE l r
  | _, _ => false
def sameH : List S1 → Tree
  | [.c ⟨.ro, .sl (.cons (.int .u32) (.int .u32)) _ xs⟩, .c ⟨.ro, .sl (.cons (.int .u32) (.int .u32)) _ ys⟩] => .br (decide (xs.length ≤ 1000000)) (ok (vS (.bool (sameE xs ys)))) no
  | [.c ⟨.ro, .nilv⟩, .c ⟨.ro, .sl (.cons (.int .u32) (.int .u32)) _ ys⟩] => ok (vS (.bool (sameE [] ys)))
  | [.c ⟨.ro, .sl (.cons (.int .u32) (.int .u32)) _ xs⟩, .c ⟨.ro, .nilv⟩] => ok (vS (.bool (sameE xs [])))
  | [.c ⟨.ro, .nilv⟩, .c ⟨.ro, .nilv⟩] => ok (vS (.bool true))
  | _ => no
def l9 : Stubs := (14, plain readH) :: (16, plain sameH) :: l8
end Go.Proofs.Ythiaaaedfidnjaa.Aj

namespace Go.Proofs.Ythiaaaedfidnjaa.Aj
open Go Go.Proofs.Ythiaaaedfidnjaa.Am
/-! the reference's edges, events, histories, in plain words -/
abbrev vE : CL := .cons (.int .i64) (.cons eE .bool)
abbrev Ev := Int × Ed × Bool
def lessR (a b : Ed) : Bool := decide (a.1 < b.1) || (a.1 == b.1 && decide (a.2 < b.2))
def eqE (x e : Ed) : Bool := x.1 == e.1 && (x.2 == e.2 && true)
def befR (a b : Ev) : Bool := decide (a.1 < b.1) || (a.1 == b.1 && lessR a.2.1 b.2.1)
def risR : List Ed → Bool
  | a :: b :: r => lessR a b && risR (b :: r)
  | _ => true
def findF (e : Ed) : List Ed → Int → Int
  | [], _ => -1
  | x :: r, i => bif eqE x e then i else findF e r (i + 1)
def findR (l : List Ed) (e : Ed) : Int := findF e l 0
abbrev edA (a b : Int) : S1 := .agg [vC (.int .u32 a), vC (.int .u32 b)]
abbrev evA (e : Ev) : S1 := .agg [vC (.int .i64 e.1), vC (.int .u32 e.2.1.1), vC (.int .u32 e.2.1.2), vC (.bool e.2.2)]
abbrev vS1 (nl : Bool) (xs : List Ev) : S1 := .c ⟨.ro, .sl vE nl xs⟩
def vtT (k : Int) : Int := nth (.int .u64) [8, 5, 2, 4294967296, 300, 12, 1048576, 3] (k.tmod 8).toNat
def vtH : List S1 → Tree
  | [.c ⟨.ro, .v (.int .u8 k)⟩] => .br (decide (0 ≤ k)) (ok (vS (.int .u64 (vtT k)))) no
  | _ => no
def few (n : Int) : Int := bif decide (9 < n) then 9 else n
def edgU (a n : Int) : Int := bif decide (a > 230) then n - 1 - a % few n else a % few n
def edgV (b n : Int) : Int := bif decide (b > 240) then n - 1 - b % few n else b % few n
def edgO (a b n : Int) : Bool := !(edgU a n == edgV b n)
def edgA (a b n : Int) : Int := bif edgO a b n then (bif decide (edgV b n < edgU a n) then edgV b n else edgU a n) else 0
def edgB (a b n : Int) : Int := bif edgO a b n then (bif decide (edgV b n > edgU a n) then edgV b n else edgU a n) else 0
def edgH : List S1 → Tree
  | [.c ⟨.ro, .v (.int .u8 a)⟩, .c ⟨.ro, .v (.int .u8 b)⟩, .c ⟨.ro, .v (.int .u64 n)⟩] => .br (decide (0 ≤ a) && (decide (0 ≤ b) && (decide (a < 256) && (decide (b < 256) && (decide (1 ≤ n) && decide (n ≤ 4294967296)))))) (ok (.tup [edA (edgA a b n) (edgB a b n), .c (vC (.bool (edgO a b n)))])) no
  | _ => no
def lessRH : List S1 → Tree
  | [.agg [⟨.ro, .v (.int .u32 a)⟩, ⟨.ro, .v (.int .u32 b)⟩], .agg [⟨.ro, .v (.int .u32 c)⟩, ⟨.ro, .v (.int .u32 d)⟩]] => ok (vS (.bool (lessR (a, b) (c, d))))
  | _ => no
def rightR (e : Ed) (n : Int) : Bool := decide (e.1 < e.2) && decide (w64u e.2 < n)
def rightH : List S1 → Tree
  | [.agg [⟨.ro, .v (.int .u32 a)⟩, ⟨.ro, .v (.int .u32 b)⟩], .c ⟨.ro, .v (.int .u64 n)⟩] => ok (vS (.bool (rightR (a, b) n)))
  | _ => no
def findH : List S1 → Tree
  | [.c ⟨.ro, .sl (.cons (.int .u32) (.int .u32)) _ xs⟩, .agg [⟨.ro, .v (.int .u32 a)⟩, ⟨.ro, .v (.int .u32 b)⟩]] => .br (decide (xs.length ≤ 1000000)) (ok (vS (.int .i64 (findR xs (a, b))))) no
  | _ => no
def risRH : List S1 → Tree
  | [.c ⟨.ro, .sl (.cons (.int .u32) (.int .u32)) _ xs⟩] => .br (decide (xs.length ≤ 1000000)) (ok (vS (.bool (risR xs)))) no
  | _ => no
def befH : List S1 → Tree
  | [.agg [⟨.ro, .v (.int .i64 t)⟩, ⟨.ro, .v (.int .u32 a)⟩, ⟨.ro, .v (.int .u32 b)⟩, ⟨.ro, .v (.bool x)⟩], .agg [⟨.ro, .v (.int .i64 t')⟩, ⟨.ro, .v (.int .u32 c)⟩, ⟨.ro, .v (.int .u32 d)⟩, ⟨.ro, .v (.bool y)⟩]] => ok (vS (.bool (befR (t, (a, b), x) (t', (c, d), y))))
  | _ => no
def hasR (l : List Ed) (e : Ed) : Bool := decide (findR l e ≥ 0)
def hasH : List S1 → Tree
  | [.c ⟨.ro, .sl (.cons (.int .u32) (.int .u32)) _ xs⟩, .agg [⟨.ro, .v (.int .u32 a)⟩, ⟨.ro, .v (.int .u32 b)⟩]] => .br (decide (xs.length ≤ 1000000)) (ok (vS (.bool (hasR xs (a, b))))) no
  | _ => no
abbrev cE : List (Option CL) := [some eE]
abbrev cV : List (Option CL) := [some vE]
def l11 : Stubs := (17, plain vtH) :: (24, plain lessRH) :: (39, plain rightH) :: (33, co [cE] (plain findH)) :: (18, plain edgH) :: []
def l12 : Stubs := (32, plain befH) :: (34, co [cE] (plain risRH)) :: (20, co [cE] (plain hasH)) :: l11
end Go.Proofs.Ythiaaaedfidnjaa.Aj

namespace Go.Proofs.Ythiaaaedfidnjaa.Aj
open Go Go.Proofs.Ythiaaaedfidnjaa.Am
/-! the reference's inserts, turns, counts -/
abbrev nV (xs : List Ev) (i : Nat) : Ev := nth vE xs i
def insP (xs : List Ev) (e : Ev) : Nat → Nat
  | 0 => 0
  | k + 1 => bif befR e (nV xs k) then insP xs e k else k + 1
def insK (xs : List Ev) (e : Ev) : Nat := insP xs e xs.length
def sameAt (xs : List Ev) (e : Ev) : Nat → Bool
  | 0 => false
  | j + 1 => (nV xs j).1 == e.1 && eqE (nV xs j).2.1 e.2.1
def insSame (xs : List Ev) (e : Ev) : Bool := sameAt xs e (insK xs e)
def insR (xs : List Ev) (e : Ev) : List Ev := bif insSame xs e then xs else xs.take (insK xs e) ++ [e] ++ xs.drop (insK xs e)
def insH : List S1 → Tree
  | [.c ⟨.ro, .sl (.cons (.int .i64) (.cons (.cons (.int .u32) (.int .u32)) .bool)) nl xs⟩, .agg [⟨.ro, .v (.int .i64 t)⟩, ⟨.ro, .v (.int .u32 a)⟩, ⟨.ro, .v (.int .u32 b)⟩, ⟨.ro, .v (.bool x)⟩]] =>
    .br (decide (xs.length ≤ 1000000)) (ok (.s (.c ⟨.ro, .sl vE (bif insSame xs (t, (a, b), x) then nl else false) (insR xs (t, (a, b), x))⟩))) no
  | _ => no
def cntR (e : Ed) : List Ed → Nat
  | [] => 0
  | x :: r => bif lessR x e then cntR e r + 1 else 0
def turnR (l : List Ed) (e : Ev) : Option (List Ed) := bif risR l && !(e.2.2 == hasR l e.2.1) then
    some (bif e.2.2 then l.take (cntR e.2.1 l) ++ [e.2.1] ++ l.drop (cntR e.2.1 l) else l.take (findR l e.2.1).toNat ++ l.drop ((findR l e.2.1).toNat + 1)) else none
def turnL (l : List Ed) (e : Ev) : List Ed := (turnR l e).getD []
def turnO (l : List Ed) (e : Ev) : Bool := (turnR l e).isSome
def turnH : List S1 → Tree
  | [.c ⟨.ro, .sl (.cons (.int .u32) (.int .u32)) _ xs⟩, .agg [⟨.ro, .v (.int .i64 t)⟩, ⟨.ro, .v (.int .u32 a)⟩, ⟨.ro, .v (.int .u32 b)⟩, ⟨.ro, .v (.bool x)⟩]] =>
    .br (decide (xs.length ≤ 1000000)) (ok (.tup [eS (isNilL (turnL xs (t, (a, b), x))) (turnL xs (t, (a, b), x)), .c (vC (.bool (turnO xs (t, (a, b), x))))])) no
  | _ => no
def uptoR (t : Int) : List Ev → Nat
  | [] => 0
  | x :: r => bif decide (x.1 ≤ t) then uptoR t r + 1 else 0
def uptoH : List S1 → Tree
  | [.agg [⟨.ro, .v (.int .u64 n)⟩, ⟨.ro, .sl (.cons (.int .i64) (.cons (.cons (.int .u32) (.int .u32)) .bool)) nl xs⟩], .c ⟨.ro, .v (.int .i64 t)⟩] =>
    .br (decide (xs.length ≤ 1000000)) (ok (vS (.int .i64 (uptoR t xs : Nat)))) no
  | _ => no
abbrev cH : List (Option CL) := [none, some vE]
def l13 : Stubs := (19, co [cV] (plain insH)) :: (21, co [cE] (plain turnH)) :: (23, co [cH] (plain uptoH)) :: l12
end Go.Proofs.Ythiaaaedfidnjaa.Aj

namespace Go.Proofs.Ythiaaaedfidnjaa.Aj
open Go Go.Proofs.Ythiaaaedfidnjaa.Am
/-! the reference's checks; histories of numbers -/
abbrev w64 := IntKind.i64.wrap
abbrev hiA (n : Int) (nl : Bool) (xs : List Ev) : S1 := .agg [vC (.int .u64 n), ⟨.ro, .sl vE nl xs⟩]
abbrev evB (e : Ev) : List C := [vC (.int .i64 e.1), vC (.int .u32 e.2.1.1), vC (.int .u32 e.2.1.2), vC (.bool e.2.2)]
def chkF (n : Int) (xs : List Ev) : Nat → Nat → List Ed → Int × Int
  | 0, _, _ => (0, 0)
  | d + 1, i, now => bif decide ((nV xs i).1 < 0) || decide ((nV xs i).1 > 4611686018427387903) then (i, 26) else bif !rightR (nV xs i).2.1 n then (i, 24) else
      bif decide (0 < i) && !befR (nV xs (i - 1)) (nV xs i) then (i, 23) else bif !turnO now (nV xs i) then (i, 25) else chkF n xs d (i + 1) (turnL now (nV xs i))
def chkR (n : Int) (xs : List Ev) : Int × Int := bif decide (n > 4294967296) || decide ((xs.length : Int) > 2147483648) then (0, 26) else chkF n xs xs.length 0 []
def chkH : List S1 → Tree
  | [.agg [⟨.ro, .v (.int .u64 n)⟩, ⟨.ro, .sl (.cons (.int .i64) (.cons (.cons (.int .u32) (.int .u32)) .bool)) _ xs⟩]] => .br (decide (xs.length ≤ 1000)) (ok (.tup [wS .i64 (chkR n xs).1, wS .i64 (chkR n xs).2])) no
  | _ => no
def timR (xs : List Ev) (k : Int) : Int := bif decide (xs.length = 0) || decide (k > 245) then nth (.int .i64) [0, 5, 4611686018427387903, 9223372036854775807, -1, -9223372036854775808] (k % 6).toNat else
  w64 (w64 ((nV xs (k / 3 % xs.length).toNat).1 + k % 3) - 1)
def timH : List S1 → Tree
  | [.agg [⟨.ro, .v (.int .u64 n)⟩, ⟨.ro, .sl (.cons (.int .i64) (.cons (.cons (.int .u32) (.int .u32)) .bool)) _ xs⟩], .c ⟨.ro, .v (.int .u8 k)⟩] => .br (decide (0 ≤ k) && (decide (k < 256) && decide (xs.length ≤ 1000))) (ok (vS (.int .i64 (timR xs k)))) no
  | _ => no
abbrev nB (l : List Int) (i : Nat) : Int := nth (.int .u8) l i
def hisT2 (v t : Int) : Int := bif decide (v > 240) then t + v % 4 + 2 ^ (v % 40).toNat else t + v % 4
def hisS (n : Int) (l : List Int) (i : Nat) (t : Int) (ts : List Ev) : List Ev :=
  bif edgO (nB l (i + 1)) (nB l (i + 2)) n then insR ts (t, (edgA (nB l (i + 1)) (nB l (i + 2)) n, edgB (nB l (i + 1)) (nB l (i + 2)) n), false) else ts
def hisT (n : Int) (l : List Int) : Nat → Nat → Int → List Ev → List Ev
  | 0, _, _, ts => ts
  | d + 1, i, t, ts => bif decide (i + 2 < l.length) && decide (ts.length < 40) then hisT n l d (i + 3) (hisT2 (nB l i) t) (hisS n l i (hisT2 (nB l i) t) ts) else ts
def hisV (ts : List Ev) (now : List Ed) (i : Nat) : Ev := ((nV ts i).1, (nV ts i).2.1, !hasR now (nV ts i).2.1)
def hisE (ts : List Ev) : Nat → Nat → List Ed → List Ev → List Ev
  | 0, _, _, out => out
  | d + 1, i, now, out => hisE ts d (i + 1) (turnL now (hisV ts now i)) (out ++ [hisV ts now i])
def hisQ (k : Int) (l : List Int) : List Ev := hisT (vtT k) l l.length 0 (k % 3) []
def hisR (k : Int) (l : List Int) : List Ev := hisE (hisQ k l) (hisQ k l).length 0 [] []
def hisOK (k : Int) (l : List Int) : Bool := decide (0 ≤ k) && (decide (k < 256) && (decide (l.length ≤ 1000) && l.all fun x => decide (0 ≤ x) && decide (x < 256)))
def hisH0 : List S1 → Tree
  | [.c ⟨.ro, .v (.int .u8 k)⟩, .c ⟨.ro, .sl (.int .u8) _ l⟩] => .br (hisOK k l) (.br (isNilL (hisR k l)) (ok (.s (.agg [vC (.int .u64 (vtT k)), ⟨.ro, .nilv⟩]))) (ok (.s (hiA (vtT k) false (hisR k l))))) no
  | _ => no
def hisH : List S1 → Tree
  | [.c ⟨.ro, .v (.int .u8 k)⟩, .c ⟨.ro, .sl (.int .u8) _ l⟩] => .br (hisOK k l) (ok (.s (hiA (vtT k) (isNilL (hisR k l)) (hisR k l)))) no
  | _ => no
def l14 : Stubs := (35, co [cH] (plain chkH)) :: (10, co [cH] (plain timH)) :: (8, plain hisH) :: l13
def aftF (xs : List Ev) : Nat → Nat → List Ed → List Ed
  | 0, _, now => now
  | d + 1, i, now => aftF xs d (i + 1) (turnL now (nV xs i))
def aftR (n : Int) (xs : List Ev) (k : Int) : List Ed := bif (chkR n xs).2 == 0 then aftF xs (min xs.length k.toNat) 0 [] else []
def aftH : List S1 → Tree
  | [.agg [⟨.ro, .v (.int .u64 n)⟩, ⟨.ro, .sl (.cons (.int .i64) (.cons (.cons (.int .u32) (.int .u32)) .bool)) _ xs⟩], .c ⟨.ro, .v (.int .i64 k)⟩] => .br (decide (xs.length ≤ 1000)) (ok (.tup [eS (isNilL (aftR n xs k)) (aftR n xs k), wS .i64 (chkR n xs).2])) no
  | _ => no
def l15 : Stubs := (22, co [cH] (plain aftH)) :: l14
def atR (n : Int) (xs : List Ev) (t : Int) : List Ed := aftR n xs (uptoR t xs : Nat)
def atH : List S1 → Tree
  | [.agg [⟨.ro, .v (.int .u64 n)⟩, ⟨.ro, .sl (.cons (.int .i64) (.cons (.cons (.int .u32) (.int .u32)) .bool)) nl xs⟩], .c ⟨.ro, .v (.int .i64 t)⟩] => .br (decide (xs.length ≤ 1000)) (ok (.tup [eS (isNilL (atR n xs t)) (atR n xs t), wS .i64 (chkR n xs).2])) no
  | _ => no
def l16 : Stubs := (9, co [cH] (plain atH)) :: l15
end Go.Proofs.Ythiaaaedfidnjaa.Aj

namespace Go.Proofs.Ythiaaaedfidnjaa.Aj
open Go Go.Proofs.Ythiaaaedfidnjaa.Am Go.RowKit
def m3 : List (Nat × List Nat) := [(0, [0, 1, 2, 3, 4, 5, 6, 7, 8, 9]), (1, [0, 1, 2, 3, 4, 5, 6, 7, 8, 9]), (2, []), (3, [0, 1, 2, 3, 4, 5, 6, 7, 8, 9]), (4, []), (5, [0, 1, 2, 3, 4, 5, 6, 7, 8, 9]), (6, [0, 3, 4, 5, 6, 7, 8, 9, 21]), (7, [0, 4, 5, 6, 7, 8, 9, 21, 22]), (8, [0, 4, 5, 6, 7, 8, 9, 21, 22, 24]), (9, [4, 5, 6, 7, 8, 9, 21, 24, 82, 83, 84]), (10, [4, 5, 6, 7, 8, 9, 21, 24, 82, 83, 84]), (11, [4, 5, 6, 7, 8, 9, 21, 24, 27, 82, 83, 84]), (12, [4, 5, 6, 7, 8, 9, 21, 24, 27, 28, 29, 82, 83, 84]), (13, [4, 5, 6, 7, 8, 9, 21, 24, 28, 29, 30, 31, 82, 83, 84]), (14, []), (15, [4, 5, 6, 7, 8, 9, 21, 24, 82, 83, 84]), (16, [4, 5, 6, 7, 8, 9, 21, 24]), (17, [9, 21, 120, 121, 122]), (18, [9, 21, 120, 121, 122]), (19, [9, 21, 33, 120, 121, 122]), (20, [9, 21, 33, 120, 121, 122, 129, 130, 131]), (21, [9, 21, 33, 120, 121, 122, 129, 130, 131]), (22, [9, 21, 33, 35, 120, 121, 122, 129, 130, 131]), (23, [9, 21, 33, 35, 36, 37, 120, 121, 122, 129, 130, 131]), (24, [9, 21, 33, 36, 37, 38, 39, 120, 121, 122, 129, 130, 131]), (25, []), (26, [9, 21, 33, 120, 121, 122, 129, 130, 131]), (27, [9, 21, 120, 121, 122]), (28, [])]
def m4 : List (Nat × List Nat) := [(0, [0, 1, 2]), (1, [0, 1, 2]), (2, []), (3, [0, 1, 2]), (4, []), (5, [0, 1, 2]), (6, [2, 7]), (7, [7, 8]), (8, [7, 8, 10, 11]), (9, [7, 8, 10, 11, 12]), (10, [7, 8, 10, 11, 12, 13]), (11, [7, 8, 10, 11, 12, 13]), (12, [7, 8, 10, 11, 12, 13]), (13, [7, 8, 10, 11, 12]), (14, [8, 10, 11, 12, 14, 15]), (15, [8, 10, 11, 12, 14, 15, 16, 17]), (16, []), (17, [8, 10, 12]), (18, [8, 19])]
def m5 : List (Nat × List Nat) := [(0, [0, 1, 2, 3]), (1, [0, 1, 2, 3]), (2, []), (3, [0, 1, 2, 3]), (4, [1, 2, 3, 9]), (5, [2, 3, 9, 10]), (6, [2, 3, 9, 10, 11]), (7, [2, 3, 9, 10, 11, 12]), (8, [2, 3, 9, 10, 11, 12]), (9, [2, 3, 9, 10, 11, 12]), (10, [2, 3, 9, 10, 11, 12]), (11, [2, 3, 9, 10, 11, 12]), (12, [2, 3, 9, 10, 11]), (13, [2, 3, 9, 10, 11, 13, 14]), (14, [2, 3, 9, 10, 11, 13, 14, 15, 16]), (15, [2, 3, 9, 10, 11, 13, 14, 15, 16, 17]), (16, [2, 3, 9, 11, 13, 14, 15, 16, 17, 18]), (17, [2, 3, 9, 11, 13, 14, 15, 16, 17, 18]), (18, [2, 3, 9, 11, 13, 14, 15, 16, 17, 18]), (19, [2, 3, 9, 11, 13, 14, 15, 16, 17]), (20, [2, 3, 9, 11, 13, 14, 15, 16, 17, 19]), (21, [3, 9, 11, 13, 14, 15, 16, 17]), (22, [3, 9, 11, 13, 14, 15, 16, 19]), (23, [11, 13, 14, 15, 16, 19, 20]), (24, [11, 13, 14, 15, 16, 19, 21]), (25, [11, 13, 14, 15, 16, 19, 23])]
def m6 : List (Nat × List Nat) := [(0, [0, 1, 2]), (1, [0, 1, 2]), (2, []), (3, [0, 1, 2]), (4, [2, 7, 8]), (5, [2, 7, 8, 9]), (6, [2, 7, 8, 10, 11]), (7, [2, 7, 8, 10, 11, 13]), (8, [2, 7, 8, 10, 11, 13, 15]), (9, [2, 7, 8, 10, 11, 13, 15, 17]), (10, [2, 7, 8, 10, 11, 13, 15, 17, 19]), (11, [7, 8, 10, 11, 13, 15, 17, 19, 20])]
def m7 : List (Nat × List Nat) := [(0, []), (1, []), (2, [1]), (3, [1, 2, 3]), (4, [1, 2, 3, 4, 5]), (5, [1, 2, 3, 4, 5, 7]), (6, [1, 2, 3, 4, 5, 7, 9])]
def m8 : List (Nat × List Nat) := [(0, [0, 1]), (1, [0, 1, 4]), (2, [0, 1, 4, 5]), (3, [1, 4, 5, 6]), (4, [1, 4, 5, 6, 7]), (5, [1, 4, 5, 6, 7, 8]), (6, [1, 4, 5, 6, 7, 8]), (7, [1, 4, 5, 6, 7, 8]), (8, [1, 4, 5, 6, 7, 8]), (9, [1, 4, 5, 6, 7, 8]), (10, [1, 4, 5, 6, 7, 8]), (11, [1, 4, 5, 6, 7, 8, 9, 10]), (12, [1, 4, 5, 6, 7, 8, 9]), (13, [4, 5, 7]), (14, [4, 5, 7, 11]), (15, [4, 5, 7, 11, 12]), (16, [4, 5, 7, 11, 12]), (17, [4, 5, 7, 11, 12]), (18, [4, 5, 7, 11, 12, 13]), (19, [4, 5, 7, 11, 12, 13]), (20, [4, 5, 7, 11, 12, 13]), (21, [4, 5])]
def m9 : List (Nat × List Nat) := [(0, [0, 1]), (1, [1, 2])]
def m10 : List (Nat × List Nat) := [(0, [0, 1]), (1, [1, 2]), (2, [1]), (3, [1, 2])]
def m11 : List (Nat × List Nat) := [(0, [0]), (1, [0]), (2, [0, 4]), (3, [0, 4, 5]), (4, [0, 4, 5, 6]), (5, [0, 4, 5, 6, 7]), (6, [0, 4, 5, 6, 7]), (7, [0, 4, 5, 6, 7]), (8, []), (9, [0, 4, 5, 6, 7]), (10, [0, 4, 5, 6, 7]), (11, [0, 4, 5, 6, 7]), (12, [0, 4, 5, 6, 7, 8]), (13, [0, 4, 5, 6, 7, 8]), (14, [0, 4, 5, 6, 7, 8]), (15, [0, 4, 5, 7]), (16, [4, 5])]
def m12 : List (Nat × List Nat) := [(0, [0]), (1, [0]), (2, []), (3, [0]), (4, [0, 4]), (5, [0, 4, 5, 6]), (6, [0, 4, 5, 6, 7]), (7, [0, 4, 5, 6, 7]), (8, [0, 4, 5, 6, 7, 8, 9]), (9, [0, 4, 5, 6, 7, 8, 9, 10]), (10, [0, 4, 5, 6, 7, 8, 9, 10, 11]), (11, [0, 4, 5, 6, 7, 8, 9, 10, 11]), (12, [0, 4, 5, 6, 7, 8, 9, 10, 11]), (13, [0, 4, 5, 6, 7, 8, 9, 10, 11, 12]), (14, []), (15, [0, 4, 5, 6, 7, 8, 9, 10, 11, 12]), (16, [0, 4, 5, 6, 7, 8, 9, 10, 12]), (17, [0, 4, 5, 6, 7, 8, 9, 10]), (18, [0, 4, 5, 7, 8]), (19, [4, 5])]
def m13 : List (Nat × List Nat) := [(0, [0, 1, 2, 3, 4]), (1, [0, 1, 2, 3, 4]), (2, [0, 1, 2, 3, 4, 11]), (3, [4]), (4, [0, 1, 2, 3, 4, 11]), (5, [0, 1, 3, 4, 11, 12]), (6, [0, 12]), (7, [0, 3, 4, 11, 12, 26]), (8, [0, 3, 4, 11, 12, 26]), (9, [3, 11, 12]), (10, [0, 4, 11, 12, 26]), (11, [0, 4, 12]), (12, [0, 11, 12, 26]), (13, [11, 12]), (14, [11])]
def m14 : List (Nat × List Nat) := [(0, [0, 1]), (1, [0, 1]), (2, [0, 1, 6]), (3, [0, 6, 7]), (4, [0, 6, 7, 8, 9]), (5, []), (6, [7])]
def m15 : List (Nat × List Nat) := [(0, [0, 1]), (1, [0, 1]), (2, [0, 1, 6, 7]), (3, []), (4, [0, 1, 6]), (5, [0, 1, 6, 8]), (6, [0, 1, 6, 8, 9]), (7, [0, 1, 6, 8, 9, 10]), (8, [0, 1, 6, 8, 9, 10]), (9, [0, 1, 6, 8, 10, 11, 12]), (10, []), (11, [0, 1, 6, 8, 10, 11]), (12, [0, 1, 6, 8, 9, 10]), (13, [0, 1, 6, 8, 9, 10, 13]), (14, [0, 1, 6, 8, 9, 10, 13]), (15, [0, 1, 6, 8, 9, 10, 13, 14]), (16, [0, 1, 6, 8, 9, 10, 13, 14, 15]), (17, [0, 1, 6, 8, 9, 10, 13, 14, 15]), (18, [0, 1, 6, 8, 9, 10, 13, 14, 15]), (19, []), (20, [0, 1, 6, 8, 9, 10, 13, 14, 15]), (21, [0, 1, 6, 8, 9, 10, 13, 15, 16, 17]), (22, []), (23, [0, 1, 6, 8, 9, 10, 13, 15, 16]), (24, [0, 1, 6, 8, 9, 10, 13, 14, 15]), (25, [0, 1, 6, 8, 9, 10, 13, 14, 15]), (26, [0, 8]), (27, [0, 8, 18, 19]), (28, []), (29, [8])]
def m16 : List (Nat × List Nat) := [(0, [0, 1]), (1, [0, 1]), (2, []), (3, [0, 1]), (4, [0, 1, 5]), (5, [0, 1, 5]), (6, [0, 1, 5]), (7, []), (8, [])]
def m17 : List (Nat × List Nat) := [(0, [0]), (1, [0])]
def m18 : List (Nat × List Nat) := [(0, [0, 1, 2]), (1, [0, 1, 2, 6]), (2, [0, 1, 2, 6, 8]), (3, [0, 1, 2, 6, 9, 10]), (4, [1, 2, 6, 9, 10]), (5, [1, 2, 6, 9, 10]), (6, [2, 6, 9, 10]), (7, [6, 9, 10]), (8, [6]), (9, [6, 9, 10])]
def m19 : List (Nat × List Nat) := [(0, [0, 1]), (1, [0, 3]), (2, [0, 3, 5]), (3, [0, 3, 5]), (4, [0, 3, 5]), (5, [0]), (6, [0, 3, 5])]
def m20 : List (Nat × List Nat) := [(0, [0, 1]), (1, [0, 3])]
def m21 : List (Nat × List Nat) := [(0, [0, 1]), (1, [0, 3]), (2, [0, 3, 6]), (3, []), (4, [0, 3, 6]), (5, [0, 6]), (6, [0, 3]), (7, [0, 3, 6]), (8, [0, 3, 6]), (9, [0, 3, 6])]
def m22 : List (Nat × List Nat) := [(0, [0, 1]), (1, [1, 2]), (2, [1, 2, 7]), (3, [7]), (4, [1, 2]), (5, [1, 2, 8]), (6, [1, 2, 8, 9]), (7, [1, 2, 8, 9]), (8, [1, 2, 8, 9]), (9, [8])]
def m23 : List (Nat × List Nat) := [(0, [0, 1]), (1, [1, 2]), (2, [1, 2, 5]), (3, [1, 2, 5]), (4, [5])]
def m24 : List (Nat × List Nat) := [(0, [0, 1]), (1, [2, 3])]
def m25 : List (Nat × List Nat) := [(0, [0]), (1, [0]), (2, [0, 3]), (3, [0, 3, 4]), (4, [0, 3, 4]), (5, [0, 3, 4]), (6, [0, 3, 4, 5]), (7, [0, 3, 4, 5]), (8, [0, 3, 4, 5]), (9, [0, 3, 4, 5]), (10, [3])]
def m26 : List (Nat × List Nat) := [(0, [0]), (1, [0]), (2, [0, 5, 6]), (3, [0, 5, 6]), (4, [0, 3, 5, 6]), (5, []), (6, [0, 5, 6]), (7, [])]
def m27 : List (Nat × List Nat) := [(0, [0]), (1, [0]), (2, [0, 3]), (3, [3, 6, 7, 8]), (4, [3, 6, 7, 8]), (5, [3, 5, 6, 7, 8]), (6, [3, 5, 6, 7, 8]), (7, [3, 5, 6, 7, 8]), (8, [3, 5, 6, 7, 8]), (9, [3, 6, 7, 8]), (10, [3])]
def m28 : List (Nat × List Nat) := [(0, [0, 1]), (1, [0, 1]), (2, [0, 1, 5]), (3, [0, 1, 5, 6]), (4, [0, 1, 5, 6, 7]), (5, [0, 1, 5, 6, 7]), (6, [0, 1, 5, 6, 7]), (7, [0, 1, 5, 7, 8]), (8, [0, 1, 5, 6, 7, 8]), (9, [0, 1, 5, 6, 7, 8, 9]), (10, [0, 1, 5, 6, 7, 8, 9, 10]), (11, [0, 1, 5, 6, 7, 8, 9, 10]), (12, [0, 1, 5, 6, 7, 8, 9, 10]), (13, [0, 1, 5, 6, 7, 8, 9, 10]), (14, [0, 1, 5, 6, 7, 8, 9, 10]), (15, [0, 1, 5, 6, 7, 8, 9, 10]), (16, [5])]
def m29 : List (Nat × List Nat) := [(0, [0, 1]), (1, [0, 1])]
def m30 : List (Nat × List Nat) := [(0, [0]), (1, [0]), (2, [0, 4]), (3, [0, 4, 5]), (4, [0, 4, 5]), (5, [0, 4, 5, 6, 7, 8]), (6, []), (7, [0, 4, 5, 6, 7]), (8, [4])]
def m31 : List (Nat × List Nat) := [(0, [0, 1]), (1, [0, 1]), (2, []), (3, [0, 1])]
def m32 : List (Nat × List Nat) := [(0, [0, 1]), (1, [2, 3])]
def m33 : List (Nat × List Nat) := [(0, [0, 1]), (1, [0, 3]), (2, [0, 3, 5]), (3, [0, 3, 5]), (4, [0, 3, 5]), (5, [5]), (6, [])]
def m34 : List (Nat × List Nat) := [(0, [0]), (1, [0]), (2, [0, 3]), (3, [0, 3]), (4, [0, 3]), (5, []), (6, [])]
def m35 : List (Nat × List Nat) := [(0, [0]), (1, [1]), (2, []), (3, [1]), (4, [1, 4]), (5, [1, 4, 5]), (6, [1, 4, 5]), (7, [1, 4, 5]), (8, [1, 4, 5, 6]), (9, [5]), (10, [1, 4, 5, 6]), (11, [5]), (12, [1, 4, 5, 6]), (13, [5]), (14, [1, 4, 5, 6]), (15, [1, 5, 7, 8]), (16, [5]), (17, [1, 5, 7]), (18, [])]
def m36 : List (Nat × List Nat) := [(0, [0, 1]), (1, [2, 3])]
def m37 : List (Nat × List Nat) := [(0, [0]), (1, [0]), (2, [0, 3, 4, 5]), (3, [3])]
def m38 : List (Nat × List Nat) := [(0, [0, 1]), (1, [0, 1]), (2, [0, 1, 7]), (3, [0, 1, 7, 8]), (4, [0, 1, 7, 8]), (5, [0, 1, 7, 8]), (6, []), (7, [0, 1, 7, 8]), (8, [0, 1, 7, 8]), (9, [0, 1, 7, 8]), (10, []), (11, [1, 7, 8]), (12, []), (13, [7, 8]), (14, [])]
def m39 : List (Nat × List Nat) := [(0, [0, 1]), (1, [1, 2])]
def m40 : List (Nat × List Nat) := [(0, [0, 1]), (1, [2, 3])]
def m41 : List (Nat × List Nat) := [(0, [0, 1]), (1, [0, 1]), (2, [0, 1, 7]), (3, [1, 7, 10, 11, 12]), (4, [1, 7, 10, 11, 12]), (5, [1, 7, 8, 9, 10, 11, 12]), (6, []), (7, [1, 7, 8, 9, 10, 11, 12]), (8, [1, 7, 8, 9, 10, 11, 12]), (9, [1, 7, 8]), (10, []), (11, [7, 8]), (12, [1, 7, 10, 11, 12]), (13, [])]
def m42 : List (Nat × List Nat) := [(0, [0]), (1, [0]), (2, [0, 3]), (3, [3, 6, 7, 8]), (4, [3, 6, 7, 8]), (5, [3, 5, 6, 7, 8]), (6, [5]), (7, [3, 6, 7, 8]), (8, [3])]
def m43 : List (Nat × List Nat) := [(0, [0, 1]), (1, [0, 1]), (2, [0, 1, 5]), (3, [0, 1, 5, 6]), (4, [6]), (5, []), (6, []), (7, [0, 1, 6]), (8, []), (9, [0, 1]), (10, []), (11, [0, 1]), (12, []), (13, [])]
def m44 : List (Nat × List Nat) := [(0, [0]), (1, [0])]
def masks : List (Nat × List (Nat × List Nat)) := [(3, m3), (4, m4), (5, m5), (6, m6), (7, m7), (8, m8), (9, m9), (10, m10), (11, m11), (12, m12), (13, m13), (14, m14), (15, m15), (16, m16), (17, m17), (18, m18), (19, m19), (20, m20), (21, m21), (22, m22), (23, m23), (24, m24), (25, m25), (26, m26), (27, m27), (28, m28), (29, m29), (30, m30), (31, m31), (32, m32), (33, m33), (34, m34), (35, m35), (36, m36), (37, m37), (38, m38), (39, m39), (40, m40), (41, m41), (42, m42), (43, m43), (44, m44)]
def draws : List (Nat × List (Nat × (Nat × List (Nat × Option Nat)))) := [(3, [(6, (9, []))]), (4, [(6, (9, []))]), (5, [(23, (7, []))]), (8, [(10, (18, []))]), (9, [(1, (7, []))]), (10, [(3, (15, []))]), (11, [(7, (24, [])), (9, (14, [])), (10, (17, [])), (12, (19, [])), (14, (28, [])), (15, (9, []))]), (13, [(6, (8, [])), (11, (9, []))]), (16, [(6, (8, []))]), (18, [(2, (9, []))]), (19, [(2, (9, [])), (4, (22, [])), (6, (10, []))]), (21, [(5, (8, [])), (7, (11, [])), (9, (11, []))]), (26, [(4, (12, []))]), (33, [(4, (5, []))]), (34, [(4, (9, []))]), (35, [(12, (10, []))]), (37, [(2, (19, []))]), (40, [(1, (9, []))])]
def look2 {α : Type} : List (Nat × List (Nat × α)) → Nat → Nat → Option α
  | [], _, _ => none
  | (f, l) :: r, n, i => bif Nat.beq f n then look1 l i else look2 r n i
  where look1 : List (Nat × α) → Nat → Option α
  | [], _ => none
  | (j, a) :: r, i => bif Nat.beq j i then some a else look1 r i
def canOf (f : Nat) : List CanOp := bif Nat.beq f 3 then [.ren 2336 768, .ren 2880 896, .ren 3040 960, .ren 4416 1152] else bif Nat.beq f 4 then [.ren 1216 320, .ren 1888 448, .ren 2112 512, .ren 3008 576] else bif Nat.beq f 5 then [.ren 1504 352, .ren 1920 352, .nil 11 (eE) 352, .ren 2016 416, .ren 2176 480, .ren 3296 672, .ren 3392 704] else bif Nat.beq f 8 then [.nilR 7 (vE), .nilR 11 (eE)] else bif Nat.beq f 11 then [.ren 2432 128, .ren 4096 128, .nil 4 (.int .u8) 128] else bif Nat.beq f 13 then [.ren 448 352, .ren 1120 352] else bif Nat.beq f 15 then [.ren 3104 256, .nil 8 (eE) 256, .ren 3264 576] else bif Nat.beq f 35 then [.nilR 4 (eE)] else bif Nat.beq f 22 then [.nilR 8 (eE)] else bif Nat.beq f 25 then [.ren 768 96, .ren 992 96, .nil 3 (.int .u8) 96] else bif Nat.beq f 30 then [.ren 832 128, .nil 4 (.int .u64) 128] else []
def finOf (f : Nat) : List CanOp := bif Nat.beq f 12 then [.ren 2688 64, .nil 2 (.int .u8) 64] else bif Nat.beq f 14 then [.ren 480 128, .nil 4 (eE) 128] else bif Nat.beq f 9 then [.nilR 4 (eE)] else bif Nat.beq f 11 then [.ren 4544 64, .nil 2 (.int .u8) 64] else bif Nat.beq f 13 then [.nilR 10 (.int .u8)] else bif Nat.beq f 15 then [.nilR 4 (eE)] else bif Nat.beq f 19 then [.nilR 4 (vE)] else bif Nat.beq f 21 then [.nilR 4 (eE)] else bif Nat.beq f 22 then [.nilR 4 (eE)] else bif Nat.beq f 25 then [.ren 96 64, .nil 2 (.int .u8) 64] else bif Nat.beq f 30 then [.nilR 2 (.int .u64)] else []
def maskOf (f id : Nat) : Option MK := match look2 masks f id with
  | some l => some ⟨l, canOf f⟩
  | none => none
def own1 : List Nat := [25, 27, 28]
def own2 : List Nat := [11, 12, 14]
def sigOf (f : Nat) : List Bool := bif memN f own1 then [true] else bif memN f own2 then [true, false] else []
def npOf (f : Nat) : Nat := bif memN f [28, 37] then 1 else 0
noncomputable def V (stubs : Stubs) : Env := ⟨Go.Proofs.Try.prog, sigOf, maskOf, look2 draws, stubs.look, npOf, finOf⟩
theorem mix : Go.Proofs.Try.prog.follows .mixedOrders = true := by kernel_rfl
end Go.Proofs.Ythiaaaedfidnjaa.Aj

namespace Go.Proofs.Ythiaaaedfidnjaa.Aj
open Go Go.Proofs.Ythiaaaedfidnjaa.Am Go.RowKit
set_option linter.unusedVariables false
set_option linter.unusedSimpArgs false
set_option maxRecDepth 100000
noncomputable def V0 : Env := V l0
noncomputable def V1 : Env := V l1
noncomputable def V2 : Env := V l2
noncomputable def V3 : Env := V l3
noncomputable def V4 : Env := V l4
theorem nanIn (rec : Rec) (H : K) (L : Nat → St → Option Res) (n : Int) :
    fnWay V0 44 [wS .u32 n] rec H L =
  H .ret (mkSt 6 [(2, vS (.bool (n != n)))] []) := by kernel_rfl
theorem takeIn (rec : Rec) (H : K) (L : Nat → St → Option Res) (nl : Bool) (xs : List Int) (m : Int) :
    fnWay V0 41 [bS nl xs, wS .u64 m] rec H L =
  L 0 (mkSt 48 [(1, vS (.int .u64 m)), (7, vS (.int .u64 0)), (10, .s (.c (⟨.ro, AV.sl (CL.int IntKind.u8) nl xs⟩))), (11, vS (.int .i64 (↑xs.length : Int))), (12, vS (.int .i64 0))] []) := by kernel_rfl
theorem takeRnd (rec : Rec) (H : K) (L : Nat → St → Option Res) (nl : Bool) (xs : List Int) (m v len i : Int) :
    ((fnPl V0 41).at V0 41 0).way V0 41 (mkSt 48 [(1, vS (.int .u64 m)), (7, vS (.int .u64 v)), (10, .s (bS nl xs)), (11, vS (.int .i64 len)), (12, vS (.int .i64 i))] []) rec H L =
  br (decide (i < len)) (
    br (inR i xs.length) (
      br (i == 9) (
        br (!decide (nth (CL.int IntKind.u8) xs i.toNat > 1)) (
          br (decide (i > 0)) (
            br (nth (CL.int IntKind.u8) xs i.toNat == 0) (
              H .ret (mkSt 48 [(4, vS (.int .u64 0)), (5, vS (.int .i64 0)), (6, vS (.int .i64 21))] [])) (
              br (decide (IntKind.i64.wrap (7 * i) < 0)) (
                none) (
                br (decide (nth (CL.int IntKind.u8) xs i.toNat ≥ 128)) (
                  H .normal (mkSt 48 [(1, vS (.int .u64 m)), (7, vS (.int .u64 (take7 v (nth (CL.int IntKind.u8) xs i.toNat) i))), (10, .s (.c (⟨.ro, AV.sl (CL.int IntKind.u8) nl xs⟩))), (11, vS (.int .i64 len)), (12, vS (.int .i64 (IntKind.i64.wrap (i + 1))))] [])) (
                  br (decide (take7 v (nth (CL.int IntKind.u8) xs i.toNat) i > m)) (
                    H .ret (mkSt 48 [(4, vS (.int .u64 0)), (5, vS (.int .i64 0)), (6, vS (.int .i64 22))] [])) (
                    H .ret (mkSt 48 [(4, vS (.int .u64 (take7 v (nth (CL.int IntKind.u8) xs i.toNat) i))), (5, vS (.int .i64 (IntKind.i64.wrap (i + 1)))), (6, vS (.int .i64 0))] [])))))) (
            br (decide (IntKind.i64.wrap (7 * i) < 0)) (
              none) (
              br (decide (nth (CL.int IntKind.u8) xs i.toNat ≥ 128)) (
                H .normal (mkSt 48 [(1, vS (.int .u64 m)), (7, vS (.int .u64 (take7 v (nth (CL.int IntKind.u8) xs i.toNat) i))), (10, .s (.c (⟨.ro, AV.sl (CL.int IntKind.u8) nl xs⟩))), (11, vS (.int .i64 len)), (12, vS (.int .i64 (IntKind.i64.wrap (i + 1))))] [])) (
                br (decide (take7 v (nth (CL.int IntKind.u8) xs i.toNat) i > m)) (
                  H .ret (mkSt 48 [(4, vS (.int .u64 0)), (5, vS (.int .i64 0)), (6, vS (.int .i64 22))] [])) (
                  H .ret (mkSt 48 [(4, vS (.int .u64 (take7 v (nth (CL.int IntKind.u8) xs i.toNat) i))), (5, vS (.int .i64 (IntKind.i64.wrap (i + 1)))), (6, vS (.int .i64 0))] [])))))) (
          H .ret (mkSt 48 [(4, vS (.int .u64 0)), (5, vS (.int .i64 0)), (6, vS (.int .i64 21))] []))) (
        br (decide (i > 0)) (
          br (nth (CL.int IntKind.u8) xs i.toNat == 0) (
            H .ret (mkSt 48 [(4, vS (.int .u64 0)), (5, vS (.int .i64 0)), (6, vS (.int .i64 21))] [])) (
            br (decide (IntKind.i64.wrap (7 * i) < 0)) (
              none) (
              br (decide (nth (CL.int IntKind.u8) xs i.toNat ≥ 128)) (
                H .normal (mkSt 48 [(1, vS (.int .u64 m)), (7, vS (.int .u64 (take7 v (nth (CL.int IntKind.u8) xs i.toNat) i))), (10, .s (.c (⟨.ro, AV.sl (CL.int IntKind.u8) nl xs⟩))), (11, vS (.int .i64 len)), (12, vS (.int .i64 (IntKind.i64.wrap (i + 1))))] [])) (
                br (decide (take7 v (nth (CL.int IntKind.u8) xs i.toNat) i > m)) (
                  H .ret (mkSt 48 [(4, vS (.int .u64 0)), (5, vS (.int .i64 0)), (6, vS (.int .i64 22))] [])) (
                  H .ret (mkSt 48 [(4, vS (.int .u64 (take7 v (nth (CL.int IntKind.u8) xs i.toNat) i))), (5, vS (.int .i64 (IntKind.i64.wrap (i + 1)))), (6, vS (.int .i64 0))] [])))))) (
          br (decide (IntKind.i64.wrap (7 * i) < 0)) (
            none) (
            br (decide (nth (CL.int IntKind.u8) xs i.toNat ≥ 128)) (
              H .normal (mkSt 48 [(1, vS (.int .u64 m)), (7, vS (.int .u64 (take7 v (nth (CL.int IntKind.u8) xs i.toNat) i))), (10, .s (.c (⟨.ro, AV.sl (CL.int IntKind.u8) nl xs⟩))), (11, vS (.int .i64 len)), (12, vS (.int .i64 (IntKind.i64.wrap (i + 1))))] [])) (
              br (decide (take7 v (nth (CL.int IntKind.u8) xs i.toNat) i > m)) (
                H .ret (mkSt 48 [(4, vS (.int .u64 0)), (5, vS (.int .i64 0)), (6, vS (.int .i64 22))] [])) (
                H .ret (mkSt 48 [(4, vS (.int .u64 (take7 v (nth (CL.int IntKind.u8) xs i.toNat) i))), (5, vS (.int .i64 (IntKind.i64.wrap (i + 1)))), (6, vS (.int .i64 0))] []))))))) (
      none)) (
    H (.exit 0) (mkSt 48 [] [])) := by kernel_rfl
theorem takeOut (rec : Rec) (H : K) (L : Nat → St → Option Res) (z : Int) :
    (fnPl V0 41).past V0 41 0 (.exit 0) (mkSt 48 [] []) rec H L =
  H .ret (mkSt 48 [(4, vS (.int .u64 0)), (5, vS (.int .i64 0)), (6, vS (.int .i64 20))] []) := by kernel_rfl
theorem orIn (rec : Rec) (H : K) (L : Nat → St → Option Res) (nl : Bool) (xs : List Int) :
    fnWay V0 42 [.c ⟨.ro, .sl (.int .i64) nl xs⟩] rec H L =
  L 0 (mkSt 18 [(3, vS (.int .i64 0)), (6, .s (.c (⟨.ro, AV.sl (CL.int IntKind.i64) nl xs⟩))), (7, vS (.int .i64 (↑xs.length : Int))), (8, vS (.int .i64 0))] []) := by kernel_rfl
theorem orRnd (rec : Rec) (H : K) (L : Nat → St → Option Res) (nl : Bool) (xs : List Int) (len i : Int) :
    ((fnPl V0 42).at V0 42 0).way V0 42 (mkSt 18 [(3, vS (.int .i64 0)), (6, .s (.c ⟨.ro, .sl (.int .i64) nl xs⟩)), (7, vS (.int .i64 len)), (8, vS (.int .i64 i))] []) rec H L =
  br (decide (i < len)) (
    br (inR i xs.length) (
      br (nth (CL.int IntKind.i64) xs i.toNat != 0) (
        H .ret (mkSt 18 [(2, vS (.int .i64 (nth (CL.int IntKind.i64) xs i.toNat)))] [])) (
        H .normal (mkSt 18 [(3, vS (.int .i64 0)), (6, .s (.c (⟨.ro, AV.sl (CL.int IntKind.i64) nl xs⟩))), (7, vS (.int .i64 len)), (8, vS (.int .i64 (IntKind.i64.wrap (i + 1))))] []))) (
      none)) (
    H (.exit 0) (mkSt 18 [(3, vS (.int .i64 0))] [])) := by kernel_rfl
theorem orOut (rec : Rec) (H : K) (L : Nat → St → Option Res) (z : Int) :
    (fnPl V0 42).past V0 42 0 (.exit 0) (mkSt 18 [(3, vS (.int .i64 z))] []) rec H L =
  H .ret (mkSt 18 [(2, vS (.int .i64 z))] []) := by kernel_rfl
theorem eqIn (rec : Rec) (H : K) (L : Nat → St → Option Res) (nl ml : Bool) (xs ys : List Int) :
    fnWay V0 29 [bS nl xs, bS ml ys] rec H L =
  H .ret (mkSt 10 [(4, vS (.bool ((baOf xs).toList == (baOf ys).toList)))] []) := by kernel_rfl
theorem cmpIn (rec : Rec) (H : K) (L : Nat → St → Option Res) (a b : Int) :
    fnWay V1 43 [wS .u32 a, wS .u32 b] rec H L =
  br (decide (a < b)) (
    H .ret (mkSt 20 [(4, vS (.int .i64 (-1)))] [])) (
    br (decide (a > b)) (
      H .ret (mkSt 20 [(4, vS (.int .i64 1))] [])) (
      H .ret (mkSt 20 [(4, vS (.int .i64 0))] []))) := by kernel_rfl
theorem numIn (rec : Rec) (H : K) (L : Nat → St → Option Res) (nl o : Bool) (b : List Int) :
    fnWayB V1 37 [.c ⟨.ro, .ptr 0 0⟩] [rdB nl b o] rec H L =
  br (decide (b.length ≤ 1000000)) (
    br (leR ((takeT 4294967295 b).snd.fst, (takeT 4294967295 b).snd.snd).fst b.length) (
      br o (
        H .ret (mkSt 36 [(2, vS (.int .u64 (takeT 4294967295 b).fst))] [[⟨.ro, AV.sl (CL.int IntKind.u8) nl (List.drop (Int.toNat ((takeT 4294967295 b).snd.fst, (takeT 4294967295 b).snd.snd).fst) b)⟩, vC (.bool (((takeT 4294967295 b).snd.fst, (takeT 4294967295 b).snd.snd).snd == 0))]])) (
        H .ret (mkSt 36 [(2, vS (.int .u64 (takeT 4294967295 b).fst))] [[⟨.ro, AV.sl (CL.int IntKind.u8) nl (List.drop (Int.toNat ((takeT 4294967295 b).snd.fst, (takeT 4294967295 b).snd.snd).fst) b)⟩, vC (.bool false)]]))) (
      none)) (
    none) := by kernel_rfl
theorem cmpEIn (rec : Rec) (H : K) (L : Nat → St → Option Res) (a b c d : Int) :
    fnWay V2 40 [.agg [vC (.int .u32 a), vC (.int .u32 b)], .agg [vC (.int .u32 c), vC (.int .u32 d)]] rec H L =
  H .ret (mkSt 17 [(4, vS (.int .i64 (orL [cmpI a c, cmpI b d])))] []) := by kernel_rfl
theorem lessIn (rec : Rec) (H : K) (L : Nat → St → Option Res) (a b c d : Int) :
    fnWay V3 36 [.agg [vC (.int .u32 a), vC (.int .u32 b)], .agg [vC (.int .u32 c), vC (.int .u32 d)]] rec H L =
  H .ret (mkSt 9 [(4, vS (.bool (decide (cmpE (a, b) (c, d) < 0))))] []) := by kernel_rfl
theorem risIn (rec : Rec) (H : K) (L : Nat → St → Option Res) (nl : Bool) (xs : List Ed) :
    fnWay V4 26 [eS nl xs] rec H L =
  L 0 (mkSt 25 [(0, .s (.c (⟨.ro, AV.sl ((CL.int IntKind.u32).cons (CL.int IntKind.u32)) nl xs⟩))), (5, vS (.int .i64 (↑xs.length : Int))), (6, vS (.int .i64 0))] []) := by kernel_rfl
theorem risRnd (rec : Rec) (H : K) (L : Nat → St → Option Res) (nl : Bool) (xs : List Ed) (len i : Int) :
    ((fnPl V4 26).at V4 26 0).way V4 26 (mkSt 25 [(0, .s (eS nl xs)), (5, vS (.int .i64 len)), (6, vS (.int .i64 i))] []) rec H L =
  br (decide (i < len)) (
    br (decide (i > 0)) (
      br (inR (IntKind.i64.wrap (i - 1)) xs.length) (
        br (inR i xs.length) (
          br (!lessE ((nth eE xs (IntKind.i64.wrap (i - 1)).toNat).fst, (nth eE xs (IntKind.i64.wrap (i - 1)).toNat).snd) ((nth eE xs i.toNat).fst, (nth eE xs i.toNat).snd)) (
            H .ret (mkSt 25 [(2, vS (.bool false))] [])) (
            H .normal (mkSt 25 [(0, .s (.c (⟨.ro, AV.sl ((CL.int IntKind.u32).cons (CL.int IntKind.u32)) nl xs⟩))), (5, vS (.int .i64 len)), (6, vS (.int .i64 (IntKind.i64.wrap (i + 1))))] []))) (
          none)) (
        none)) (
      H .normal (mkSt 25 [(0, .s (.c (⟨.ro, AV.sl ((CL.int IntKind.u32).cons (CL.int IntKind.u32)) nl xs⟩))), (5, vS (.int .i64 len)), (6, vS (.int .i64 (IntKind.i64.wrap (i + 1))))] []))) (
    H (.exit 0) (mkSt 25 [] [])) := by kernel_rfl
theorem risOut (rec : Rec) (H : K) (L : Nat → St → Option Res) (z : Int) :
    (fnPl V4 26).past V4 26 0 (.exit 0) (mkSt 25 [] []) rec H L =
  H .ret (mkSt 25 [(2, vS (.bool true))] []) := by kernel_rfl
end Go.Proofs.Ythiaaaedfidnjaa.Aj

namespace Go.Proofs.Ythiaaaedfidnjaa.Aj
open Go Go.Proofs.Ythiaaaedfidnjaa.Am Go.RowKit
set_option linter.unusedVariables false
set_option linter.unusedSimpArgs false
set_option maxRecDepth 100000
abbrev SOK (l : Stubs) : Prop := SOKP Go.Proofs.Try.prog l
theorem sok0 : SOK l0 := fun V' _ h => stubs_nil h
theorem nanK (xs : List S1) (r : Res) (h : (nanH xs).den = some r) : ∃ n, call V0 n 44 xs = some r := by
  unfold nanH at h
  split at h
  · rename_i n
    obtain rfl := ok_some h
    exact Goes.call (Goes.now fun rec H L => (nanIn rec H L n).trans (by rw [bne_self_eq_false' n])) (by kernel_rfl) (by kernel_rfl)
  · exact leaf_none h
theorem eqK (xs : List S1) (r : Res) (h : (eqH xs).den = some r) : ∃ n, call V0 n 29 xs = some r := by
  unfold eqH at h
  split at h
  · obtain rfl := ok_some h
    exact Goes.call (Goes.now fun rec H L => eqIn rec H L _ _ _ _) (by kernel_rfl) (by kernel_rfl)
  · exact leaf_none h
/-! the first that isn't nought -/
def orSt (nl : Bool) (xs : List Int) (i : Nat) : St := mkSt 18 [(3, vS (.int .i64 0)), (6, .s (.c ⟨.ro, .sl (.int .i64) nl xs⟩)), (7, vS (.int .i64 (xs.length : Int))), (8, vS (.int .i64 (i : Int)))] []
theorem orLoop (nl : Bool) (xs : List Int) (hx : xs.length ≤ 1000000) : ∀ d i, i + d = xs.length →
    (Loops V0 42 (fnPl V0 42) 0 (orSt nl xs i) .ret (mkSt 18 [(2, vS (.int .i64 (orL (xs.drop i))))] []) ∨ (orL (xs.drop i) = 0 ∧ Loops V0 42 (fnPl V0 42) 0 (orSt nl xs i) (.exit 0) (mkSt 18 [(3, vS (.int .i64 0))] [])))
  | 0, i, h => .inr ⟨by rw [List.drop_of_length_le (by omega)]; rfl, Loops.done (Goes.now fun rec H L => (orRnd rec H L _ _ _ _).trans (br_neg (decide_eq_false (by omega)))) (by simp) (by kernel_rfl)⟩
  | d + 1, i, h => by
    have hd : xs.drop i = nth (.int .i64) xs i :: xs.drop (i + 1) := nth_drop (e := .int .i64) (by omega)
    rw [hd]
    cases hb : (nth (CL.int IntKind.i64) xs i != 0) with
    | true =>
      left
      have : orL (nth (CL.int IntKind.i64) xs i :: xs.drop (i + 1)) = nth (CL.int IntKind.i64) xs i := by
        show (bif (nth (CL.int IntKind.i64) xs i != 0) then _ else _) = _
        rw [hb]
        rfl
      rw [this]
      exact Loops.done (Goes.now fun rec H L => (orRnd rec H L _ _ _ _).trans ((br_pos (decide_eq_true (by omega))).trans ((br_pos (inR_yes (by omega) (by omega))).trans (br_pos hb)))) (by simp) (by kernel_rfl)
    | false =>
      have e : orL (nth (CL.int IntKind.i64) xs i :: xs.drop (i + 1)) = orL (xs.drop (i + 1)) := by
        show (bif (nth (CL.int IntKind.i64) xs i != 0) then _ else _) = _
        rw [hb]
        rfl
      rw [e]
      have st : Goes V0 42 ((fnPl V0 42).at V0 42 0) (((fnPl V0 42).at V0 42 0).way V0 42 (orSt nl xs i)) .normal (orSt nl xs (i + 1)) := Goes.now fun rec H L => (orRnd rec H L _ _ _ _).trans (by
        rw [br_pos (decide_eq_true (by omega)), br_pos (inR_yes (by omega) (by omega)), w64_id (x := (i : Int) + 1) (by omega) (by omega)]
        exact br_neg hb)
      rcases orLoop nl xs hx d (i + 1) (by omega) with h1 | ⟨h0, h1⟩
      · exact .inl (Loops.step st h1 (by kernel_rfl))
      · exact .inr ⟨h0, Loops.step st h1 (by kernel_rfl)⟩
theorem orK (xs : List S1) (r : Res) (h : (orH xs).den = some r) : ∃ n, call V0 n 42 xs = some r := by
  unfold orH at h
  split at h
  · rename_i nl xs
    obtain ⟨hx, h⟩ := tree_yes h
    obtain rfl := ok_some h
    rcases orLoop nl xs (of_decide_eq_true hx) xs.length 0 (by omega) with h1 | ⟨h0, h1⟩
    · rw [List.drop_zero] at h1
      exact Goes.call (Goes.of (orIn · · · _ _) (Goes.loop h1 Goes.here (by kernel_rfl) (by kernel_rfl) rfl)) (by kernel_rfl) (by kernel_rfl)
    · rw [List.drop_zero] at h0
      rw [h0]
      exact Goes.call (Goes.of (orIn · · · _ _) (Goes.loop h1 (Goes.now (orOut · · · 0)) (by kernel_rfl) (by kernel_rfl) rfl)) (by kernel_rfl) (by kernel_rfl)
  · exact leaf_none h

/-! a number out of bytes -/
def takeSt (nl : Bool) (xs : List Int) (m v : Int) (i : Nat) : St := mkSt 48 [(1, vS (.int .u64 m)), (7, vS (.int .u64 v)), (10, .s (bS nl xs)), (11, vS (.int .i64 (xs.length : Int))), (12, vS (.int .i64 (i : Int)))] []
abbrev takeEnd (t : Int × Int × Int) : St := mkSt 48 [(4, vS (.int .u64 t.1)), (5, vS (.int .i64 t.2.1)), (6, vS (.int .i64 t.2.2))] []
theorem takeRnd2 (rec : Rec) (H : K) (L : Nat → St → Option Res) (nl : Bool) (xs : List Int) (m v : Int) (i : Nat) (hx : xs.length ≤ 1000000) (hi : i < xs.length) :
    ((fnPl V0 41).at V0 41 0).way V0 41 (takeSt nl xs m v i) rec H L =
    br ((decide (i = 9) && decide (nth (.int .u8) xs i > 1)) || (decide (i > 0) && nth (.int .u8) xs i == 0)) (H .ret (takeEnd (0, 0, 21)))
      (br (decide (nth (.int .u8) xs i ≥ 128)) (H .normal (takeSt nl xs m (take7 v (nth (.int .u8) xs i) i) (i + 1)))
        (br (decide (take7 v (nth (.int .u8) xs i) i > m)) (H .ret (takeEnd (0, 0, 22))) (H .ret (takeEnd (take7 v (nth (.int .u8) xs i) i, (i : Int) + 1, 0))))) := by
  refine (takeRnd rec H L nl xs m v _ _).trans ?_
  rw [br_pos (decide_eq_true (by omega)), br_pos (inR_yes (by omega) (by omega))]
  have e7 : decide (IntKind.i64.wrap (7 * (i : Int)) < 0) = false := decide_eq_false (by rw [w64_id (by omega) (by omega)]; omega)
  have e1 : IntKind.i64.wrap ((i : Int) + 1) = ((i + 1 : Nat) : Int) := w64_id (by omega) (by omega)
  have e0 : decide ((i : Int) > 0) = decide (i > 0) := by
    by_cases h : i > 0
    · rw [decide_eq_true h, decide_eq_true (by omega)]
    · rw [decide_eq_false h, decide_eq_false (by omega)]
  have e9 : ((i : Int) == 9) = decide (i = 9) := by
    by_cases h : i = 9
    · subst h; rfl
    · rw [decide_eq_false h]
      exact beq_eq_false_iff_ne.2 (by omega)
  rw [e7, e1, e0, e9]
  show br (decide (i = 9)) (br (!decide (nth (CL.int IntKind.u8) xs i > 1)) (br (decide (i > 0)) (br (nth (CL.int IntKind.u8) xs i == 0) _ _) _) _) (br (decide (i > 0)) (br (nth (CL.int IntKind.u8) xs i == 0) _ _) _) = _
  cases decide (i = 9) <;> cases decide (nth (CL.int IntKind.u8) xs i > 1) <;> cases decide (i > 0) <;> cases (nth (CL.int IntKind.u8) xs i == 0) <;> rfl
theorem takeLoop (nl : Bool) (xs : List Int) (m : Int) (hx : xs.length ≤ 1000000) : ∀ d i v, i + d = xs.length →
    (Loops V0 41 (fnPl V0 41) 0 (takeSt nl xs m v i) .ret (takeEnd (takeR m (xs.drop i) i v)) ∨ (takeR m (xs.drop i) i v = (0, 0, 20) ∧ Loops V0 41 (fnPl V0 41) 0 (takeSt nl xs m v i) (.exit 0) (mkSt 48 [] [])))
  | 0, i, v, h => .inr ⟨by rw [List.drop_of_length_le (by omega)]; rfl, Loops.done (Goes.now fun rec H L => (takeRnd rec H L _ _ _ _ _ _).trans (br_neg (decide_eq_false (by omega)))) (by simp) (by kernel_rfl)⟩
  | d + 1, i, v, h => by
    have hd : xs.drop i = nth (.int .u8) xs i :: xs.drop (i + 1) := nth_drop (e := .int .u8) (by omega)
    have hr := fun rec H L => takeRnd2 rec H L nl xs m v i hx (by omega)
    rw [hd]
    show Loops V0 41 (fnPl V0 41) 0 _ .ret (takeEnd (bif (decide (i = 9) && decide (nth (.int .u8) xs i > 1)) || (decide (i > 0) && nth (.int .u8) xs i == 0) then (0, 0, 21) else bif decide (nth (.int .u8) xs i ≥ 128) then takeR m (xs.drop (i + 1)) (i + 1) (take7 v (nth (.int .u8) xs i) i) else
      bif decide (take7 v (nth (.int .u8) xs i) i > m) then (0, 0, 22) else (take7 v (nth (.int .u8) xs i) i, (i : Int) + 1, 0))) ∨ ((bif (decide (i = 9) && decide (nth (.int .u8) xs i > 1)) || (decide (i > 0) && nth (.int .u8) xs i == 0) then (0, 0, 21) else bif decide (nth (.int .u8) xs i ≥ 128) then takeR m (xs.drop (i + 1)) (i + 1) (take7 v (nth (.int .u8) xs i) i) else
      bif decide (take7 v (nth (.int .u8) xs i) i > m) then (0, 0, 22) else (take7 v (nth (.int .u8) xs i) i, (i : Int) + 1, 0)) = (0, 0, 20) ∧ _)
    cases c1 : ((decide (i = 9) && decide (nth (.int .u8) xs i > 1)) || (decide (i > 0) && nth (.int .u8) xs i == 0)) with
    | true => exact .inl (Loops.done (Goes.now fun rec H L => (hr rec H L).trans (br_pos c1)) (by simp) (by kernel_rfl))
    | false =>
      cases c2 : decide (nth (.int .u8) xs i ≥ 128) with
      | true =>
        have st : Goes V0 41 ((fnPl V0 41).at V0 41 0) (((fnPl V0 41).at V0 41 0).way V0 41 (takeSt nl xs m v i)) .normal (takeSt nl xs m (take7 v (nth (.int .u8) xs i) i) (i + 1)) := Goes.now fun rec H L => (hr rec H L).trans ((br_neg c1).trans (br_pos c2))
        rcases takeLoop nl xs m hx d (i + 1) (take7 v (nth (.int .u8) xs i) i) (by omega) with h1 | ⟨h0, h1⟩
        · exact .inl (Loops.step st h1 (by kernel_rfl))
        · exact .inr ⟨h0, Loops.step st h1 (by kernel_rfl)⟩
      | false =>
        cases c3 : decide (take7 v (nth (.int .u8) xs i) i > m) with
        | true => exact .inl (Loops.done (Goes.now fun rec H L => (hr rec H L).trans ((br_neg c1).trans ((br_neg c2).trans (br_pos c3)))) (by simp) (by kernel_rfl))
        | false => exact .inl (Loops.done (Goes.now fun rec H L => (hr rec H L).trans ((br_neg c1).trans ((br_neg c2).trans (br_neg c3)))) (by simp) (by kernel_rfl))
theorem takeK (xs : List S1) (r : Res) (h : (takeH xs).den = some r) : ∃ n, call V0 n 41 xs = some r := by
  unfold takeH at h
  split at h
  · rename_i nl xs m
    obtain ⟨hx, h⟩ := tree_yes h
    obtain rfl := ok_some h
    rcases takeLoop nl xs m (of_decide_eq_true hx) xs.length 0 0 (by omega) with h1 | ⟨h0, h1⟩
    · rw [List.drop_zero] at h1
      exact Goes.call (Goes.of (takeIn · · · _ _ _) (Goes.loop h1 Goes.here (by kernel_rfl) (by kernel_rfl) rfl)) (by kernel_rfl) (by kernel_rfl)
    · rw [List.drop_zero] at h0
      rw [show takeT m xs = (0, 0, 20) from h0]
      exact Goes.call (Goes.of (takeIn · · · _ _ _) (Goes.loop h1 (Goes.now (takeOut · · · 0)) (by kernel_rfl) (by kernel_rfl) rfl)) (by kernel_rfl) (by kernel_rfl)
  · exact leaf_none h
theorem sok1 : SOK l1 :=
  stubs_cons (x := (44, plain nanH)) (known_plain (V := V0) mix (sok0 _ rfl rfl) nanK) <|
  stubs_cons (x := (41, plain takeH)) (known_plain (V := V0) mix (sok0 _ rfl rfl) takeK) <|
  stubs_cons (x := (29, plain eqH)) (known_plain (V := V0) mix (sok0 _ rfl rfl) eqK) <|
  stubs_cons (x := (42, plain orH)) (known_plain (V := V0) mix (sok0 _ rfl rfl) orK) sok0

theorem cmpK (xs : List S1) (r : Res) (h : (cmpH xs).den = some r) : ∃ n, call V1 n 43 xs = some r := by
  unfold cmpH at h
  split at h
  · rename_i a b
    obtain rfl := ok_some h
    refine Goes.call (e := .ret) (st' := mkSt 20 [(4, vS (.int .i64 (cmpI a b)))] []) (Goes.now fun rec H L => (cmpIn rec H L a b).trans ?_) (by kernel_rfl) (by kernel_rfl)
    unfold cmpI
    cases decide (a < b) <;> cases decide (a > b) <;> rfl
  · exact leaf_none h
theorem takeR_le (m : Int) : ∀ (b : List Int) (i : Nat) (v : Int), 0 ≤ (takeR m b i v).2.1 ∧ (takeR m b i v).2.1 ≤ ((i + b.length : Nat) : Int)
  | [], i, v => ⟨Int.le_refl 0, by show (0 : Int) ≤ _; omega⟩
  | c :: r, i, v => by
    have ih := takeR_le m r (i + 1) (take7 v c i)
    have hl : i + 1 + r.length = i + (c :: r).length := by simp; omega
    rw [hl] at ih
    unfold takeR
    cases ((decide (i = 9) && decide (c > 1)) || (decide (i > 0) && c == 0)) with
    | true => exact ⟨Int.le_refl 0, by show (0 : Int) ≤ _; omega⟩
    | false =>
      cases decide (c ≥ 128) with
      | true => exact ih
      | false =>
        cases decide (take7 v c i > m) with
        | true => exact ⟨Int.le_refl 0, by show (0 : Int) ≤ _; omega⟩
        | false =>
          refine ⟨?_, ?_⟩
          · show (0 : Int) ≤ (i : Int) + 1
            omega
          · show (i : Int) + 1 ≤ _
            simp only [List.length_cons]
            omega
theorem numK (args : List S1) (bx : List (List C)) (r : Res) (h : (numH args bx).den = some r) : ∃ n, callB V1 n 37 args bx = some r := by
  unfold numH at h
  split at h
  · rename_i nl b o
    obtain ⟨hx, h⟩ := tree_yes h
    obtain rfl := ok_some h
    have hle := takeR_le 4294967295 b 0 0
    rw [Nat.zero_add] at hle
    have hl : leR (takeT 4294967295 b).2.1 b.length = true := leR_yes hle.1 hle.2
    cases o with
    | true => exact Goes.callB (Goes.now fun rec H L => (numIn rec H L nl true b).trans ((br_pos hx).trans ((br_pos hl).trans (br_pos rfl)))) (by kernel_rfl) (by kernel_rfl) rfl
    | false => exact Goes.callB (Goes.now fun rec H L => (numIn rec H L nl false b).trans ((br_pos hx).trans ((br_pos hl).trans (br_neg rfl)))) (by kernel_rfl) (by kernel_rfl) rfl
  · exact leaf_none h
theorem sok2 : SOK l2 :=
  stubs_cons (x := (43, plain cmpH)) (known_plain (V := V1) mix (sok1 _ rfl rfl) cmpK) <|
  stubs_cons (x := (37, numH)) (known_of (V := V1) mix (sok1 _ rfl rfl) numK) sok1
theorem cmpEK (xs : List S1) (r : Res) (h : (cmpEH xs).den = some r) : ∃ n, call V2 n 40 xs = some r := by
  unfold cmpEH at h
  split at h
  · obtain rfl := ok_some h
    exact Goes.call (Goes.now fun rec H L => cmpEIn rec H L _ _ _ _) (by kernel_rfl) (by kernel_rfl)
  · exact leaf_none h
theorem sok3 : SOK l3 := stubs_cons (x := (40, plain cmpEH)) (known_plain (V := V2) mix (sok2 _ rfl rfl) cmpEK) sok2
theorem lessK (xs : List S1) (r : Res) (h : (lessH xs).den = some r) : ∃ n, call V3 n 36 xs = some r := by
  unfold lessH at h
  split at h
  · obtain rfl := ok_some h
    exact Goes.call (Goes.now fun rec H L => lessIn rec H L _ _ _ _) (by kernel_rfl) (by kernel_rfl)
  · exact leaf_none h
theorem sok4 : SOK l4 := stubs_cons (x := (36, plain lessH)) (known_plain (V := V3) mix (sok3 _ rfl rfl) lessK) sok3
end Go.Proofs.Ythiaaaedfidnjaa.Aj

namespace Go.Proofs.Ythiaaaedfidnjaa.Aj
open Go Go.Proofs.Ythiaaaedfidnjaa.Am Go.RowKit
set_option linter.unusedVariables false
set_option linter.unusedSimpArgs false
set_option maxRecDepth 100000
/-! rising edges -/
def risSt (nl : Bool) (xs : List Ed) (i : Nat) : St := mkSt 25 [(0, .s (eS nl xs)), (5, vS (.int .i64 (xs.length : Int))), (6, vS (.int .i64 (i : Int)))] []
abbrev nE (xs : List Ed) (i : Nat) : Ed := nth eE xs i
theorem risStep (nl : Bool) (xs : List Ed) (hx : xs.length ≤ 1000000) (i : Nat) (hi : i < xs.length) (h : i = 0 ∨ lessE (nE xs (i - 1)) (nE xs i) = true) :
    Goes V4 26 ((fnPl V4 26).at V4 26 0) (((fnPl V4 26).at V4 26 0).way V4 26 (risSt nl xs i)) .normal (risSt nl xs (i + 1)) :=
  Goes.now fun rec H L => (risRnd rec H L nl xs _ _).trans (by
    rw [br_pos (decide_eq_true (by omega)), w64_id (x := (i : Int) + 1) (by omega) (by omega)]
    rcases h with rfl | h
    · rw [br_neg (by decide)]
      rfl
    · by_cases h0 : i = 0
      · subst h0
        rw [br_neg (by decide)]
        rfl
      · have e1 : IntKind.i64.wrap ((i : Int) - 1) = ((i - 1 : Nat) : Int) := by rw [w64_id (by omega) (by omega)]; omega
        rw [br_pos (decide_eq_true (by omega)), e1, br_pos (inR_yes (by omega) (by omega)), br_pos (inR_yes (by omega) (by omega))]
        exact br_neg (notT h))
theorem risBad (nl : Bool) (xs : List Ed) (hx : xs.length ≤ 1000000) (i : Nat) (hi : i < xs.length) (h0 : 0 < i) (h : lessE (nE xs (i - 1)) (nE xs i) = false) :
    Goes V4 26 ((fnPl V4 26).at V4 26 0) (((fnPl V4 26).at V4 26 0).way V4 26 (risSt nl xs i)) .ret (mkSt 25 [(2, vS (.bool false))] []) :=
  Goes.now fun rec H L => (risRnd rec H L nl xs _ _).trans (by
    have e1 : IntKind.i64.wrap ((i : Int) - 1) = ((i - 1 : Nat) : Int) := by rw [w64_id (by omega) (by omega)]; omega
    rw [br_pos (decide_eq_true (by omega)), br_pos (decide_eq_true (by omega)), e1, br_pos (inR_yes (by omega) (by omega)), br_pos (inR_yes (by omega) (by omega))]
    exact br_pos (notF h))
theorem risEnd (nl : Bool) (xs : List Ed) : Goes V4 26 ((fnPl V4 26).at V4 26 0) (((fnPl V4 26).at V4 26 0).way V4 26 (risSt nl xs xs.length)) (.exit 0) (mkSt 25 [] []) :=
  Goes.now fun rec H L => (risRnd rec H L nl xs _ _).trans (br_neg (decide_eq_false (by omega)))
/-- What is left of the edges, behind one of them. -/
def risFrom (xs : List Ed) (i : Nat) : Bool := risB (xs.drop (i - 1))
theorem nthE_drop {xs : List Ed} {i : Nat} (h : i < xs.length) : xs.drop i = nE xs i :: xs.drop (i + 1) := nth_drop (e := eE) h
theorem risLoop (nl : Bool) (xs : List Ed) (hx : xs.length ≤ 1000000) : ∀ d i, i + d = xs.length → 0 < i →
    (risFrom xs i = true ∧ Loops V4 26 (fnPl V4 26) 0 (risSt nl xs i) (.exit 0) (mkSt 25 [] [])) ∨ (risFrom xs i = false ∧ Loops V4 26 (fnPl V4 26) 0 (risSt nl xs i) .ret (mkSt 25 [(2, vS (.bool false))] []))
  | 0, i, h, h0 => by
    refine .inl ⟨?_, ?_⟩
    · unfold risFrom
      rw [nthE_drop (by omega), List.drop_of_length_le (by omega)]
      rfl
    · obtain rfl : i = xs.length := by omega
      exact Loops.done (risEnd nl xs) (by simp) (by kernel_rfl)
  | d + 1, i, h, h0 => by
    have e : risFrom xs i = (lessE (nE xs (i - 1)) (nE xs i) && risFrom xs (i + 1)) := by
      unfold risFrom
      rw [nthE_drop (xs := xs) (i := i - 1) (by omega), show i - 1 + 1 = i by omega, nthE_drop (xs := xs) (i := i) (by omega), show i + 1 - 1 = i by omega, nthE_drop (xs := xs) (i := i) (by omega)]
      rfl
    rw [e]
    cases hl : lessE (nE xs (i - 1)) (nE xs i) with
    | true =>
      rw [Bool.true_and]
      rcases risLoop nl xs hx d (i + 1) (by omega) (by omega) with ⟨h1, h2⟩ | ⟨h1, h2⟩
      · exact .inl ⟨h1, Loops.step (risStep nl xs hx i (by omega) (.inr hl)) h2 (by kernel_rfl)⟩
      · exact .inr ⟨h1, Loops.step (risStep nl xs hx i (by omega) (.inr hl)) h2 (by kernel_rfl)⟩
    | false => exact .inr ⟨rfl, Loops.done (risBad nl xs hx i (by omega) h0 hl) (by simp) (by kernel_rfl)⟩
theorem risK (xs : List S1) (r : Res) (h : (risH xs).den = some r) : ∃ n, call V4 n 26 xs = some r := by
  unfold risH at h
  split at h
  · rename_i nl xs
    obtain ⟨hx, h⟩ := tree_yes h
    have hx := of_decide_eq_true hx
    obtain rfl := ok_some h
    have hin : ∀ rec H L, fnWay V4 26 [eS nl xs] rec H L = L 0 (risSt nl xs 0) := fun rec H L => risIn rec H L nl xs
    by_cases h0 : xs.length = 0
    · have : xs = [] := List.eq_nil_of_length_eq_zero h0
      subst this
      have lp : Loops V4 26 (fnPl V4 26) 0 (risSt nl [] 0) (.exit 0) (mkSt 25 [] []) := Loops.done (risEnd nl []) (by simp) (by kernel_rfl)
      exact Goes.call (Goes.of hin (Goes.loop lp (Goes.now (risOut · · · 0)) (by kernel_rfl) (by kernel_rfl) rfl)) (by kernel_rfl) (by kernel_rfl)
    · have e : risB xs = risFrom xs 1 := rfl
      rcases risLoop nl xs hx (xs.length - 1) 1 (by omega) (by omega) with ⟨h1, h2⟩ | ⟨h1, h2⟩
      · have lp := Loops.step (risStep nl xs hx 0 (by omega) (.inl rfl)) h2 (by kernel_rfl)
        rw [e, h1]
        exact Goes.call (Goes.of hin (Goes.loop lp (Goes.now (risOut · · · 0)) (by kernel_rfl) (by kernel_rfl) rfl)) (by kernel_rfl) (by kernel_rfl)
      · have lp := Loops.step (risStep nl xs hx 0 (by omega) (.inl rfl)) h2 (by kernel_rfl)
        rw [e, h1]
        exact Goes.call (Goes.of hin (Goes.loop lp Goes.here (by kernel_rfl) (by kernel_rfl) rfl)) (by kernel_rfl) (by kernel_rfl)
  · obtain rfl := ok_some h
    exact ⟨99, by kernel_rfl⟩
  · exact leaf_none h
theorem sok5 : SOK l5 := stubs_cons (x := (26, plain risH)) (known_plain (V := V4) mix (sok4 _ rfl rfl) risK) sok4
end Go.Proofs.Ythiaaaedfidnjaa.Aj

namespace Go.Proofs.Ythiaaaedfidnjaa.Aj
open Go Go.Proofs.Ythiaaaedfidnjaa.Am Go.RowKit
set_option linter.unusedVariables false
set_option linter.unusedSimpArgs false
set_option maxRecDepth 100000
noncomputable def V5 : Env := V l5
theorem vpIn (rec : Rec) (H : K) (L : Nat → St → Option Res) (nl : Bool) (xs : List Int) :
    fnWay V5 27 [.c ⟨.ro, .sl (.int .u64) nl xs⟩] rec H L =
  L 0 (mkSt 29 [(3, .s (.c (⟨.ro, AV.nilv⟩))), (6, .s (.c (⟨.ro, AV.sl (CL.int IntKind.u64) nl xs⟩))), (7, vS (.int .i64 (↑xs.length : Int))), (8, vS (.int .i64 0))] []) := by kernel_rfl
theorem vpRndN (rec : Rec) (H : K) (L : Nat → St → Option Res) (nl : Bool) (xs : List Int) (len i : Int) :
    ((fnPl V5 27).at V5 27 0).way V5 27 (mkSt 29 [(3, .s (.c ⟨.ro, .nilv⟩)), (6, .s (.c ⟨.ro, .sl (.int .u64) nl xs⟩)), (7, vS (.int .i64 len)), (8, vS (.int .i64 i))] []) rec H L =
  br (decide (i < len)) (
    br (inR i xs.length) (
      L 0 (mkSt 29 [(3, .s (.c (⟨.ro, AV.nilv⟩))), (5, vS (.int .u64 (nth (CL.int IntKind.u64) xs i.toNat))), (6, .s (.c (⟨.ro, AV.sl (CL.int IntKind.u64) nl xs⟩))), (7, vS (.int .i64 len)), (8, vS (.int .i64 i))] [])) (
      none)) (
    H (.exit 0) (mkSt 29 [(3, .s (.c (⟨.ro, AV.nilv⟩)))] [])) := by kernel_rfl
theorem vpRnd (rec : Rec) (H : K) (L : Nat → St → Option Res) (nl : Bool) (xs o : List Int) (len i : Int) :
    ((fnPl V5 27).at V5 27 0).way V5 27 (mkSt 29 [(3, .s (.c ⟨.own 832 none, .sl (.int .u8) false o⟩)), (6, .s (.c ⟨.ro, .sl (.int .u64) nl xs⟩)), (7, vS (.int .i64 len)), (8, vS (.int .i64 i))] []) rec H L =
  br (decide (i < len)) (
    br (inR i xs.length) (
      L 0 (mkSt 29 [(3, .s (.c (⟨.own 832 none, AV.sl (CL.int IntKind.u8) false o⟩))), (5, vS (.int .u64 (nth (CL.int IntKind.u64) xs i.toNat))), (6, .s (.c (⟨.ro, AV.sl (CL.int IntKind.u64) nl xs⟩))), (7, vS (.int .i64 len)), (8, vS (.int .i64 i))] [])) (
      none)) (
    H (.exit 0) (mkSt 29 [(3, .s (.c (⟨.own 832 none, AV.sl (CL.int IntKind.u8) false o⟩)))] [])) := by kernel_rfl
theorem vpIRndN (rec : Rec) (H : K) (L : Nat → St → Option Res) (nl : Bool) (xs : List Int) (len i v : Int) :
    (((fnPl V5 27).at V5 27 0).at V5 27 0).way V5 27 (mkSt 29 [(3, .s (.c ⟨.ro, .nilv⟩)), (5, vS (.int .u64 v)), (6, .s (.c ⟨.ro, .sl (.int .u64) nl xs⟩)), (7, vS (.int .i64 len)), (8, vS (.int .i64 i))] []) rec H L =
  br (decide (v ≥ 128)) (
    H .normal (mkSt 29 [(3, .s (.c (⟨.own 672 none, AV.sl (CL.int IntKind.u8) (isNilL [more v]) [more v]⟩))), (5, vS (.int .u64 (shr7 v))), (6, .s (.c (⟨.ro, AV.sl (CL.int IntKind.u64) nl xs⟩))), (7, vS (.int .i64 len)), (8, vS (.int .i64 i))] [])) (
    H (.exit 2) (mkSt 29 [(3, .s (.c (⟨.ro, AV.nilv⟩))), (5, vS (.int .u64 v)), (6, .s (.c (⟨.ro, AV.sl (CL.int IntKind.u64) nl xs⟩))), (7, vS (.int .i64 len)), (8, vS (.int .i64 i))] [])) := by kernel_rfl
theorem vpIRnd (rec : Rec) (H : K) (L : Nat → St → Option Res) (nl : Bool) (xs o : List Int) (len i v : Int) :
    (((fnPl V5 27).at V5 27 0).at V5 27 0).way V5 27 (mkSt 29 [(3, .s (.c ⟨.own 672 none, .sl (.int .u8) false o⟩)), (5, vS (.int .u64 v)), (6, .s (.c ⟨.ro, .sl (.int .u64) nl xs⟩)), (7, vS (.int .i64 len)), (8, vS (.int .i64 i))] []) rec H L =
  br (decide (v ≥ 128)) (
    br (fits (o.length + [more v].length) (V5.P.bytesOf 5)) (
      H .normal (mkSt 29 [(3, .s (.c (⟨.own 672 none, AV.sl (CL.int IntKind.u8) (false && isNilL [more v]) (o ++ [more v])⟩))), (5, vS (.int .u64 (shr7 v))), (6, .s (.c (⟨.ro, AV.sl (CL.int IntKind.u64) nl xs⟩))), (7, vS (.int .i64 len)), (8, vS (.int .i64 i))] [])) (
      none)) (
    H (.exit 2) (mkSt 29 [(3, .s (.c (⟨.own 672 none, AV.sl (CL.int IntKind.u8) false o⟩))), (5, vS (.int .u64 v)), (6, .s (.c (⟨.ro, AV.sl (CL.int IntKind.u64) nl xs⟩))), (7, vS (.int .i64 len)), (8, vS (.int .i64 i))] [])) := by kernel_rfl
theorem vpIRnd2 (rec : Rec) (H : K) (L : Nat → St → Option Res) (nl : Bool) (xs o : List Int) (len i v : Int) :
    (((fnPl V5 27).at V5 27 0).at V5 27 0).way V5 27 (mkSt 29 [(3, .s (.c ⟨.own 832 none, .sl (.int .u8) false o⟩)), (5, vS (.int .u64 v)), (6, .s (.c ⟨.ro, .sl (.int .u64) nl xs⟩)), (7, vS (.int .i64 len)), (8, vS (.int .i64 i))] []) rec H L =
  br (decide (v ≥ 128)) (
    br (fits (o.length + [more v].length) (V5.P.bytesOf 5)) (
      H .normal (mkSt 29 [(3, .s (.c (⟨.own 672 none, AV.sl (CL.int IntKind.u8) (false && isNilL [more v]) (o ++ [more v])⟩))), (5, vS (.int .u64 (shr7 v))), (6, .s (.c (⟨.ro, AV.sl (CL.int IntKind.u64) nl xs⟩))), (7, vS (.int .i64 len)), (8, vS (.int .i64 i))] [])) (
      none)) (
    H (.exit 2) (mkSt 29 [(3, .s (.c (⟨.own 832 none, AV.sl (CL.int IntKind.u8) false o⟩))), (5, vS (.int .u64 v)), (6, .s (.c (⟨.ro, AV.sl (CL.int IntKind.u64) nl xs⟩))), (7, vS (.int .i64 len)), (8, vS (.int .i64 i))] [])) := by kernel_rfl
theorem vpPastN (rec : Rec) (H : K) (L : Nat → St → Option Res) (nl : Bool) (xs : List Int) (len i v : Int) :
    ((fnPl V5 27).at V5 27 0).past V5 27 0 (.exit 2) (mkSt 29 [(3, .s (.c ⟨.ro, .nilv⟩)), (5, vS (.int .u64 v)), (6, .s (.c ⟨.ro, .sl (.int .u64) nl xs⟩)), (7, vS (.int .i64 len)), (8, vS (.int .i64 i))] []) rec H L =
  H .normal (mkSt 29 [(3, .s (.c (⟨.own 832 none, AV.sl (CL.int IntKind.u8) (isNilL [IntKind.u8.wrap v]) [IntKind.u8.wrap v]⟩))), (6, .s (.c (⟨.ro, AV.sl (CL.int IntKind.u64) nl xs⟩))), (7, vS (.int .i64 len)), (8, vS (.int .i64 (IntKind.i64.wrap (i + 1))))] []) := by kernel_rfl
theorem vpPast (rec : Rec) (H : K) (L : Nat → St → Option Res) (nl : Bool) (xs o : List Int) (len i v : Int) :
    ((fnPl V5 27).at V5 27 0).past V5 27 0 (.exit 2) (mkSt 29 [(3, .s (.c ⟨.own 672 none, .sl (.int .u8) false o⟩)), (5, vS (.int .u64 v)), (6, .s (.c ⟨.ro, .sl (.int .u64) nl xs⟩)), (7, vS (.int .i64 len)), (8, vS (.int .i64 i))] []) rec H L =
  br (fits (o.length + [IntKind.u8.wrap v].length) (V5.P.bytesOf 5)) (
    H .normal (mkSt 29 [(3, .s (.c (⟨.own 832 none, AV.sl (CL.int IntKind.u8) (false && isNilL [IntKind.u8.wrap v]) (o ++ [IntKind.u8.wrap v])⟩))), (6, .s (.c (⟨.ro, AV.sl (CL.int IntKind.u64) nl xs⟩))), (7, vS (.int .i64 len)), (8, vS (.int .i64 (IntKind.i64.wrap (i + 1))))] [])) (
    none) := by kernel_rfl
theorem vpPast2 (rec : Rec) (H : K) (L : Nat → St → Option Res) (nl : Bool) (xs o : List Int) (len i v : Int) :
    ((fnPl V5 27).at V5 27 0).past V5 27 0 (.exit 2) (mkSt 29 [(3, .s (.c ⟨.own 832 none, .sl (.int .u8) false o⟩)), (5, vS (.int .u64 v)), (6, .s (.c ⟨.ro, .sl (.int .u64) nl xs⟩)), (7, vS (.int .i64 len)), (8, vS (.int .i64 i))] []) rec H L =
  br (fits (o.length + [IntKind.u8.wrap v].length) (V5.P.bytesOf 5)) (
    H .normal (mkSt 29 [(3, .s (.c (⟨.own 832 none, AV.sl (CL.int IntKind.u8) (false && isNilL [IntKind.u8.wrap v]) (o ++ [IntKind.u8.wrap v])⟩))), (6, .s (.c (⟨.ro, AV.sl (CL.int IntKind.u64) nl xs⟩))), (7, vS (.int .i64 len)), (8, vS (.int .i64 (IntKind.i64.wrap (i + 1))))] [])) (
    none) := by kernel_rfl
theorem vpOut (rec : Rec) (H : K) (L : Nat → St → Option Res) (o : List Int) :
    (fnPl V5 27).past V5 27 0 (.exit 0) (mkSt 29 [(3, .s (.c ⟨.own 832 none, .sl (.int .u8) false o⟩))] []) rec H L =
  H .ret (mkSt 29 [(2, .s (.c (⟨.own 832 none, AV.sl (CL.int IntKind.u8) false o⟩)))] []) := by kernel_rfl
end Go.Proofs.Ythiaaaedfidnjaa.Aj

namespace Go.Proofs.Ythiaaaedfidnjaa.Aj
open Go Go.Proofs.Ythiaaaedfidnjaa.Am Go.RowKit
set_option linter.unusedVariables false
set_option linter.unusedSimpArgs false
set_option maxRecDepth 100000
/-! numbers' bytes -/
theorem byte5 : V5.P.bytesOf 5 = 1 := by kernel_rfl
theorem shr7_eq (v : Int) : shr7 v = v / 128 := by
  show v.fdiv 128 = _
  exact fdiv_pos v (by decide)
/-- What has been put so far: nothing, or a slice of one's own. -/
inductive OT where
  | n | a | b
def OT.cell : OT → List Int → C
  | .n, _ => ⟨.ro, .nilv⟩
  | .a, o => ⟨.own 672 none, .sl (.int .u8) false o⟩
  | .b, o => ⟨.own 832 none, .sl (.int .u8) false o⟩
def OT.fine : OT → List Int → Prop
  | .n, o => o = []
  | _, _ => True
def vpI (t : OT) (nl : Bool) (xs o : List Int) (i : Nat) (v : Int) : St := mkSt 29 [(3, .s (.c (t.cell o))), (5, vS (.int .u64 v)), (6, .s (.c ⟨.ro, .sl (.int .u64) nl xs⟩)), (7, vS (.int .i64 (xs.length : Int))), (8, vS (.int .i64 (i : Int)))] []
def vpO (t : OT) (nl : Bool) (xs o : List Int) (i : Nat) : St := mkSt 29 [(3, .s (.c (t.cell o))), (6, .s (.c ⟨.ro, .sl (.int .u64) nl xs⟩)), (7, vS (.int .i64 (xs.length : Int))), (8, vS (.int .i64 (i : Int)))] []
noncomputable abbrev q27 : Pl := (fnPl V5 27).at V5 27 0
noncomputable abbrev q27i : Pl := q27.at V5 27 0
theorem vpIStep {t : OT} {nl : Bool} {xs o : List Int} {i : Nat} {v : Int} (ht : t.fine o) (hv : v ≥ 128) (ho : o.length ≤ 10000000) : Goes V5 27 q27i (q27i.way V5 27 (vpI t nl xs o i v)) .normal (vpI .a nl xs (o ++ [more v]) i (shr7 v)) := by
  refine Goes.now fun rec H L => ?_
  cases t with
  | n =>
    have : o = [] := ht
    subst this
    exact (vpIRndN rec H L nl xs _ _ v).trans (br_pos (decide_eq_true hv))
  | a => exact (vpIRnd rec H L nl xs o _ _ v).trans ((br_pos (decide_eq_true hv)).trans (br_pos (by rw [byte5, len1]; exact fits_small (by omega) (by decide))))
  | b => exact (vpIRnd2 rec H L nl xs o _ _ v).trans ((br_pos (decide_eq_true hv)).trans (br_pos (by rw [byte5, len1]; exact fits_small (by omega) (by decide))))
theorem vpIEnd {t : OT} {nl : Bool} {xs o : List Int} {i : Nat} {v : Int} (hv : ¬ v ≥ 128) : Goes V5 27 q27i (q27i.way V5 27 (vpI t nl xs o i v)) (.exit 2) (vpI t nl xs o i v) := by
  refine Goes.now fun rec H L => ?_
  cases t with
  | n => exact (vpIRndN rec H L nl xs _ _ v).trans (br_neg (decide_eq_false hv))
  | a => exact (vpIRnd rec H L nl xs o _ _ v).trans (br_neg (decide_eq_false hv))
  | b => exact (vpIRnd2 rec H L nl xs o _ _ v).trans (br_neg (decide_eq_false hv))
theorem vpILoop {nl : Bool} {xs : List Int} {i : Nat} : ∀ (n : Nat) {t : OT} {o : List Int} {v : Int}, t.fine o → v < 128 ^ (n + 1) → o.length + n ≤ 10000000 →
    ∃ t' o' v', Loops V5 27 q27 0 (vpI t nl xs o i v) (.exit 2) (vpI t' nl xs o' i v') ∧ t'.fine o' ∧ o' ++ [w8 v'] = o ++ putF n v ∧ o'.length ≤ o.length + n
  | 0, t, o, v, ht, hv, ho => ⟨t, o, v, Loops.done (vpIEnd (by simpa using hv)) (by simp) (by kernel_rfl), ht, rfl, by omega⟩
  | n + 1, t, o, v, ht, hv, ho => by
    by_cases h : v ≥ 128
    · have h2 : shr7 v < 128 ^ (n + 1) := by
        rw [shr7_eq]
        rw [Int.pow_succ] at hv
        exact Int.ediv_lt_of_lt_mul (by decide) hv
      obtain ⟨t', o', v', h3, h4, h5, h6⟩ := vpILoop (nl := nl) (xs := xs) (i := i) n (t := .a) (o := o ++ [more v]) (v := shr7 v) trivial h2 (by simp; omega)
      refine ⟨t', o', v', Loops.step (vpIStep ht h (by omega)) h3 (by kernel_rfl), h4, ?_, by simp at h6; omega⟩
      rw [h5, List.append_assoc]
      congr 1
      show _ = bif decide (v ≥ 128) then more v :: putF n (shr7 v) else [w8 v]
      rw [decide_eq_true h]
      rfl
    · refine ⟨t, o, v, Loops.done (vpIEnd h) (by simp) (by kernel_rfl), ht, ?_, by omega⟩
      congr 1
      show _ = bif decide (v ≥ 128) then more v :: putF n (shr7 v) else [w8 v]
      rw [decide_eq_false h]
      rfl
theorem vpPastE {t : OT} {nl : Bool} {xs o : List Int} {i : Nat} {v : Int} (ht : t.fine o) (ho : o.length ≤ 10000000) (hi : (i : Int) < 1000000000) : Goes V5 27 q27 (q27.past V5 27 0 (.exit 2) (vpI t nl xs o i v)) .normal (vpO .b nl xs (o ++ [w8 v]) (i + 1)) := by
  refine Goes.now fun rec H L => ?_
  have e : IntKind.i64.wrap ((i : Int) + 1) = ((i + 1 : Nat) : Int) := w64_id (by omega) (by omega)
  cases t with
  | n =>
    have : o = [] := ht
    subst this
    refine (vpPastN rec H L nl xs _ _ v).trans ?_
    rw [e]
    rfl
  | a =>
    refine (vpPast rec H L nl xs o _ _ v).trans ((br_pos (by rw [byte5, len1]; exact fits_small (by omega) (by decide))).trans ?_)
    rw [e]
    rfl
  | b =>
    refine (vpPast2 rec H L nl xs o _ _ v).trans ((br_pos (by rw [byte5, len1]; exact fits_small (by omega) (by decide))).trans ?_)
    rw [e]
    rfl
theorem vpRound {t : OT} {nl : Bool} {xs o : List Int} {i : Nat} (ht : t.fine o) (htb : t ≠ .a) (hx : xs.length ≤ 1000) (hi : i < xs.length) (ho : o.length ≤ 9000000) (hv : nth (.int .u64) xs i < (18446744073709551616 : Int)) :
    Goes V5 27 q27 (q27.way V5 27 (vpO t nl xs o i)) .normal (vpO .b nl xs (o ++ putV (nth (.int .u64) xs i)) (i + 1)) := by
  have hin : ∀ rec H L, q27.way V5 27 (vpO t nl xs o i) rec H L = L 0 (vpI t nl xs o i (nth (.int .u64) xs i)) := fun rec H L => by
    cases t with
    | n => exact (vpRndN rec H L nl xs _ _).trans ((br_pos (decide_eq_true (by omega))).trans (br_pos (inR_yes (by omega) (by omega))))
    | a => exact absurd rfl htb
    | b => exact (vpRnd rec H L nl xs o _ _).trans ((br_pos (decide_eq_true (by omega))).trans (br_pos (inR_yes (by omega) (by omega))))
  obtain ⟨t', o', v', h3, h4, h5, h6⟩ := vpILoop (nl := nl) (xs := xs) (i := i) 9 (t := t) (o := o) (v := nth (.int .u64) xs i) ht (Int.lt_trans hv (by decide)) (by omega)
  refine Goes.of hin (Goes.loop h3 ?_ (by kernel_rfl) (by kernel_rfl) rfl)
  have := vpPastE (t := t') (nl := nl) (xs := xs) (o := o') (i := i) (v := v') h4 (by omega) (by omega)
  rw [h5] at this
  exact this
theorem putF_len : ∀ (n : Nat) (v : Int), (putF n v).length ≤ n + 1
  | 0, v => Nat.le_refl _
  | n + 1, v => by
    unfold putF
    have := putF_len n (shr7 v)
    cases decide (v ≥ 128) with
    | true => show (more v :: putF n (shr7 v)).length ≤ _; simp; omega
    | false => show 1 ≤ _; omega
theorem vpLoop {nl : Bool} {xs : List Int} (hx : xs.length ≤ 1000) (hb : ∀ i, nth (.int .u64) xs i < (18446744073709551616 : Int)) : ∀ d i o, i + d = xs.length → o.length ≤ 10 * i →
    Loops V5 27 (fnPl V5 27) 0 (vpO .b nl xs o i) (.exit 0) (mkSt 29 [(3, .s (.c (⟨.own 832 none, .sl (.int .u8) false (o ++ putVs (xs.drop i))⟩)))] [])
  | 0, i, o, h, ho => by
    rw [List.drop_of_length_le (by omega)]
    show Loops V5 27 (fnPl V5 27) 0 (vpO .b nl xs o i) (.exit 0) (mkSt 29 [(3, .s (.c (⟨.own 832 none, .sl (.int .u8) false (o ++ [])⟩)))] [])
    rw [List.append_nil]
    exact Loops.done (Goes.now fun rec H L => (vpRnd rec H L nl xs o _ _).trans (br_neg (decide_eq_false (by omega)))) (by simp) (by kernel_rfl)
  | d + 1, i, o, h, ho => by
    have hd : xs.drop i = nth (.int .u64) xs i :: xs.drop (i + 1) := nth_drop (e := .int .u64) (by omega)
    rw [hd]
    show Loops V5 27 (fnPl V5 27) 0 (vpO .b nl xs o i) (.exit 0) (mkSt 29 [(3, .s (.c (⟨.own 832 none, .sl (.int .u8) false (o ++ (putV (nth (.int .u64) xs i) ++ putVs (xs.drop (i + 1))))⟩)))] [])
    rw [← List.append_assoc]
    have hl := putF_len 9 (nth (.int .u64) xs i)
    exact Loops.step (vpRound (t := .b) trivial (by simp) hx (by omega) (by omega) (hb i)) (vpLoop hx hb d (i + 1) _ (by omega) (by rw [List.length_append]; show o.length + (putF 9 _).length ≤ _; omega)) (by kernel_rfl)
theorem vpK (args : List S1) (r : Res) (h : (vpH args).den = some r) : ∃ n, call V5 n 27 args = some r := by
  unfold vpH at h
  split at h
  · rename_i nl xs
    obtain ⟨hx, h⟩ := tree_yes h
    obtain rfl := ok_some h
    simp only [Bool.and_eq_true, decide_eq_true_eq, Bool.not_eq_true', List.all_eq_true] at hx
    obtain ⟨⟨hn, hx⟩, hb⟩ := hx
    have hb' : ∀ i, nth (.int .u64) xs i < (18446744073709551616 : Int) := fun i => by
      unfold nth
      rw [List.getD_eq_getElem?_getD]
      cases hi : xs[i]? with
      | none => exact (by decide : (0 : Int) < 18446744073709551616)
      | some y => exact hb y (List.mem_of_getElem? hi)
    cases xs with
    | nil => simp [isNilL] at hn
    | cons x r =>
      have hin : ∀ rec H L, fnWay V5 27 [.c ⟨.ro, .sl (.int .u64) nl (x :: r)⟩] rec H L = L 0 (vpO .n nl (x :: r) [] 0) := fun rec H L => vpIn rec H L nl (x :: r)
      have h1 := vpRound (t := .n) (nl := nl) (xs := x :: r) (o := []) (i := 0) rfl (by simp) hx (by simp) (by simp) (hb' 0)
      have hl := putF_len 9 x
      have h2 := vpLoop (nl := nl) (xs := x :: r) hx hb' r.length 1 (putV x) (by simp; omega) (by show (putF 9 x).length ≤ _; omega)
      have lp := Loops.step h1 h2 (by kernel_rfl)
      exact Goes.call (Goes.of hin (Goes.loop lp (Goes.now (vpOut · · · _)) (by kernel_rfl) (by kernel_rfl) rfl)) (by kernel_rfl) (by kernel_rfl)
  · exact leaf_none h
theorem sok6 : SOK l6 := stubs_cons (x := (27, plain vpH)) (known_plain (V := V5) mix (sok5 _ rfl rfl) vpK) sok5
end Go.Proofs.Ythiaaaedfidnjaa.Aj

namespace Go.Proofs.Ythiaaaedfidnjaa.Aj
open Go Go.Proofs.Ythiaaaedfidnjaa.Am Go.RowKit
set_option linter.unusedVariables false
set_option linter.unusedSimpArgs false
set_option maxRecDepth 100000
noncomputable def V6 : Env := V l6
noncomputable def V7 : Env := V l7
theorem edIn (rec : Rec) (H : K) (L : Nat → St → Option Res) (nl o : Bool) (b : List Int) (n : Int) :
    fnWayB V6 28 [.c ⟨.ro, .ptr 0 0⟩, wS .u64 n] [rdB nl b o] rec H L =
  br (decide (b.length ≤ 1000000)) (
    L 0 (mkSt 76 [(0, .s (.c (⟨.ro, AV.ptr 0 0⟩))), (1, vS (.int .u64 n)), (5, .s (.c (⟨.ro, AV.nilv⟩))), (6, vS (.int .u64 0)), (7, vS (.int .u64 (numT b).fst))] [[⟨.ro, AV.sl (CL.int IntKind.u8) nl (numB b)⟩, vC (.bool (numO b o))]])) (
    none) := by kernel_rfl
theorem edRndN (rec : Rec) (H : K) (L : Nat → St → Option Res) (nl o : Bool) (b : List Int) (n nx many : Int) :
    ((fnPl V6 28).at V6 28 0).way V6 28 (mkSt 76 [(0, .s (.c ⟨.ro, .ptr 0 0⟩)), (1, vS (.int .u64 n)), (5, .s (.c ⟨.ro, .nilv⟩)), (6, vS (.int .u64 nx)), (7, vS (.int .u64 many))] [rdB nl b o]) rec H L =
  br (decide (many > 0)) (
    br o (
      br (decide (b.length ≤ 1000000)) (
        br (decide ((numB b).length ≤ 1000000)) (
          L 0 (mkSt 76 [(0, .s (.c (⟨.ro, AV.ptr 0 0⟩))), (1, vS (.int .u64 n)), (5, .s (.c (⟨.ro, AV.nilv⟩))), (6, vS (.int .u64 (IntKind.u64.wrap (IntKind.u64.wrap (nx + (numT b).fst) + 1)))), (7, vS (.int .u64 many)), (8, vS (.int .u64 (IntKind.u64.wrap (nx + (numT b).fst)))), (9, vS (.int .u64 (IntKind.u64.wrap (nx + (numT b).fst)))), (10, vS (.int .u64 (numT (numB b)).fst))] [[⟨.ro, AV.sl (CL.int IntKind.u8) nl (numB (numB b))⟩, vC (.bool (numO (numB b) (numO b o)))]])) (
          none)) (
        none)) (
      H (.exit 0) (mkSt 76 [(5, .s (.c (⟨.ro, AV.nilv⟩)))] [[⟨.ro, AV.sl (CL.int IntKind.u8) nl b⟩, vC (.bool o)]]))) (
    H (.exit 0) (mkSt 76 [(5, .s (.c (⟨.ro, AV.nilv⟩)))] [[⟨.ro, AV.sl (CL.int IntKind.u8) nl b⟩, vC (.bool o)]])) := by kernel_rfl
theorem edRnd (rec : Rec) (H : K) (L : Nat → St → Option Res) (nl o : Bool) (b : List Int) (out : List Ed) (n nx many : Int) :
    ((fnPl V6 28).at V6 28 0).way V6 28 (mkSt 76 [(0, .s (.c ⟨.ro, .ptr 0 0⟩)), (1, vS (.int .u64 n)), (5, .s (.c ⟨.own 2368 none, .sl eE false out⟩)), (6, vS (.int .u64 nx)), (7, vS (.int .u64 many))] [rdB nl b o]) rec H L =
  br (decide (many > 0)) (
    br o (
      br (decide (b.length ≤ 1000000)) (
        br (decide ((numB b).length ≤ 1000000)) (
          L 0 (mkSt 76 [(0, .s (.c (⟨.ro, AV.ptr 0 0⟩))), (1, vS (.int .u64 n)), (5, .s (.c (⟨.own 2368 none, AV.sl ((CL.int IntKind.u32).cons (CL.int IntKind.u32)) false out⟩))), (6, vS (.int .u64 (IntKind.u64.wrap (IntKind.u64.wrap (nx + (numT b).fst) + 1)))), (7, vS (.int .u64 many)), (8, vS (.int .u64 (IntKind.u64.wrap (nx + (numT b).fst)))), (9, vS (.int .u64 (IntKind.u64.wrap (nx + (numT b).fst)))), (10, vS (.int .u64 (numT (numB b)).fst))] [[⟨.ro, AV.sl (CL.int IntKind.u8) nl (numB (numB b))⟩, vC (.bool (numO (numB b) (numO b o)))]])) (
          none)) (
        none)) (
      H (.exit 0) (mkSt 76 [(5, .s (.c (⟨.own 2368 none, AV.sl ((CL.int IntKind.u32).cons (CL.int IntKind.u32)) false out⟩)))] [[⟨.ro, AV.sl (CL.int IntKind.u8) nl b⟩, vC (.bool o)]]))) (
    H (.exit 0) (mkSt 76 [(5, .s (.c (⟨.own 2368 none, AV.sl ((CL.int IntKind.u32).cons (CL.int IntKind.u32)) false out⟩)))] [[⟨.ro, AV.sl (CL.int IntKind.u8) nl b⟩, vC (.bool o)]])) := by kernel_rfl
theorem edIRndN (rec : Rec) (H : K) (L : Nat → St → Option Res) (nl o : Bool) (b : List Int) (n nx many u last k : Int) :
    (((fnPl V6 28).at V6 28 0).at V6 28 0).way V6 28 (mkSt 76 [(0, .s (.c ⟨.ro, .ptr 0 0⟩)), (1, vS (.int .u64 n)), (5, .s (.c ⟨.ro, .nilv⟩)), (6, vS (.int .u64 nx)), (7, vS (.int .u64 many)), (8, vS (.int .u64 u)), (9, vS (.int .u64 last)), (10, vS (.int .u64 k))] [rdB nl b o]) rec H L =
  br (decide (k > 0)) (
    br o (
      br (decide (b.length ≤ 1000000)) (
        br (numO b o) (
          br (decide (edL last b < n)) (
            br (decide (edL last b ≤ 4294967295)) (
              H .normal (mkSt 76 [(0, .s (.c (⟨.ro, AV.ptr 0 0⟩))), (1, vS (.int .u64 n)), (5, .s (.c (⟨.own 2368 none, AV.sl ((CL.int IntKind.u32).cons (CL.int IntKind.u32)) (isNilL [(IntKind.u32.wrap u, IntKind.u32.wrap (edL last b))]) [(IntKind.u32.wrap u, IntKind.u32.wrap (edL last b))]⟩))), (6, vS (.int .u64 nx)), (7, vS (.int .u64 many)), (8, vS (.int .u64 u)), (9, vS (.int .u64 (edL last b))), (10, vS (.int .u64 (IntKind.u64.wrap (k - 1))))] [[⟨.ro, AV.sl (CL.int IntKind.u8) nl (numB b)⟩, vC (.bool (decide (edL last b ≤ 4294967295)))]])) (
              H .normal (mkSt 76 [(0, .s (.c (⟨.ro, AV.ptr 0 0⟩))), (1, vS (.int .u64 n)), (5, .s (.c (⟨.ro, AV.nilv⟩))), (6, vS (.int .u64 nx)), (7, vS (.int .u64 many)), (8, vS (.int .u64 u)), (9, vS (.int .u64 (edL last b))), (10, vS (.int .u64 (IntKind.u64.wrap (k - 1))))] [[⟨.ro, AV.sl (CL.int IntKind.u8) nl (numB b)⟩, vC (.bool (decide (edL last b ≤ 4294967295)))]]))) (
            H .normal (mkSt 76 [(0, .s (.c (⟨.ro, AV.ptr 0 0⟩))), (1, vS (.int .u64 n)), (5, .s (.c (⟨.ro, AV.nilv⟩))), (6, vS (.int .u64 nx)), (7, vS (.int .u64 many)), (8, vS (.int .u64 u)), (9, vS (.int .u64 (edL last b))), (10, vS (.int .u64 (IntKind.u64.wrap (k - 1))))] [[⟨.ro, AV.sl (CL.int IntKind.u8) nl (numB b)⟩, vC (.bool false)]]))) (
          H .normal (mkSt 76 [(0, .s (.c (⟨.ro, AV.ptr 0 0⟩))), (1, vS (.int .u64 n)), (5, .s (.c (⟨.ro, AV.nilv⟩))), (6, vS (.int .u64 nx)), (7, vS (.int .u64 many)), (8, vS (.int .u64 u)), (9, vS (.int .u64 (edL last b))), (10, vS (.int .u64 (IntKind.u64.wrap (k - 1))))] [[⟨.ro, AV.sl (CL.int IntKind.u8) nl (numB b)⟩, vC (.bool false)]]))) (
        none)) (
      H (.exit 2) (mkSt 76 [(0, .s (.c (⟨.ro, AV.ptr 0 0⟩))), (1, vS (.int .u64 n)), (5, .s (.c (⟨.ro, AV.nilv⟩))), (6, vS (.int .u64 nx)), (7, vS (.int .u64 many))] [[⟨.ro, AV.sl (CL.int IntKind.u8) nl b⟩, vC (.bool o)]]))) (
    H (.exit 2) (mkSt 76 [(0, .s (.c (⟨.ro, AV.ptr 0 0⟩))), (1, vS (.int .u64 n)), (5, .s (.c (⟨.ro, AV.nilv⟩))), (6, vS (.int .u64 nx)), (7, vS (.int .u64 many))] [[⟨.ro, AV.sl (CL.int IntKind.u8) nl b⟩, vC (.bool o)]])) := by kernel_rfl
theorem edIRnd (rec : Rec) (H : K) (L : Nat → St → Option Res) (nl o : Bool) (b : List Int) (out : List Ed) (n nx many u last k : Int) :
    (((fnPl V6 28).at V6 28 0).at V6 28 0).way V6 28 (mkSt 76 [(0, .s (.c ⟨.ro, .ptr 0 0⟩)), (1, vS (.int .u64 n)), (5, .s (.c ⟨.own 2368 none, .sl eE false out⟩)), (6, vS (.int .u64 nx)), (7, vS (.int .u64 many)), (8, vS (.int .u64 u)), (9, vS (.int .u64 last)), (10, vS (.int .u64 k))] [rdB nl b o]) rec H L =
  br (decide (k > 0)) (
    br o (
      br (decide (b.length ≤ 1000000)) (
        br (numO b o) (
          br (decide (edL last b < n)) (
            br (decide (edL last b ≤ 4294967295)) (
              br (fits (out.length + [(IntKind.u32.wrap u, IntKind.u32.wrap (edL last b))].length) (V6.P.bytesOf 50)) (
                H .normal (mkSt 76 [(0, .s (.c (⟨.ro, AV.ptr 0 0⟩))), (1, vS (.int .u64 n)), (5, .s (.c (⟨.own 2368 none, AV.sl ((CL.int IntKind.u32).cons (CL.int IntKind.u32)) (false && isNilL [(IntKind.u32.wrap u, IntKind.u32.wrap (edL last b))]) (out ++ [(IntKind.u32.wrap u, IntKind.u32.wrap (edL last b))])⟩))), (6, vS (.int .u64 nx)), (7, vS (.int .u64 many)), (8, vS (.int .u64 u)), (9, vS (.int .u64 (edL last b))), (10, vS (.int .u64 (IntKind.u64.wrap (k - 1))))] [[⟨.ro, AV.sl (CL.int IntKind.u8) nl (numB b)⟩, vC (.bool (decide (edL last b ≤ 4294967295)))]])) (
                none)) (
              H .normal (mkSt 76 [(0, .s (.c (⟨.ro, AV.ptr 0 0⟩))), (1, vS (.int .u64 n)), (5, .s (.c (⟨.own 2368 none, AV.sl ((CL.int IntKind.u32).cons (CL.int IntKind.u32)) false out⟩))), (6, vS (.int .u64 nx)), (7, vS (.int .u64 many)), (8, vS (.int .u64 u)), (9, vS (.int .u64 (edL last b))), (10, vS (.int .u64 (IntKind.u64.wrap (k - 1))))] [[⟨.ro, AV.sl (CL.int IntKind.u8) nl (numB b)⟩, vC (.bool (decide (edL last b ≤ 4294967295)))]]))) (
            H .normal (mkSt 76 [(0, .s (.c (⟨.ro, AV.ptr 0 0⟩))), (1, vS (.int .u64 n)), (5, .s (.c (⟨.own 2368 none, AV.sl ((CL.int IntKind.u32).cons (CL.int IntKind.u32)) false out⟩))), (6, vS (.int .u64 nx)), (7, vS (.int .u64 many)), (8, vS (.int .u64 u)), (9, vS (.int .u64 (edL last b))), (10, vS (.int .u64 (IntKind.u64.wrap (k - 1))))] [[⟨.ro, AV.sl (CL.int IntKind.u8) nl (numB b)⟩, vC (.bool false)]]))) (
          H .normal (mkSt 76 [(0, .s (.c (⟨.ro, AV.ptr 0 0⟩))), (1, vS (.int .u64 n)), (5, .s (.c (⟨.own 2368 none, AV.sl ((CL.int IntKind.u32).cons (CL.int IntKind.u32)) false out⟩))), (6, vS (.int .u64 nx)), (7, vS (.int .u64 many)), (8, vS (.int .u64 u)), (9, vS (.int .u64 (edL last b))), (10, vS (.int .u64 (IntKind.u64.wrap (k - 1))))] [[⟨.ro, AV.sl (CL.int IntKind.u8) nl (numB b)⟩, vC (.bool false)]]))) (
        none)) (
      H (.exit 2) (mkSt 76 [(0, .s (.c (⟨.ro, AV.ptr 0 0⟩))), (1, vS (.int .u64 n)), (5, .s (.c (⟨.own 2368 none, AV.sl ((CL.int IntKind.u32).cons (CL.int IntKind.u32)) false out⟩))), (6, vS (.int .u64 nx)), (7, vS (.int .u64 many))] [[⟨.ro, AV.sl (CL.int IntKind.u8) nl b⟩, vC (.bool o)]]))) (
    H (.exit 2) (mkSt 76 [(0, .s (.c (⟨.ro, AV.ptr 0 0⟩))), (1, vS (.int .u64 n)), (5, .s (.c (⟨.own 2368 none, AV.sl ((CL.int IntKind.u32).cons (CL.int IntKind.u32)) false out⟩))), (6, vS (.int .u64 nx)), (7, vS (.int .u64 many))] [[⟨.ro, AV.sl (CL.int IntKind.u8) nl b⟩, vC (.bool o)]])) := by kernel_rfl
theorem edPastN (rec : Rec) (H : K) (L : Nat → St → Option Res) (nl o : Bool) (b : List Int) (n nx many : Int) :
    ((fnPl V6 28).at V6 28 0).past V6 28 0 (.exit 2) (mkSt 76 [(0, .s (.c ⟨.ro, .ptr 0 0⟩)), (1, vS (.int .u64 n)), (5, .s (.c ⟨.ro, .nilv⟩)), (6, vS (.int .u64 nx)), (7, vS (.int .u64 many))] [rdB nl b o]) rec H L =
  H .normal (mkSt 76 [(0, .s (.c (⟨.ro, AV.ptr 0 0⟩))), (1, vS (.int .u64 n)), (5, .s (.c (⟨.ro, AV.nilv⟩))), (6, vS (.int .u64 nx)), (7, vS (.int .u64 (IntKind.u64.wrap (many - 1))))] [[⟨.ro, AV.sl (CL.int IntKind.u8) nl b⟩, vC (.bool o)]]) := by kernel_rfl
theorem edPast (rec : Rec) (H : K) (L : Nat → St → Option Res) (nl o : Bool) (b : List Int) (out : List Ed) (n nx many : Int) :
    ((fnPl V6 28).at V6 28 0).past V6 28 0 (.exit 2) (mkSt 76 [(0, .s (.c ⟨.ro, .ptr 0 0⟩)), (1, vS (.int .u64 n)), (5, .s (.c ⟨.own 2368 none, .sl eE false out⟩)), (6, vS (.int .u64 nx)), (7, vS (.int .u64 many))] [rdB nl b o]) rec H L =
  H .normal (mkSt 76 [(0, .s (.c (⟨.ro, AV.ptr 0 0⟩))), (1, vS (.int .u64 n)), (5, .s (.c (⟨.own 2368 none, AV.sl ((CL.int IntKind.u32).cons (CL.int IntKind.u32)) false out⟩))), (6, vS (.int .u64 nx)), (7, vS (.int .u64 (IntKind.u64.wrap (many - 1))))] [[⟨.ro, AV.sl (CL.int IntKind.u8) nl b⟩, vC (.bool o)]]) := by kernel_rfl
theorem edOutN (rec : Rec) (H : K) (L : Nat → St → Option Res) (nl o : Bool) (b : List Int) :
    (fnPl V6 28).past V6 28 0 (.exit 0) (mkSt 76 [(5, .s (.c ⟨.ro, .nilv⟩))] [rdB nl b o]) rec H L =
  H .ret (mkSt 76 [(4, .s (.c (⟨.ro, AV.nilv⟩)))] [[⟨.ro, AV.sl (CL.int IntKind.u8) nl b⟩, vC (.bool o)]]) := by kernel_rfl
theorem edOut (rec : Rec) (H : K) (L : Nat → St → Option Res) (nl o : Bool) (b : List Int) (out : List Ed) :
    (fnPl V6 28).past V6 28 0 (.exit 0) (mkSt 76 [(5, .s (.c ⟨.own 2368 none, .sl eE false out⟩))] [rdB nl b o]) rec H L =
  H .ret (mkSt 76 [(4, .s (.c (⟨.own 2368 none, AV.sl ((CL.int IntKind.u32).cons (CL.int IntKind.u32)) false out⟩)))] [[⟨.ro, AV.sl (CL.int IntKind.u8) nl b⟩, vC (.bool o)]]) := by kernel_rfl
end Go.Proofs.Ythiaaaedfidnjaa.Aj

namespace Go.Proofs.Ythiaaaedfidnjaa.Aj
open Go Go.Proofs.Ythiaaaedfidnjaa.Am Go.RowKit
set_option linter.unusedVariables false
set_option linter.unusedSimpArgs false
set_option maxRecDepth 100000
/-! the reader's edges -/
theorem ed50 : V6.P.bytesOf 50 = 8 := by kernel_rfl
/-- The edges so far: none is nil. -/
def outC (out : List Ed) : C := match out with
  | [] => ⟨.ro, .nilv⟩
  | x :: r => ⟨.own 2368 none, .sl eE false (x :: r)⟩
theorem outC_snoc (out : List Ed) (x : Ed) : outC (out ++ [x]) = ⟨.own 2368 none, .sl eE false (out ++ [x])⟩ := by
  cases out <;> rfl
def iSt (nl : Bool) (n nx many u : Int) (last k : Int) (b : List Int) (o : Bool) (out : List Ed) : St := mkSt 76 [(0, .s (.c ⟨.ro, .ptr 0 0⟩)), (1, vS (.int .u64 n)), (5, .s (.c (outC out))), (6, vS (.int .u64 nx)), (7, vS (.int .u64 many)), (8, vS (.int .u64 u)), (9, vS (.int .u64 last)), (10, vS (.int .u64 k))] [rdB nl b o]
def oSt (nl : Bool) (n nx many : Int) (b : List Int) (o : Bool) (out : List Ed) : St := mkSt 76 [(0, .s (.c ⟨.ro, .ptr 0 0⟩)), (1, vS (.int .u64 n)), (5, .s (.c (outC out))), (6, vS (.int .u64 nx)), (7, vS (.int .u64 many))] [rdB nl b o]
noncomputable abbrev q28 : Pl := (fnPl V6 28).at V6 28 0
noncomputable abbrev q28i : Pl := q28.at V6 28 0
theorem iStep {nl : Bool} {n nx many u last k : Int} {b : List Int} {out : List Ed} (hk : decide (k > 0) = true) (hb : b.length ≤ 1000000) (ho : out.length ≤ 10000000) :
    Goes V6 28 q28i (q28i.way V6 28 (iSt nl n nx many u last k b true out)) .normal (iSt nl n nx many u (edL last b) (w64u (k - 1)) (numB b) (edG n last b true) (bif edG n last b true then out ++ [(w32 u, w32 (edL last b))] else out)) := by
  refine Goes.now fun rec H L => ?_
  have hb' := decide_eq_true hb
  cases out with
  | nil =>
    refine (edIRndN rec H L nl true b n nx many u last k).trans ((br_pos hk).trans ((br_pos rfl).trans ((br_pos hb').trans ?_)))
    unfold edG
    cases h1 : numO b true with
    | false => rfl
    | true =>
      cases h2 : decide (edL last b < n) with
      | false => rfl
      | true =>
        cases h3 : decide (edL last b ≤ 4294967295) with
        | false => rfl
        | true => rfl
  | cons x r =>
    refine (edIRnd rec H L nl true b (x :: r) n nx many u last k).trans ((br_pos hk).trans ((br_pos rfl).trans ((br_pos hb').trans ?_)))
    unfold edG
    cases h1 : numO b true with
    | false => rfl
    | true =>
      cases h2 : decide (edL last b < n) with
      | false => rfl
      | true =>
        cases h3 : decide (edL last b ≤ 4294967295) with
        | false => rfl
        | true =>
          rw [ed50, br_pos rfl, br_pos rfl, br_pos rfl, br_pos (fits_small (by rw [len1]; omega) (by decide))]
          rfl
theorem iEnd {nl : Bool} {n nx many u last k : Int} {b : List Int} {o : Bool} {out : List Ed} (h : (decide (k > 0) && o) = false) :
    Goes V6 28 q28i (q28i.way V6 28 (iSt nl n nx many u last k b o out)) (.exit 2) (oSt nl n nx many b o out) := by
  refine Goes.now fun rec H L => ?_
  cases out with
  | nil =>
    refine (edIRndN rec H L nl o b n nx many u last k).trans ?_
    cases hk : decide (k > 0) with
    | false => rfl
    | true =>
      rw [hk] at h
      cases o with
      | false => rfl
      | true => simp at h
  | cons x r =>
    refine (edIRnd rec H L nl o b (x :: r) n nx many u last k).trans ?_
    cases hk : decide (k > 0) with
    | false => rfl
    | true =>
      rw [hk] at h
      cases o with
      | false => rfl
      | true => simp at h
/-- A number that was read took a byte at least. -/
theorem takeR_one (m : Int) : ∀ (b : List Int) (i : Nat) (v : Int), (takeR m b i v).2.2 = 0 → 1 ≤ (takeR m b i v).2.1 ∧ b ≠ []
  | [], i, v, h => by
    exact absurd h (by show ¬ ((20 : Int) = 0); decide)
  | c :: r, i, v, h => by
    refine ⟨?_, by simp⟩
    unfold takeR at h ⊢
    cases h1 : ((decide (i = 9) && decide (c > 1)) || (decide (i > 0) && c == 0)) with
    | true => rw [h1] at h; exact absurd h (by show ¬ ((21 : Int) = 0); decide)
    | false =>
      rw [h1] at h
      cases h2 : decide (c ≥ 128) with
      | true =>
        rw [h2] at h
        exact (takeR_one m r (i + 1) (take7 v c i) h).1
      | false =>
        rw [h2] at h
        cases h3 : decide (take7 v c i > m) with
        | true => rw [h3] at h; exact absurd h (by show ¬ ((22 : Int) = 0); decide)
        | false =>
          show 1 ≤ (i : Int) + 1
          omega
theorem numB_len (b : List Int) : (numB b).length ≤ b.length := by
  unfold numB
  rw [List.length_drop]
  omega
theorem numB_less {b : List Int} {o : Bool} (h : numO b o = true) : (numB b).length + 1 ≤ b.length := by
  cases o with
  | false => exact absurd h (by show ¬ (false = true); simp)
  | true =>
    have h' : ((numT b).2.2 == 0) = true := h
    obtain ⟨h1, h2⟩ := takeR_one 4294967295 b 0 0 (eq_of_beq h')
    unfold numB
    rw [List.length_drop]
    have : 1 ≤ (numT b).2.1.toNat := by
      have : 1 ≤ (numT b).2.1 := h1
      omega
    have : 0 < b.length := List.length_pos_iff.mpr h2
    omega
theorem edG_num {n last : Int} {b : List Int} {o : Bool} (h : edG n last b o = true) : numO b o = true := by
  unfold edG at h
  cases hn : numO b o with
  | true => rfl
  | false => rw [hn] at h; simp at h
theorem edI_len {n u : Int} : ∀ (f : Nat) (last k : Int) (b : List Int) (o : Bool) (out : List Ed), (edI n u f last k b o out).2.1.length ≤ b.length ∧ (edI n u f last k b o out).1.length ≤ out.length + f
  | 0, _, _, _, _, _ => ⟨Nat.le_refl _, Nat.le_refl _⟩
  | f + 1, last, k, b, o, out => by
    unfold edI
    cases (decide (k > 0) && o) with
    | false => exact ⟨Nat.le_refl _, by show out.length ≤ _; omega⟩
    | true =>
      obtain ⟨h1, h2⟩ := edI_len f (edL last b) (w64u (k - 1)) (numB b) (edG n last b o) (bif edG n last b o then out ++ [(w32 u, w32 (edL last b))] else out)
      have h3 := numB_len b
      refine ⟨Nat.le_trans h1 h3, Nat.le_trans h2 ?_⟩
      cases edG n last b o with
      | true => show (out ++ [_]).length + f ≤ _; simp; omega
      | false => show out.length + f ≤ _; omega
theorem iLoop {nl : Bool} {n nx many u : Int} : ∀ (f : Nat) {last k : Int} {b : List Int} {o : Bool} {out : List Ed}, 1 ≤ f → (o = true → b.length + 2 ≤ f) → b.length ≤ 1000000 → out.length + f ≤ 10000000 →
    Loops V6 28 q28 0 (iSt nl n nx many u last k b o out) (.exit 2) (oSt nl n nx many (edI n u f last k b o out).2.1 (edI n u f last k b o out).2.2 (edI n u f last k b o out).1)
  | 0, _, _, _, _, _, h, _, _, _ => absurd h (by omega)
  | f + 1, last, k, b, o, out, _, hf, hb, ho => by
    unfold edI
    cases hc : (decide (k > 0) && o) with
    | false => exact Loops.done (iEnd hc) (by simp) (by kernel_rfl)
    | true =>
      simp only [Bool.and_eq_true] at hc
      obtain ⟨hk, rfl⟩ := hc
      have hf' := hf rfl
      refine Loops.step (iStep hk hb (by omega)) (iLoop f (by omega) (fun hg => ?_) (Nat.le_trans (numB_len b) hb) ?_) (by kernel_rfl)
      · have := numB_less (edG_num hg)
        omega
      · cases edG n last b true with
        | true => show (out ++ [_]).length + f ≤ _; simp; omega
        | false => show out.length + f ≤ _; omega
theorem oPast {nl : Bool} {n nx many : Int} {b : List Int} {o : Bool} {out : List Ed} : Goes V6 28 q28 (q28.past V6 28 0 (.exit 2) (oSt nl n nx many b o out)) .normal (oSt nl n nx (w64u (many - 1)) b o out) := by
  refine Goes.now fun rec H L => ?_
  cases out with
  | nil => exact edPastN rec H L nl o b n nx many
  | cons x r => exact edPast rec H L nl o b (x :: r) n nx many
theorem oStep {nl : Bool} {n nx many : Int} {b : List Int} {out : List Ed} (hm : decide (many > 0) = true) (hb : b.length ≤ 1000000) :
    ∀ rec H L, q28.way V6 28 (oSt nl n nx many b true out) rec H L = L 0 (iSt nl n (w64u (w64u (nx + (numT b).1) + 1)) many (w64u (nx + (numT b).1)) (w64u (nx + (numT b).1)) (numT (numB b)).1 (numB (numB b)) (numO (numB b) (numO b true)) out) := fun rec H L => by
  have h1 := decide_eq_true hb
  have h2 := decide_eq_true (Nat.le_trans (numB_len b) hb)
  cases out with
  | nil => exact (edRndN rec H L nl true b n nx many).trans ((br_pos hm).trans ((br_pos rfl).trans ((br_pos h1).trans (br_pos h2))))
  | cons x r => exact (edRnd rec H L nl true b (x :: r) n nx many).trans ((br_pos hm).trans ((br_pos rfl).trans ((br_pos h1).trans (br_pos h2))))
abbrev endSt (nl : Bool) (b : List Int) (o : Bool) (out : List Ed) : St := mkSt 76 [(5, .s (.c (outC out)))] [rdB nl b o]
theorem oEnd {nl : Bool} {n nx many : Int} {b : List Int} {o : Bool} {out : List Ed} (h : (decide (many > 0) && o) = false) :
    Goes V6 28 q28 (q28.way V6 28 (oSt nl n nx many b o out)) (.exit 0) (endSt nl b o out) := by
  refine Goes.now fun rec H L => ?_
  cases out with
  | nil =>
    refine (edRndN rec H L nl o b n nx many).trans ?_
    cases hk : decide (many > 0) with
    | false => rfl
    | true =>
      rw [hk] at h
      cases o with
      | false => rfl
      | true => simp at h
  | cons x r =>
    refine (edRnd rec H L nl o b (x :: r) n nx many).trans ?_
    cases hk : decide (many > 0) with
    | false => rfl
    | true =>
      rw [hk] at h
      cases o with
      | false => rfl
      | true => simp at h
theorem edI_ok {n u : Int} : ∀ (f : Nat) (last k : Int) (b : List Int) (o : Bool) (out : List Ed), (edI n u f last k b o out).2.2 = true → o = true
  | 0, _, _, _, o, _, h => h
  | f + 1, last, k, b, o, out, h => by
    unfold edI at h
    cases hc : (decide (k > 0) && o) with
    | false => rw [hc] at h; exact h
    | true => simp only [Bool.and_eq_true] at hc; exact hc.2
theorem oLoop {nl : Bool} {n : Int} : ∀ (f : Nat) {nx many : Int} {b : List Int} {o : Bool} {out : List Ed}, 1 ≤ f → (o = true → b.length + 2 ≤ f) → b.length ≤ 3000 → out.length + f * 3003 ≤ 10000000 →
    Loops V6 28 (fnPl V6 28) 0 (oSt nl n nx many b o out) (.exit 0) (endSt nl (edO n f nx many b o out).2.1 (edO n f nx many b o out).2.2 (edO n f nx many b o out).1)
  | 0, _, _, _, _, _, h, _, _, _ => absurd h (by omega)
  | f + 1, nx, many, b, o, out, _, hf, hb, ho => by
    unfold edO
    cases hc : (decide (many > 0) && o) with
    | false => exact Loops.done (oEnd hc) (by simp) (by kernel_rfl)
    | true =>
      simp only [Bool.and_eq_true] at hc
      obtain ⟨hk, rfl⟩ := hc
      have hf' := hf rfl
      have l1 := numB_len b
      have l2 := numB_len (numB b)
      have hi := iLoop (nl := nl) (n := n) (nx := w64u (w64u (nx + (numT b).1) + 1)) (many := many) (u := w64u (nx + (numT b).1)) ((numB (numB b)).length + 2) (last := w64u (nx + (numT b).1)) (k := (numT (numB b)).1) (b := numB (numB b)) (o := numO (numB b) (numO b true)) (out := out) (by omega) (fun _ => Nat.le_refl _) (by omega) (by omega)
      have hl := edI_len (n := n) (u := w64u (nx + (numT b).1)) ((numB (numB b)).length + 2) (w64u (nx + (numT b).1)) (numT (numB b)).1 (numB (numB b)) (numO (numB b) (numO b true)) out
      have hok := edI_ok (n := n) (u := w64u (nx + (numT b).1)) ((numB (numB b)).length + 2) (w64u (nx + (numT b).1)) (numT (numB b)).1 (numB (numB b)) (numO (numB b) (numO b true)) out
      have hstep : Goes V6 28 q28 (q28.way V6 28 (oSt nl n nx many b true out)) .normal _ := Goes.of (oStep hk (by omega)) (Goes.loop hi oPast (by kernel_rfl) (by kernel_rfl) rfl)
      simp only [cond_true]
      generalize edI n (w64u (nx + (numT b).1)) ((numB (numB b)).length + 2) (w64u (nx + (numT b).1)) (numT (numB b)).1 (numB (numB b)) (numO (numB b) (numO b true)) out = t at hl hok hstep
      refine Loops.step hstep (oLoop f (by omega) (fun hg => ?_) (by omega) (by omega)) (by kernel_rfl)
      have h1 := hok hg
      have h2 := numB_less h1
      omega
theorem edK (args : List S1) (bx : List (List C)) (r : Res) (h : (edH args bx).den = some r) : ∃ n, callB V6 n 28 args bx = some r := by
  unfold edH at h
  split at h
  · rename_i n nl b o
    obtain ⟨hx, h⟩ := tree_yes h
    have hx := of_decide_eq_true hx
    have l1 := numB_len b
    have hin : ∀ rec H L, fnWayB V6 28 [.c ⟨.ro, .ptr 0 0⟩, wS .u64 n] [rdB nl b o] rec H L = L 0 (oSt nl n 0 (numT b).1 (numB b) (numO b o) []) := fun rec H L => (edIn rec H L nl o b n).trans (br_pos (decide_eq_true (by omega)))
    have lp := oLoop (nl := nl) (n := n) ((numB b).length + 2) (nx := 0) (many := (numT b).1) (b := numB b) (o := numO b o) (out := []) (by omega) (fun _ => Nat.le_refl _) (by omega) (by simp; omega)
    change Loops V6 28 (fnPl V6 28) 0 _ (.exit 0) (endSt nl (edT n b o).2.1 (edT n b o).2.2 (edT n b o).1) at lp
    generalize edT n b o = t at lp h
    obtain ⟨out, b', o'⟩ := t
    cases out with
    | nil =>
      rcases tree_br h with ⟨_, h⟩ | ⟨h1, _⟩
      · obtain rfl := ok_some h
        exact Goes.callB (Goes.of hin (Goes.loop lp (Goes.now (edOutN · · · nl o' b')) (by kernel_rfl) (by kernel_rfl) rfl)) (by kernel_rfl) (by kernel_rfl) rfl
      · cases h1
    | cons x l =>
      rcases tree_br h with ⟨h1, _⟩ | ⟨_, h⟩
      · cases h1
      · obtain rfl := ok_some h
        exact Goes.callB (Goes.of hin (Goes.loop lp (Goes.now (edOut · · · nl o' b' (x :: l))) (by kernel_rfl) (by kernel_rfl) rfl)) (by kernel_rfl) (by kernel_rfl) rfl
  · exact leaf_none h
theorem sok7 : SOK l7 := stubs_cons (x := (28, edH)) (known_of (V := V6) mix (sok6 _ rfl rfl) edK) sok6
end Go.Proofs.Ythiaaaedfidnjaa.Aj
