/- What the functions come to, by the evaluator. Conditions: none; checked here. -/
import Derived.Test.YtmdhlmcoegghjaaAmD
import Derived.Test.YtmdhlmcoegghjaaProg
set_option linter.unusedVariables false
set_option linter.unusedSimpArgs false

namespace Go.Proofs.Ytmdhlmcoegghjaa.Hd
open Go Go.Proofs.Ytmdhlmcoegghjaa.Am
def m3 : List (Nat × List Nat) := [(0, [0, 1, 2, 3, 4, 5, 6, 7, 8]), (1, [1, 2, 3, 4, 5, 6, 7, 8, 9]), (2, []), (3, [1, 2, 3, 4, 5, 6, 7, 8, 9]), (4, []), (5, [1, 2, 3, 4, 5, 6, 7, 8, 9]), (6, [1, 2, 3, 4, 5, 6, 7, 8, 9, 19]), (7, [4, 5, 6, 7, 8, 9, 19, 20]), (8, [4, 5, 6, 7, 8, 20, 54, 55, 56]), (9, [4, 5, 6, 7, 8, 20, 54, 55, 56]), (10, [4, 5, 6, 7, 8, 20, 22, 54, 55, 56]), (11, []), (12, [4, 5, 6, 7, 8, 20, 54, 55, 56]), (13, [5, 6, 7, 8, 20]), (14, [5, 6, 7, 8, 23]), (15, [5, 6, 7, 8, 23, 24]), (16, [5, 6, 8, 23, 24]), (17, [5, 6, 23, 24]), (18, [5, 6, 23, 24]), (19, [143, 144, 145]), (20, [143, 144, 145]), (21, [26, 143, 144, 145]), (22, [26, 27, 28, 143, 144, 145]), (23, [27, 28, 29, 30, 143, 144, 145]), (24, []), (25, [143, 144, 145]), (26, [])]
def m4 : List (Nat × List Nat) := [(0, [0, 1, 2]), (1, [0, 1, 2]), (2, []), (3, [0, 1, 2]), (4, [7]), (5, [7, 8]), (6, [7, 8, 9]), (7, [7, 8, 9, 10]), (8, [7, 8, 9, 10]), (9, [7, 8, 9, 10]), (10, [7, 8, 9, 10, 11]), (11, []), (12, [7, 8, 9, 10, 11]), (13, [7, 8, 9])]
def m5 : List (Nat × List Nat) := [(0, [0, 1, 2, 3, 4]), (1, [0, 1, 2, 3, 4]), (2, []), (3, [0, 1, 2, 3, 4]), (4, [3, 4, 11]), (5, [3, 4, 11, 12]), (6, []), (7, [3, 4, 11, 12]), (8, [11, 12, 13]), (9, [11, 12, 13, 14, 15]), (10, [11, 14, 15]), (11, [14, 15])]
def m6 : List (Nat × List Nat) := [(0, [0, 1, 2, 3, 4, 5]), (1, [0, 1, 2, 3, 4, 5]), (2, []), (3, [0, 1, 2, 3, 4, 5]), (4, [0, 1, 2, 3, 4, 5, 13]), (5, [0, 1, 2, 3, 4, 5, 13]), (6, [0, 1, 2, 3, 4, 5, 13]), (7, [0, 1, 2, 3, 4, 5, 13]), (8, [0, 1, 2, 3, 4, 5, 13]), (9, [0, 1, 2, 3, 4, 5, 13]), (10, [0, 1, 2, 3, 4, 5, 13]), (11, [0, 1, 2, 3, 4, 5, 13, 14, 15]), (12, [0, 1, 2, 3, 4, 14, 15, 17]), (13, [0, 1, 2, 3, 4, 14, 15, 17, 18]), (14, [0, 1, 2, 14, 15, 17]), (15, [0, 1, 2, 4, 14, 15, 17, 18]), (16, [0, 1, 2, 14, 15, 17]), (17, [0, 1, 2, 14, 15, 17, 18]), (18, [0, 1, 2, 14, 15, 17]), (19, [0, 1, 2, 14, 15, 17, 18])]
def m7 : List (Nat × List Nat) := [(0, [0, 1]), (1, [0, 1]), (2, []), (3, [0, 1]), (4, [0, 1, 5]), (5, [0, 1, 5, 6]), (6, [0, 1, 5]), (7, [0, 1, 5, 6]), (8, [1, 5, 6]), (9, [1, 5, 6, 15]), (10, [1, 5, 6]), (11, [1, 5, 6, 15]), (12, [1, 5, 6]), (13, [1, 5, 6, 15]), (14, [1, 5, 6]), (15, [1, 5, 6, 15]), (16, [1, 5, 6]), (17, [1, 5]), (18, [1, 5, 7]), (19, [5, 7]), (20, [5, 7]), (21, [5, 8, 9])]
def m8 : List (Nat × List Nat) := [(0, []), (1, []), (2, [1]), (3, [1, 2]), (4, [1, 2, 3, 4]), (5, [1, 2, 3, 4, 6])]
def m9 : List (Nat × List Nat) := [(0, [0]), (1, [1])]
def m10 : List (Nat × List Nat) := [(0, [0]), (1, [1])]
def m11 : List (Nat × List Nat) := [(0, [0]), (1, [1]), (2, []), (3, [1]), (4, [1, 3]), (5, [1, 3])]
def m12 : List (Nat × List Nat) := [(0, [0]), (1, [1]), (2, []), (3, [1]), (4, [1, 3]), (5, [3])]
def m13 : List (Nat × List Nat) := [(0, [0]), (1, [1]), (2, []), (3, [1])]
def m14 : List (Nat × List Nat) := [(0, [0]), (1, [1]), (2, []), (3, [1])]
def m15 : List (Nat × List Nat) := [(0, [0, 1]), (1, [1, 2]), (2, []), (3, [1, 2])]
def m16 : List (Nat × List Nat) := [(0, [0, 1]), (1, [1, 2]), (2, []), (3, [1, 2])]
def m17 : List (Nat × List Nat) := [(0, [0, 1]), (1, [0, 1]), (2, [0, 1, 5]), (3, [0, 1, 5, 6]), (4, [0, 1, 5, 6]), (5, [0, 1, 5, 6]), (6, [5])]
def m18 : List (Nat × List Nat) := [(0, [0]), (1, [0]), (2, [0, 3]), (3, [0, 3, 4]), (4, [0, 3, 4]), (5, [0, 3, 4]), (6, [0, 3, 4, 5]), (7, [0, 3, 4, 5]), (8, [0, 3, 4, 5]), (9, [3])]
def m19 : List (Nat × List Nat) := [(0, [0, 24]), (1, [0, 2, 24]), (2, [2, 24]), (3, [0, 2, 24]), (4, [2, 24]), (5, [0, 2, 24]), (6, [0, 2, 5, 24]), (7, [2]), (8, [0, 2, 24]), (9, [2, 6, 24]), (10, [2, 24]), (11, [2, 6, 24])]
def m20 : List (Nat × List Nat) := [(0, [0, 24]), (1, [0, 2, 24]), (2, [2, 24]), (3, [0, 2, 24]), (4, [2, 24]), (5, [0, 2, 24]), (6, [0, 2, 5, 24]), (7, [2]), (8, [0, 2, 24]), (9, [2, 6, 24]), (10, [2, 24]), (11, [2, 6, 24])]
def m21 : List (Nat × List Nat) := [(0, [0, 1, 2]), (1, [0, 1, 2]), (2, [0, 1, 2, 7]), (3, [0, 1, 2, 7, 8]), (4, [0, 1, 2, 7, 8]), (5, [0, 1, 2, 7, 8]), (6, [0, 1, 2, 7, 8]), (7, [7])]
def m22 : List (Nat × List Nat) := [(0, [0]), (1, [0])]
def m23 : List (Nat × List Nat) := [(0, [0, 1]), (1, [0, 1]), (2, [0, 1, 5]), (3, [0, 5, 6, 7]), (4, [0, 5, 6, 7]), (5, [0, 5, 6, 7]), (6, [0, 5, 6, 7]), (7, [5])]
def m24 : List (Nat × List Nat) := [(0, [0]), (1, [0]), (2, [3, 4]), (3, [3, 4, 10]), (4, [3, 4, 10]), (5, [3, 4, 10]), (6, [3, 4, 10]), (7, [3])]
def m25 : List (Nat × List Nat) := [(0, [0, 1]), (1, [0, 1]), (2, [5]), (3, [5, 6]), (4, [5, 6]), (5, [5, 6]), (6, [5, 6]), (7, [5, 6]), (8, [5])]
def m26 : List (Nat × List Nat) := [(0, [0]), (1, [0]), (2, [0, 4]), (3, []), (4, [0, 4])]
def m27 : List (Nat × List Nat) := [(0, [0]), (1, [0]), (2, [0, 3]), (3, [3, 6, 7, 8]), (4, [3, 6, 7, 8]), (5, [3, 4, 5, 6, 7, 8]), (6, [3, 6, 7, 8]), (7, [3])]
def m28 : List (Nat × List Nat) := [(0, [0]), (1, [0]), (2, [0, 4]), (3, []), (4, [0, 4])]
def m29 : List (Nat × List Nat) := [(0, [0]), (1, [0]), (2, [0, 3]), (3, [0, 3, 4]), (4, [0, 3, 4]), (5, [0, 3, 4]), (6, [3])]
def m30 : List (Nat × List Nat) := [(0, [0]), (1, [0]), (2, []), (3, [0])]
def m31 : List (Nat × List Nat) := [(0, [0]), (1, [0]), (2, [0, 3]), (3, [3, 8, 9, 10]), (4, [3, 8, 9, 10]), (5, [3, 5, 8, 9, 10]), (6, [3, 8, 9, 10, 14, 15, 16]), (7, [3, 8, 9, 10, 14, 15, 16]), (8, [3, 7, 8, 9, 10, 14, 15, 16]), (9, [3, 8, 9, 10, 14, 15, 16]), (10, [3, 8, 9, 10]), (11, [3])]
def m32 : List (Nat × List Nat) := [(0, [0, 1]), (1, [0, 1]), (2, []), (3, [0, 1]), (4, [0, 1, 12, 13]), (5, [0, 1, 12, 13]), (6, [0, 1, 5, 12, 13]), (7, []), (8, [0, 1, 12, 13]), (9, [])]
def m33 : List (Nat × List Nat) := [(0, [0, 1]), (1, [0, 1]), (2, [0]), (3, [0, 9]), (4, [0, 9]), (5, [0, 9]), (6, [0, 9]), (7, [0, 9]), (8, [0])]
def masks : List (Nat × List (Nat × List Nat)) := [(3, m3), (4, m4), (5, m5), (6, m6), (7, m7), (8, m8), (9, m9), (10, m10), (11, m11), (12, m12), (13, m13), (14, m14), (15, m15), (16, m16), (17, m17), (18, m18), (19, m19), (20, m20), (21, m21), (22, m22), (23, m23), (24, m24), (25, m25), (26, m26), (27, m27), (28, m28), (29, m29), (30, m30), (31, m31), (32, m32), (33, m33)]
def draws : List (Nat × List (Nat × (Nat × List (Nat × Option Nat)))) := [(3, [(10, (38, [])), (17, (8, [])), (18, (24, []))]), (7, [(21, (23, []))]), (12, [(4, (9, []))]), (19, [(8, (13, []))]), (20, [(8, (13, []))]), (21, [(6, (12, []))]), (28, [(2, (11, []))]), (32, [(6, (8, []))])]
def look2 {α : Type} : List (Nat × List (Nat × α)) → Nat → Nat → Option α
  | [], _, _ => none
  | (f, l) :: r, n, i => bif Nat.beq f n then look1 l i else look2 r n i
  where look1 : List (Nat × α) → Nat → Option α
  | [], _ => none
  | (j, a) :: r, i => bif Nat.beq j i then some a else look1 r i
def owns : List Nat := [30, 24, 11, 23, 12, 17, 22, 21]
def sigOf (f : Nat) : List Bool := bif memN f owns then [true] else []
noncomputable def V (stubs : Stubs) : Env := ⟨Go.Proofs.Try.prog, sigOf, look2 masks, look2 draws, stubs.look⟩
end Go.Proofs.Ytmdhlmcoegghjaa.Hd

namespace Go.Proofs.Ytmdhlmcoegghjaa.Hd
open Go Go.Proofs.Ytmdhlmcoegghjaa.Am

/-! what the functions of bytes come to, in plain words -/
abbrev w8 := IntKind.u8.wrap
abbrev w32 := IntKind.u32.wrap
abbrev w64u := IntKind.u64.wrap
def crcT (s : Int) : Int := bif w32 (BitVec.ofInt IntKind.u32.bits s &&& BitVec.ofInt IntKind.u32.bits 1).toNat == 1 then w32 (BitVec.ofInt IntKind.u32.bits (s.fdiv (2 ^ min (Int.toNat 1) IntKind.u32.bits)) ^^^ BitVec.ofInt IntKind.u32.bits 3988292384).toNat
  else s.fdiv (2 ^ min (Int.toNat 1) IntKind.u32.bits)
def stepI (s b : Int) : Int := itr (fun _ => crcT) (w32 (BitVec.ofInt IntKind.u32.bits s ^^^ BitVec.ofInt IntKind.u32.bits (w32 b)).toNat) 8
def not32 (s : Int) : Int := w32 (BitVec.ofInt IntKind.u32.bits (if IntKind.u32.signed = true then -1 else IntKind.u32.max) ^^^ BitVec.ofInt IntKind.u32.bits s).toNat
def nextI (s b : Int) : Int := not32 (stepI (not32 s) b)
def crcL (s : Int) (xs : List Int) : Int := itr (fun i s => stepI s (nth (.int .u8) xs i)) s xs.length
def nextL (s : Int) (xs : List Int) : Int := itr (fun i s => nextI s (nth (.int .u8) xs i)) s xs.length
def sumP (ps : List (Bool × List Int)) : Int := not32 (itr (fun i s => crcL s (nth (.sl (.int .u8)) ps i).2) 4294967295 ps.length)
def sumR (ps : List (Bool × List Int)) : Int := itr (fun i s => nextL s (nth (.sl (.int .u8)) ps i).2) 0 ps.length
/-- The number of bytes. -/
def takI (xs : List Int) : Nat → Int := itr (fun i v => w64u (BitVec.ofInt IntKind.u64.bits v ||| BitVec.ofInt IntKind.u64.bits (w64u (w64u (nth (.int .u8) xs i) * 2 ^ min (IntKind.i64.wrap (8 * (i : Int))).toNat IntKind.u64.bits))).toNat) 0
def numI (xs : List Int) : Int := takI xs xs.length
def shr8 (v : Int) : Int := v.fdiv (2 ^ min (Int.toNat 8) IntKind.u64.bits)
/-- The bytes of a number, as put writes them. -/
def putL (v : Int) : Nat → List Int := itr (fun i o => o ++ [w8 (itr (fun _ => shr8) v i)]) []
def fixL (v : Int) : Nat → List Int := itr (fun i o => o ++ [w8 (v.fdiv (2 ^ min (IntKind.i64.wrap (8 * (i : Int))).toNat IntKind.u64.bits))]) []
def shr8s (v : Int) : Int := v.fdiv (2 ^ min (Int.toNat 8) IntKind.u32.bits)
/-- What crc.Seal writes. -/
def sumL (s : Int) (xs : List Int) : Nat → List Int := itr (fun i o => o ++ [w8 (itr (fun _ => shr8s) s i)]) xs
def sealP (xs : List Int) : List Int := sumL (sumP [(false, xs)]) xs 4
def sealR (xs : List Int) : List Int := xs ++ fixL (w64u (sumR [(false, xs)])) 4

abbrev bS (nl : Bool) (xs : List Int) : S1 := .c ⟨.ro, .sl (.int .u8) nl xs⟩
abbrev wS (k : IntKind) (n : Int) : S1 := .c (vC (.int k n))
abbrev ok (s : S) : Tree := .leaf (some (s, []))
abbrev no : Tree := .leaf none
def stepH : List S1 → Tree
  | [.c ⟨.ro, .v (.int .u32 s)⟩, .c ⟨.ro, .v (.int .u8 b)⟩] => ok (vS (.int .u32 (stepI s b)))
  | _ => no
def nextH : List S1 → Tree
  | [.c ⟨.ro, .v (.int .u32 s)⟩, .c ⟨.ro, .v (.int .u8 b)⟩] => ok (vS (.int .u32 (nextI s b)))
  | _ => no
def smallP (ps : List (Bool × List Int)) : Bool := decide (ps.length ≤ 1000000) && ps.all fun p => decide (p.2.length ≤ 1000000000)
def sumPH : List S1 → Tree
  | [.c ⟨.ro, .sl (.sl (.int .u8)) _ ps⟩] => .br (smallP ps) (ok (vS (.int .u32 (sumP ps)))) no
  | _ => no
def sumRH : List S1 → Tree
  | [.c ⟨.ro, .sl (.sl (.int .u8)) _ ps⟩] => .br (smallP ps) (ok (vS (.int .u32 (sumR ps)))) no
  | _ => no
def numH : List S1 → Tree
  | [.c ⟨.ro, .sl (.int .u8) _ xs⟩] => .br (decide (xs.length ≤ 1000000)) (ok (vS (.int .u64 (numI xs)))) no
  | _ => no
def cloneH : List S1 → Tree
  | [.c ⟨.ro, .sl (.int .u8) nl xs⟩] => .br nl (ok (.s (.c ⟨.ro, .nilv⟩))) (.br (decide (xs.length ≤ 1000000)) (ok (.s (.c ⟨.own 224 none, .sl (.int .u8) false xs⟩))) no)
  | _ => no
def equalH : List S1 → Tree
  | [.c ⟨.ro, .sl (.int .u8) _ xs⟩, .c ⟨.ro, .sl (.int .u8) _ ys⟩] => .br (decide (xs.length ≤ 1000000)) (ok (vS (.bool (decide (xs = ys))))) no
  | _ => no
def putnH : List S1 → Tree
  | [.c ⟨.ro, .v (.int .u64 v)⟩, .c ⟨.ro, .v (.int .i64 n)⟩] => .br (decide (0 < n) && decide (n ≤ 1000000)) (ok (.s (.c ⟨.own 416 none, .sl (.int .u8) false (putL v n.toNat)⟩))) no
  | _ => no
def fixH : List S1 → Tree
  | [.c ⟨.ro, .v (.int .u64 v)⟩, .c ⟨.ro, .v (.int .i64 n)⟩] => .br (decide (0 < n) && decide (n ≤ 1000000)) (ok (.s (.c ⟨.own 608 none, .sl (.int .u8) false (fixL v n.toNat)⟩))) no
  | _ => no
def sealPH : List S1 → Tree
  | [.c ⟨.ro, .sl (.int .u8) nl xs⟩] => .br nl no (.br (decide (xs.length ≤ 1000000)) (ok (.s (.c ⟨.own 512 none, .sl (.int .u8) false (sealP xs)⟩))) no)
  | _ => no
def sealRH : List S1 → Tree
  | [.c ⟨.ro, .sl (.int .u8) nl xs⟩] => .br nl no (.br (decide (xs.length ≤ 1000000)) (ok (.s (.c ⟨.own 320 none, .sl (.int .u8) false (sealR xs)⟩))) no)
  | _ => no
/-- A bit turned. -/
def flip1 (n : Nat) (a m : Int) (i : Nat) (o : List Int) : List Int :=
  bif (w32 (BitVec.ofInt IntKind.u32.bits (m.fdiv (2 ^ min i IntKind.u32.bits)) &&& BitVec.ofInt IntKind.u32.bits 1).toNat == 1) && decide (a ≥ -(i : Int)) && decide (a < 8 * (n : Int) - i) then
    o.set ((a + i).tdiv 8).toNat (w8 (BitVec.ofInt IntKind.u8.bits (nth (.int .u8) o ((a + i).tdiv 8).toNat) ^^^ BitVec.ofInt IntKind.u8.bits (w8 (1 * 2 ^ min ((a + i).tmod 8).toNat IntKind.u8.bits))).toNat)
  else o
def flipL (xs : List Int) (a m : Int) : List Int := itr (flip1 xs.length a m) xs 32
def flipH : List S1 → Tree
  | [.c ⟨.ro, .sl (.int .u8) _ xs⟩, .c ⟨.ro, .v (.int .i64 a)⟩, .c ⟨.ro, .v (.int .u32 m)⟩] => .br (!isNilL xs && decide (xs.length ≤ 1000000) && decide (0 ≤ a) && decide (a ≤ 1000000)) (ok (.s (.c ⟨.own 320 none, .sl (.int .u8) false (flipL xs a m)⟩))) no
  | _ => no
def openRH : List S1 → Tree
  | [.c ⟨.ro, .sl (.int .u8) nl xs⟩] => .br (decide (xs.length ≤ 100000)) (.br (decide (xs.length < 4)) (ok (.tup [.c ⟨.ro, .nilv⟩, .c (vC (.bool false))]))
      (.br (decide (numI (xs.drop (xs.length - 4)) = w64u (sumR [(nl, xs.take (xs.length - 4))]))) (ok (.tup [bS nl (xs.take (xs.length - 4)), .c (vC (.bool true))])) (ok (.tup [.c ⟨.ro, .nilv⟩, .c (vC (.bool false))])))) no
  | _ => no
def openPH : List S1 → Tree
  | [.c ⟨.ro, .sl (.int .u8) nl xs⟩] => .br nl no (.br (decide (xs.length ≤ 100000)) (.br (decide (xs.length < 4)) (ok (.tup [.c ⟨.ro, .nilv⟩, .c (vC (.bool false))]))
      (.br (decide (sealP (xs.take (xs.length - 4)) = xs)) (ok (.tup [bS false (xs.take (xs.length - 4)), .c (vC (.bool true))])) (ok (.tup [.c ⟨.ro, .nilv⟩, .c (vC (.bool false))])))) no)
  | _ => no
def lA : Stubs := []
def lB : Stubs := [(33, stepH), (25, nextH), (29, numH), (27, numH), (30, cloneH), (32, equalH), (23, putnH), (17, fixH)]
def lC : Stubs := (31, sumPH) :: (18, sumRH) :: lB
def lD : Stubs := (24, sealPH) :: (22, sealRH) :: (28, openRH) :: (21, flipH) :: lC
def lE : Stubs := (26, openPH) :: lD
end Go.Proofs.Ytmdhlmcoegghjaa.Hd

namespace Go.Proofs.Ytmdhlmcoegghjaa.Hd
open Go Go.Proofs.Ytmdhlmcoegghjaa.Am
abbrev hS (n k c : Int) : S1 := .agg [vC (.int .u64 n), vC (.int .i64 k), vC (.int .i64 c)]
def rightB (n k c : Int) : Bool := decide (n ≤ 4294967296) && decide (k ≥ 1) && decide (k ≤ 1048576) && decide (c ≥ 0) && decide (c ≤ 2147483648)
def rightH : List S1 → Tree
  | [.agg [⟨.ro, .v (.int .u64 n)⟩, ⟨.ro, .v (.int .i64 k)⟩, ⟨.ro, .v (.int .i64 c)⟩]] => ok (vS (.bool (rightB n k c)))
  | _ => no
def lF : Stubs := (9, rightH) :: (10, rightH) :: lE
def bytesP (n k c : Int) : List Int := sealP ([84, 71, 88, 49] ++ putL n (Int.toNat 8) ++ putL (w64u k) (Int.toNat 4) ++ putL (w64u c) (Int.toNat 4))
def bytesR (n k c : Int) : List Int := sealR ([84, 71, 88, 49] ++ fixL n (Int.toNat 8) ++ fixL (w64u k) (Int.toNat 4) ++ fixL (w64u c) (Int.toNat 4))
def putPH : List S1 → Tree
  | [.agg [⟨.ro, .v (.int .u64 n)⟩, ⟨.ro, .v (.int .i64 k)⟩, ⟨.ro, .v (.int .i64 c)⟩]] => .br (rightB n k c) (ok (.s (.c ⟨.own 800 none, .sl (.int .u8) false (bytesP n k c)⟩))) (ok (.s (.c ⟨.ro, .nilv⟩)))
  | _ => no
def putRH : List S1 → Tree
  | [.agg [⟨.ro, .v (.int .u64 n)⟩, ⟨.ro, .v (.int .i64 k)⟩, ⟨.ro, .v (.int .i64 c)⟩]] => .br (rightB n k c) (ok (.s (.c ⟨.own 800 none, .sl (.int .u8) false (bytesR n k c)⟩))) (ok (.s (.c ⟨.ro, .nilv⟩)))
  | _ => no
def blocksI (n k c : Int) : Int := bif rightB n k c then IntKind.i64.wrap ((IntKind.i64.wrap (IntKind.i64.wrap (c + k) - 1)).tdiv k) else 0
def blocksH : List S1 → Tree
  | [.agg [⟨.ro, .v (.int .u64 n)⟩, ⟨.ro, .v (.int .i64 k)⟩, ⟨.ro, .v (.int .i64 c)⟩]] => ok (vS (.int .i64 (blocksI n k c)))
  | _ => no
def magicB (xs : List Int) : Bool := (baOf (List.take (Int.toNat 4) xs)).toList == (⟨#[84, 71, 88, 49]⟩ : ByteArray).toList
def readN (xs : List Int) : Int := numI (List.drop (Int.toNat 4) (List.take (Int.toNat 12) xs))
def readKI (xs : List Int) : Int := IntKind.i64.wrap (numI (List.drop (Int.toNat 12) (List.take (Int.toNat 16) xs)))
def readCI (xs : List Int) : Int := IntKind.i64.wrap (numI (List.drop (Int.toNat 16) (List.take (Int.toNat 20) xs)))
def okP (xs : List Int) : Bool := decide (sealP (xs.take 20) = xs.take 24)
def okR (xs : List Int) : Bool := decide (numI ((xs.take 24).drop 20) = w64u (sumR [(false, xs.take 20)]))
/-- Which error a head's bytes have. -/
def readE (good : Bool) (xs : List Int) : Int := bif decide (xs.length < 24) then 20 else bif magicB xs then bif good then bif rightB (readN xs) (readKI xs) (readCI xs) then 0 else 26 else 28 else 27
def rdZ (good : Bool) (xs : List Int) (v : Int) : Int := bif readE good xs == 0 then v else 0
abbrev readS (good : Bool) (xs : List Int) : S := .tup [hS (rdZ good xs (readN xs)) (rdZ good xs (readKI xs)) (rdZ good xs (readCI xs)), wS .i64 (readE good xs)]
def readPH : List S1 → Tree
  | [.c ⟨.ro, .sl (.int .u8) nl xs⟩] => .br (nl && !isNilL xs) no (ok (readS (okP xs) xs))
  | [.c ⟨.ro, .nilv⟩] => ok (.tup [hS 0 0 0, wS .i64 20])
  | _ => no
def readRH : List S1 → Tree
  | [.c ⟨.ro, .sl (.int .u8) nl xs⟩] => ok (readS (okR xs) xs)
  | _ => no
/-- A head's bytes, without their sum. -/
def hdB (n k c : Int) : List Int := [84, 71, 88, 49] ++ fixL n (Int.toNat 8) ++ fixL (w64u k) (Int.toNat 4) ++ fixL (w64u c) (Int.toNat 4)
def lG : Stubs := (11, putPH) :: (12, putRH) :: (13, blocksH) :: (14, blocksH) :: (19, readPH) :: (20, readRH) :: lF
def sizeI (n k c i : Int) : Int := bif decide (i < 0) || decide (i ≥ blocksI n k c) then 0 else
  if IntKind.i64.wrap (c - IntKind.i64.wrap (i * k)) < k then IntKind.i64.wrap (c - IntKind.i64.wrap (i * k)) else k
def sizeH : List S1 → Tree
  | [.agg [⟨.ro, .v (.int .u64 n)⟩, ⟨.ro, .v (.int .i64 k)⟩, ⟨.ro, .v (.int .i64 c)⟩], .c ⟨.ro, .v (.int .i64 i)⟩] => ok (vS (.int .i64 (sizeI n k c i)))
  | _ => no
def knownH : List S1 → Tree
  | [] => ok (vS (.bool true))
  | _ => no
def lG2 : Stubs := (15, sizeH) :: (16, sizeH) :: lG
def lH : Stubs := (8, knownH) :: lG2
end Go.Proofs.Ytmdhlmcoegghjaa.Hd
