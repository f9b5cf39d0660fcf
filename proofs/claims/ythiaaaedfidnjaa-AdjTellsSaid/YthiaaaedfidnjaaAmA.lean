/- The evaluator of typed values and its soundness, part 1. Conditions: none; checked here. -/
import Derived.Control
import Derived.Calls
import Derived.KernelRfl
import Derived.Below
import Derived.Deep.AppendSrc
import Derived.Deep.MidRow
import Derived.Laws.Slices
import Derived.Laws.BytesArg
import Derived.Laws.MakeOwn
import Derived.Laws.CopyRow
import Derived.Lib.ConvBytes
import Derived.Laws.StructEq
import Derived.Laws.Cover3
import Derived.Laws.IdiomCopy
set_option linter.unusedVariables false
set_option linter.unusedSimpArgs false

namespace Go.Proofs.Ythiaaaedfidnjaa.Am
open Go

/-- What an element of a slice is made of: whole numbers, bools, strings, slices, and several of them. -/
inductive CL where
  | int (k : IntKind)
  | bool
  | str
  | sl (e : CL)
  | cons (c r : CL)

@[reducible] def CL.den : CL → Type
  | .int _ => Int
  | .bool => Bool
  | .str => ByteArray
  | .sl e => Bool × List e.den
  | .cons c r => c.den × r.den

def CL.size : CL → Nat
  | .cons c r => c.size + r.size
  | _ => 1

def CL.zero : (e : CL) → e.den
  | .int _ => (0 : Int)
  | .bool => false
  | .str => (⟨#[]⟩ : ByteArray)
  | .sl _ => (true, [])
  | .cons c r => (c.zero, r.zero)

/-- No slice inside. -/
def CL.flat : CL → Bool
  | .sl _ => false
  | .cons c r => c.flat && r.flat
  | _ => true

def ikBeq : IntKind → IntKind → Bool
  | .i8, .i8 => true | .i16, .i16 => true | .i32, .i32 => true | .i64, .i64 => true
  | .u8, .u8 => true | .u16, .u16 => true | .u32, .u32 => true | .u64, .u64 => true
  | _, _ => false
theorem ikBeq_eq {a b : IntKind} (h : ikBeq a b = true) : a = b := by cases a <;> cases b <;> first | rfl | simp [ikBeq] at h

def CL.beq : CL → CL → Bool
  | .int k, .int k' => ikBeq k k'
  | .bool, .bool => true
  | .str, .str => true
  | .sl e, .sl e' => e.beq e'
  | .cons c r, .cons c' r' => c.beq c' && r.beq r'
  | _, _ => false
theorem CL.beq_eq : ∀ {a b : CL}, a.beq b = true → a = b
  | .int k, .int k', h => by rw [ikBeq_eq h]
  | .bool, .bool, _ => rfl
  | .str, .str, _ => rfl
  | .sl e, .sl e', h => by rw [CL.beq_eq (a := e) (b := e') h]
  | .cons c r, .cons c' r', h => by
    simp only [CL.beq, Bool.and_eq_true] at h
    rw [CL.beq_eq h.1, CL.beq_eq h.2]

/-- An abstract cell's value. -/
inductive AV where
  | v (x : Value)
  | sl (e : CL) (nl : Bool) (xs : List e.den)
  | slf (e : CL) (xs : List e.den)
  | nilv
  | ptr (b o : Nat)
  | fn (f : FuncId) (caps : List (Nat × Nat))
  | ea (e : CL) (xs : List e.den) (i o : Nat)
  | junk

inductive Tag where
  | ro
  | own (g : Nat) (sub : Option Nat)

structure C where
  tag : Tag
  av : AV

inductive S1 where
  | c (x : C)
  | agg (xs : List C)

inductive S where
  | s (x : S1)
  | tup (xs : List S1)
  | dead

structure St where
  sl : List S
  bx : List (List C)

abbrev Res := S × List (List C)

inductive X where
  | normal
  | exit (id : Nat)
  | ret

abbrev K := X → St → Option Res
abbrev KO := S → St → Option Res

@[reducible] def vC (x : Value) : C := ⟨.ro, .v x⟩
@[reducible] def vS (x : Value) : S := .s (.c (vC x))
@[reducible] def junkS : S := .dead

def br (b : Bool) (x y : Option Res) : Option Res := match b with | true => x | false => y

/-! elements as cells, and back -/
def CL.enc : (e : CL) → e.den → List AV
  | .int k, n => [.v (.int k n)]
  | .bool, b => [.v (.bool b)]
  | .str, s => [.v (.string s)]
  | .sl e, x => [.sl e x.1 x.2]
  | .cons c r, x => c.enc x.1 ++ r.enc x.2

def castL {a b : CL} (h : a = b) (xs : List a.den) : List b.den := h ▸ xs

def decInt (k : IntKind) : List AV → Option (Int × List AV)
  | .v (.int k' n) :: r => if ikBeq k k' then some (n, r) else none
  | _ => none
def decBool : List AV → Option (Bool × List AV)
  | .v (.bool b) :: r => some (b, r)
  | _ => none
def decStr : List AV → Option (ByteArray × List AV)
  | .v (.string s) :: r => some (s, r)
  | _ => none
def decSl (e : CL) : List AV → Option ((Bool × List e.den) × List AV)
  | .sl e' nl xs :: r => if h : e'.beq e = true then some ((nl, castL (CL.beq_eq h) xs), r) else none
  | .slf e' xs :: r => if h : e'.beq e = true then some ((false, castL (CL.beq_eq h) xs), r) else none
  | .nilv :: r => some ((true, []), r)
  | _ => none
def CL.dec : (e : CL) → List AV → Option (e.den × List AV)
  | .int k, l => decInt k l
  | .bool, l => decBool l
  | .str, l => decStr l
  | .sl e, l => decSl e l
  | .cons c d, l =>
    match c.dec l with
    | none => none
    | some (x, l') =>
      match d.dec l' with
      | none => none
      | some (y, l'') => some ((x, y), l'')

/-! groups -/
def C.kill (g : Nat) (c : C) : C := match c with | ⟨.own g' s, av⟩ => bif Nat.beq g g' then ⟨.ro, .junk⟩ else ⟨.own g' s, av⟩ | c => c
def C.relinq (g : Nat) (c : C) : C := match c with | ⟨.own g' s, av⟩ => bif Nat.beq g g' then ⟨.ro, av⟩ else ⟨.own g' s, av⟩ | c => c
def C.ren (g h : Nat) (c : C) : C := match c with | ⟨.own g' s, av⟩ => bif Nat.beq g g' then ⟨.own h s, av⟩ else ⟨.own g' s, av⟩ | c => c
def C.toRo (c : C) : C := match c with | ⟨.own _ _, av⟩ => ⟨.ro, av⟩ | c => c

def mapL {α β : Type} (f : α → β) : List α → List β
  | [] => []
  | x :: r => f x :: mapL f r
def S1.map (f : C → C) : S1 → S1
  | .c x => .c (f x)
  | .agg xs => .agg (mapL f xs)
def S.map (f : C → C) : S → S
  | .s x => .s (x.map f)
  | .tup xs => .tup (mapL (S1.map f) xs)
  | .dead => .dead
def St.map (f : C → C) (st : St) : St := ⟨mapL (S.map f) st.sl, mapL (mapL f) st.bx⟩
def St.put (st : St) (d : Nat) (s : S) : St := ⟨st.sl.set d s, st.bx⟩
def St.putO (st : St) (d : Option Nat) (s : S) : St := match d with | some t => st.put t s | none => st

def St.letGo (st : St) (t : Tag) : St := match t with | .own g _ => st.map (C.relinq g) | .ro => st

/-! constants, operands -/
def constC : Value → Option C
  | .int k n => some (vC (.int k n))
  | .bool b => some (vC (.bool b))
  | .string s => some (vC (.string s))
  | .nilFunc => some (vC .nilFunc)
  | .nilIface => some (vC .nilIface)
  | .pointer none => some (vC (.pointer none))
  | .slice none 0 0 => some ⟨.ro, .nilv⟩
  | _ => none
def constCs : List Value → Option (List C)
  | [] => some []
  | x :: r => match constC x with
    | none => none
    | some c => match constCs r with
      | none => none
      | some cs => some (c :: cs)
def constS1 : Value → Option S1
  | .agg cs => (constCs cs.toList).map .agg
  | v => (constC v).map .c
def St.get (st : St) : Operand → Option S
  | .tmp t => st.sl[t]?
  | .const v => (constS1 v).map .s
  | .func f => some (.s (.c ⟨.ro, .fn f []⟩))
  | .global _ => none
def St.get1 (st : St) (x : Operand) : Option S1 := match st.get x with | some (.s x) => some x | _ => none
def St.getC (st : St) (x : Operand) : Option C := match st.get x with | some (.s (.c x)) => some x | _ => none
def St.getInt (st : St) (x : Operand) : Option (IntKind × Int) := match st.getC x with | some ⟨_, .v (.int k n)⟩ => some (k, n) | _ => none
def St.getBool (st : St) (x : Operand) : Option Bool := match st.getC x with | some ⟨.ro, .v (.bool b)⟩ => some b | _ => none

def S1.cells : S1 → List C
  | .c x => [x]
  | .agg xs => xs
def ofCells (agg : Bool) (xs : List C) : Option S1 := match agg, xs with
  | true, xs => some (.agg xs)
  | false, [x] => some (.c x)
  | false, _ => none

/-! types -/
def CL.ofFields (f : TypeId → Option CL) : List Field → Option CL
  | [] => none
  | [x] => f x.type
  | x :: y :: r => match f x.type, CL.ofFields f (y :: r) with
    | some c, some d => some (.cons c d)
    | _, _ => none
def clOf (P : Program) : Nat → TypeId → Option CL
  | 0, _ => none
  | n + 1, t => match P.underlying t with
    | some (.int k) => some (.int k)
    | some .bool => some .bool
    | some .string => some .str
    | some (.slice e) => (clOf P n e).map .sl
    | some (.struct fs) => CL.ofFields (clOf P n) fs.toList
    | _ => none
/-- A slice type's element: its number, what it is made of, its bytes. -/
def elemOfT (P : Program) (t : TypeId) : Option (TypeId × CL) := match P.underlying t with
  | some (.slice e) => match clOf P 8 e with
    | some c => match P.info? e with
      | some i => match i.zero with
        | some z => bif Nat.beq c.size i.size && Nat.beq z.cells.size i.size && !(Nat.beq i.bytes 0) then some (e, c) else none
        | none => none
      | none => none
    | none => none
  | _ => none

/-! numbers -/
def isAggB (P : Program) (t : TypeId) : Bool := match P.underlying t with | some (.struct _) => true | some (.array _ _) => true | _ => false

def bits (op : BinOp) (k : IntKind) (x y : Int) : Option Int :=
  let a := BitVec.ofInt k.bits x
  let b := BitVec.ofInt k.bits y
  match op with
  | .and => some (k.wrap (a &&& b).toNat)
  | .or => some (k.wrap (a ||| b).toNat)
  | .xor => some (k.wrap (a ^^^ b).toNat)
  | .andNot => some (k.wrap (a &&& ~~~b).toNat)
  | _ => none

def eqFs (P : Program) (f : TypeId → List C → List C → Option Bool) : List Field → List C → List C → Option Bool
  | [], _, _ => some true
  | x :: r, xs, ys =>
    bif x.name == "_" then none else
    match f x.type ((xs.drop x.offset).take (P.cellsOf x.type)) ((ys.drop x.offset).take (P.cellsOf x.type)) with
    | none => none
    | some a => match eqFs P f r xs ys with
      | none => none
      | some b => some (a && b)
def eqInts : List C → List C → Option Bool
  | [⟨_, .v (.int k a)⟩], [⟨_, .v (.int k' b)⟩] => bif ikBeq k k' then some (a == b) else none
  | _, _ => none
def eqBools : List C → List C → Option Bool
  | [⟨_, .v (.bool a)⟩], [⟨_, .v (.bool b)⟩] => some (a == b)
  | _, _ => none
def eqStrs : List C → List C → Option Bool
  | [⟨_, .v (.string a)⟩], [⟨_, .v (.string b)⟩] => some (a.toList == b.toList)
  | _, _ => none
def eqT (P : Program) : Nat → Bool → TypeId → List C → List C → Option Bool
  | 0, _, _, _, _ => none
  | n + 1, agg, T, xs, ys =>
    match P.underlying T, agg with
    | some (.int _), false => eqInts xs ys
    | some .bool, false => eqBools xs ys
    | some .string, false => eqStrs xs ys
    | some (.struct fs), true => bif P.stoodInHeld T then none else eqFs P (fun t => eqT P n (isAggB P t) t) fs.toList xs ys
    | _, _ => none

def binInt (op : BinOp) (ka : IntKind) (a : Int) (kb : IntKind) (b : Int) (k : Value → Option Res) : Option Res :=
    match op with
    | .shl => br (decide (b < 0)) none (k (.int ka (ka.wrap (a * 2 ^ (min b.toNat ka.bits)))))
    | .shr => br (decide (b < 0)) none (k (.int ka (a.fdiv (2 ^ (min b.toNat ka.bits)))))
    | .add => bif ikBeq ka kb then k (.int ka (ka.wrap (a + b))) else none
    | .sub => bif ikBeq ka kb then k (.int ka (ka.wrap (a - b))) else none
    | .mul => bif ikBeq ka kb then k (.int ka (ka.wrap (a * b))) else none
    | .quo => bif ikBeq ka kb then br (decide (b = 0)) none (k (.int ka (ka.wrap (a.tdiv b)))) else none
    | .rem => bif ikBeq ka kb then br (decide (b = 0)) none (k (.int ka (a.tmod b))) else none
    | .and | .or | .xor | .andNot => bif ikBeq ka kb then (match bits op ka a b with | some n => k (.int ka n) | none => none) else none
    | .eql => bif ikBeq ka kb then k (.bool (a == b)) else none
    | .neq => bif ikBeq ka kb then k (.bool (a != b)) else none
    | .lss => bif ikBeq ka kb then k (.bool (decide (a < b))) else none
    | .leq => bif ikBeq ka kb then k (.bool (decide (a ≤ b))) else none
    | .gtr => bif ikBeq ka kb then k (.bool (decide (a > b))) else none
    | .geq => bif ikBeq ka kb then k (.bool (decide (a ≥ b))) else none
def binStr (op : BinOp) (a b : ByteArray) (k : Value → Option Res) : Option Res :=
    match op with
    | .eql => k (.bool (a.toList == b.toList))
    | .neq => k (.bool !(a.toList == b.toList))
    | _ => none
def binBool (op : BinOp) (a b : Bool) (k : Value → Option Res) : Option Res :=
    match op with
    | .eql => k (.bool (a == b))
    | .neq => k (.bool !(a == b))
    | _ => none
def binNil (op : BinOp) (nl : Bool) (k : Value → Option Res) : Option Res :=
    match op with
    | .eql => k (.bool nl)
    | .neq => k (.bool !nl)
    | _ => none
def binAgg (P : Program) (op : BinOp) (T : TypeId) (a b : List C) (k : Value → Option Res) : Option Res :=
  bif P.eqGuardType P.depth T then none else
    match op with
    | .eql => match eqT P 8 true T a b with | some t => k (.bool t) | none => none
    | .neq => match eqT P 8 true T a b with | some t => k (.bool !t) | none => none
    | _ => none
def binK (P : Program) (op : BinOp) (T : TypeId) (x y : S1) (k : Value → Option Res) : Option Res :=
  match x, y with
  | .c ⟨_, .v (.int ka a)⟩, .c ⟨_, .v (.int kb b)⟩ => binInt op ka a kb b k
  | .c ⟨_, .v (.string a)⟩, .c ⟨_, .v (.string b)⟩ => binStr op a b k
  | .c ⟨_, .v (.bool a)⟩, .c ⟨_, .v (.bool b)⟩ => (match P.underlying T with | some .bool => binBool op a b k | _ => none)
  | .c ⟨_, .sl _ nl _⟩, .c ⟨_, .nilv⟩ => (match P.underlying T with | some (.slice _) => binNil op nl k | _ => none)
  | .agg a, .agg b => binAgg P op T a b k
  | _, _ => none

def unV (op : UnOp) : Value → Option Value
  | .int k n => match op with
    | .neg => some (.int k (k.wrap (0 - n)))
    | .xor => (bits .xor k (if k.signed then -1 else k.max) n).map (.int k)
    | _ => none
  | .bool b => match op with
    | .not => some (.bool !b)
    | _ => none
  | _ => none

/-! slices -/
def inR (i : Int) (n : Nat) : Bool := decide (0 ≤ i) && decide (i < (n : Int))
def leR (i : Int) (n : Nat) : Bool := decide (0 ≤ i) && decide (i ≤ (n : Int))
def LIM : Nat := 2 ^ 46
def fits (n b : Nat) : Bool := decide (n * b ≤ LIM)
def nth (e : CL) (xs : List e.den) (i : Nat) : e.den := xs.getD i e.zero
def baOf (xs : List Int) : ByteArray := ⟨(xs.map fun n => UInt8.ofNat n.toNat).toArray⟩
def ofBA (s : ByteArray) : List Int := s.data.toList.map fun b => (b.toNat : Int)
def grp (d i : Nat) : Nat := 2 * (16 * d + i)
def grpB (b o : Nat) : Nat := 2 * (64 * b + o) + 1

def C.freshen (g : Nat) (st : St) : St := st.map (C.relinq g)
/-- Which groups some cells belong to. -/
def groupsC : List C → List Nat
  | [] => []
  | ⟨.own g _, _⟩ :: r => g :: groupsC r
  | _ :: r => groupsC r
def relinqAll (gs : List Nat) (st : St) : St := gs.foldl (fun s g => s.map (C.relinq g)) st

/-- The elements that stand in an operand: for append, copy. -/
def srcOf (P : Program) (T : TypeId) (e : CL) (y : C) : Option (List e.den) :=
  match P.underlying T with
  | some (.slice _) => match y with
    | ⟨_, .sl e' _ xs⟩ => if h : e'.beq e = true then some (castL (CL.beq_eq h) xs) else none
    | ⟨_, .slf e' xs⟩ => if h : e'.beq e = true then some (castL (CL.beq_eq h) xs) else none
    | ⟨_, .nilv⟩ => some []
    | _ => none
  | some .string => match y with
    | ⟨_, .v (.string s)⟩ => match e with
      | .int .u8 => some (ofBA s)
      | _ => none
    | _ => none
  | _ => none

def isNilL {α : Type} : List α → Bool
  | [] => true
  | _ => false

def appendK (P : Program) (d : Nat) (T T2 : TypeId) (x y : C) (st : St) (k : KO) : Option Res :=
  match elemOfT P T with
  | none => none
  | some (E, e) =>
    match srcOf P T2 e y with
    | none => none
    | some ys =>
      match x with
      | ⟨_, .nilv⟩ =>
        br (fits ys.length (P.bytesOf E)) (k (.s (.c ⟨.own (grp d 0) none, .sl e (isNilL ys) ys⟩)) (C.freshen (grp d 0) st)) none
      | ⟨.own g none, .sl e' nl xs⟩ =>
        if h : e'.beq e = true then
          br (fits (xs.length + ys.length) (P.bytesOf E))
            (k (.s (.c ⟨.own (grp d 0) none, .sl e (nl && isNilL ys) (castL (CL.beq_eq h) xs ++ ys)⟩)) (C.freshen (grp d 0) (st.map (C.kill g)))) none
        else none
      | ⟨t, .slf e' xs⟩ =>
        if h : e'.beq e = true then
          br (fits (xs.length + ys.length) (P.bytesOf E))
            (k (.s (.c ⟨.ro, .sl e false (castL (CL.beq_eq h) xs ++ ys)⟩)) ((C.freshen (grp d 0) (st.letGo t)).map (C.relinq (grp d 0)))) none
        else none
      | _ => none

def setAll {α : Type} : List α → Nat → List α → List α
  | xs, _, [] => xs
  | xs, o, y :: r => setAll (xs.set o y) (o + 1) r
/-- Members of a group behind a store: whole ones are turned, parts are no more. -/
def C.onGroup (g : Nat) (e : CL) (f : List e.den → List e.den) (c : C) : C :=
  match c with
  | ⟨.own g' none, .sl e' nl xs⟩ => bif Nat.beq g g' then (if h : e'.beq e = true then ⟨.own g' none, .sl e nl (f (castL (CL.beq_eq h) xs))⟩ else ⟨.ro, .junk⟩) else ⟨.own g' none, .sl e' nl xs⟩
  | ⟨.own g' none, .ea e' xs i o⟩ => bif Nat.beq g g' then (if h : e'.beq e = true then ⟨.own g' none, .ea e (f (castL (CL.beq_eq h) xs)) i o⟩ else ⟨.ro, .junk⟩) else ⟨.own g' none, .ea e' xs i o⟩
  | ⟨.own g' s, av⟩ => bif Nat.beq g g' then ⟨.ro, .junk⟩ else ⟨.own g' s, av⟩
  | c => c

/-- Members of a group behind a copy. -/
def C.onCopy (g : Nat) (e : CL) (f : List e.den → List e.den) (c : C) : C :=
  match c with
  | ⟨.own g' none, .sl e' nl xs⟩ => bif Nat.beq g g' then (if h : e'.beq e = true then ⟨.own g' none, .sl e nl (f (castL (CL.beq_eq h) xs))⟩ else ⟨.ro, .junk⟩) else ⟨.own g' none, .sl e' nl xs⟩
  | ⟨.own g' s, av⟩ => bif Nat.beq g g' then ⟨.ro, .junk⟩ else ⟨.own g' s, av⟩
  | c => c
def copyK (P : Program) (T T2 : TypeId) (x y : C) (st : St) (k : KO) : Option Res :=
  match elemOfT P T with
  | none => none
  | some (_, e) =>
    match srcOf P T2 e y with
    | none => none
    | some ys =>
      match x with
      | ⟨.own g s, .sl e' _ xs⟩ =>
        bif e'.beq e then
          k (vS (.int .i64 ((min ys.length xs.length : Nat) : Int))) (st.map (C.onCopy g e fun l => setAll l (s.getD 0) (ys.take (min ys.length xs.length))))
        else none
      | _ => none

def setCells : List C → Nat → List C → List C
  | xs, _, [] => xs
  | xs, o, y :: r => setCells (xs.set o y) (o + 1) r

/-- One after another: what is stored in a box's cell is then named by that place. -/
def adopt (b : Nat) : Nat → List C → St → St
  | _, [], st => st
  | o, ⟨.own g _, _⟩ :: r, st => adopt b (o + 1) r ((st.map (C.relinq (grpB b o))).map (C.ren g (grpB b o)))
  | o, _ :: r, st => adopt b (o + 1) r st

def lenOfL {α : Type} (xs : List α) : Value := .int .i64 xs.length

end Go.Proofs.Ythiaaaedfidnjaa.Am

namespace Go.Proofs.Ythiaaaedfidnjaa.Am
open Go

def partOf (P : Program) (T : TypeId) (cs : List C) (o : Nat) : Option S1 := match P.underlying T with
  | none => none
  | some _ => bif Nat.beq ((cs.drop o).take (P.cellsOf T)).length (P.cellsOf T) then ofCells (isAggB P T) ((cs.drop o).take (P.cellsOf T)) else none

/-! results of calls -/
abbrev RT := List (Bool × CL)
@[reducible] def RT.den : RT → Type
  | [] => Unit
  | [x] => x.2.den
  | x :: y :: r => x.2.den × RT.den (y :: r)
def avs : List C → List AV
  | [] => []
  | c :: r => c.av :: avs r
/-- The cells of a result that the caller may write: each slice whole and of its own. -/
def ownOK : List C → Bool
  | [] => true
  | ⟨.own _ none, .sl _ _ _⟩ :: r => ownOK r
  | ⟨_, .nilv⟩ :: r => ownOK r
  | ⟨_, .v _⟩ :: r => ownOK r
  | _ => false
def allRo : List C → Bool
  | [] => true
  | ⟨.ro, _⟩ :: r => allRo r
  | _ => false
def retTags (own : Bool) (cs : List C) : Bool := match own with | true => ownOK cs | false => allRo cs
def toDen (own : Bool) (c : CL) (cs : List C) : Option c.den :=
  bif retTags own cs then
    match c.dec (avs cs) with
    | some (x, []) => some x
    | _ => none
  else none
def headB : List Bool → Bool
  | [] => false
  | b :: _ => b
def formOK (agg : Bool) : S1 → Bool
  | .c _ => !agg
  | .agg _ => agg
def toDens : (rt : RT) → List Bool → List S1 → Option (RT.den rt)
  | [], _, [] => some ()
  | [x], o, [s] => bif formOK x.1 s then toDen (headB o) x.2 s.cells else none
  | x :: y :: r, o, s :: ss =>
    bif formOK x.1 s then
    match toDen (headB o) x.2 s.cells with
    | none => none
    | some a => match toDens (y :: r) o.tail ss with
      | none => none
      | some b => some (a, b)
    else none
  | _, _, _ => none
def getRet (rt : RT) (o : List Bool) : Option Res → Option (RT.den rt)
  | none => none
  | some (.s x, _) => toDens rt o [x]
  | some (.tup xs, _) => bif Nat.beq xs.length 1 then none else toDens rt o xs
  | some (.dead, _) => none
def mkCells (own : Bool) (d : Nat) : Nat → List AV → List C
  | _, [] => []
  | i, .sl e nl xs :: r => (match own with | true => ⟨.own (grp d i) none, .sl e nl xs⟩ | false => ⟨.ro, .sl e nl xs⟩) :: mkCells own d (i + 1) r
  | i, a :: r => ⟨.ro, a⟩ :: mkCells own d (i + 1) r
def mkS1 (agg : Bool) (cs : List C) : S1 := match agg, cs with
  | false, [c] => .c c
  | _, cs => .agg cs
def mkRets (d : Nat) : (rt : RT) → List Bool → Nat → RT.den rt → List S1
  | [], _, _, _ => []
  | [x], o, i, a => [mkS1 x.1 (mkCells (headB o) d i (x.2.enc a))]
  | x :: y :: r, o, i, a => mkS1 x.1 (mkCells (headB o) d i (x.2.enc a.1)) :: mkRets d (y :: r) o.tail (i + x.2.size) a.2
def mkRet (d : Nat) (rt : RT) (o : List Bool) (x : RT.den rt) : S := match mkRets d rt o 0 x with
  | [s] => .s s
  | l => .tup l
def noSl : CL → Bool
  | .sl _ => false
  | .cons c r => noSl c && noSl r
  | _ => true
/-- What comes back leads to nothing of what was handed in. -/
def apartCL : CL → Bool
  | .sl e => e.flat
  | .cons c r => apartCL c && apartCL r
  | _ => true
def apartRT : RT → List Bool → Bool
  | [], _ => true
  | x :: r, o => (noSl x.2 || (headB o && apartCL x.2)) && apartRT r o.tail
def freshAll (d : Nat) : Nat → Nat → St → St
  | 0, _, st => st
  | n + 1, i, st => freshAll d n (i + 1) (C.freshen (grp d i) st)
def slCount : CL → Nat
  | .sl _ => 1
  | .cons c r => c.size + r.size
  | _ => 0
def RT.cells : RT → Nat
  | [] => 0
  | x :: r => x.2.size + RT.cells r
def anyTrue : List Bool → Bool
  | [] => false
  | b :: r => b || anyTrue r
def rtOf (P : Program) : List TypeId → Option RT
  | [] => some []
  | t :: r => match clOf P 8 t with
    | none => none
    | some c => match rtOf P r with
      | none => none
      | some rt => some ((isAggB P t, c) :: rt)

/-- An argument as the callee sees it. -/
def argC : C → Option C
  | ⟨_, .v x⟩ => some ⟨.ro, .v x⟩
  | ⟨_, .sl e nl xs⟩ => some ⟨.ro, .sl e nl xs⟩
  | ⟨_, .slf e xs⟩ => some ⟨.ro, .sl e false xs⟩
  | ⟨_, .nilv⟩ => some ⟨.ro, .nilv⟩
  | _ => none
def argCs : List C → Option (List C)
  | [] => some []
  | c :: r => match argC c with
    | none => none
    | some a => match argCs r with
      | none => none
      | some as => some (a :: as)
def argS1 : S1 → Option S1
  | .c x => match argC x with | some c => some (.c c) | none => none
  | .agg xs => match argCs xs with | some l => some (.agg l) | none => none
def argsOf (st : St) : List Operand → Option (List S1)
  | [] => some []
  | x :: r => match st.get1 x with
    | none => none
    | some s => match argS1 s with
      | none => none
      | some a => match argsOf st r with
        | none => none
        | some l => some (a :: l)
def groupsOf (st : St) : List Operand → List Nat
  | [] => []
  | x :: r => (match st.get1 x with | some s => groupsC s.cells | none => []) ++ groupsOf st r

/-- What a call comes to, by cases. -/
inductive Tree where
  | leaf (r : Option Res)
  | br (c : Bool) (a b : Tree)
def Tree.go : Tree → (Option Res → Option Res) → Option Res
  | .leaf r, F => F r
  | .br c a b, F => Am.br c (a.go F) (b.go F)
def Tree.den : Tree → Option Res
  | .leaf r => r
  | .br c a b => Am.br c a.den b.den
theorem Tree.go_eq {F : Option Res → Option Res} : ∀ {t : Tree}, t.go F = F t.den
  | .leaf r => rfl
  | .br c a b => by
    simp only [Tree.go, Tree.den, Tree.go_eq (t := a), Tree.go_eq (t := b)]
    cases c <;> rfl

/-- What is named anew ahead of a region: a slot that holds nil holds an empty slice of one's own; a group is known by another number. -/
inductive CanOp where
  | nil (i : Nat) (e : CL) (h : Nat)
  | ren (g h : Nat)
  | nilR (i : Nat) (e : CL)
  | rel (g : Nat)
structure MK where
  keep : List Nat
  can : List CanOp
structure Env where
  P : Program
  sig : FuncId → List Bool
  mask : FuncId → Nat → Option MK
  /-- Of a region that draws its order: how many operations may come in any order, and which groups are let go, or named anew, ahead of it. -/
  draw : FuncId → Nat → Option (Nat × List (Nat × Option Nat))
  /-- What is already known of a function. -/
  stub : FuncId → Option (List S1 → List (List C) → Tree)
  /-- How many boxes come in, by pointers. -/
  np : FuncId → Nat
  /-- What is named anew of the results. -/
  fin : FuncId → List CanOp

def callK (V : Env) (callF : FuncId → List S1 → List (List C) → Tree) (d : Nat) (f : FuncId) (xs : List Operand) (st : St) (k : KO) : Option Res :=
  match V.P.funcs[f]? with
  | none => none
  | some fn =>
    bif fn.name == "runtime.NumGoroutine" || fn.body.isNone then none else
    match rtOf V.P fn.resultTypes.toList with
    | none => none
    | some rt =>
      match argsOf st xs with
      | none => none
      | some as =>
        (callF f as []).go fun r => match getRet rt (V.sig f) r with
        | none => none
        | some x =>
          k (mkRet d rt (V.sig f) x)
            (freshAll d (bif anyTrue (V.sig f) then RT.cells rt else 0) 0 (bif apartRT rt (V.sig f) then st else relinqAll (groupsOf st xs) st))

/-! calls that are handed boxes -/
def memN (n : Nat) : List Nat → Bool
  | [] => false
  | m :: r => Nat.beq n m || memN n r

def ptrOf : S1 → Option Nat
  | .c ⟨_, .ptr b 0⟩ => some b
  | _ => none
def ptrArgs (st : St) : List Operand → List Nat
  | [] => []
  | x :: r => match st.get1 x with
    | some s => match ptrOf s with
      | some b => b :: ptrArgs st r
      | none => ptrArgs st r
    | none => ptrArgs st r
def idxOf : List Nat → Nat → Nat → Nat
  | [], _, i => i
  | b :: r, x, i => bif Nat.beq b x then i else idxOf r x (i + 1)
def argsP (st : St) (ps : List Nat) : List Operand → Option (List S1)
  | [] => some []
  | x :: r => match st.get1 x with
    | none => none
    | some s => match (match ptrOf s with | some b => some (.c ⟨.ro, .ptr (idxOf ps b 0) 0⟩) | none => argS1 s) with
      | none => none
      | some a => match argsP st ps r with
        | none => none
        | some l => some (a :: l)
/-- A box's cells, the box under another number. -/
def reBox (b i : Nat) : Nat → List C → Option (List C)
  | _, [] => some []
  | o, c :: r => match (match c with
      | ⟨_, .v x⟩ => some ⟨.ro, .v x⟩
      | ⟨_, .nilv⟩ => some ⟨.ro, .nilv⟩
      | ⟨.ro, .sl e nl xs⟩ => some ⟨.ro, .sl e nl xs⟩
      | ⟨.own g none, .sl e nl xs⟩ => bif Nat.beq g (grpB b o) && Nat.ble (o + 1) 64 then some ⟨.own (grpB i o) none, .sl e nl xs⟩ else none
      | _ => (none : Option C)) with
    | none => none
    | some c' => match reBox b i (o + 1) r with
      | none => none
      | some l => some (c' :: l)
def boxesIn (st : St) : Nat → List Nat → Option (List (List C))
  | _, [] => some []
  | i, b :: r => match st.bx[b]? with
    | none => none
    | some cs => match reBox b i 0 cs with
      | none => none
      | some cs' => match boxesIn st (i + 1) r with
        | none => none
        | some l => some (cs' :: l)
def boxesOut (st : St) : Nat → List Nat → List (List C) → Option St
  | _, [], [] => some st
  | i, b :: r, cs :: l => match reBox i b 0 cs with
    | none => none
    | some cs' => boxesOut ⟨st.sl, st.bx.set b cs'⟩ (i + 1) r l
  | _, _, _ => none
def dupN : List Nat → Bool
  | [] => false
  | x :: r => memN x r || dupN r
/-- What was an array of a box's is nobody's. -/
def C.killB (ps : List Nat) : C → C
  | ⟨.own g s, av⟩ => bif Nat.beq (g % 2) 1 && memN (g / 128) ps then ⟨.ro, .junk⟩ else ⟨.own g s, av⟩
  | c => c
def callPK (V : Env) (callF : FuncId → List S1 → List (List C) → Tree) (d : Nat) (f : FuncId) (xs : List Operand) (st : St) (k : KO) : Option Res :=
  match V.P.funcs[f]? with
  | none => none
  | some fn =>
    bif fn.name == "runtime.NumGoroutine" || fn.body.isNone then none else
    match rtOf V.P fn.resultTypes.toList with
    | none => none
    | some rt =>
      bif dupN (ptrArgs st xs) then none else
      match argsP st (ptrArgs st xs) xs with
      | none => none
      | some as => match boxesIn (freshAll d (bif anyTrue (V.sig f) then RT.cells rt else 0) 0 (relinqAll (groupsOf st xs) st)) 0 (ptrArgs st xs) with
        | none => none
        | some bxs => (callF f as bxs).go fun r => match r with
          | none => none
          | some (s, bxs') => match getRet rt (V.sig f) (some (s, bxs')) with
            | none => none
            | some x => match boxesOut ((freshAll d (bif anyTrue (V.sig f) then RT.cells rt else 0) 0 (relinqAll (groupsOf st xs) st)).map (C.killB (ptrArgs st xs))) 0 (ptrArgs st xs) bxs' with
              | none => none
              | some st' => k (mkRet d rt (V.sig f) x) st'

/-! memory: loads, stores, addresses -/
def loadK (P : Program) (T : TypeId) (a : C) (st : St) (k : KO) : Option Res :=
  match a.av with
  | .ptr b o =>
    match st.bx[b]? with
    | none => none
    | some cs => match partOf P T cs o with
      | some s => k (.s s) st
      | none => none
  | .ea e xs i o =>
    match partOf P T (mapL (fun v => ⟨.ro, v⟩) (e.enc (nth e xs i))) o with
    | some s => k (.s s) st
    | none => none
  | _ => none
def storeK (P : Program) (T : TypeId) (a : C) (v : S1) (st : St) (k : KO) : Option Res :=
  match P.info? T with
  | none => none
  | some inf =>
  bif !(Nat.beq v.cells.length inf.size) then none else
  match a with
  | ⟨_, .ptr b o⟩ =>
    match st.bx[b]? with
    | none => none
    | some cs =>
      bif Nat.ble (o + v.cells.length) cs.length then
        k junkS (adopt b o v.cells ⟨st.sl, st.bx.set b (setCells cs o v.cells)⟩)
      else none
  | ⟨.own g none, .ea e xs i o⟩ =>
    bif memN g (groupsC v.cells) || !(Nat.ble (o + v.cells.length) e.size) then none else
    match e.dec ((e.enc (nth e xs i)).take o ++ avs v.cells ++ (e.enc (nth e xs i)).drop (o + v.cells.length)) with
    | some (y, []) => k junkS ((relinqAll (groupsC v.cells) st).map (C.onGroup g e fun l => l.set i y))
    | _ => none
  | _ => none
def fieldOff (P : Program) (T : TypeId) (f : Nat) : Option (Nat × TypeId) := match P.underlying T with
  | some (.struct fs) => match fs.toList[f]? with
    | some x => bif Nat.beq (P.cellsOf x.type) 0 then none else some (x.offset, x.type)
    | none => none
  | _ => none
def fieldAddrK (P : Program) (T : TypeId) (f : Nat) (a : C) (st : St) (k : KO) : Option Res :=
  match fieldOff P T f with
  | none => none
  | some (o', _) =>
    match a with
    | ⟨t, .ptr b o⟩ => k (.s (.c ⟨t, .ptr b (o + o')⟩)) st
    | ⟨t, .ea e xs i o⟩ => k (.s (.c ⟨t, .ea e xs i (o + o')⟩)) st
    | _ => none
def fieldK (P : Program) (T : TypeId) (f : Nat) (x : S1) (st : St) (k : KO) : Option Res :=
  match fieldOff P T f with
  | none => none
  | some (o, t) => match x with
    | .agg cs => match partOf P t cs o with
      | some s => k (.s s) st
      | none => none
    | _ => none
def pieceTag : Tag → Nat → Tag
  | .ro, _ => .ro
  | .own g none, l => .own g (some l)
  | .own g (some o), l => .own g (some (l + o))
def indexAddrK (P : Program) (T : TypeId) (x : C) (i : Int) (st : St) (k : KO) : Option Res :=
  match elemOfT P T with
  | none => none
  | some (_, e) => match x with
    | ⟨t, .sl e' _ xs⟩ => bif e'.beq e then br (inR i xs.length) (k (.s (.c ⟨t, .ea e' xs i.toNat 0⟩)) st) none else none
    | ⟨t, .slf e' xs⟩ => bif e'.beq e then br (inR i xs.length) (k (.s (.c ⟨pieceTag t 0, .ea e' xs i.toNat 0⟩)) st) none else none
    | _ => none
def indexStr (s : ByteArray) (i : Int) (st : St) (k : KO) : Option Res :=
  br (inR i s.size) (k (vS (.int .u8 ((ofBA s).getD i.toNat 0))) st) none

def sliceStr (s : ByteArray) (lo hi : Option Int) (st : St) (k : KO) : Option Res :=
  match lo, hi with
  | none, none => k (vS (.string (s.extract 0 s.size))) st
  | some l, none => br (leR l s.size) (k (vS (.string (s.extract l.toNat s.size))) st) none
  | none, some h => br (leR h s.size) (k (vS (.string (s.extract 0 h.toNat))) st) none
  | some l, some h => br (leR h s.size) (br (leR l h.toNat) (k (vS (.string (s.extract l.toNat h.toNat))) st) none) none
def sliceRow (t : Tag) (e : CL) (nl : Bool) (xs : List e.den) (lo hi mx : Option Int) (st : St) (k : KO) : Option Res :=
    match lo, hi, mx with
    | none, none, none => k (.s (.c ⟨pieceTag t 0, .sl e nl xs⟩)) st
    | some l, none, none => br (leR l xs.length) (k (.s (.c ⟨pieceTag t l.toNat, .sl e nl (xs.drop l.toNat)⟩)) st) none
    | none, some h, none => br (leR h xs.length) (k (.s (.c ⟨pieceTag t 0, .sl e nl (xs.take h.toNat)⟩)) st) none
    | some l, some h, none => br (leR h xs.length) (br (leR l h.toNat) (k (.s (.c ⟨pieceTag t l.toNat, .sl e nl ((xs.take h.toNat).drop l.toNat)⟩)) st) none) none
    | none, some h, some m => br (leR m xs.length) (br (decide (h = m)) (br nl none (k (.s (.c ⟨pieceTag t 0, .slf e (xs.take h.toNat)⟩)) st)) none) none
    | _, _, _ => none
def sliceK (P : Program) (T : TypeId) (x : C) (lo hi mx : Option Int) (st : St) (k : KO) : Option Res :=
  match P.underlying T with
  | some .string => match x, mx with
    | ⟨_, .v (.string s)⟩, none => sliceStr s lo hi st k
    | _, _ => none
  | some (.slice _) => match elemOfT P T with
    | none => none
    | some (_, e') => match x with
      | ⟨t, .sl e nl xs⟩ => bif e.beq e' then sliceRow t e nl xs lo hi mx st k else none
      | _ => none
  | _ => none

def partFor (st : St) (j : Nat) : List (Nat × Operand) → Option (Option (List C))
  | [] => some none
  | (i, x) :: r => match partFor st j r with
    | none => none
    | some (some cs) => some (some cs)
    | some none => bif Nat.beq i j then (match st.get1 x with | some s => some (some s.cells) | none => none) else some none
/-- An element that nothing was said of. -/
def zeroEl (P : Program) (E : TypeId) (e : CL) : Option e.den := match P.info? E with
  | some i => match i.zero with
    | some z => match constCs z.cells.toList with
      | some cs => match e.dec (avs cs) with
        | some (y, []) => some y
        | _ => none
      | none => none
    | none => none
  | none => none
def decEl (e : CL) (cs : List C) : Option e.den := bif Nat.beq cs.length e.size then (match e.dec (avs cs) with | some (y, []) => some y | _ => none) else none
def buildEls (P : Program) (E : TypeId) (st : St) (e : CL) (ps : List (Nat × Operand)) : Nat → Nat → Option (List e.den)
  | 0, _ => some []
  | n + 1, j => match partFor st j ps with
    | none => none
    | some p => match (match p with | none => zeroEl P E e | some cs => decEl e cs) with
      | none => none
      | some y => match buildEls P E st e ps n (j + 1) with
        | none => none
        | some l => some (y :: l)
def partsOK (st : St) (e : CL) (n : Nat) : List (Nat × Operand) → Bool
  | [] => true
  | (i, x) :: r => match st.get1 x with
    | some s => Nat.beq s.cells.length e.size && Nat.ble (i + 1) n && partsOK st e n r
    | none => false
def buildSliceK (P : Program) (d : Nat) (T : TypeId) (n : Nat) (ps : List (Nat × Operand)) (st : St) (k : KO) : Option Res :=
  match elemOfT P T with
  | none => none
  | some (E, e) => bif Nat.ble (n * e.size) 16777216 && partsOK st e n ps then
    match buildEls P E st e ps n 0 with
    | none => none
    | some xs => k (.s (.c ⟨.own (grp d 0) none, .sl e false xs⟩)) (C.freshen (grp d 0) (relinqAll (groupsOf st (mapL (·.2) ps)) st))
    else none
def makeSliceK (P : Program) (d : Nat) (T : TypeId) (l c : Int) (st : St) (k : KO) : Option Res :=
  match elemOfT P T with
  | none => none
  | some (E, e) => match zeroEl P E e with
    | none => none
    | some y =>
      br (decide (0 ≤ l) && decide (l = c)) (br (fits l.toNat (P.bytesOf E))
        (k (.s (.c ⟨.own (grp d 0) none, .sl e false (List.replicate l.toNat y)⟩)) (C.freshen (grp d 0) st)) none) none

def zeroS1 (P : Program) (T : TypeId) : Option S1 := match P.info? T with
  | some i => match i.zero with
    | some z => bif Nat.beq z.cells.size i.size then constS1 z else none
    | none => none
  | none => none
def placesOf (P : Program) : List Field → Option (List (Nat × Nat))
  | [] => some []
  | f :: r => match P.info? f.type with
    | none => none
    | some i => match placesOf P r with
      | none => none
      | some l => some ((f.offset, i.size) :: l)
def buildFill (st : St) (pl : List (Nat × Nat)) : List C → List (Nat × Operand) → Option (List C)
  | cs, [] => some cs
  | cs, (i, x) :: r => match pl[i]? with
    | none => none
    | some (o, n) => match st.get1 x with
      | none => none
      | some s => bif Nat.beq s.cells.length n && Nat.ble (o + s.cells.length) cs.length then buildFill st pl (setCells cs o s.cells) r else none
def buildK (P : Program) (T : TypeId) (ps : List (Nat × Operand)) (st : St) (k : KO) : Option Res :=
  match P.underlying T with
  | some (.struct fs) => match placesOf P fs.toList, zeroS1 P T with
    | some pl, some (.agg z) => match buildFill st pl z ps with
      | some cs => k (.s (.agg cs)) st
      | none => none
    | _, _ => none
  | _ => none

def convertK (P : Program) (d : Nat) (src dst : TypeId) (x : C) (st : St) (k : KO) : Option Res :=
  match P.underlying src, P.underlying dst, x with
  | some _, some (.int kd), ⟨_, .v (.int _ n)⟩ => k (vS (.int kd (kd.wrap n))) st
  | some _, some .string, ⟨_, .v (.string s)⟩ => k (vS (.string s)) st
  | some (.slice e), some .string, ⟨_, .sl (.int .u8) _ xs⟩ => (match P.underlying e with | some (.int .u8) => k (vS (.string (baOf xs))) st | _ => none)
  | some (.slice e), some .string, ⟨_, .slf (.int .u8) xs⟩ => (match P.underlying e with | some (.int .u8) => k (vS (.string (baOf xs))) st | _ => none)
  | some (.slice e), some .string, ⟨_, .nilv⟩ => (match P.underlying e with | some (.int .u8) => k (vS (.string (baOf []))) st | _ => none)
  | some .string, some (.slice e), ⟨_, .v (.string s)⟩ => (match P.underlying e with | some (.int .u8) => k (.s (.c ⟨.own (grp d 0) none, .sl (.int .u8) false (ofBA s)⟩)) (C.freshen (grp d 0) st) | _ => none)
  | some (.slice _), some (.slice e), ⟨.own g none, .sl (.int .u8) false xs⟩ => (match P.underlying e with | some (.int .u8) => bif src == dst then k (.s (.c ⟨.own g none, .sl (.int .u8) false xs⟩)) st else none | _ => none)
  | _, _, _ => none

def lenK (P : Program) (T : TypeId) (x : C) (st : St) (k : KO) : Option Res := match P.underlying T with
  | some (.slice _) => match x.av with
    | .sl _ _ xs => k (vS (lenOfL xs)) st
    | .slf _ xs => k (vS (lenOfL xs)) st
    | .nilv => k (vS (.int .i64 0)) st
    | _ => none
  | some .string => match x.av with
    | .v (.string s) => k (vS (.int .i64 s.size)) st
    | _ => none
  | _ => none

def foldMM (mx : Bool) (st : St) : IntKind × Int → List Operand → Option (IntKind × Int)
  | a, [] => some a
  | (k, a), x :: r => match st.getInt x with
    | some (_, b) => foldMM mx st (k, match mx with | true => if b > a then b else a | false => if b < a then b else a) r
    | none => none

def builtinK (P : Program) (d : Nat) (b : Builtin) (Ts : List TypeId) (xs : List Operand) (st : St) (k : KO) : Option Res :=
  match b, Ts, xs with
  | .len, [T], [x] => match st.getC x with | some c => lenK P T c st k | none => none
  | .append, [T, T2], [x, y] => match st.getC x, st.getC y with | some a, some b => appendK P d T T2 a b st k | _, _ => none
  | .copy, [T, T2], [x, y] => match st.getC x, st.getC y with | some a, some b => copyK P T T2 a b st k | _, _ => none
  | .max, _, x :: r => match st.getInt x with | some a => (match foldMM true st a r with | some (kd, n) => k (vS (.int kd n)) st | none => none) | none => none
  | .min, _, x :: r => match st.getInt x with | some a => (match foldMM false st a r with | some (kd, n) => k (vS (.int kd n)) st | none => none) | none => none
  | _, _, _ => none

def intOf? (st : St) : Option Operand → Option (Option Int)
  | none => some none
  | some x => match st.getInt x with | some (_, n) => some (some n) | none => none

def pickK (c : Bool) (a b : S) (st : St) (k : KO) : Option Res :=
  match a, b with
  | .s (.c ⟨_, .v (.bool x)⟩), .s (.c ⟨_, .v (.bool y)⟩) => k (vS (.bool (match c with | true => x | false => y))) st
  | _, _ => br c (k a st) (k b st)

def opK (V : Env) (callF : FuncId → List S1 → List (List C) → Tree) (o : Oper) (st : St) (k : KO) : Option Res :=
  let d := o.dst.getD 0
  match o.op with
  | .move x | .assign x => match st.get x with | some s => k s st | none => none
  | .pick c a b => match st.getBool c, st.get a, st.get b with | some t, some x, some y => pickK t x y st k | _, _, _ => none
  | .alloc T => match zeroS1 V.P T with
    | some z => k (.s (.c ⟨.ro, .ptr st.bx.length 0⟩)) ⟨st.sl, st.bx ++ [z.cells]⟩
    | none => none
  | .box T x => match st.get1 x with
    | some s => k (.s (.c ⟨.ro, .ptr st.bx.length 0⟩)) (adopt st.bx.length 0 s.cells ⟨st.sl, st.bx ++ [s.cells]⟩)
    | none => none
  | .build T ps => buildK V.P T ps.toList st k
  | .buildSlice T n ps => buildSliceK V.P d T n ps.toList st k
  | .load T a => match st.getC a with | some c => loadK V.P T c st k | none => none
  | .store T a x => match st.getC a, st.get1 x with | some c, some s => storeK V.P T c s st k | _, _ => none
  | .binOp op T x y _ => match st.get1 x, st.get1 y with | some a, some b => binK V.P op T a b (fun v => k (vS v) st) | _, _ => none
  | .unOp op _ x => match st.getC x with | some ⟨_, .v v⟩ => (match unV op v with | some u => k (vS u) st | none => none) | _ => none
  | .convert s t x => match st.getC x with | some c => convertK V.P d s t c st k | none => none
  | .makeSlice T l c => match st.getInt l, st.getInt c with | some (_, a), some (_, b) => makeSliceK V.P d T a b st k | _, _ => none
  | .slice T x lo hi mx => match st.getC x, intOf? st lo, intOf? st hi, intOf? st mx with | some c, some l, some h, some m => sliceK V.P T c l h m st k | _, _, _, _ => none
  | .fieldAddr T x f => match st.getC x with | some c => fieldAddrK V.P T f c st k | none => none
  | .field T x f => match st.get1 x with | some s => fieldK V.P T f s st k | none => none
  | .indexAddr T x i => match st.getC x, st.getInt i with | some c, some (_, n) => indexAddrK V.P T c n st k | _, _ => none
  | .index T x i => match V.P.underlying T, st.getC x, st.getInt i with | some .string, some ⟨_, .v (.string s)⟩, some (_, n) => indexStr s n st k | _, _, _ => none
  | .extract t i => match st.get t with
    | some (.tup xs) => (match xs[i]? with | some s => k (.s s) st | none => none)
    | _ => none
  | .call c => match c.callee with
    | .builtin b => builtinK V.P d b c.argTypes.toList c.args.toList st k
    | .value f => match st.getC f with
      | some ⟨_, .fn f []⟩ => match ptrArgs st c.args.toList with
        | [] => callK V callF d f c.args.toList st k
        | _ => callPK V callF d f c.args.toList st k
      | _ => none
    | .invoke _ _ => none
  | .nilCheck x => match st.getC x with
    | some ⟨t, .ptr b o⟩ => k (.s (.c ⟨t, .ptr b o⟩)) st
    | some ⟨t, .ea e xs i o⟩ => k (.s (.c ⟨t, .ea e xs i o⟩)) st
    | _ => none
  | _ => none

/-! regions -/
/-- What a slot holds whose operation was not performed. -/
def undefS : S := .tup []
/-- What a guard says: nothing, where its own operation was not performed. -/
def St.guard (st : St) (t : Nat) : Option (Option Bool) := match st.sl[t]? with
  | some (.tup []) => some none
  | _ => match st.getBool (.tmp t) with
    | some b => some (some b)
    | none => none
def St.know (st : St) (t : Nat) (b : Bool) : St := st.put t (vS (.bool b))
def opsK (V : Env) (callF : FuncId → List S1 → List (List C) → Tree) (all : List Oper) : List Oper → St → (St → Option Res) → Option Res
  | [], st, k => k st
  | o :: r, st, k =>
    match o.guard with
    | none => opK V callF o st fun s st' => opsK V callF all r (st'.putO o.dst s) k
    | some (j, want) =>
      match (match all[j]? with | some p => p.dst | none => none) with
      | none => none
      | some t =>
        match st.guard t with
        | none => none
        | some none => opsK V callF all r (st.putO o.dst undefS) k
        | some (some b) =>
          br (match want with | true => b | false => !b)
            (opK V callF o (st.know t want) fun s st' => opsK V callF all r (st'.putO o.dst s) k)
            (opsK V callF all r ((st.know t !want).putO o.dst undefS) k)

def maskL (keep : List Nat) : Nat → List S → List S
  | _, [] => []
  | i, s :: r => (bif memN i keep then s else junkS) :: maskL keep (i + 1) r
/-- The boxes that cells point to: below which number. -/
def ptrTop : List C → Nat
  | [] => 0
  | ⟨_, .ptr b _⟩ :: r => Nat.max (b + 1) (ptrTop r)
  | _ :: r => ptrTop r
def topT : List S1 → Nat
  | [] => 0
  | x :: r => Nat.max (ptrTop x.cells) (topT r)
def S.top : S → Nat
  | .s x => ptrTop x.cells
  | .tup xs => topT xs
  | .dead => 0
def topL : List S → Nat
  | [] => 0
  | x :: r => Nat.max x.top (topL r)
def noPtr : List C → Bool
  | [] => true
  | ⟨_, .ptr _ _⟩ :: _ => false
  | _ :: r => noPtr r
def noPtrs : List (List C) → Bool
  | [] => true
  | x :: r => noPtr x && noPtrs r
def sCells : S → List C
  | .s x => x.cells
  | .tup xs => cellsAllS xs
  | .dead => []
  where cellsAllS : List S1 → List C
  | [] => []
  | s :: r => s.cells ++ cellsAllS r
def noMemC (g : Nat) : List C → Bool
  | [] => true
  | ⟨.own g' _, _⟩ :: r => !(Nat.beq g g') && noMemC g r
  | _ :: r => noMemC g r
def noMemL (g : Nat) : List S → Bool
  | [] => true
  | s :: r => noMemC g (sCells s) && noMemL g r
def noMemB (g : Nat) : List (List C) → Bool
  | [] => true
  | s :: r => noMemC g s && noMemB g r
def noMemSt (st : St) : List Nat → Bool
  | [] => true
  | g :: r => noMemL g st.sl && noMemB g st.bx && noMemSt st r
/-- The boxes that are still pointed to. -/
def keepBx (np : Nat) (sl : List S) (bx : List (List C)) : List (List C) := bif noPtrs bx then bx.take (Nat.max np (topL sl)) else bx
def dup : List Nat → Bool
  | [] => false
  | g :: r => memN g r || dup r
def disjointN : List Nat → List Nat → Bool
  | [], _ => true
  | g :: r, l => !memN g l && disjointN r l
def canNil (i : Nat) (e : CL) (h : Nat) (st : St) : St := match st.sl[i]? with
  | some (.s (.c ⟨_, .nilv⟩)) => (st.map (C.relinq h)).put i (.s (.c ⟨.own h none, .sl e true []⟩))
  | _ => st
def canNilR (i : Nat) (e : CL) (st : St) : St := match st.sl[i]? with
  | some (.s (.c ⟨_, .nilv⟩)) => st.put i (.s (.c ⟨.ro, .sl e true []⟩))
  | _ => st
def canOne : CanOp → St → St
  | .nilR i e, st => canNilR i e st
  | .rel g, st => st.map (C.relinq g)
  | .nil i e h, st => canNil i e h st
  | .ren g h, st => bif noMemSt st [g] then st else (st.map (C.relinq h)).map (C.ren g h)
def canGo : List CanOp → St → St
  | [], st => st
  | c :: r, st => canGo r (canOne c st)
def canFrom : List CanOp → List Nat
  | [] => []
  | .ren g _ :: r => g :: canFrom r
  | .rel g :: r => g :: canFrom r
  | _ :: r => canFrom r
def canTo : List CanOp → List Nat
  | [] => []
  | .ren _ h :: r => h :: canTo r
  | .nil _ _ h :: r => h :: canTo r
  | _ :: r => canTo r
def canAll (l : List CanOp) (st : St) : St := bif disjointN (canFrom l) (canTo l) then canGo l st else st
def St.mask (st : St) (np : Nat) : Option MK → St
  | none => st
  | some m => canAll m.can ⟨maskL m.keep 0 st.sl, keepBx np (maskL m.keep 0 st.sl) st.bx⟩

/-! regions that draw their order -/
/-- What is noted of an operation: the groups that its operands and its result belong to, the groups that it makes, the one that it uses up. -/
structure Info where
  gs : List Nat
  rs : List Nat
  made : List Nat
  used : Option Nat
  al : List (List C)
  sto : List (Nat × Nat × List C)
def groupsOps (st : St) : List Operand → List Nat
  | [] => []
  | x :: r => (match st.get x with | some s => groupsC (sCells s) | none => []) ++ groupsOps st r
def rangeG (d : Nat) : Nat → Nat → List Nat
  | 0, _ => []
  | n + 1, i => grp d i :: rangeG d n (i + 1)
/-- Which operations may stand among those that come in any order; the groups that they make, the one that they use up. -/
def classOf (V : Env) (o : Oper) (st : St) : Option (List Nat × Option Nat) :=
  let d := o.dst.getD 0
  match o.op with
  | .move _ | .assign _ | .pick .. | .build .. | .load .. | .binOp .. | .unOp .. | .slice .. | .fieldAddr .. | .field .. | .indexAddr .. | .index .. | .extract .. | .nilCheck _ => some ([], none)
  | .convert .. => some ([grp d 0], none)
  | .makeSlice .. => some ([grp d 0], none)
  | .buildSlice _ _ ps => match groupsOf st (mapL (·.2) ps.toList) with
    | [] => some ([grp d 0], none)
    | _ => none
  | .call c => match c.callee with
    | .builtin b => match b, c.args.toList with
      | .len, _ => some ([], none)
      | .max, _ => some ([], none)
      | .min, _ => some ([], none)
      | .append, x :: _ => match st.getC x with
        | some ⟨.own g _, .sl _ _ _⟩ => some ([grp d 0], some g)
        | some ⟨.own _ _, _⟩ => none
        | _ => some ([grp d 0], none)
      | _, _ => none
    | .value f => match st.getC f with
      | some ⟨_, .fn f []⟩ => match ptrArgs st c.args.toList with
       | _ :: _ => none
       | [] => match V.P.funcs[f]? with
        | none => none
        | some fn => match rtOf V.P fn.resultTypes.toList with
          | none => none
          | some rt => match apartRT rt (V.sig f), groupsOf st c.args.toList with
            | false, _ :: _ => none
            | _, _ => some (rangeG d (bif anyTrue (V.sig f) then RT.cells rt else 0) 0, none)
      | _ => none
    | _ => none
  | _ => none
def allocOf (P : Program) (o : Oper) : Option (List C) := match o.op with
  | .alloc T => match zeroS1 P T with
    | some z => some z.cells
    | none => none
  | _ => none
/-- A store of what is nobody's into a box: the box, the place, the cells. -/
def storeOf (P : Program) (o : Oper) (st : St) : Option (Nat × Nat × List C) := match o.op with
  | .store T a x => match st.getC a, st.get1 x, P.info? T with
    | some ⟨_, .ptr b off⟩, some v, some inf => bif Nat.beq v.cells.length inf.size && allRo v.cells then
        (match st.bx[b]? with
        | some cs => bif Nat.ble (off + v.cells.length) cs.length then some (b, off, v.cells) else none
        | none => none)
      else none
    | _, _, _ => none
  | _ => none
def isLoad : Op → Bool
  | .load _ _ => true
  | _ => false
def stD (D : Nat → Bool) : Nat → List Info → List (Nat × Nat × List C)
  | _, [] => []
  | i, f :: r => (bif D i then f.sto else []) ++ stD D (i + 1) r
def St.stAll (st : St) : List (Nat × Nat × List C) → St
  | [] => st
  | z :: r => St.stAll ⟨st.sl, st.bx.set z.1 (setCells (st.bx.getD z.1 []) z.2.1 z.2.2)⟩ r
def bitOf (m i : Nat) : Bool := m.testBit i
/-- Each load stands ahead of the operation n. -/
def loadsAhead (bs : List Nat) (n : Nat) : Nat → List Oper → Bool
  | _, [] => true
  | i, o :: r => (!(isLoad o.op) || bitOf (bs.getD n 0) i) && loadsAhead bs n (i + 1) r
def storesOK (bs : List Nat) (ops : List Oper) : Nat → List Info → Bool
  | _, [] => true
  | n, f :: r => (match f.sto with | [] => true | _ :: _ => loadsAhead bs n 0 ops) && storesOK bs ops (n + 1) r
def newD (D : Nat → Bool) : Nat → List Info → List (List C)
  | _, [] => []
  | i, f :: r => (bif D i then f.al else []) ++ newD D (i + 1) r
def St.addB (st : St) (l : List (List C)) : St := ⟨st.sl, st.bx ++ l⟩
/-- The boxes that were made so far. -/
def alsR : List Info → List (List C)
  | [] => []
  | f :: r => alsR r ++ f.al
/-- Each box that is made stands ahead of the operation n. -/
def allocsAhead (bs : List Nat) (n : Nat) : Nat → List Info → Bool
  | _, [] => true
  | i, f :: r => (match f.al with | [] => true | _ :: _ => bitOf (bs.getD n 0) i) && allocsAhead bs n (i + 1) r
def freshOne (bs : List Nat) (len n : Nat) (fs : List Info) : List (Nat × Nat × List C) → Bool
  | [] => true
  | z :: r => (Nat.ble (z.1 + 1) len || allocsAhead bs n 0 fs) && freshOne bs len n fs r
/-- A store into a box that is made here comes behind its making. -/
def freshOK (bs : List Nat) (len : Nat) (fs : List Info) : Nat → List Info → Bool
  | _, [] => true
  | n, f :: r => freshOne bs len n fs f.sto && freshOK bs len fs (n + 1) r
/-- The first operations, in the text's order; nothing is used up yet. -/
def lazyK (V : Env) (callF : FuncId → List S1 → List (List C) → Tree) (all : List Oper) (st0 : St) : List Oper → St → List Info → (St → List Info → Option Res) → Option Res
  | [], st, is, k => k st is
  | o :: r, st, is, k =>
    let perform (st : St) : Option Res :=
      match allocOf V.P o with
      | some z => bif allRo z then lazyK V callF all st0 r (st.putO o.dst (.s (.c ⟨.ro, .ptr st0.bx.length 0⟩))) (⟨[], [], [], none, [z], []⟩ :: is) k else none
      | none =>
      match storeOf V.P o (st.addB (alsR is)) with
      | some z => lazyK V callF all st0 r (st.putO o.dst junkS) (⟨groupsOps st o.op.operands.toList, [], [], none, [], [z]⟩ :: is) k
      | none =>
      match classOf V o st with
      | none => none
      | some (made, used) =>
        bif noMemSt st0 made then
          opK V callF o st fun s _ => lazyK V callF all st0 r (st.putO o.dst s) (⟨groupsOps st o.op.operands.toList, groupsC (sCells s), made, used, [], []⟩ :: is) k
        else none
    match o.guard with
    | none => perform st
    | some (j, want) =>
      match (match all[j]? with | some p => p.dst | none => none) with
      | none => none
      | some t =>
        match st.guard t with
        | none => none
        | some none => lazyK V callF all st0 r (st.putO o.dst undefS) (⟨[], [], [], none, [], []⟩ :: is) k
        | some (some b) =>
          br (match want with | true => b | false => !b)
            (perform (st.know t want))
            (lazyK V callF all st0 r ((st.know t !want).putO o.dst undefS) (⟨[], [], [], none, [], []⟩ :: is) k)
def edgeBits (acc : List Nat) : List Edge → Nat → Nat
  | [], s => s
  | e :: r, s => edgeBits acc r (bif Region.binds .any e then s ||| 2 ^ e.on ||| acc.getD e.on 0 else s)
def befs : List Oper → List Nat → List Nat
  | [], acc => acc
  | o :: r, acc => befs r (acc ++ [edgeBits acc o.after.toList 0])
def edgesDown : Nat → List Oper → Bool
  | _, [] => true
  | i, o :: r => (o.after.toList.all fun e => !(Region.binds .any e) || Nat.ble (e.on + 1) i) && edgesDown (i + 1) r
def looks (all : List Oper) (o : Oper) : List Nat :=
  (o.op.operands.toList.filterMap fun | .tmp t => some t | _ => none) ++
  (match o.guard with
   | some (g, _) => (match all[g]? with | some p => p.dst.toList | none => [])
   | none => [])
def apartO (all : List Oper) (x y : Oper) : Bool :=
  (match x.dst with
   | some d => !(memN d (looks all y)) && (match y.dst with | some d' => !(Nat.beq d d') | none => true)
   | none => true) &&
  (match y.dst with
   | some d => !(memN d (looks all x))
   | none => true)
/-- Each two of the first operations that the edges don't order keep apart. -/
def apartFrom (all : List Oper) (bj : Nat) (oj : Oper) : Nat → List Oper → Bool
  | _, [] => true
  | i, o :: r => (bitOf bj i || apartO all o oj) && apartFrom all bj oj (i + 1) r
def apartAll (all : List Oper) (bs : List Nat) : Nat → List Oper → Bool
  | _, [] => true
  | j, o :: r => apartFrom all (bs.getD j 0) o 0 (all.take j) && apartAll all bs (j + 1) r
def tailAll (bs : List Nat) : Nat → Nat → Bool
  | _, 0 => true
  | j, n + 1 => Nat.beq ((bs.getD j 0) % 2 ^ j) (2 ^ j - 1) && tailAll bs (j + 1) n
/-- What one operation makes and uses up is nothing to another one that doesn't come behind, ahead of it. -/
def infoPair (bs : List Nat) (i j : Nat) (x y : Info) : Bool :=   -- y (at j) against x (at i)
  (match y.used with | some g => (match Nat.beq i j with | true => !(memN g x.rs) | false => bitOf (bs.getD j 0) i || (!(memN g x.gs) && !(memN g x.rs))) | none => true) &&
  (bitOf (bs.getD i 0) j || Nat.beq i j || disjointN y.made x.rs)
def infoRow (bs : List Nat) (j : Nat) (y : Info) : Nat → List Info → Bool
  | _, [] => true
  | i, x :: r => infoPair bs i j x y && infoRow bs j y (i + 1) r
def infoAll (bs : List Nat) (is : List Info) : Nat → List Info → Bool
  | _, [] => true
  | j, y :: r => infoRow bs j y 0 is && infoAll bs is (j + 1) r
def usedL : List Info → List Nat
  | [] => []
  | i :: r => (match i.used with | some g => [g] | none => []) ++ usedL r
def killAll (gs : List Nat) (st : St) : St := gs.foldl (fun s g => s.map (C.kill g)) st
def preAll : List (Nat × Option Nat) → St → St
  | [], st => st
  | (g, none) :: r, st => preAll r (st.map (C.relinq g))
  | (g, some h) :: r, st => preAll r ((st.map (C.relinq h)).map (C.ren g h))
def drawK (V : Env) (callF : FuncId → List S1 → List (List C) → Tree) (f id : Nat) (ops : List Oper) (st : St) (k : St → Option Res) : Option Res :=
  match V.draw f id with
  | none => none
  | some (m, pre) =>
    let st0 := preAll pre st
    let bs := befs ops []
    bif edgesDown 0 ops && apartAll ops bs 0 (ops.take m) && tailAll bs m (ops.length - m) && Nat.ble m ops.length then
      lazyK V callF ops st0 (ops.take m) st0 [] fun st is =>
        bif infoAll bs is.reverse 0 is.reverse && Nat.ble (newD (fun _ => true) 0 is.reverse).length 1 && Nat.ble (stD (fun _ => true) 0 is.reverse).length 1 && storesOK bs (ops.take m) 0 is.reverse && freshOK bs st0.bx.length is.reverse 0 is.reverse then
          opsK V callF ops (ops.drop m) (((killAll (usedL is.reverse) st).addB (newD (fun _ => true) 0 is.reverse)).stAll (stD (fun _ => true) 0 is.reverse)) k
        else none
    else none

/-! code -/
def seqK (g : St → K → Option Res) (k : K) : K := fun e st => match e with
  | .normal => g st k
  | e => k e st
def blockK (id : Nat) (k : K) : K := fun e st => match e with
  | .exit id' => bif Nat.beq id' id then k .normal st else k (.exit id') st
  | e => k e st

abbrev Rec := FuncId → Code → St → K → Option Res

def junks : Nat → List S
  | 0 => []
  | n + 1 => junkS :: junks n
def resOne (P : Program) (st : St) : ResultVar → Option S1
  | .tmp t => match st.sl[t]? with | some (.s x) => some x | _ => none
  | .cell a t => match st.sl[a]? with
    | some (.s (.c ⟨_, .ptr b o⟩)) => match st.bx[b]? with
      | some cs => partOf P t cs o
      | none => none
    | _ => none
def resL (P : Program) (st : St) : List ResultVar → Option (List S1)
  | [] => some []
  | r :: rs => match resOne P st r with
    | none => none
    | some x => match resL P st rs with
      | none => none
      | some l => some (x :: l)
def okRet : List C → Bool
  | [] => true
  | ⟨_, .v _⟩ :: r => okRet r
  | ⟨_, .sl _ _ _⟩ :: r => okRet r
  | ⟨_, .slf _ _⟩ :: r => okRet r
  | ⟨_, .nilv⟩ :: r => okRet r
  | _ => false
def cellsAll : List S1 → List C
  | [] => []
  | s :: r => s.cells ++ cellsAll r
/-- The groups of results that stay the caller's to write (true), of the others (false). -/
def retGroups (want : Bool) : List Bool → List S1 → List Nat
  | _, [] => []
  | o, s :: r => (bif (match headB o, want with | true, true => true | false, false => true | _, _ => false) then groupsC s.cells else []) ++ retGroups want o.tail r
def outRets : List Bool → List S1 → List S1
  | _, [] => []
  | o, s :: r => (match headB o with | true => s | false => s.map C.toRo) :: outRets o.tail r
/-- Nothing of the first boxes. -/
def noBox (np : Nat) : List Nat → Bool
  | [] => true
  | g :: r => (Nat.beq (g % 2) 0 || Nat.ble np (g / 128)) && noBox np r
/-- The boxes that came in, as they go back. -/
def outBx : Nat → List (List C) → Option (List (List C))
  | _, [] => some []
  | i, cs :: r => match reBox i i 0 cs with
    | none => none
    | some cs' => match outBx (i + 1) r with
      | none => none
      | some l => some (cs' :: l)
def finS (np : Nat) (o : List Bool) (xs : List S1) (bx : List (List C)) : Option Res :=
  bif okRet (cellsAll xs) && !dup (retGroups true o xs) && disjointN (retGroups true o xs) (retGroups false o xs) && noBox np (retGroups true o xs) && noBox np (retGroups false o xs) && Nat.ble np bx.length then
    match outBx 0 (bx.take np) with
    | some l => some (match outRets o xs with | [x] => .s x | l => .tup l, l)
    | none => none
  else none
def resTmp : ResultVar → Nat
  | .tmp t => t
  | .cell a _ => a
def resTmps (fn : Func) : List Nat := mapL resTmp fn.results.toList
def finM (P : Program) (np : Nat) (o : List Bool) (rs : List ResultVar) (st : St) : Option Res := match resL P st rs with
  | none => none
  | some xs => finS np o xs st.bx
def finK (P : Program) (np : Nat) (o : List Bool) (can : List CanOp) (fn : Func) : K := fun e st => match e with
  | .exit _ => none
  | _ => finM P np o fn.results.toList (st.mask np (some ⟨resTmps fn, can⟩))
def enterSt (fn : Func) (xs : List S1) (bx : List (List C)) : St := ⟨mapL S.s xs ++ junks (fn.ntmps - xs.length), bx⟩
def callWith (V : Env) (rec : Rec) (f : FuncId) (xs : List S1) (bx : List (List C)) : Option Res :=
  match V.P.funcs[f]? with
  | none => none
  | some fn => match fn.body with
    | none => none
    | some c => bif Nat.beq bx.length (V.np f) then rec f c (enterSt fn xs bx) (finK V.P (V.np f) (V.sig f) (V.fin f) fn) else none

def callSt (V : Env) (rec : Rec) (f : FuncId) (xs : List S1) (bx : List (List C)) : Tree :=
  match V.stub f with
  | some h => h xs bx
  | none => .leaf (callWith V rec f xs bx)

def loopK (rec : Rec) (f : FuncId) (b : Code) (k : K) : K := fun e st => match e with
  | .normal => rec f (.loop b) st k
  | e => k e st

def evF (V : Env) (rec : Rec) (f : FuncId) : Code → St → K → Option Res
  | .skip, st, k => k .normal st
  | .region id ops draw, st, k => match draw with
    | true => drawK V (callSt V rec) f id ops.toList (st.mask (V.np f) (V.mask f id)) fun st' => k .normal st'
    | false => opsK V (callSt V rec) ops.toList ops.toList (st.mask (V.np f) (V.mask f id)) fun st' => k .normal st'
  | .seq a b, st, k => evF V rec f a st (seqK (evF V rec f b) k)
  | .cond c a b, st, k =>
    match st.getBool c with
    | none => none
    | some t => br t
        (evF V rec f a (match c with | .tmp i => st.know i true | _ => st) k)
        (evF V rec f b (match c with | .tmp i => st.know i false | _ => st) k)
  | .block id b, st, k => evF V rec f b st (blockK id k)
  | .loop b, st, k => evF V rec f b st (loopK rec f b k)
  | .exit id, st, k => k (.exit id) st
  | .ret, st, k => k .ret st
  | .label _, st, k => k .normal st
  | _, _, _ => none

def ev (V : Env) : Nat → Rec
  | 0 => fun _ _ _ _ => none
  | n + 1 => evF V (ev V n)

def call (V : Env) (n : Nat) (f : FuncId) (xs : List S1) : Option Res := callWith V (ev V n) f xs []
/-- A call that is handed boxes. -/
def callB (V : Env) (n : Nat) (f : FuncId) (xs : List S1) (bx : List (List C)) : Option Res := callWith V (ev V n) f xs bx

end Go.Proofs.Ythiaaaedfidnjaa.Am

namespace Go.Proofs.Ythiaaaedfidnjaa.Am
open Go Go.RowKit

/-! # What an abstract value says of a value and of memory -/
abbrev Mem := Nat → Nat → Option Value
def memOf (w : World) : Mem := fun b o => w.cell? ⟨b, o, none⟩
def Mem.le (M N : Mem) : Prop := ∀ b o u, M b o = some u → N b o = some u
theorem Mem.le_refl (M : Mem) : M.le M := fun _ _ _ h => h
theorem Mem.le_trans {A B D : Mem} (h : A.le B) (k : B.le D) : A.le D := fun b o u x => k b o u (h b o u x)

def IsRow {α : Type} (see : Nat → Nat → α → Prop) (sz : Nat) (nl : Bool) (xs : List α) (u : Value) : Prop :=
  (nl = true ∧ xs = [] ∧ u = .slice none 0 0) ∨
  (nl = false ∧ ∃ b o cap, u = .slice (some ⟨b, o, none⟩) xs.length cap ∧ xs.length ≤ cap ∧ ∀ i y, xs[i]? = some y → see b (o + i * sz) y)

def CL.sees : (e : CL) → Mem → Mem → Nat → Nat → e.den → Prop
  | .int k, M0, _, b, o, n => M0 b o = some (.int k n)
  | .bool, M0, _, b, o, x => M0 b o = some (.bool x)
  | .str, M0, _, b, o, s => M0 b o = some (.string s)
  | .sl e, M0, M, b, o, x => ∃ u, M0 b o = some u ∧ IsRow (e.sees M M) e.size x.1 x.2 u
  | .cons c r, M0, M, b, o, x => c.sees M0 M b o x.1 ∧ r.sees M0 M b (o + c.size) x.2

structure G where
  M : Mem
  β : List Nat
  ω : Nat → Option Nat

def OwnB (w : World) (b n : Nat) : Prop :=
  ∃ cs T fr, w.heap[b]? = some (.cells cs T fr) ∧ cs.size = n ∧ (fr = (0, 0) ∨ fr = (n, n + 1))

def OwnRow (g : G) (w : World) (gr : Nat) (s : Option Nat) (e : CL) (nl : Bool) (xs : List e.den) (u : Value) : Prop :=
  (nl = true ∧ xs = [] ∧ u = .slice none 0 0) ∨
  (nl = false ∧ ∃ b o cap n, g.ω gr = some b ∧ u = .slice (some ⟨b, o, none⟩) xs.length cap ∧ xs.length ≤ cap ∧ OwnB w b n ∧ o + cap * e.size ≤ n ∧
    (s = none → o = 0) ∧ (∀ l, s = some l → xs ≠ [] → o = l * e.size) ∧ ∀ i y, xs[i]? = some y → e.sees (memOf w) g.M b (o + i * e.size) y)
def OwnFull (g : G) (w : World) (gr : Nat) (e : CL) (xs : List e.den) (u : Value) : Prop :=
  ∃ b o n, g.ω gr = some b ∧ u = .slice (some ⟨b, o, none⟩) xs.length xs.length ∧ OwnB w b n ∧ o + xs.length * e.size ≤ n ∧ ∀ i y, xs[i]? = some y → e.sees (memOf w) g.M b (o + i * e.size) y
def RoFull (g : G) (e : CL) (xs : List e.den) (u : Value) : Prop :=
  ∃ b o, u = .slice (some ⟨b, o, none⟩) xs.length xs.length ∧ ∀ i y, xs[i]? = some y → e.sees g.M g.M b (o + i * e.size) y
def RoEl (g : G) (e : CL) (xs : List e.den) (i o : Nat) (u : Value) : Prop :=
  ∃ y b o', xs[i]? = some y ∧ u = .pointer (some ⟨b, o' + o, none⟩) ∧ e.sees g.M g.M b o' y
def OwnEl (g : G) (w : World) (gr : Nat) (s : Option Nat) (e : CL) (xs : List e.den) (i o : Nat) (u : Value) : Prop :=
  ∃ y b o' n, xs[i]? = some y ∧ g.ω gr = some b ∧ u = .pointer (some ⟨b, o' + o, none⟩) ∧ OwnB w b n ∧ o' + e.size ≤ n ∧ (s = none → o' = i * e.size) ∧ e.sees (memOf w) g.M b o' y

def RelC (g : G) (w : World) (c : C) (u : Value) : Prop :=
  match c with
  | ⟨_, .v x⟩ => u = x ∧ x.oneCell' = true
  | ⟨.ro, .sl e nl xs⟩ => IsRow (e.sees g.M g.M) e.size nl xs u
  | ⟨.own gr s, .sl e nl xs⟩ => OwnRow g w gr s e nl xs u
  | ⟨.ro, .slf e xs⟩ => RoFull g e xs u
  | ⟨.own gr _, .slf e xs⟩ => OwnFull g w gr e xs u
  | ⟨_, .nilv⟩ => u = .slice none 0 0
  | ⟨_, .ptr b o⟩ => ∃ blk, g.β[b]? = some blk ∧ u = .pointer (some ⟨blk, o, none⟩)
  | ⟨_, .fn f caps⟩ => caps = [] ∧ u = .func (.func f) #[] #[]
  | ⟨.ro, .ea e xs i o⟩ => RoEl g e xs i o u
  | ⟨.own gr s, .ea e xs i o⟩ => OwnEl g w gr s e xs i o u
  | ⟨_, .junk⟩ => u.oneCell' = true

/-- Lists in pairs. -/
def All2 {α β : Type} (R : α → β → Prop) : List α → List β → Prop
  | [], [] => True
  | x :: xs, y :: ys => R x y ∧ All2 R xs ys
  | _, _ => False

def RelS1 (g : G) (w : World) (s : S1) (u : Value) : Prop :=
  match s with
  | .c x => RelC g w x u
  | .agg xs => ∃ us, u = .agg us ∧ All2 (RelC g w) xs us.toList
def RelS (g : G) (w : World) (s : S) (u : Value) : Prop :=
  match s with
  | .s x => RelS1 g w x u
  | .tup xs => ∃ us, u = .tuple us ∧ All2 (RelS1 g w) xs us.toList
  | .dead => True

/-! ## plain lemmas -/
theorem All2.length {α β : Type} {R : α → β → Prop} : ∀ {xs : List α} {ys : List β}, All2 R xs ys → xs.length = ys.length
  | [], [], _ => rfl
  | x :: xs, y :: ys, h => by simp [All2.length h.2]
  | [], _ :: _, h => h.elim
  | _ :: _, [], h => h.elim
theorem All2.mono {α β : Type} {R Q : α → β → Prop} (hq : ∀ x y, R x y → Q x y) : ∀ {xs : List α} {ys : List β}, All2 R xs ys → All2 Q xs ys
  | [], [], _ => trivial
  | _ :: _, _ :: _, h => ⟨hq _ _ h.1, All2.mono hq h.2⟩
  | [], _ :: _, h => h.elim
  | _ :: _, [], h => h.elim
theorem All2.map {α β γ : Type} {R : α → β → Prop} {Q : γ → β → Prop} (f : α → γ) (hq : ∀ x y, R x y → Q (f x) y) : ∀ {xs : List α} {ys : List β}, All2 R xs ys → All2 Q (mapL f xs) ys
  | [], [], _ => trivial
  | _ :: _, _ :: _, h => ⟨hq _ _ h.1, All2.map f hq h.2⟩
  | [], _ :: _, h => h.elim
  | _ :: _, [], h => h.elim
theorem All2.get {α β : Type} {R : α → β → Prop} : ∀ {xs : List α} {ys : List β}, All2 R xs ys → ∀ (i : Nat) (x : α), xs[i]? = some x → ∃ y, ys[i]? = some y ∧ R x y
  | [], [], _, i, x, h => by simp at h
  | a :: xs, b :: ys, h, 0, x, hx => ⟨b, rfl, by simp at hx; subst hx; exact h.1⟩
  | a :: xs, b :: ys, h, i + 1, x, hx => by
    have := All2.get h.2 i x (by simpa using hx)
    simpa using this
  | [], _ :: _, h, _, _, _ => h.elim
  | _ :: _, [], h, _, _, _ => h.elim
theorem All2.of_get {α β : Type} {R : α → β → Prop} : ∀ {xs : List α} {ys : List β}, xs.length = ys.length → (∀ (i : Nat) (x : α) (y : β), xs[i]? = some x → ys[i]? = some y → R x y) → All2 R xs ys
  | [], [], _, _ => trivial
  | a :: xs, b :: ys, hl, h => ⟨h 0 a b rfl rfl, All2.of_get (by simpa using hl) fun i x y hx hy => h (i + 1) x y (by simpa using hx) (by simpa using hy)⟩
  | [], _ :: _, hl, _ => by simp at hl
  | _ :: _, [], hl, _ => by simp at hl
theorem All2.append {α β : Type} {R : α → β → Prop} : ∀ {xs : List α} {ys : List β} {xs' : List α} {ys' : List β}, All2 R xs ys → All2 R xs' ys' → All2 R (xs ++ xs') (ys ++ ys')
  | [], [], _, _, _, h => h
  | _ :: _, _ :: _, _, _, h, k => ⟨h.1, All2.append h.2 k⟩
  | [], _ :: _, _, _, h, _ => h.elim
  | _ :: _, [], _, _, h, _ => h.elim
theorem All2.take {α β : Type} {R : α → β → Prop} : ∀ {xs : List α} {ys : List β} (n : Nat), All2 R xs ys → All2 R (xs.take n) (ys.take n)
  | _, _, 0, _ => by simp [All2]
  | [], [], n + 1, _ => trivial
  | _ :: _, _ :: _, n + 1, h => ⟨h.1, All2.take n h.2⟩
  | [], _ :: _, _ + 1, h => h.elim
  | _ :: _, [], _ + 1, h => h.elim
theorem All2.drop {α β : Type} {R : α → β → Prop} : ∀ {xs : List α} {ys : List β} (n : Nat), All2 R xs ys → All2 R (xs.drop n) (ys.drop n)
  | _, _, 0, h => h
  | [], [], n + 1, _ => trivial
  | _ :: _, _ :: _, n + 1, h => All2.drop n h.2
  | [], _ :: _, _ + 1, h => h.elim
  | _ :: _, [], _ + 1, h => h.elim
theorem mapL_eq {α β : Type} (f : α → β) : ∀ l : List α, mapL f l = l.map f
  | [] => rfl
  | x :: r => by simp [mapL, mapL_eq f r]

theorem CL.size_pos : ∀ e : CL, 0 < e.size
  | .int _ | .bool | .str | .sl _ => by simp [CL.size]
  | .cons c r => by have := c.size_pos; simp [CL.size]; omega

theorem IsRow.mono {α : Type} {see see' : Nat → Nat → α → Prop} {sz : Nat} {nl : Bool} {xs : List α} {u : Value} (h : IsRow see sz nl xs u)
    (hs : ∀ b o y, see b o y → see' b o y) : IsRow see' sz nl xs u := by
  rcases h with h | ⟨h0, b, o, cap, h1, h2, h3⟩
  · exact .inl h
  · exact .inr ⟨h0, b, o, cap, h1, h2, fun i y hy => hs _ _ _ (h3 i y hy)⟩

/-- Cells read alike elsewhere. -/
theorem CL.sees_shift : ∀ (e : CL) {M0 M M0' M' : Mem} {b o b' o' : Nat} {y : e.den}, M.le M' →
    (∀ j, j < e.size → ∀ u, M0 b (o + j) = some u → M0' b' (o' + j) = some u) → e.sees M0 M b o y → e.sees M0' M' b' o' y
  | .int k, M0, M, M0', M', b, o, b', o', y, _, h, hs => by have := h 0 (by simp [CL.size]) _ hs; simpa [CL.sees] using this
  | .bool, M0, M, M0', M', b, o, b', o', y, _, h, hs => by have := h 0 (by simp [CL.size]) _ hs; simpa [CL.sees] using this
  | .str, M0, M, M0', M', b, o, b', o', y, _, h, hs => by have := h 0 (by simp [CL.size]) _ hs; simpa [CL.sees] using this
  | .sl e, M0, M, M0', M', b, o, b', o', y, hM, h, hs => by
    obtain ⟨u, hu, hr⟩ := hs
    exact ⟨u, by have := h 0 (by simp [CL.size]) _ hu; simpa using this, hr.mono fun b o y hy => CL.sees_shift e hM (fun j _ u hu => hM _ _ _ hu) hy⟩
  | .cons c r, M0, M, M0', M', b, o, b', o', y, hM, h, hs => by
    refine ⟨CL.sees_shift c hM (fun j hj u hu => h j (by simp [CL.size]; omega) u hu) hs.1, CL.sees_shift r hM (fun j hj u hu => ?_) hs.2⟩
    have := h (c.size + j) (by simp [CL.size]; omega) u (by rwa [← Nat.add_assoc])
    rwa [← Nat.add_assoc] at this
theorem CL.sees_mono (e : CL) {M0 M M0' M' : Mem} {b o : Nat} {y : e.den} (hM : M.le M') (h0 : M0.le M0') (h : e.sees M0 M b o y) : e.sees M0' M' b o y :=
  CL.sees_shift e hM (fun _ _ u hu => h0 _ _ u hu) h

theorem CL.enc_length : ∀ (e : CL) (y : e.den), (e.enc y).length = e.size
  | .int _, _ | .bool, _ | .str, _ | .sl _, _ => rfl
  | .cons c r, y => by simp [CL.enc, CL.size, CL.enc_length c, CL.enc_length r]

/-- The cells of an element, told one by one. -/
theorem CL.sees_enc : ∀ (e : CL) {M0 : Mem} {g : G} {w : World} {b o : Nat} {y : e.den}, e.sees M0 g.M b o y →
    ∀ j a, (e.enc y)[j]? = some a → ∃ u, M0 b (o + j) = some u ∧ RelC g w ⟨.ro, a⟩ u
  | .int k, M0, g, w, b, o, y, h, j, a, ha => by
    cases j with
    | zero => simp [CL.enc] at ha; subst ha; exact ⟨_, h, rfl, rfl⟩
    | succ j => simp [CL.enc] at ha
  | .bool, M0, g, w, b, o, y, h, j, a, ha => by
    cases j with
    | zero => simp [CL.enc] at ha; subst ha; exact ⟨_, h, rfl, rfl⟩
    | succ j => simp [CL.enc] at ha
  | .str, M0, g, w, b, o, y, h, j, a, ha => by
    cases j with
    | zero => simp [CL.enc] at ha; subst ha; exact ⟨_, h, rfl, rfl⟩
    | succ j => simp [CL.enc] at ha
  | .sl e, M0, g, w, b, o, y, h, j, a, ha => by
    cases j with
    | zero =>
      simp [CL.enc] at ha; subst ha
      obtain ⟨u, hu, hr⟩ := h
      exact ⟨u, hu, hr⟩
    | succ j => simp [CL.enc] at ha
  | .cons c r, M0, g, w, b, o, y, h, j, a, ha => by
    simp only [CL.enc] at ha
    by_cases hj : j < c.size
    · rw [List.getElem?_append_left (by rw [CL.enc_length]; exact hj)] at ha
      exact CL.sees_enc c h.1 j a ha
    · rw [List.getElem?_append_right (by rw [CL.enc_length]; omega), CL.enc_length] at ha
      obtain ⟨u, hu, hr⟩ := CL.sees_enc r (w := w) h.2 (j - c.size) a ha
      exact ⟨u, by rw [← hu, Nat.add_assoc]; congr 2; omega, hr⟩

theorem avs_length : ∀ l : List C, (avs l).length = l.length
  | [] => rfl
  | _ :: r => by simp [avs, avs_length r]
theorem avs_drop : ∀ (l : List C) (n : Nat), avs (l.drop n) = (avs l).drop n
  | _, 0 => rfl
  | [], n + 1 => rfl
  | _ :: r, n + 1 => by simp [avs, avs_drop r n]
theorem avs_get : ∀ (l : List C) (i : Nat), (avs l)[i]? = (l[i]?).map C.av
  | [], i => by simp [avs]
  | c :: r, 0 => rfl
  | c :: r, i + 1 => by simp [avs, avs_get r i]

theorem castL_sees {a e : CL} (h : a = e) (xs : List a.den) {see : (c : CL) → Nat → Nat → c.den → Prop} {nl : Bool} {u : Value} (hr : IsRow (see a) a.size nl xs u) : IsRow (see e) e.size nl (castL h xs) u := by
  subst h; exact hr

/-- Cells put together to an element. -/
theorem CL.sees_dec : ∀ (e : CL) {M0 : Mem} {g : G} {w : World} {b o : Nat} {l r : List AV} {y : e.den}, e.dec l = some (y, r) →
    (∀ j a, l[j]? = some a → j < e.size → ∃ u, M0 b (o + j) = some u ∧ RelC g w ⟨.ro, a⟩ u) → e.sees M0 g.M b o y ∧ r = l.drop e.size ∧ e.size ≤ l.length := by
  intro e
  induction e with
  | int k =>
    intro M0 g w b o l r y h hl
    simp only [CL.dec] at h
    unfold decInt at h
    split at h
    · split at h
      · rename_i k' n r' hk
        simp only [Option.some.injEq, Prod.mk.injEq] at h
        obtain ⟨rfl, rfl⟩ := h
        obtain ⟨u, hu, hr⟩ := hl 0 _ rfl (by simp [CL.size])
        obtain ⟨rfl, _⟩ := hr
        have := ikBeq_eq hk
        subst this
        exact ⟨hu, rfl, by simp [CL.size]⟩
      · simp at h
    · simp at h
  | bool =>
    intro M0 g w b o l r y h hl
    simp only [CL.dec] at h
    unfold decBool at h
    split at h
    · simp only [Option.some.injEq, Prod.mk.injEq] at h
      obtain ⟨rfl, rfl⟩ := h
      obtain ⟨u, hu, hr⟩ := hl 0 _ rfl (by simp [CL.size])
      obtain ⟨rfl, _⟩ := hr
      exact ⟨hu, rfl, by simp [CL.size]⟩
    · simp at h
  | str =>
    intro M0 g w b o l r y h hl
    simp only [CL.dec] at h
    unfold decStr at h
    split at h
    · simp only [Option.some.injEq, Prod.mk.injEq] at h
      obtain ⟨rfl, rfl⟩ := h
      obtain ⟨u, hu, hr⟩ := hl 0 _ rfl (by simp [CL.size])
      obtain ⟨rfl, _⟩ := hr
      exact ⟨hu, rfl, by simp [CL.size]⟩
    · simp at h
  | sl e ih =>
    intro M0 g w b o l r y h hl
    simp only [CL.dec] at h
    unfold decSl at h
    split at h
    · split at h
      · rename_i e' nl xs r' hk
        simp only [Option.some.injEq, Prod.mk.injEq] at h
        obtain ⟨rfl, rfl⟩ := h
        obtain ⟨u, hu, hr⟩ := hl 0 _ rfl (by simp [CL.size])
        refine ⟨⟨u, hu, ?_⟩, rfl, by simp [CL.size]⟩
        have := CL.beq_eq hk
        subst this
        exact hr
      · simp at h
    · split at h
      · rename_i e' xs r' hk
        simp only [Option.some.injEq, Prod.mk.injEq] at h
        obtain ⟨rfl, rfl⟩ := h
        obtain ⟨u, hu, hr⟩ := hl 0 _ rfl (by simp [CL.size])
        refine ⟨⟨u, hu, ?_⟩, rfl, by simp [CL.size]⟩
        have := CL.beq_eq hk
        subst this
        obtain ⟨b', o', rfl, h3⟩ := hr
        exact .inr ⟨rfl, b', o', _, rfl, Nat.le_refl _, h3⟩
      · simp at h
    · simp only [Option.some.injEq, Prod.mk.injEq] at h
      obtain ⟨rfl, rfl⟩ := h
      obtain ⟨u, hu, hr⟩ := hl 0 _ rfl (by simp [CL.size])
      exact ⟨⟨u, hu, .inl ⟨rfl, rfl, hr⟩⟩, rfl, by simp [CL.size]⟩
    · simp at h
  | cons c d ihc ihd =>
    intro M0 g w b o l r y h hl
    simp only [CL.dec] at h
    split at h
    · simp at h
    · rename_i x l' hc
      split at h
      · simp at h
      · rename_i z l'' hd
        simp only [Option.some.injEq, Prod.mk.injEq] at h
        obtain ⟨rfl, rfl⟩ := h
        obtain ⟨h1, rfl, h2⟩ := ihc hc (fun j a ha hj => hl j a ha (by simp [CL.size]; omega))
        obtain ⟨h3, rfl, h4⟩ := ihd (o := o + c.size) hd (fun j a ha hj => by
          rw [List.getElem?_drop] at ha
          have := hl (c.size + j) a ha (by simp [CL.size]; omega)
          rwa [← Nat.add_assoc] at this)
        refine ⟨⟨h1, h3⟩, by simp [CL.size, List.drop_drop], ?_⟩
        simp at h4
        simp [CL.size]
        have := d.size_pos
        omega

end Go.Proofs.Ythiaaaedfidnjaa.Am

namespace Go.Proofs.Ythiaaaedfidnjaa.Am
open Go Go.RowKit

theorem memOf_of_heap {w w' : World} {b : Nat} (h : w'.heap[b]? = w.heap[b]?) (o : Nat) : memOf w' b o = memOf w b o := by
  unfold memOf World.cell?
  rw [show w'.heap[({ block := b, off := o } : Addr).block]? = w.heap[({ block := b, off := o } : Addr).block]? from h]
theorem frozen_of_heap {w w' : World} {b : Nat} (h : w'.heap[b]? = w.heap[b]?) (o : Nat) : w'.frozen? ⟨b, o, none⟩ = w.frozen? ⟨b, o, none⟩ := by
  unfold World.frozen?
  rw [show w'.heap[({ block := b, off := o } : Addr).block]? = w.heap[({ block := b, off := o } : Addr).block]? from h]
theorem OwnB.of_heap {w w' : World} {b n : Nat} (h : w'.heap[b]? = w.heap[b]?) (hb : OwnB w b n) : OwnB w' b n := by
  obtain ⟨cs, T, fr, h1, h2, h3⟩ := hb
  exact ⟨cs, T, fr, h.trans h1, h2, h3⟩

theorem RelC.mono {g g' : G} {w w' : World} {c : C} {u : Value} (hM : g.M.le g'.M) (hβ : ∀ (i b : Nat), g.β[i]? = some b → g'.β[i]? = some b)
    (hω : ∀ r b, g.ω r = some b → g'.ω r = some b) (hw : ∀ r b, g.ω r = some b → w'.heap[b]? = w.heap[b]?) (h : RelC g w c u) : RelC g' w' c u := by
  have own : ∀ {e : CL} {r b : Nat} {o : Nat} {y : e.den}, g.ω r = some b → e.sees (memOf w) g.M b o y → e.sees (memOf w') g'.M b o y := by
    intro e r b o y hr hs
    exact CL.sees_shift e hM (fun j _ u hu => by rw [memOf_of_heap (hw r b hr)]; exact hu) hs
  obtain ⟨t, av⟩ := c
  cases t with
  | ro =>
    cases av with
    | v x => exact h
    | sl e nl xs => exact IsRow.mono h fun _ _ _ hs => CL.sees_mono e hM hM hs
    | slf e xs =>
      obtain ⟨b, o, h1, h2⟩ := h
      exact ⟨b, o, h1, fun i y hy => CL.sees_mono e hM hM (h2 i y hy)⟩
    | nilv => exact h
    | ptr b o => obtain ⟨k, h1, h2⟩ := h; exact ⟨k, hβ _ _ h1, h2⟩
    | fn f caps => exact h
    | ea e xs i o => obtain ⟨y, b, o', h1, h2, h3⟩ := h; exact ⟨y, b, o', h1, h2, CL.sees_mono e hM hM h3⟩
    | junk => exact h
  | own gr s =>
    cases av with
    | v x => exact h
    | sl e nl xs =>
      rcases h with h | ⟨h0, b, o, cap, n, h1, h2, h3, h4, h5, h6, h7, h8⟩
      · exact .inl h
      · exact .inr ⟨h0, b, o, cap, n, hω _ _ h1, h2, h3, h4.of_heap (hw _ _ h1), h5, h6, h7, fun i y hy => own h1 (h8 i y hy)⟩
    | slf e xs =>
      obtain ⟨b, o, n, h1, h2, h3, h4, h5⟩ := h
      exact ⟨b, o, n, hω _ _ h1, h2, h3.of_heap (hw _ _ h1), h4, fun i y hy => own h1 (h5 i y hy)⟩
    | nilv => exact h
    | ptr b o => obtain ⟨k, h1, h2⟩ := h; exact ⟨k, hβ _ _ h1, h2⟩
    | fn f caps => exact h
    | ea e xs i o =>
      obtain ⟨y, b, o', n, h1, h2, h3, h4, h5, h6, h7⟩ := h
      exact ⟨y, b, o', n, h1, hω _ _ h2, h3, h4.of_heap (hw _ _ h2), h5, h6, own h2 h7⟩
    | junk => exact h

theorem RelC.one {g : G} {w : World} {c : C} {u : Value} (h : RelC g w c u) : u.oneCell' = true := by
  obtain ⟨t, av⟩ := c
  cases t with
  | ro =>
    cases av with
    | v x => obtain ⟨rfl, h⟩ := h; exact h
    | sl e nl xs => rcases h with ⟨_, _, rfl⟩ | ⟨_, _, _, _, rfl, _⟩ <;> rfl
    | slf e xs => obtain ⟨_, _, rfl, _⟩ := h; rfl
    | nilv => subst h; rfl
    | ptr b o => obtain ⟨_, _, rfl⟩ := h; rfl
    | fn f caps => obtain ⟨_, rfl⟩ := h; rfl
    | ea e xs i o => obtain ⟨_, _, _, _, rfl, _⟩ := h; rfl
    | junk => exact h
  | own gr s =>
    cases av with
    | v x => obtain ⟨rfl, h⟩ := h; exact h
    | sl e nl xs => rcases h with ⟨_, _, rfl⟩ | ⟨_, _, _, _, _, _, rfl, _⟩ <;> rfl
    | slf e xs => obtain ⟨_, _, _, _, rfl, _⟩ := h; rfl
    | nilv => subst h; rfl
    | ptr b o => obtain ⟨_, _, rfl⟩ := h; rfl
    | fn f caps => obtain ⟨_, rfl⟩ := h; rfl
    | ea e xs i o => obtain ⟨_, _, _, _, _, _, rfl, _⟩ := h; rfl
    | junk => exact h

/-- Without a group. -/
def G.drop (g : G) (r : Nat) : G := { g with ω := fun x => if x = r then none else g.ω x }
def G.relinq (g : G) (w : World) (r : Nat) : G := { g with M := fun b o => if g.ω r = some b then memOf w b o else g.M b o, ω := fun x => if x = r then none else g.ω x }
def G.ren (g : G) (r h : Nat) : G := { g with ω := fun x => if x = h then g.ω r else if x = r then none else g.ω x }
def G.add (g : G) (r b : Nat) : G := { g with ω := fun x => if x = r then some b else g.ω x }

/-- What is so of a cell of another group stays so. -/
theorem RelC.other {g g' : G} {w : World} {r : Nat} {s : Option Nat} {av : AV} {u : Value} (hM : g.M.le g'.M) (hβ : g'.β = g.β) (hω : g'.ω r = g.ω r) (h : RelC g w ⟨.own r s, av⟩ u) : RelC g' w ⟨.own r s, av⟩ u := by
  cases av with
  | v x => exact h
  | sl e nl xs =>
    rcases h with h | ⟨h0, b, o, cap, n, h1, h2, h3, h4, h5, h6, h7, h8⟩
    · exact .inl h
    · exact .inr ⟨h0, b, o, cap, n, hω.trans h1, h2, h3, h4, h5, h6, h7, fun i y hy => CL.sees_mono e hM (Mem.le_refl _) (h8 i y hy)⟩
  | slf e xs =>
    obtain ⟨b, o, n, h1, h2, h3, h4, h5⟩ := h
    exact ⟨b, o, n, hω.trans h1, h2, h3, h4, fun i y hy => CL.sees_mono e hM (Mem.le_refl _) (h5 i y hy)⟩
  | nilv => exact h
  | ptr b o => obtain ⟨k, h1, h2⟩ := h; exact ⟨k, by rw [hβ]; exact h1, h2⟩
  | fn f caps => exact h
  | ea e xs i o =>
    obtain ⟨y, b, o', n, h1, h2, h3, h4, h5, h6, h7⟩ := h
    exact ⟨y, b, o', n, h1, hω.trans h2, h3, h4, h5, h6, CL.sees_mono e hM (Mem.le_refl _) h7⟩
  | junk => exact h
theorem RelC.roTo {g g' : G} {w w' : World} {av : AV} {u : Value} (hM : g.M.le g'.M) (hβ : g'.β = g.β) (h : RelC g w ⟨.ro, av⟩ u) : RelC g' w' ⟨.ro, av⟩ u := by
  cases av with
  | v x => exact h
  | sl e nl xs => exact IsRow.mono h fun _ _ _ hs => CL.sees_mono e hM hM hs
  | slf e xs => obtain ⟨b, o, h1, h2⟩ := h; exact ⟨b, o, h1, fun i y hy => CL.sees_mono e hM hM (h2 i y hy)⟩
  | nilv => exact h
  | ptr b o => obtain ⟨k, h1, h2⟩ := h; exact ⟨k, by rw [hβ]; exact h1, h2⟩
  | fn f caps => exact h
  | ea e xs i o => obtain ⟨y, b, o', h1, h2, h3⟩ := h; exact ⟨y, b, o', h1, h2, CL.sees_mono e hM hM h3⟩
  | junk => exact h

theorem beq_cases (a b : Nat) : (Nat.beq a b = true ∧ a = b) ∨ (Nat.beq a b = false ∧ a ≠ b) := by
  by_cases h : a = b
  · exact .inl ⟨by simp [h], h⟩
  · exact .inr ⟨by cases hb : Nat.beq a b <;> simp_all, h⟩

theorem RelC.kill {g : G} {w : World} {c : C} {u : Value} (r : Nat) (h : RelC g w c u) : RelC (g.drop r) w (c.kill r) u := by
  obtain ⟨t, av⟩ := c
  cases t with
  | ro => exact RelC.roTo (Mem.le_refl g.M) rfl h
  | own r' s =>
    rcases beq_cases r r' with ⟨hb, he⟩ | ⟨hb, he⟩
    · simp only [C.kill, hb, cond_true]
      exact h.one
    · simp only [C.kill, hb, cond_false]
      exact RelC.other (Mem.le_refl g.M) rfl (by simp [G.drop, Ne.symm he]) h

theorem RelC.relinq {g : G} {w : World} {c : C} {u : Value} (r : Nat) (hmem : ∀ b o u, g.M b o = some u → g.ω r ≠ some b) (h : RelC g w c u) : RelC (g.relinq w r) w (c.relinq r) u := by
  have hle : g.M.le (g.relinq w r).M := by
    intro b o u hu
    simp [G.relinq, hmem b o u hu, hu]
  have own : ∀ {e : CL} {b : Nat} {o : Nat} {y : e.den}, g.ω r = some b → e.sees (memOf w) g.M b o y → e.sees (g.relinq w r).M (g.relinq w r).M b o y := by
    intro e b o y hr hs
    exact CL.sees_shift e hle (fun j _ u hu => by simp [G.relinq, hr, hu]) hs
  obtain ⟨t, av⟩ := c
  cases t with
  | ro => exact RelC.roTo hle rfl h
  | own r' s =>
    rcases beq_cases r r' with ⟨hb, he⟩ | ⟨hb, he⟩
    · subst he
      simp only [C.relinq, hb, cond_true]
      cases av with
      | v x => exact h
      | sl e nl xs =>
        rcases h with h | ⟨h0, b, o, cap, n, h1, h2, h3, h4, h5, h6, h7, h8⟩
        · exact .inl h
        · exact .inr ⟨h0, b, o, cap, h2, h3, fun i y hy => own h1 (h8 i y hy)⟩
      | slf e xs =>
        obtain ⟨b, o, n, h1, h2, h3, h4, h5⟩ := h
        exact ⟨b, o, h2, fun i y hy => own h1 (h5 i y hy)⟩
      | nilv => exact h
      | ptr b o => exact h
      | fn f caps => exact h
      | ea e xs i o =>
        obtain ⟨y, b, o', n, h1, h2, h3, h4, h5, h6, h7⟩ := h
        exact ⟨y, b, o', h1, h3, own h2 h7⟩
      | junk => exact h
    · simp only [C.relinq, hb, cond_false]
      exact RelC.other hle rfl (by simp [G.relinq, Ne.symm he]) h

theorem RelC.ren {g : G} {w : World} {c : C} {u : Value} (r h : Nat) (hn : g.ω h = none) (hc : RelC g w c u) : RelC (g.ren r h) w (c.ren r h) u := by
  obtain ⟨t, av⟩ := c
  cases t with
  | ro => exact RelC.roTo (Mem.le_refl g.M) rfl hc
  | own r' s =>
    rcases beq_cases r r' with ⟨hb, he⟩ | ⟨hb, he⟩
    · subst he
      simp only [C.ren, hb, cond_true]
      have hω : (g.ren r h).ω h = g.ω r := by simp [G.ren]
      cases av with
      | v x => exact hc
      | sl e nl xs =>
        rcases hc with hc | ⟨h0, b, o, cap, n, h1, h2, h3, h4, h5, h6, h7, h8⟩
        · exact .inl hc
        · exact .inr ⟨h0, b, o, cap, n, hω.trans h1, h2, h3, h4, h5, h6, h7, h8⟩
      | slf e xs =>
        obtain ⟨b, o, n, h1, h2, h3, h4, h5⟩ := hc
        exact ⟨b, o, n, hω.trans h1, h2, h3, h4, h5⟩
      | nilv => exact hc
      | ptr b o => exact hc
      | fn f caps => exact hc
      | ea e xs i o =>
        obtain ⟨y, b, o', n, h1, h2, h3, h4, h5, h6, h7⟩ := hc
        exact ⟨y, b, o', n, h1, hω.trans h2, h3, h4, h5, h6, h7⟩
      | junk => exact hc
    · simp only [C.ren, hb, cond_false]
      by_cases hh : r' = h
      · subst hh
        cases av with
        | v x => exact hc
        | sl e nl xs =>
          rcases hc with hc | ⟨h0, b, o, cap, n, h1, _⟩
          · exact .inl hc
          · rw [hn] at h1; simp at h1
        | slf e xs => obtain ⟨b, o, n, h1, _⟩ := hc; rw [hn] at h1; simp at h1
        | nilv => exact hc
        | ptr b o => exact hc
        | fn f caps => exact hc
        | ea e xs i o => obtain ⟨y, b, o', n, h1, h2, _⟩ := hc; rw [hn] at h2; simp at h2
        | junk => exact hc
      · exact RelC.other (Mem.le_refl g.M) rfl (by simp [G.ren, hh, Ne.symm he]) hc

theorem RelC.add {g : G} {w : World} {c : C} {u : Value} (r b : Nat) (hn : g.ω r = none) (hc : RelC g w c u) : RelC (g.add r b) w c u :=
  RelC.mono (g := g) (g' := g.add r b) (Mem.le_refl _) (fun _ _ h => h) (fun r' b' h => by
    have : r' ≠ r := fun e => by rw [e, hn] at h; simp at h
    simp [G.add, this, h]) (fun _ _ _ => rfl) hc

/-! ## states -/
structure Rel (g : G) (st : St) (a : Act) (w : World) : Prop where
  slots : All2 (RelS g w) st.sl a.tmps.toList
  boxes : ∀ (b : Nat) (cs : List C), st.bx[b]? = some cs → ∃ (blk : Nat) (us : Array Value) (T : TypeId), g.β[b]? = some blk ∧ w.heap[blk]? = some (Obj.cells us T (0, 0)) ∧ All2 (RelC g w) cs us.toList
  blen : g.β.length = st.bx.length

/-- What was there when a call began, and which of its blocks were handed in for writing. -/
structure Base where
  w : World
  F : Nat → Prop
  β : List Nat
def Base.of (w : World) : Base := ⟨w, fun _ => False, []⟩
/-- A block that may be written. -/
def Base.New (B : Base) (b : Nat) : Prop := B.w.heap.size ≤ b ∨ B.F b
structure BelowF (B : Base) (w : World) : Prop where
  os : w.os = B.w.os
  tape : w.tape = B.w.tape
  output : w.output = B.w.output
  size : B.w.heap.size ≤ w.heap.size
  block : ∀ k, k < B.w.heap.size → ¬ B.F k → w.heap[k]? = B.w.heap[k]?
theorem BelowF.refl (w : World) (F : Nat → Prop) (β : List Nat) : BelowF ⟨w, F, β⟩ w := ⟨rfl, rfl, rfl, Nat.le_refl _, fun _ _ _ => rfl⟩
theorem BelowF.trans {B : Base} {w w' : World} (h : BelowF B w) (k : Below B.w.heap.size w w') : BelowF B w' :=
  ⟨k.os.trans h.os, k.tape.trans h.tape, k.output.trans h.output, Nat.le_trans h.size k.size, fun i hi hF => (k.block i hi).trans (h.block i hi hF)⟩
theorem BelowF.at {B : Base} {w w' : World} (h : BelowF B w) {b : Nat} (hb : B.New b) (h1 : w'.os = w.os) (h2 : w'.tape = w.tape) (h3 : w'.output = w.output) (h4 : w.heap.size ≤ w'.heap.size)
    (h5 : ∀ k, k ≠ b → w'.heap[k]? = w.heap[k]?) : BelowF B w' :=
  ⟨h1.trans h.os, h2.trans h.tape, h3.trans h.output, Nat.le_trans h.size h4, fun k hk hF => (h5 k (fun e => by subst e; rcases hb with hb | hb; exact absurd hk (Nat.not_lt.2 hb); exact hF hb)).trans (h.block k hk hF)⟩
theorem BelowF.below {w w' : World} (h : BelowF (Base.of w) w') : Below w.heap.size w w' := ⟨h.os, h.tape, h.output, h.size, fun k hk => h.block k hk fun h => h⟩
structure GOK (w0 : Base) (M0 : Mem) (g : G) (w : World) : Prop where
  le : M0.le g.M
  old : ∀ b o u, g.M b o = some u → b < w0.w.heap.size → ¬ w0.F b → M0 b o = some u
  mem : ∀ b o u, g.M b o = some u → memOf w b o = some u ∧ b ∉ g.β ∧ ∀ r, g.ω r ≠ some b
  bdist : ∀ (i j b : Nat), g.β[i]? = some b → g.β[j]? = some b → i = j
  odist : ∀ r r' b, g.ω r = some b → g.ω r' = some b → r = r'
  obox : ∀ r b, g.ω r = some b → b ∉ g.β
  newb : ∀ b ∈ g.β, w0.New b ∧ b < w.heap.size
  newo : ∀ r b, g.ω r = some b → w0.New b ∧ b < w.heap.size
  frame : BelowF w0 w
  pre : ∃ t, g.β = w0.β ++ t

structure Inv (w0 : Base) (M0 : Mem) (g : G) (st : St) (a : Act) (w : World) : Prop where
  ok : GOK w0 M0 g w
  rel : Rel g st a w
  defs : a.defers = []

theorem RelS1.map {g g' : G} {w w' : World} {f : C → C} (hf : ∀ c u, RelC g w c u → RelC g' w' (f c) u) {s : S1} {u : Value} (h : RelS1 g w s u) : RelS1 g' w' (s.map f) u := by
  cases s with
  | c x => exact hf _ _ h
  | agg xs => obtain ⟨us, rfl, h⟩ := h; exact ⟨us, rfl, h.map f hf⟩
theorem RelS.map {g g' : G} {w w' : World} {f : C → C} (hf : ∀ c u, RelC g w c u → RelC g' w' (f c) u) {s : S} {u : Value} (h : RelS g w s u) : RelS g' w' (s.map f) u := by
  cases s with
  | s x => exact RelS1.map hf h
  | tup xs => obtain ⟨us, rfl, h⟩ := h; exact ⟨us, rfl, h.map _ fun _ _ h => RelS1.map hf h⟩
  | dead => trivial
theorem RelS1.mono {g g' : G} {w w' : World} (hf : ∀ c u, RelC g w c u → RelC g' w' c u) {s : S1} {u : Value} (h : RelS1 g w s u) : RelS1 g' w' s u := by
  cases s with
  | c x => exact hf _ _ h
  | agg xs => obtain ⟨us, rfl, h⟩ := h; exact ⟨us, rfl, h.mono hf⟩
theorem RelS.mono {g g' : G} {w w' : World} (hf : ∀ c u, RelC g w c u → RelC g' w' c u) {s : S} {u : Value} (h : RelS g w s u) : RelS g' w' s u := by
  cases s with
  | s x => exact RelS1.mono hf h
  | tup xs => obtain ⟨us, rfl, h⟩ := h; exact ⟨us, rfl, h.mono fun _ _ h => RelS1.mono hf h⟩
  | dead => trivial

theorem mapL_get {α β : Type} (f : α → β) (l : List α) (i : Nat) : (mapL f l)[i]? = (l[i]?).map f := by rw [mapL_eq]; simp

theorem Rel.map {g g' : G} {w w' : World} {f : C → C} {st : St} {a : Act} (hf : ∀ c u, RelC g w c u → RelC g' w' (f c) u) (hβ : g'.β = g.β)
    (hb : ∀ b ∈ g.β, w'.heap[b]? = w.heap[b]?) (h : Rel g st a w) : Rel g' (st.map f) a w' := by
  refine ⟨h.slots.map _ fun _ _ h => RelS.map hf h, fun b cs hcs => ?_, by rw [hβ, h.blen]; simp [St.map, mapL_eq]⟩
  simp only [St.map, mapL_get] at hcs
  cases hx : st.bx[b]? with
  | none => simp [hx] at hcs
  | some cs0 =>
    simp [hx] at hcs
    subst hcs
    obtain ⟨blk, us, T, h1, h2, h3⟩ := h.boxes b cs0 hx
    exact ⟨blk, us, T, by rw [hβ]; exact h1, by rw [hb blk (List.mem_of_getElem? h1)]; exact h2, h3.map f hf⟩
theorem Rel.mono {g g' : G} {w w' : World} {st : St} {a : Act} (hf : ∀ c u, RelC g w c u → RelC g' w' c u) (hβ : g'.β = g.β)
    (hb : ∀ b ∈ g.β, w'.heap[b]? = w.heap[b]?) (h : Rel g st a w) : Rel g' st a w' := by
  refine ⟨h.slots.mono fun _ _ h => RelS.mono hf h, fun b cs hcs => ?_, by rw [hβ, h.blen]⟩
  obtain ⟨blk, us, T, h1, h2, h3⟩ := h.boxes b cs hcs
  exact ⟨blk, us, T, by rw [hβ]; exact h1, by rw [hb blk (List.mem_of_getElem? h1)]; exact h2, h3.mono hf⟩

theorem GOK.drop {w0 : Base} {M0 : Mem} {g : G} {w : World} (h : GOK w0 M0 g w) (r : Nat) : GOK w0 M0 (g.drop r) w where
  le := h.le
  old := h.old
  mem b o u hu := by
    obtain ⟨h1, h2, h3⟩ := h.mem b o u hu
    exact ⟨h1, h2, fun r' => by simp only [G.drop]; split <;> simp [h3]⟩
  bdist := h.bdist
  odist r1 r2 b h1 h2 := by
    simp only [G.drop] at h1 h2
    split at h1
    · simp at h1
    · split at h2
      · simp at h2
      · exact h.odist _ _ _ h1 h2
  obox r' b h1 := by
    simp only [G.drop] at h1
    split at h1
    · simp at h1
    · exact h.obox _ _ h1
  newb := h.newb
  newo r' b h1 := by
    simp only [G.drop] at h1
    split at h1
    · simp at h1
    · exact h.newo _ _ h1
  frame := h.frame
  pre := h.pre

theorem GOK.relinq {w0 : Base} {M0 : Mem} {g : G} {w : World} (h : GOK w0 M0 g w) (r : Nat) : GOK w0 M0 (g.relinq w r) w where
  le := fun b o u hu => by
    have := h.le b o u hu
    have h3 := (h.mem b o u this).2.2 r
    simp [G.relinq, h3, this]
  old b o u hu hb hF := by
    simp only [G.relinq] at hu
    split at hu
    · rename_i hr
      rcases (h.newo _ _ hr).1 with h1 | h1
      · omega
      · exact absurd h1 hF
    · exact h.old _ _ _ hu hb hF
  mem b o u hu := by
    simp only [G.relinq] at hu ⊢
    split at hu
    · rename_i hr
      refine ⟨hu, h.obox _ _ hr, fun r' => ?_⟩
      split
      · simp
      · rename_i hne
        exact fun h' => hne (h.odist _ _ _ h' hr)
    · obtain ⟨h1, h2, h3⟩ := h.mem b o u hu
      exact ⟨h1, h2, fun r' => by split <;> simp [h3]⟩
  bdist := h.bdist
  odist r1 r2 b h1 h2 := by
    simp only [G.relinq] at h1 h2
    split at h1
    · simp at h1
    · split at h2
      · simp at h2
      · exact h.odist _ _ _ h1 h2
  obox r' b h1 := by
    simp only [G.relinq] at h1
    split at h1
    · simp at h1
    · exact h.obox _ _ h1
  newb := h.newb
  newo r' b h1 := by
    simp only [G.relinq] at h1
    split at h1
    · simp at h1
    · exact h.newo _ _ h1
  frame := h.frame
  pre := h.pre

theorem GOK.ren {w0 : Base} {M0 : Mem} {g : G} {w : World} (h : GOK w0 M0 g w) (r k : Nat) (hk : g.ω k = none) : GOK w0 M0 (g.ren r k) w where
  le := h.le
  old := h.old
  mem b o u hu := by
    obtain ⟨h1, h2, h3⟩ := h.mem b o u hu
    exact ⟨h1, h2, fun r' => by simp only [G.ren]; split; exact h3 r; split <;> simp [h3]⟩
  bdist := h.bdist
  odist r1 r2 b h1 h2 := by
    simp only [G.ren] at h1 h2
    by_cases a1 : r1 = k <;> by_cases a2 : r2 = k <;> by_cases b1 : r1 = r <;> by_cases b2 : r2 = r <;> simp_all
    · exact (b2 (h.odist _ _ _ h2 h1)).elim
    · exact (b1 (h.odist _ _ _ h1 h2)).elim
    · exact h.odist _ _ _ h1 h2
  obox r' b h1 := by
    simp only [G.ren] at h1
    split at h1
    · exact h.obox _ _ h1
    · split at h1
      · simp at h1
      · exact h.obox _ _ h1
  newb := h.newb
  newo r' b h1 := by
    simp only [G.ren] at h1
    split at h1
    · exact h.newo _ _ h1
    · split at h1
      · simp at h1
      · exact h.newo _ _ h1
  frame := h.frame
  pre := h.pre

theorem GOK.add {w0 : Base} {M0 : Mem} {g : G} {w : World} (h : GOK w0 M0 g w) (r b : Nat) (hb : b ∉ g.β) (hm : ∀ o, g.M b o = none) (ho : ∀ r', g.ω r' ≠ some b)
    (hs : w0.New b ∧ b < w.heap.size) : GOK w0 M0 (g.add r b) w where
  le := h.le
  old := h.old
  mem b' o u hu := by
    obtain ⟨h1, h2, h3⟩ := h.mem b' o u hu
    refine ⟨h1, h2, fun r' => ?_⟩
    simp only [G.add]
    split
    · intro e
      simp at e
      subst e
      have := hm o
      simp [G.add] at hu
      rw [hu] at this
      simp at this
    · exact h3 r'
  bdist := h.bdist
  odist r1 r2 b' h1 h2 := by
    simp only [G.add] at h1 h2
    split at h1 <;> split at h2
    · simp_all
    · simp at h1; subst h1; exact (ho _ h2).elim
    · simp at h2; subst h2; exact (ho _ h1).elim
    · exact h.odist _ _ _ h1 h2
  obox r' b' h1 := by
    simp only [G.add] at h1
    split at h1
    · simp at h1; subst h1; exact hb
    · exact h.obox _ _ h1
  newb := h.newb
  newo r' b' h1 := by
    simp only [G.add] at h1
    split at h1
    · simp at h1; subst h1; exact hs
    · exact h.newo _ _ h1
  frame := h.frame
  pre := h.pre

section
variable {w0 : Base} {M0 : Mem} {g : G} {st : St} {a : Act} {w : World}
theorem Inv.kill (h : Inv w0 M0 g st a w) (r : Nat) : Inv w0 M0 (g.drop r) (st.map (C.kill r)) a w :=
  ⟨h.ok.drop r, h.rel.map (fun _ _ h => h.kill r) rfl fun _ _ => rfl, h.defs⟩
theorem Inv.relinq (h : Inv w0 M0 g st a w) (r : Nat) : Inv w0 M0 (g.relinq w r) (st.map (C.relinq r)) a w :=
  ⟨h.ok.relinq r, h.rel.map (fun _ _ h' => h'.relinq r fun b o u hu => (h.ok.mem b o u hu).2.2 r) rfl fun _ _ => rfl, h.defs⟩
theorem Inv.ren (h : Inv w0 M0 g st a w) (r k : Nat) (hk : g.ω k = none) : Inv w0 M0 (g.ren r k) (st.map (C.ren r k)) a w :=
  ⟨h.ok.ren r k hk, h.rel.map (fun _ _ h' => h'.ren r k hk) rfl fun _ _ => rfl, h.defs⟩
theorem Inv.add (h : Inv w0 M0 g st a w) (r b : Nat) (hr : g.ω r = none) (hb : b ∉ g.β) (hm : ∀ o, g.M b o = none) (ho : ∀ r', g.ω r' ≠ some b)
    (hs : w0.New b ∧ b < w.heap.size) : Inv w0 M0 (g.add r b) st a w :=
  ⟨h.ok.add r b hb hm ho hs, h.rel.mono (fun _ _ h' => h'.add r b hr) rfl fun _ _ => rfl, h.defs⟩

/-- Another world in which nothing that is told of has turned. -/
theorem Inv.world {w' : World} (h : Inv w0 M0 g st a w) (hM : ∀ b o u, g.M b o = some u → w'.heap[b]? = w.heap[b]?) (hβ : ∀ b ∈ g.β, w'.heap[b]? = w.heap[b]?)
    (hω : ∀ r b, g.ω r = some b → w'.heap[b]? = w.heap[b]?) (hs : w.heap.size ≤ w'.heap.size) (hf : BelowF w0 w') : Inv w0 M0 g st a w' := by
  refine ⟨⟨h.ok.le, h.ok.old, fun b o u hu => ?_, h.ok.bdist, h.ok.odist, h.ok.obox, fun b hb => ?_, fun r b hb => ?_, hf, h.ok.pre⟩, h.rel.mono (fun c u hc => hc.mono (Mem.le_refl _) (fun _ _ h => h) (fun _ _ h => h) hω) rfl hβ, h.defs⟩
  · obtain ⟨h1, h2⟩ := h.ok.mem b o u hu
    exact ⟨by rw [memOf_of_heap (hM b o u hu)]; exact h1, h2⟩
  · have := h.ok.newb b hb
    exact ⟨this.1, by omega⟩
  · have := h.ok.newo r b hb
    exact ⟨this.1, by omega⟩
/-- What was there stays. -/
theorem mem_lt (h : GOK w0 M0 g w) {b o : Nat} {u : Value} (hu : g.M b o = some u) : b < w.heap.size := by
  have := (h.mem b o u hu).1
  unfold memOf World.cell? at this
  rcases Nat.lt_or_ge b w.heap.size with h | h
  · exact h
  · simp [Array.getElem?_eq_none h] at this
theorem Inv.grow {w' : World} (h : Inv w0 M0 g st a w) (hk : Below w.heap.size w w') : Inv w0 M0 g st a w' :=
  h.world (fun _ _ _ hu => hk.block _ (mem_lt h.ok hu)) (fun _ hb => hk.block _ (h.ok.newb _ hb).2) (fun _ _ hb => hk.block _ (h.ok.newo _ _ hb).2) hk.size
    (h.ok.frame.trans (hk.mono h.ok.frame.size))
end
end Go.Proofs.Ythiaaaedfidnjaa.Am

namespace Go.Proofs.Ythiaaaedfidnjaa.Am
open Go Go.RowKit

theorem wp_value {P : Program} {o : Oper} {a : Act} {w w' : World} {next : Act → World → Prop} {Q : Exit → Act → World → Prop} {v : Value}
    (h : (execOp a.eval o).run P w = .ok (.value v) w') (hn : next (a.put o.dst v) w') : o.wp P a w next Q := by
  unfold Oper.wp; rw [h]; exact hn
theorem wp_skipOp {P : Program} {o : Oper} {a : Act} {w w' : World} {next : Act → World → Prop} {Q : Exit → Act → World → Prop}
    (h : (execOp a.eval o).run P w = .ok .skip w') (hn : next (a.put o.dst undef) w') : o.wp P a w next Q := by
  unfold Oper.wp; rw [h]; exact hn

theorem bif_some {α : Type} {b : Bool} {X : Option α} {r : α} (h : (bif b then X else none) = some r) : b = true ∧ X = some r := by
  cases b <;> simp_all
theorem bifn_some {α : Type} {b : Bool} {X : Option α} {r : α} (h : (bif b then none else X) = some r) : b = false ∧ X = some r := by
  cases b <;> simp_all
theorem br_some {b : Bool} {x y : Option Res} {r : Res} (h : br b x y = some r) : (b = true ∧ x = some r) ∨ (b = false ∧ y = some r) := by
  cases b <;> simp_all [br]

section
variable {w0 : Base} {M0 : Mem} {g : G} {st : St} {a : Act} {w : World}

theorem constC_rel {v : Value} {c : C} (h : constC v = some c) : RelC g w c v := by
  unfold constC at h
  split at h <;> simp at h <;> subst h <;> first | exact ⟨rfl, rfl⟩ | exact rfl
theorem constCs_rel : ∀ {vs : List Value} {cs : List C}, constCs vs = some cs → All2 (RelC g w) cs vs
  | [], cs, h => by simp [constCs] at h; subst h; trivial
  | v :: vs, cs, h => by
    simp only [constCs] at h
    split at h
    · simp at h
    · rename_i c hc
      split at h
      · simp at h
      · rename_i cs' hcs
        simp at h
        subst h
        exact ⟨constC_rel hc, constCs_rel hcs⟩
theorem constS1_rel {v : Value} {s : S1} (h : constS1 v = some s) : RelS1 g w s v := by
  unfold constS1 at h
  split at h
  · rename_i cs
    cases hc : constCs cs.toList with
    | none => simp [hc] at h
    | some l =>
      simp [hc] at h
      subst h
      exact ⟨_, rfl, constCs_rel hc⟩
  · cases hc : constC v with
    | none => simp [hc] at h
    | some c =>
      simp [hc] at h
      subst h
      exact constC_rel hc

theorem get_rel {x : Operand} {s : S} (inv : Inv w0 M0 g st a w) (h : st.get x = some s) : RelS g w s (a.eval x) := by
  cases x with
  | tmp t =>
    obtain ⟨u, hu, hr⟩ := inv.rel.slots.get t s h
    have : a.eval (.tmp t) = u := by
      have : a.tmps[t]? = some u := by rw [← hu]; simp
      simp [Act.eval, Array.getD_eq_getD_getElem?, this]
    rw [this]; exact hr
  | const v =>
    simp only [St.get] at h
    cases hc : constS1 v with
    | none => simp [hc] at h
    | some s1 =>
      simp [hc] at h
      subst h
      exact constS1_rel hc
  | global gl => simp [St.get] at h
  | func f =>
    simp [St.get] at h
    subst h
    exact ⟨rfl, rfl⟩
theorem get1_rel {x : Operand} {s : S1} (inv : Inv w0 M0 g st a w) (h : st.get1 x = some s) : RelS1 g w s (a.eval x) := by
  unfold St.get1 at h
  split at h
  · rename_i s' hs
    simp at h
    subst h
    exact get_rel inv hs
  · simp at h
theorem getC_rel {x : Operand} {c : C} (inv : Inv w0 M0 g st a w) (h : st.getC x = some c) : RelC g w c (a.eval x) := by
  unfold St.getC at h
  split at h
  · rename_i c' hs
    simp at h
    subst h
    exact get_rel inv hs
  · simp at h
theorem getInt_rel {x : Operand} {k : IntKind} {n : Int} (inv : Inv w0 M0 g st a w) (h : st.getInt x = some (k, n)) : a.eval x = .int k n := by
  unfold St.getInt at h
  split at h
  · rename_i hs
    simp at h
    obtain ⟨rfl, rfl⟩ := h
    exact (getC_rel inv hs).1
  · simp at h
theorem getBool_rel {x : Operand} {b : Bool} (inv : Inv w0 M0 g st a w) (h : st.getBool x = some b) : a.eval x = .bool b := by
  unfold St.getBool at h
  split at h
  · rename_i hs
    simp at h
    subst h
    exact (getC_rel inv hs).1
  · simp at h
theorem vS_rel {v : Value} (h : v.oneCell' = true) : RelS g w (vS v) v := ⟨rfl, h⟩

theorem S1.rel_cells {s : S1} {u : Value} (h : RelS1 g w s u) : All2 (RelC g w) s.cells u.cells.toList := by
  cases s with
  | c x =>
    have h1 := RelC.one h
    have : u.cells = #[u] := by cases u <;> first | rfl | simp [Value.oneCell'] at h1
    rw [this]
    exact ⟨h, trivial⟩
  | agg xs => obtain ⟨us, rfl, h⟩ := h; exact h

/-! ## scalars -/
theorem run_bits {P : Program} {op : BinOp} {k : IntKind} {x y n : Int} (h : bits op k x y = some n) : (Op.intBits op k x y).run P w = .ok (.int k n) w := by
  unfold bits at h
  cases op <;> simp at h <;> subst h <;> simp [Op.intBits]

theorem eqGuard_int {P : Program} (op : BinOp) (T : TypeId) (x y : Operand) (k k' : IntKind) (m n : Int) : (eqGuard op T x y (.int k m) (.int k' n)).run P w = .ok () w := by
  cases op <;> simp [eqGuard]
theorem eqGuard_str {P : Program} (op : BinOp) (T : TypeId) (x y : Operand) (m n : ByteArray) : (eqGuard op T x y (.string m) (.string n)).run P w = .ok () w := by
  cases op <;> simp [eqGuard]
theorem eqGuard_bool {P : Program} (op : BinOp) (T : TypeId) (x y : Operand) (m n : Bool) : (eqGuard op T x y (.bool m) (.bool n)).run P w = .ok () w := by
  cases op <;> simp [eqGuard]
theorem eqGuard_slice {P : Program} (op : BinOp) (T : TypeId) (x y : Operand) (m n : Option Addr) (p q r s : Nat) : (eqGuard op T x y (.slice m p q) (.slice n r s)).run P w = .ok () w := by
  cases op <;> simp [eqGuard]

theorem binInt_sound {P : Program} {op : BinOp} {T : TypeId} {ka kb : IntKind} {m n : Int} {k : Value → Option Res} {r : Res} (h : binInt op ka m kb n k = some r) :
    ∃ v, k v = some r ∧ v.oneCell' = true ∧ (binOp op T (.int ka m) (.int kb n)).run P w = .ok v w := by
  unfold binInt at h
  cases op <;> simp only at h
  case shl =>
    rcases br_some h with ⟨_, h⟩ | ⟨hb, h⟩
    · simp at h
    · exact ⟨_, h, rfl, by simp at hb; simp [binOp, Op.shift, Int.not_lt.mpr hb]⟩
  case shr =>
    rcases br_some h with ⟨_, h⟩ | ⟨hb, h⟩
    · simp at h
    · exact ⟨_, h, rfl, by simp at hb; simp [binOp, Op.shift, Int.not_lt.mpr hb]⟩
  all_goals
    have h1 := (bif_some h).1
    have h2 := (bif_some h).2
    clear h
    have := ikBeq_eq h1
    subst this
    clear h1
  case quo =>
    rcases br_some h2 with ⟨_, h⟩ | ⟨hb, h⟩
    · simp at h
    · exact ⟨_, h, rfl, by simp at hb; simp [binOp, Op.intDiv, hb]⟩
  case rem =>
    rcases br_some h2 with ⟨_, h⟩ | ⟨hb, h⟩
    · simp at h
    · exact ⟨_, h, rfl, by simp at hb; simp [binOp, Op.intDiv, hb]⟩
  all_goals first
    | (split at h2
       · rename_i q hq
         exact ⟨_, h2, rfl, by simpa [binOp] using run_bits hq⟩
       · simp at h2)
    | exact ⟨_, h2, rfl, by simp [binOp, Op.intArith, Op.intCmp]⟩

theorem binStr_sound {P : Program} {op : BinOp} {T : TypeId} {m n : ByteArray} {k : Value → Option Res} {r : Res} (h : binStr op m n k = some r) :
    ∃ v, k v = some r ∧ v.oneCell' = true ∧ (binOp op T (.string m) (.string n)).run P w = .ok v w := by
  unfold binStr at h
  cases op <;> simp at h
  · exact ⟨_, h, rfl, by simp [binOp, Op.stringOp]⟩
  · exact ⟨_, h, rfl, by simp [binOp, Op.stringOp]⟩

/-- Cells as one value. -/
def ofUs (agg : Bool) (us : List Value) : Option Value := match agg, us with
  | true, us => some (.agg us.toArray)
  | false, [u] => some u
  | false, _ => none
theorem ofUs_false {us : List Value} {u : Value} (h : ofUs false us = some u) : us = [u] := by
  match us, h with
  | [v], h => simp [ofUs] at h; rw [h]
theorem info_of_underlying {P : Program} {T : TypeId} {d : TypeDesc} (h : P.underlying T = some d) : ∃ i, P.info? T = some i := by
  unfold Program.underlying at h
  cases hi : P.info? T with
  | none => simp [hi] at h
  | some i => exact ⟨i, rfl⟩
theorem run_isAggB {P : Program} {T : TypeId} {d : TypeDesc} (h : P.underlying T = some d) : (isAgg T).run P w = .ok (isAggB P T) w := by
  cases d <;> simp [isAgg, run_underlying h, isAggB, h]
theorem run_part {P : Program} {T : TypeId} {d : TypeDesc} {us : Array Value} {off : Nat} {u : Value} (hu : P.underlying T = some d) (h : ofUs (isAggB P T) ((us.toList.drop off).take (P.cellsOf T)) = some u) :
    (part T us off).run P w = .ok u w := by
  obtain ⟨i, hi⟩ := info_of_underlying hu
  have hc : P.cellsOf T = i.size := by simp [Program.cellsOf, hi]
  rw [hc] at h
  simp only [part, Sem.run_bind, run_isAggB (w := w) hu, Result.andThen_ok]
  cases hb : isAggB P T with
  | true =>
    rw [hb] at h
    simp [ofUs] at h
    subst h
    simp [sizeOf, typeInfo, hi]
    apply Array.ext'
    simp
  | false =>
    rw [hb] at h
    have heq := ofUs_false h
    have h2 : us.toList[off]? = some u := by
      have : ((us.toList.drop off).take i.size)[0]? = some u := by rw [heq]; rfl
      rw [List.getElem?_take] at this
      split at this
      · simpa using this
      · simp at this
    have h3 : us[off]? = some u := by rw [← h2]; simp
    simp [h3]

theorem eqT_some {P : Program} {n : Nat} {agg : Bool} {T : TypeId} {xs ys : List C} {b : Bool} (h : eqT P n agg T xs ys = some b) : ∃ d, P.underlying T = some d := by
  cases n with
  | zero => simp [eqT] at h
  | succ n =>
    simp only [eqT] at h
    cases hd : P.underlying T with
    | none => simp [hd] at h
    | some d => exact ⟨d, rfl⟩

theorem ofUs_of_all2 {P : Program} {n : Nat} {T : TypeId} {agg : Bool} {xs ys : List C} {us vs : List Value} {b : Bool} (h : eqT P n agg T xs ys = some b)
    (hx : All2 (RelC g w) xs us) (hy : All2 (RelC g w) ys vs) : (∃ u, ofUs agg us = some u) ∧ (∃ v, ofUs agg vs = some v) := by
  cases n with
  | zero => simp [eqT] at h
  | succ n =>
    cases agg with
    | true => exact ⟨⟨_, rfl⟩, ⟨_, rfl⟩⟩
    | false =>
      have key : xs.length = 1 ∧ ys.length = 1 := by
        simp only [eqT] at h
        split at h
        · unfold eqInts at h; split at h
          · simp
          · simp at h
        · unfold eqBools at h; split at h <;> simp at h ⊢
        · unfold eqStrs at h; split at h <;> simp at h ⊢
        · simp_all
        · simp at h
      have h1 := hx.length
      have h2 := hy.length
      rw [key.1] at h1
      rw [key.2] at h2
      match us, vs, h1, h2 with
      | [u], [v], _, _ => exact ⟨⟨u, rfl⟩, ⟨v, rfl⟩⟩

theorem eqT_sound {P : Program} : ∀ (n : Nat) (agg : Bool) (T : TypeId) {xs ys : List C} {us vs : List Value} {b : Bool} {u v : Value} (d : Nat) (w' : World), eqT P n agg T xs ys = some b →
    All2 (RelC g w) xs us → All2 (RelC g w) ys vs → ofUs agg us = some u → ofUs agg vs = some v → (Op.equalIn (d + n) T u v).run P w' = .ok b w'
  | 0, _, _, _, _, _, _, _, _, _, _, _, h, _, _, _, _ => by simp [eqT] at h
  | n + 1, agg, T, xs, ys, us, vs, b, u, v, d, w', h, hx, hy, hu, hv => by
    simp only [eqT] at h
    split at h
    · rename_i k hd
      unfold eqInts at h
      split at h
      · have hkk := (bif_some h).1
        have h5 := Option.some.inj (bif_some h).2
        clear h
        have := ikBeq_eq hkk
        subst this
        subst h5
        have hu := ofUs_false hu
        have hv := ofUs_false hv
        subst hu; subst hv
        obtain ⟨⟨rfl, _⟩, _⟩ := hx
        obtain ⟨⟨rfl, _⟩, _⟩ := hy
        exact run_equalIn_int w' (d + n) T _ k _ _ hd
      · simp at h
    · rename_i hd
      unfold eqBools at h
      split at h <;> simp at h
      subst h
      have hu := ofUs_false hu
      have hv := ofUs_false hv
      subst hu; subst hv
      obtain ⟨⟨rfl, _⟩, _⟩ := hx
      obtain ⟨⟨rfl, _⟩, _⟩ := hy
      exact run_equalIn_bool' w' (d + n) T _ _ hd
    · rename_i hd
      unfold eqStrs at h
      split at h <;> simp at h
      subst h
      have hu := ofUs_false hu
      have hv := ofUs_false hv
      subst hu; subst hv
      obtain ⟨⟨rfl, _⟩, _⟩ := hx
      obtain ⟨⟨rfl, _⟩, _⟩ := hy
      exact run_equalIn_string w' (d + n) T _ _ hd
    · rename_i fs hd
      obtain ⟨hp, h⟩ := bifn_some h
      simp [ofUs] at hu hv
      subst hu; subst hv
      have hfs : P.fieldsOf T = fs := by simp [Program.fieldsOf, hd]
      rw [show d + (n + 1) = (d + n) + 1 by omega, run_equalIn_struct w' (d + n) T _ _ (by rw [hfs]; exact hd) hp, hfs]
      have key : ∀ (l : List Field) (b : Bool), eqFs P (fun t => eqT P n (isAggB P t) t) l xs ys = some b → (Op.eqFields (d + n) us.toArray vs.toArray l).run P w' = .ok b w' := by
        intro l
        induction l with
        | nil => intro b h; simp [eqFs] at h; subst h; simp [Op.eqFields]
        | cons f r ih =>
          intro b h
          simp only [eqFs] at h
          obtain ⟨hn, h⟩ := bifn_some h
          split at h
          · simp at h
          · rename_i b1 hb1
            split at h
            · simp at h
            · rename_i b2 hb2
              simp at h
              subst h
              have hxt := All2.take (P.cellsOf f.type) (All2.drop f.offset hx)
              have hyt := All2.take (P.cellsOf f.type) (All2.drop f.offset hy)
              obtain ⟨⟨u1, hu1⟩, ⟨v1, hv1⟩⟩ := ofUs_of_all2 hb1 hxt hyt
              obtain ⟨df, hdf⟩ := eqT_some hb1
              have e1 := eqT_sound n _ f.type d w' hb1 hxt hyt hu1 hv1
              have p1 := run_part (w := w') (us := us.toArray) (off := f.offset) hdf (by simpa using hu1)
              have p2 := run_part (w := w') (us := vs.toArray) (off := f.offset) hdf (by simpa using hv1)
              have hn' : f.name ≠ "_" := by simpa using hn
              simp only [Op.eqFields, if_pos hn', Sem.run_bind, p1, p2, e1, Result.andThen_ok]
              cases b1
              · simp
              · simp [ih b2 hb2]
      exact key _ _ h
    · simp at h

theorem binK_sound {P : Program} {op : BinOp} {T : TypeId} {x y : Operand} {s t : S1} {k : Value → Option Res} {r : Res} (h : binK P op T s t k = some r)
    (hs : RelS1 g w s (a.eval x)) (ht : RelS1 g w t (a.eval y)) :
    ∃ v, k v = some r ∧ v.oneCell' = true ∧ (do eqGuard op T x y (a.eval x) (a.eval y); binOp op T (a.eval x) (a.eval y) : Sem Value).run P w = .ok v w := by
  unfold binK at h
  split at h
  · obtain ⟨h1, _⟩ := hs
    obtain ⟨h2, _⟩ := ht
    rw [h1, h2]
    obtain ⟨v, hv, h1, hr⟩ := binInt_sound (w := w) (P := P) (T := T) h
    exact ⟨v, hv, h1, by simp only [Sem.run_bind, eqGuard_int, Result.andThen_ok, hr]⟩
  · obtain ⟨h1, _⟩ := hs
    obtain ⟨h2, _⟩ := ht
    rw [h1, h2]
    obtain ⟨v, hv, h1, hr⟩ := binStr_sound (w := w) (P := P) (T := T) h
    exact ⟨v, hv, h1, by simp only [Sem.run_bind, eqGuard_str, Result.andThen_ok, hr]⟩
  · obtain ⟨h1, _⟩ := hs
    obtain ⟨h2, _⟩ := ht
    rw [h1, h2]
    split at h
    · rename_i hd
      unfold binBool at h
      cases op <;> simp at h
      · exact ⟨_, h, rfl, by simp only [Sem.run_bind, eqGuard_bool, Result.andThen_ok, binOp, Op.equal, Op.maxDepth, run_equalIn_bool' w 9999 T _ _ hd, Sem.run_pure]⟩
      · exact ⟨_, h, rfl, by simp only [Sem.run_bind, eqGuard_bool, Result.andThen_ok, binOp, Op.equal, Op.maxDepth, run_equalIn_bool' w 9999 T _ _ hd, Sem.run_pure]⟩
    · simp at h
  · rename_i t1 e nl xs t2
    have h2 : a.eval y = .slice none 0 0 := by cases t2 <;> exact ht
    rw [h2]
    split at h
    · rename_i E hd
      have hx : ∃ (ad : Option Addr) (l c : Nat), a.eval x = .slice ad l c ∧ ad.isNone = nl := by
        cases t1 with
        | ro =>
          rcases hs with ⟨h0, _, hs⟩ | ⟨h0, b, o, cap, hs, _⟩
          · exact ⟨none, 0, 0, hs, h0.symm⟩
          · exact ⟨_, _, _, hs, h0.symm⟩
        | own gr sb =>
          rcases hs with ⟨h0, _, hs⟩ | ⟨h0, b, o, cap, n, _, hs, _⟩
          · exact ⟨none, 0, 0, hs, h0.symm⟩
          · exact ⟨_, _, _, hs, h0.symm⟩
      obtain ⟨ad, l, c, h3, h4⟩ := hx
      have he : (Op.equal T (.slice ad l c) (.slice none 0 0)).run P w = .ok nl w := by
        rw [← h4]
        exact run_equal_slice_nil w T E ad l c hd
      rw [h3]
      unfold binNil at h
      cases op <;> simp at h
      · exact ⟨_, h, rfl, by simp only [Sem.run_bind, eqGuard_slice, Result.andThen_ok, binOp, he, Sem.run_pure]⟩
      · exact ⟨_, h, rfl, by simp only [Sem.run_bind, eqGuard_slice, Result.andThen_ok, binOp, he, Sem.run_pure]⟩
    · simp at h
  · rename_i xs ys
    obtain ⟨us, h1, hs⟩ := hs
    obtain ⟨vs, h2, ht⟩ := ht
    rw [h1, h2]
    unfold binAgg at h
    obtain ⟨hg, h⟩ := bifn_some h
    have hgd := run_eqGuard_agg (P := P) (w := w) op T x y us vs hg
    cases op <;> simp only at h <;> try (simp at h; done)
    · split at h
      · rename_i b hb
        have := eqT_sound 8 true T 9992 w hb hs ht (u := .agg us) (v := .agg vs) (by simp [ofUs]) (by simp [ofUs])
        exact ⟨_, h, rfl, by simp only [Sem.run_bind, hgd, Result.andThen_ok, run_eql_struct, this]⟩
      · simp at h
    · split at h
      · rename_i b hb
        have := eqT_sound 8 true T 9992 w hb hs ht (u := .agg us) (v := .agg vs) (by simp [ofUs]) (by simp [ofUs])
        exact ⟨_, h, rfl, by simp only [Sem.run_bind, hgd, Result.andThen_ok, run_neq_struct, this]⟩
      · simp at h
  · simp at h

theorem unV_sound {P : Program} {op : UnOp} {v u : Value} (h : unV op v = some u) : u.oneCell' = true ∧ (Op.unary op v).run P w = .ok u w := by
  unfold unV at h
  split at h
  · split at h <;> simp at h
    · subst h; exact ⟨rfl, by simp [Op.unary, Op.intArith]⟩
    · obtain ⟨n, hn, rfl⟩ := h
      exact ⟨rfl, run_bits hn⟩
  · split at h <;> simp at h
    subst h; exact ⟨rfl, by simp [Op.unary]⟩
  · simp at h
end
end Go.Proofs.Ythiaaaedfidnjaa.Am

namespace Go.Proofs.Ythiaaaedfidnjaa.Am
open Go Go.RowKit

theorem addr_add (b o n : Nat) : (⟨b, o, none⟩ : Addr).add n = ⟨b, o + n, none⟩ := by unfold Addr.add; split <;> simp_all

/-! ## lists, arrays -/
theorem All2.set {α β : Type} {R : α → β → Prop} : ∀ {xs : List α} {ys : List β} (n : Nat) {x : α} {y : β}, All2 R xs ys → R x y → All2 R (xs.set n x) (ys.set n y)
  | [], [], _, _, _, _, _ => trivial
  | _ :: _, _ :: _, 0, _, _, h, hxy => ⟨hxy, h.2⟩
  | _ :: _, _ :: _, n + 1, _, _, h, hxy => ⟨h.1, All2.set n h.2 hxy⟩
  | [], _ :: _, _, _, _, h, _ => h.elim
  | _ :: _, [], _, _, _, h, _ => h.elim
def arrSet (us : Array Value) : Nat → List Value → Array Value
  | _, [] => us
  | o, v :: r => arrSet (us.setIfInBounds o v) (o + 1) r
theorem arrSet_size : ∀ (vs : List Value) (us : Array Value) (o : Nat), (arrSet us o vs).size = us.size
  | [], _, _ => rfl
  | v :: r, us, o => by simp [arrSet, arrSet_size r]
theorem All2.arrSet {R : C → Value → Prop} : ∀ {ys : List C} {vs : List Value} {xs : List C} {us : Array Value} (o : Nat), All2 R xs us.toList → All2 R ys vs → All2 R (Am.setCells xs o ys) (Am.arrSet us o vs).toList
  | [], [], xs, us, o, h, _ => h
  | y :: ys, v :: vs, xs, us, o, h, k => by
    simp only [Am.setCells, Am.arrSet]
    exact All2.arrSet (o + 1) (by rw [Array.toList_setIfInBounds]; exact h.set o k.1) k.2
  | [], _ :: _, _, _, _, _, h => h.elim
  | _ :: _, [], _, _, _, _, h => h.elim

/-! ## what a store does to the heap -/
theorem setCells_heap_other : ∀ (vs : List Value) (w : World) (b o k : Nat), k ≠ b → (w.setCells b o vs).heap[k]? = w.heap[k]?
  | [], _, _, _, _, _ => rfl
  | v :: r, w, b, o, k, h => by
    simp only [World.setCells]
    rw [setCells_heap_other r _ b _ k h]
    exact Below.heap_setCell w _ v k h
theorem setCells_heap : ∀ (vs : List Value) (w : World) (b o : Nat) (us : Array Value) (T : TypeId) (fr : Nat × Nat), w.heap[b]? = some (.cells us T fr) →
    (w.setCells b o vs).heap[b]? = some (.cells (arrSet us o vs) T fr)
  | [], _, _, _, _, _, _, h => h
  | v :: r, w, b, o, us, T, fr, h => by
    simp only [World.setCells, arrSet]
    refine setCells_heap r _ b _ _ T fr ?_
    simp only [World.setCell, Array.getElem?_modify]
    simp [h]
theorem setCells_size : ∀ (vs : List Value) (w : World) (b o : Nat), (w.setCells b o vs).heap.size = w.heap.size
  | [], _, _, _ => rfl
  | v :: r, w, b, o => by simp only [World.setCells]; rw [setCells_size r]; simp [World.setCell]
theorem setCells_below : ∀ (vs : List Value) {B : Base} {w : World} {b : Nat} (o : Nat), BelowF B w → B.New b → BelowF B (w.setCells b o vs)
  | [], _, _, _, _, h, _ => h
  | v :: r, B, w, b, o, h, hb => by
    simp only [World.setCells]
    exact setCells_below r _ (h.at hb rfl rfl rfl (by simp [World.setCell]) fun k hk => Below.heap_setCell w _ v k hk) hb

section
variable {w0 : Base} {M0 : Mem} {g : G} {st : St} {a : Act} {w : World}

theorem Inv.put (inv : Inv w0 M0 g st a w) (d : Option Nat) {s : S} {u : Value} (h : RelS g w s u) : Inv w0 M0 g (st.putO d s) (a.put d u) w := by
  cases d with
  | none => exact inv
  | some t =>
    refine ⟨inv.ok, ⟨?_, inv.rel.boxes, inv.rel.blen⟩, inv.defs⟩
    simp only [St.putO, St.put, Act.put, Array.toList_setIfInBounds]
    exact inv.rel.slots.set t h

/-- What a primitive operation comes to. -/
def OpGood (P : Program) (w0 : Base) (M0 : Mem) (a : Act) (w : World) (k : KO) (r : Res) (prog : Sem Value) : Prop :=
  ∃ s st' g' u w', k s st' = some r ∧ Inv w0 M0 g' st' a w' ∧ RelS g' w' s u ∧ prog.run P w = .ok u w'
def UnGood (P : Program) (w0 : Base) (M0 : Mem) (a : Act) (w : World) (k : KO) (r : Res) (prog : Sem Unit) : Prop :=
  ∃ st' g' w', k junkS st' = some r ∧ Inv w0 M0 g' st' a w' ∧ prog.run P w = .ok () w'

/-- Cells in memory. -/
def CellsAt (g : G) (w : World) (cs : List C) (b o : Nat) : Prop := ∀ j c, cs[j]? = some c → ∃ u, memOf w b (o + j) = some u ∧ RelC g w c u

theorem CellsAt.list : ∀ {cs : List C} {b o : Nat}, CellsAt g w cs b o → ∃ us : List Value, All2 (RelC g w) cs us ∧ ∀ j u, us[j]? = some u → w.cell? ⟨b, o + j, none⟩ = some u
  | [], _, _, _ => ⟨[], trivial, fun j u h => by simp at h⟩
  | c :: cs, b, o, h => by
    obtain ⟨u, hu, hr⟩ := h 0 c rfl
    have h' : CellsAt g w cs b (o + 1) := fun j c hc => by
      have := h (j + 1) c (by simpa using hc)
      rwa [show o + (j + 1) = o + 1 + j by omega] at this
    obtain ⟨us, h1, h2⟩ := h'.list
    refine ⟨u :: us, ⟨hr, h1⟩, fun j v hv => ?_⟩
    cases j with
    | zero => simp at hv; subst hv; exact hu
    | succ j =>
      have := h2 j v (by simpa using hv)
      rwa [show o + (j + 1) = o + 1 + j by omega]
theorem CellsAt.part {cs : List C} {b o : Nat} (h : CellsAt g w cs b o) (i n : Nat) : CellsAt g w ((cs.drop i).take n) b (o + i) := fun j c hc => by
  rw [List.getElem?_take] at hc
  split at hc
  · rw [List.getElem?_drop] at hc
    have := h (i + j) c hc
    rwa [← Nat.add_assoc] at this
  · simp at hc

theorem load_sound {P : Program} {T : TypeId} {cs : List C} {o b o' : Nat} {s : S1} (h : partOf P T cs o = some s) (hc : CellsAt g w cs b o') :
    ∃ u, (Instr.loadAt T (.pointer (some ⟨b, o' + o, none⟩))).run P w = .ok u w ∧ RelS1 g w s u := by
  unfold partOf at h
  split at h
  · simp at h
  · rename_i d hd
    obtain ⟨hl, h⟩ := bif_some h
    obtain ⟨i, hi⟩ := info_of_underlying hd
    have hci : P.cellsOf T = i.size := by simp [Program.cellsOf, hi]
    rw [hci] at h hl
    obtain ⟨us, h1, h2⟩ := (hc.part o i.size).list
    have hlen : us.length = i.size := by rw [← h1.length]; exact Nat.eq_of_beq_eq_true hl
    have hrun := run_isAggB (w := w) hd
    cases hb : isAggB P T with
    | true =>
      rw [hb] at h hrun
      simp [ofCells] at h
      subst h
      have hload := run_loadCells_list (P := P) w ⟨b, o' + o, none⟩ us (fun j v hv => by rw [addr_add]; exact h2 j v hv)
      rw [hlen] at hload
      refine ⟨.agg us.toArray, ?_, ⟨us.toArray, rfl, by simpa using h1⟩⟩
      simp [Instr.loadAt, Instr.sureAddr, loadVar, hrun, sizeOf, typeInfo, hi, hload]
    | false =>
      rw [hb] at h hrun
      unfold ofCells at h
      split at h
      · simp_all
      · rename_i x _ heq
        simp at h
        subst h
        rw [heq] at h1
        match us, h1 with
        | [u], h1 =>
          refine ⟨u, ?_, h1.1⟩
          have := h2 0 u rfl
          simp [Instr.loadAt, Instr.sureAddr, loadVar, hrun, show w.cell? ⟨b, o' + o, none⟩ = some u from this]
      · simp at h

theorem box_cells (inv : Inv w0 M0 g st a w) {b : Nat} {cs : List C} (h : st.bx[b]? = some cs) : ∃ blk, g.β[b]? = some blk ∧ CellsAt g w cs blk 0 := by
  obtain ⟨blk, us, T, h1, h2, h3⟩ := inv.rel.boxes b cs h
  refine ⟨blk, h1, fun j c hc => ?_⟩
  obtain ⟨u, hu, hr⟩ := h3.get j c hc
  exact ⟨u, by simp [memOf, World.cell?, h2]; rw [← hu]; simp, hr⟩
theorem enc_cells {e : CL} {M : Mem} {b o : Nat} {y : e.den} (hM : ∀ j u, M b (o + j) = some u → memOf w b (o + j) = some u) (h : e.sees M g.M b o y) : CellsAt g w (mapL (fun v => ⟨.ro, v⟩) (e.enc y)) b o := by
  intro j c hc
  rw [mapL_get] at hc
  cases hx : (e.enc y)[j]? with
  | none => simp [hx] at hc
  | some x =>
    simp [hx] at hc
    subst hc
    obtain ⟨u, hu, hr⟩ := CL.sees_enc e (w := w) h j x hx
    exact ⟨u, hM j u hu, hr⟩

theorem nth_some {e : CL} {xs : List e.den} {i : Nat} {y : e.den} (h : xs[i]? = some y) : nth e xs i = y := by simp [nth, List.getD, h]

/-- The cells behind an element's address. -/
theorem ea_cells (inv : Inv w0 M0 g st a w) {t : Tag} {e : CL} {xs : List e.den} {i o : Nat} {u : Value} (h : RelC g w ⟨t, .ea e xs i o⟩ u) :
    ∃ b o', u = .pointer (some ⟨b, o' + o, none⟩) ∧ CellsAt g w (mapL (fun v => ⟨.ro, v⟩) (e.enc (nth e xs i))) b o' := by
  cases t with
  | ro =>
    obtain ⟨y, b, o', h1, h2, h3⟩ := h
    rw [nth_some h1]
    exact ⟨b, o', h2, enc_cells (fun j u hu => (inv.ok.mem _ _ _ hu).1) h3⟩
  | own gr s =>
    obtain ⟨y, b, o', n, h1, h2, h3, h4, h5, h6, h7⟩ := h
    rw [nth_some h1]
    exact ⟨b, o', h3, enc_cells (fun j u hu => hu) h7⟩

theorem loadK_sound {P : Program} {T : TypeId} {c : C} {k : KO} {r : Res} {x : Value} (inv : Inv w0 M0 g st a w) (hx : RelC g w c x) (h : loadK P T c st k = some r) :
    OpGood P w0 M0 a w k r (Instr.loadAt T x) := by
  obtain ⟨t, av⟩ := c
  unfold loadK at h
  split at h
  · rename_i b o hav
    simp at hav
    subst hav
    split at h
    · simp at h
    · rename_i cs hcs
      split at h
      · rename_i s hs
        obtain ⟨blk, h1, h2⟩ := box_cells inv hcs
        have hx' : ∃ blk, g.β[b]? = some blk ∧ x = .pointer (some ⟨blk, o, none⟩) := by cases t <;> exact hx
        obtain ⟨blk', h3, rfl⟩ := hx'
        rw [h1] at h3
        obtain rfl := Option.some.inj h3
        obtain ⟨u, hu, hr⟩ := load_sound hs h2
        rw [Nat.zero_add] at hu
        exact ⟨.s s, st, g, u, w, h, inv, hr, hu⟩
      · simp at h
  · rename_i e xs i o hav
    simp at hav
    subst hav
    split at h
    · rename_i s hs
      obtain ⟨b, o', rfl, hc⟩ := ea_cells inv hx
      obtain ⟨u, hu, hr⟩ := load_sound hs hc
      exact ⟨.s s, st, g, u, w, h, inv, hr, hu⟩
    · simp at h
  · simp at h
end
end Go.Proofs.Ythiaaaedfidnjaa.Am

namespace Go.Proofs.Ythiaaaedfidnjaa.Am
open Go Go.RowKit
section
variable {w0 : Base} {M0 : Mem} {g : G} {st : St} {a : Act} {w : World}

theorem Inv.adopt : ∀ {cs : List C} {b o : Nat} {g : G} {st : St}, Inv w0 M0 g st a w → ∃ g', Inv w0 M0 g' (adopt b o cs st) a w ∧ g'.β = g.β
  | [], b, o, g, st, h => ⟨g, h, rfl⟩
  | ⟨.ro, av⟩ :: r, b, o, g, st, h => Inv.adopt (cs := r) (b := b) (o := o + 1) h
  | ⟨.own gr s, av⟩ :: r, b, o, g, st, h => by
    have h1 := h.relinq (grpB b o)
    have h2 := h1.ren gr (grpB b o) (by simp [G.relinq])
    obtain ⟨g', h3, h4⟩ := Inv.adopt (cs := r) (b := b) (o := o + 1) h2
    exact ⟨g', h3, h4⟩

/-- A store into a box. -/
theorem Inv.storeBox (inv : Inv w0 M0 g st a w) {b blk o : Nat} {cs vs : List C} {us : List Value} (hcs : st.bx[b]? = some cs) (hblk : g.β[b]? = some blk) (hv : All2 (RelC g w) vs us) :
    Inv w0 M0 g ⟨st.sl, st.bx.set b (setCells cs o vs)⟩ a (w.setCells blk o us) := by
  have hmem : blk ∈ g.β := List.mem_of_getElem? hblk
  have hω : ∀ r k, g.ω r = some k → (w.setCells blk o us).heap[k]? = w.heap[k]? := fun r k hk => setCells_heap_other us w blk o k (fun e => inv.ok.obox r k hk (e ▸ hmem))
  have hC : ∀ c u, RelC g w c u → RelC g (w.setCells blk o us) c u := fun c u hc => hc.mono (Mem.le_refl _) (fun _ _ h => h) (fun _ _ h => h) hω
  refine ⟨⟨inv.ok.le, inv.ok.old, fun b' o' u hu => ?_, inv.ok.bdist, inv.ok.odist, inv.ok.obox, fun k hk => ?_, fun r k hk => ?_, ?_, inv.ok.pre⟩, ⟨inv.rel.slots.mono fun _ _ h => RelS.mono hC h, fun b' cs' hcs' => ?_, ?_⟩, inv.defs⟩
  · obtain ⟨h1, h2, h3⟩ := inv.ok.mem b' o' u hu
    exact ⟨by rw [memOf_of_heap (setCells_heap_other us w blk o b' (fun e => h2 (e ▸ hmem)))]; exact h1, h2, h3⟩
  · have := inv.ok.newb k hk
    rw [setCells_size]; exact this
  · have := inv.ok.newo r k hk
    rw [setCells_size]; exact this
  · exact setCells_below us o inv.ok.frame (inv.ok.newb _ hmem).1
  · simp only [List.getElem?_set] at hcs'
    split at hcs'
    · rename_i hb
      subst hb
      split at hcs'
      · simp at hcs'
        subst hcs'
        obtain ⟨blk', us', T, h1, h2, h3⟩ := inv.rel.boxes b cs hcs
        rw [hblk] at h1
        obtain rfl := Option.some.inj h1
        exact ⟨blk, arrSet us' o us, T, hblk, setCells_heap us w blk o us' T _ h2, All2.arrSet o (h3.mono hC) (hv.mono hC)⟩
      · simp at hcs'
    · rename_i hb
      obtain ⟨blk', us', T, h1, h2, h3⟩ := inv.rel.boxes b' cs' hcs'
      refine ⟨blk', us', T, h1, ?_, h3.mono hC⟩
      rw [setCells_heap_other us w blk o blk' (fun e => hb (inv.ok.bdist b b' blk hblk (e ▸ h1)))]
      exact h2
  · simp [inv.rel.blen]

theorem storeVar_run {P : Program} {T : TypeId} {i : TypeInfo} {b o : Nat} {v : Value} (hi : P.info? T = some i) (hs : v.cells.toList.length = i.size) (h1 : ∀ u ∈ v.cells.toList, u.oneCell' = true)
    (hc : ∀ j, j < v.cells.toList.length → (w.cell? ⟨b, o + j, none⟩).isSome = true) (hf : ∀ j, j < v.cells.toList.length → w.frozen? ⟨b, o + j, none⟩ = false) :
    (Instr.storeAt T (.pointer (some ⟨b, o, none⟩)) v).run P w = .ok () (w.setCells b o v.cells.toList) := by
  have hst := run_storeCells_cells (P := P) b o v.cells.toList 0 w (by simpa using hc) (by simpa using hf) h1
  simp only [Nat.add_zero] at hst
  have hs' : v.cells.size = i.size := by simpa using hs
  simp [Instr.storeAt, Instr.sureAddr, storeVar, sizeOf, typeInfo, hi, hs', hst]

theorem All2.one {g : G} {w : World} : ∀ {cs : List C} {us : List Value}, All2 (RelC g w) cs us → ∀ u ∈ us, u.oneCell' = true
  | [], [], _, u, hu => by simp at hu
  | c :: cs, v :: us, h, u, hu => by
    simp at hu
    rcases hu with rfl | hu
    · exact h.1.one
    · exact All2.one h.2 u hu
  | [], _ :: _, h, _, _ => h.elim
  | _ :: _, [], h, _, _ => h.elim

theorem relinqAll_inv : ∀ (gs : List Nat) {g : G} {st : St}, Inv w0 M0 g st a w → ∃ g', Inv w0 M0 g' (relinqAll gs st) a w ∧ g'.β = g.β ∧ g.M.le g'.M ∧
    (∀ r, r ∈ gs → g'.ω r = none) ∧ (∀ r, r ∉ gs → g'.ω r = g.ω r) ∧ (∀ c u, RelC g w c u → RelC g' w (gs.foldl (fun c g => c.relinq g) c) u) ∧ (∀ r b, g'.ω r = some b → g.ω r = some b)
  | [], g, st, h => ⟨g, h, rfl, Mem.le_refl _, by simp, fun _ _ => rfl, fun _ _ h => h, fun _ _ h => h⟩
  | r :: gs, g, st, h => by
    have h1 := h.relinq r
    obtain ⟨g', h2, h3, h4, h5, h6, h7, h8⟩ := relinqAll_inv gs h1
    refine ⟨g', h2, h3, ?_, ?_, ?_, ?_, ?_⟩
    · refine Mem.le_trans (fun b o u hu => ?_) h4
      have := (h.ok.mem b o u hu).2.2 r
      simp [G.relinq, this, hu]
    · intro x hx
      by_cases hxr : x ∈ gs
      · exact h5 x hxr
      · have : x = r := by simpa [hxr] using hx
        subst this
        rw [h6 x hxr]; simp [G.relinq]
    · intro x hx
      simp at hx
      rw [h6 x hx.2]; simp [G.relinq, hx.1]
    · intro c u hc
      exact h7 _ _ (hc.relinq r fun b o u hu => (h.ok.mem b o u hu).2.2 r)
    · intro x b hx
      have := h8 x b hx
      simp only [G.relinq] at this
      split at this
      · simp at this
      · exact this

theorem foldl_relinq_ro : ∀ (gs : List Nat) (av : AV), gs.foldl (fun c g => C.relinq g c) ⟨.ro, av⟩ = ⟨.ro, av⟩
  | [], _ => rfl
  | r :: gs, av => foldl_relinq_ro gs av
theorem foldl_relinq : ∀ (gs : List Nat) (c : C), (∀ gr s, c.tag = .own gr s → gr ∈ gs) → gs.foldl (fun c g => c.relinq g) c = ⟨.ro, c.av⟩
  | [], ⟨.ro, av⟩, _ => rfl
  | [], ⟨.own gr s, av⟩, h => by simpa using h gr s rfl
  | r :: gs, ⟨.ro, av⟩, _ => foldl_relinq_ro (r :: gs) av
  | r :: gs, ⟨.own gr s, av⟩, h => by
    simp only [List.foldl_cons, C.relinq]
    rcases beq_cases r gr with ⟨hb, he⟩ | ⟨hb, he⟩
    · simp only [hb, cond_true]
      exact foldl_relinq_ro gs av
    · simp only [hb, cond_false]
      exact foldl_relinq gs ⟨.own gr s, av⟩ fun gr' s' e => by
        have := h gr' s' e
        injection e with e1 e2
        subst e1
        simpa [Ne.symm he] using this
theorem mem_groupsC : ∀ {cs : List C} {c : C} {gr : Nat} {s : Option Nat}, c ∈ cs → c.tag = .own gr s → gr ∈ groupsC cs
  | ⟨.ro, _⟩ :: r, c, gr, s, hc, ht => by
    simp at hc
    rcases hc with rfl | hc
    · simp at ht
    · simp only [groupsC]; exact mem_groupsC hc ht
  | ⟨.own _ _, _⟩ :: r, c, gr, s, hc, ht => by
    simp at hc
    simp only [groupsC]
    rcases hc with rfl | hc
    · simp at ht; simp [ht.1]
    · exact List.mem_cons_of_mem _ (mem_groupsC hc ht)
/-- Cells whose groups were all let go. -/
theorem All2.let_go {g g' : G} {w : World} {gs : List Nat} (hg : ∀ c u, RelC g w c u → RelC g' w (gs.foldl (fun c g => C.relinq g c) c) u) :
    ∀ {cs : List C} {us : List Value}, (∀ r, r ∈ groupsC cs → r ∈ gs) → All2 (RelC g w) cs us → All2 (fun c u => RelC g' w ⟨.ro, c.av⟩ u) cs us
  | [], [], _, _ => trivial
  | c :: cs, u :: us, hs, h => by
    refine ⟨?_, All2.let_go hg (fun r hr => hs r (by obtain ⟨t, av⟩ := c; cases t <;> simp [groupsC, hr])) h.2⟩
    have := hg c u h.1
    rwa [foldl_relinq gs c (fun gr s e => hs gr (mem_groupsC (by simp) e))] at this
  | [], _ :: _, _, h => h.elim
  | _ :: _, [], _, h => h.elim
end
end Go.Proofs.Ythiaaaedfidnjaa.Am

namespace Go.Proofs.Ythiaaaedfidnjaa.Am
open Go Go.RowKit
section
variable {w0 : Base} {M0 : Mem} {g : G} {st : St} {a : Act} {w : World}

theorem memN_iff : ∀ {n : Nat} {l : List Nat}, memN n l = true ↔ n ∈ l
  | n, [] => by simp [memN]
  | n, m :: r => by simp [memN, memN_iff (n := n) (l := r)]
theorem memN_false {n : Nat} {l : List Nat} (h : memN n l = false) : n ∉ l := fun hm => by rw [memN_iff.2 hm] at h; simp at h
theorem foldl_relinq_other : ∀ (gs : List Nat) (gr : Nat) (s : Option Nat) (av : AV), gr ∉ gs → gs.foldl (fun c g => C.relinq g c) ⟨.own gr s, av⟩ = ⟨.own gr s, av⟩
  | [], _, _, _, _ => rfl
  | r :: gs, gr, s, av, h => by
    simp at h
    simp only [List.foldl_cons, C.relinq]
    rcases beq_cases r gr with ⟨hb, he⟩ | ⟨hb, he⟩
    · exact (h.1 he.symm).elim
    · simp only [hb, cond_false]
      exact foldl_relinq_other gs gr s av h.2

theorem OwnB.setCells {b n : Nat} (b' o : Nat) (vs : List Value) (h : OwnB w b n) : OwnB (w.setCells b' o vs) b n := by
  obtain ⟨cs, T, fr, h1, h2, h3⟩ := h
  by_cases hb : b = b'
  · subst hb
    exact ⟨arrSet cs o vs, T, fr, setCells_heap vs w b o cs T fr h1, by rw [arrSet_size]; exact h2, h3⟩
  · exact OwnB.of_heap (setCells_heap_other vs w b' o b hb) ⟨cs, T, fr, h1, h2, h3⟩
theorem OwnB.cell {b n o : Nat} (h : OwnB w b n) (ho : o < n) : (w.cell? ⟨b, o, none⟩).isSome = true := by
  obtain ⟨cs, T, fr, h1, h2, h3⟩ := h
  simp [World.cell?, h1]; omega
theorem OwnB.frozen {b n o : Nat} (h : OwnB w b n) (ho : o < n) : w.frozen? ⟨b, o, none⟩ = false := by
  obtain ⟨cs, T, fr, h1, h2, h3⟩ := h
  unfold World.frozen?
  rw [show w.heap[({ block := b, off := o } : Addr).block]? = some (.cells cs T fr) from h1]
  rcases h3 with rfl | rfl
  · simp
  · simp; omega

theorem memOf_set_out {b o p : Nat} {vs : List Value} (h : p < o ∨ o + vs.length ≤ p) : memOf (w.setCells b o vs) b p = memOf w b p :=
  World.cell?_setCells_out b vs o w ⟨b, p, none⟩ fun _ _ => h
theorem memOf_set_in {b n o j : Nat} {vs : List Value} {u : Value} (h : OwnB w b n) (hn : o + vs.length ≤ n) (hj : vs[j]? = some u) : memOf (w.setCells b o vs) b (o + j) = some u := by
  have hl : j < vs.length := by
    rcases Nat.lt_or_ge j vs.length with h | h
    · exact h
    · simp [List.getElem?_eq_none h] at hj
  have := World.cell?_setCells_in b vs o w (fun k hk => h.cell (by omega)) j hl
  unfold memOf
  rw [this]
  rw [List.getElem?_eq_getElem hl] at hj
  exact hj

/-- A store into an array of the frame's own. -/
theorem Inv.setOwn {f : C → C} {gr b p : Nat} {vs : List Value} (inv : Inv w0 M0 g st a w) (hb : g.ω gr = some b) (hf : ∀ c u, RelC g w c u → RelC g (w.setCells b p vs) (f c) u) :
    Inv w0 M0 g (st.map f) a (w.setCells b p vs) := by
  have hβ : ∀ k ∈ g.β, (w.setCells b p vs).heap[k]? = w.heap[k]? := fun k hk => setCells_heap_other vs w b p k (fun e => inv.ok.obox gr b hb (e ▸ hk))
  refine ⟨⟨inv.ok.le, inv.ok.old, fun b' o' u hu => ?_, inv.ok.bdist, inv.ok.odist, inv.ok.obox, fun k hk => ?_, fun r k hk => ?_, ?_, inv.ok.pre⟩, inv.rel.map hf rfl hβ, inv.defs⟩
  · obtain ⟨h1, h2, h3⟩ := inv.ok.mem b' o' u hu
    exact ⟨by rw [memOf_of_heap (setCells_heap_other vs w b p b' (fun e => h3 gr (e ▸ hb)))]; exact h1, h2, h3⟩
  · have := inv.ok.newb k hk
    rw [setCells_size]; exact this
  · have := inv.ok.newo r k hk
    rw [setCells_size]; exact this
  · exact setCells_below vs p inv.ok.frame (inv.ok.newo _ _ hb).1

/-- Of another group, or of none: nothing turns by the store. -/
theorem RelC.set_other {gr b p : Nat} {vs : List Value} {c : C} {u : Value} (ok : GOK w0 M0 g w) (hb : g.ω gr = some b) (hc : ∀ s, c.tag ≠ .own gr s) (h : RelC g w c u) : RelC g (w.setCells b p vs) c u := by
  obtain ⟨t, av⟩ := c
  cases t with
  | ro => exact RelC.roTo (Mem.le_refl g.M) rfl h
  | own gr' s =>
    have hne : gr' ≠ gr := fun e => hc s (by rw [e])
    have h1 : RelC (g.drop gr) w ⟨.own gr' s, av⟩ u := RelC.other (Mem.le_refl g.M) rfl (by simp [G.drop, hne]) h
    have h2 : RelC (g.drop gr) (w.setCells b p vs) ⟨.own gr' s, av⟩ u := h1.mono (Mem.le_refl _) (fun _ _ h => h) (fun _ _ h => h) fun r k hk => by
      simp only [G.drop] at hk
      split at hk
      · simp at hk
      · rename_i hr
        exact setCells_heap_other vs w b p k (fun e => hr (ok.odist _ _ _ (e ▸ hk) hb))
    exact RelC.other (g := g.drop gr) (Mem.le_refl g.M) rfl (by simp [G.drop, hne]) h2

theorem mul_apart {i j s t : Nat} (h : j ≠ i) (ht : t < s) : j * s + t < i * s ∨ i * s + s ≤ j * s + t := by
  rcases Nat.lt_or_gt_of_ne h with h | h
  · have := Nat.mul_le_mul_right s (show j + 1 ≤ i from h)
    rw [Nat.add_mul] at this
    omega
  · have := Nat.mul_le_mul_right s (show i + 1 ≤ j from h)
    rw [Nat.add_mul] at this
    omega

/-- An element that a store beside it leaves alone. -/
theorem sees_apart {e : CL} {b q p : Nat} {vs : List Value} {y : e.den} (h : e.sees (memOf w) g.M b q y) (hap : ∀ t, t < e.size → q + t < p ∨ p + vs.length ≤ q + t) : e.sees (memOf (w.setCells b p vs)) g.M b q y :=
  CL.sees_shift e (Mem.le_refl _) (fun j hj u hu => by rw [memOf_set_out (hap j hj)]; exact hu) h

/-- A member of the group behind the store of element i. -/
theorem RelC.onSet {gr b p i : Nat} {vs : List Value} {e : CL} {y : e.den} {c : C} {u : Value} (ok : GOK w0 M0 g w) (hb : g.ω gr = some b)
    (hp : i * e.size ≤ p) (hq : p + vs.length ≤ i * e.size + e.size) (hy : e.sees (memOf (w.setCells b p vs)) g.M b (i * e.size) y) (h : RelC g w c u) :
    RelC g (w.setCells b p vs) (C.onGroup gr e (fun l => l.set i y) c) u := by
  have hel : ∀ {xs : List e.den} {j : Nat} {z : e.den}, (∀ z, xs[j]? = some z → e.sees (memOf w) g.M b (j * e.size) z) → (xs.set i y)[j]? = some z → e.sees (memOf (w.setCells b p vs)) g.M b (j * e.size) z := by
    intro xs j z hs hz
    rw [List.getElem?_set] at hz
    split at hz
    · rename_i hij
      subst hij
      split at hz
      · simp at hz; subst hz; exact hy
      · simp at hz
    · rename_i hij
      refine sees_apart (hs z hz) fun t ht => ?_
      rcases mul_apart (Ne.symm hij) ht with h | h <;> omega
  obtain ⟨t, av⟩ := c
  cases t with
  | ro => exact RelC.roTo (Mem.le_refl g.M) rfl h
  | own gr' s =>
    rcases beq_cases gr gr' with ⟨hbq, he⟩ | ⟨hbq, he⟩
    · subst he
      cases s with
      | some l =>
        have : C.onGroup gr e (fun l => l.set i y) ⟨.own gr (some l), av⟩ = ⟨.ro, .junk⟩ := by cases av <;> simp [C.onGroup, hbq]
        rw [this]
        exact h.one
      | none =>
        cases av with
        | sl e' nl xs =>
          simp only [C.onGroup, hbq, cond_true]
          split
          · rename_i hee
            have := CL.beq_eq hee
            subst this
            rcases h with ⟨h0, h1, h2⟩ | ⟨h0, b', o, cap, n, h1, h2, h3, h4, h5, h6, h7, h8⟩
            · subst h1
              exact .inl ⟨h0, by simp [castL], h2⟩
            · rw [hb] at h1
              obtain rfl := Option.some.inj h1
              obtain rfl := h6 rfl
              refine .inr ⟨h0, b, 0, cap, n, hb, by simpa [castL] using h2, by simpa [castL] using h3, h4.setCells _ _ _, h5, fun _ => rfl, fun l hl => by simp at hl, fun j z hz => ?_⟩
              rw [Nat.zero_add]
              exact hel (fun z hz => by have := h8 j z hz; rwa [Nat.zero_add] at this) hz
          · exact h.one
        | ea e' xs j o =>
          simp only [C.onGroup, hbq, cond_true]
          split
          · rename_i hee
            have := CL.beq_eq hee
            subst this
            obtain ⟨z, b', o', n, h1, h2, h3, h4, h5, h6, h7⟩ := h
            rw [hb] at h2
            obtain rfl := Option.some.inj h2
            obtain rfl := h6 rfl
            have hlt : j < xs.length := by
              rcases Nat.lt_or_ge j xs.length with h | h
              · exact h
              · simp [List.getElem?_eq_none h] at h1
            have hz2 : ∃ z2, (xs.set i y)[j]? = some z2 := ⟨_, List.getElem?_eq_getElem (by simpa using hlt)⟩
            obtain ⟨z2, hz2⟩ := hz2
            exact ⟨z2, b, j * e'.size, n, by simpa [castL] using hz2, hb, h3, h4.setCells _ _ _, h5, fun _ => rfl, hel (fun z' hz' => by rw [h1] at hz'; obtain rfl := Option.some.inj hz'; exact h7) hz2⟩
          · exact h.one
        | v x =>
          have : C.onGroup gr e (fun l => l.set i y) ⟨.own gr none, .v x⟩ = ⟨.ro, .junk⟩ := by simp [C.onGroup, hbq]
          rw [this]; exact h.one
        | slf e' xs =>
          have : C.onGroup gr e (fun l => l.set i y) ⟨.own gr none, .slf e' xs⟩ = ⟨.ro, .junk⟩ := by simp [C.onGroup, hbq]
          rw [this]; exact h.one
        | nilv =>
          have : C.onGroup gr e (fun l => l.set i y) ⟨.own gr none, .nilv⟩ = ⟨.ro, .junk⟩ := by simp [C.onGroup, hbq]
          rw [this]; exact h.one
        | ptr b o =>
          have : C.onGroup gr e (fun l => l.set i y) ⟨.own gr none, .ptr b o⟩ = ⟨.ro, .junk⟩ := by simp [C.onGroup, hbq]
          rw [this]; exact h.one
        | fn f cs =>
          have : C.onGroup gr e (fun l => l.set i y) ⟨.own gr none, .fn f cs⟩ = ⟨.ro, .junk⟩ := by simp [C.onGroup, hbq]
          rw [this]; exact h.one
        | junk =>
          have : C.onGroup gr e (fun l => l.set i y) ⟨.own gr none, .junk⟩ = ⟨.ro, .junk⟩ := by simp [C.onGroup, hbq]
          rw [this]; exact h.one
    · have : C.onGroup gr e (fun l => l.set i y) ⟨.own gr' s, av⟩ = ⟨.own gr' s, av⟩ := by cases s <;> cases av <;> simp [C.onGroup, hbq]
      rw [this]
      exact RelC.set_other ok hb (fun s' e => by simp at e; exact he e.1.symm) h
end
end Go.Proofs.Ythiaaaedfidnjaa.Am

namespace Go.Proofs.Ythiaaaedfidnjaa.Am
open Go Go.RowKit
section
variable {w0 : Base} {M0 : Mem} {g : G} {st : St} {a : Act} {w : World}

theorem groupsC_tag {cs : List C} {r : Nat} : r ∈ groupsC cs → True := fun _ => trivial

theorem storeK_sound {P : Program} {T : TypeId} {c : C} {s : S1} {k : KO} {r : Res} {x v : Value} (inv : Inv w0 M0 g st a w) (hx : RelC g w c x) (hv : RelS1 g w s v) (h : storeK P T c s st k = some r) :
    UnGood P w0 M0 a w k r (Instr.storeAt T x v) := by
  unfold storeK at h
  split at h
  · simp at h
  · rename_i inf hinf
    have hlen := (bifn_some h).1
    replace h := (bifn_some h).2
    have hvc := S1.rel_cells hv
    have hsz : v.cells.toList.length = inf.size := by rw [← hvc.length]; simpa using hlen
    have hlen' : s.cells.length = inf.size := by simpa using hlen
    have hlv : v.cells.toList.length = s.cells.length := hvc.length.symm
    split at h
    · rename_i t b o
      split at h
      · simp at h
      · rename_i cs hcs
        have hble := (bif_some h).1
        replace h := (bif_some h).2
        have hx' : ∃ blk, g.β[b]? = some blk ∧ x = .pointer (some ⟨blk, o, none⟩) := by cases t <;> exact hx
        obtain ⟨blk, hblk, rfl⟩ := hx'
        obtain ⟨blk', us, Tb, h1, h2, h3⟩ := inv.rel.boxes b cs hcs
        rw [hblk] at h1
        obtain rfl := Option.some.inj h1
        have hfit : o + s.cells.length ≤ us.size := by
          have := h3.length
          simp at this
          have := Nat.le_of_ble_eq_true hble
          omega
        have hrun := storeVar_run (P := P) (w := w) (b := blk) (o := o) hinf hsz hvc.one (fun j hj => by simp [World.cell?, h2]; omega) (fun j hj => by simp [World.frozen?, h2])
        have inv1 := inv.storeBox (o := o) hcs hblk hvc
        obtain ⟨g', inv2, _⟩ := inv1.adopt (cs := s.cells) (b := b) (o := o)
        exact ⟨_, g', _, h, inv2, hrun⟩
    · rename_i gr e xs i o
      have hng := (bifn_some h).1
      replace h := (bifn_some h).2
      simp at hng
      split at h
      · rename_i y hy
        obtain ⟨g', inv1, hβ, hM, h5, h6, h7, h8⟩ := relinqAll_inv (groupsC s.cells) inv
        have hx1 := h7 _ _ hx
        rw [foldl_relinq_other _ _ _ _ (memN_false hng.1)] at hx1
        obtain ⟨z, b, o', n, q1, q2, rfl, q4, q5, q6, q7⟩ := hx1
        obtain rfl := q6 rfl
        have hvr : All2 (fun c u => RelC g' w ⟨.ro, c.av⟩ u) s.cells v.cells.toList := All2.let_go h7 (fun _ h => h) hvc
        rw [nth_some q1] at hy
        have hrun := storeVar_run (P := P) (w := w) (b := b) (o := i * e.size + o) hinf hsz hvc.one
        have hos : o + s.cells.length ≤ e.size := hng.2
        have hfit : (i * e.size + o) + v.cells.toList.length ≤ n := by omega
        have hrun := hrun (fun j hj => q4.cell (by omega)) (fun j hj => q4.frozen (by omega))
        have hel : (e.enc z).length = e.size := CL.enc_length e z
        have hsee : e.sees (memOf (w.setCells b (i * e.size + o) v.cells.toList)) g'.M b (i * e.size) y := by
          refine (CL.sees_dec e (g := g') (w := w) hy fun j av hj hjs => ?_).1
          rcases Nat.lt_or_ge j (o + s.cells.length) with h1 | h1
          · rw [List.getElem?_append_left (by simp [avs_length]; omega)] at hj
            rcases Nat.lt_or_ge j o with h2 | h2
            · rw [List.getElem?_append_left (by simp; omega), List.getElem?_take, if_pos h2] at hj
              obtain ⟨u, hu, hr⟩ := CL.sees_enc e (w := w) q7 j av hj
              exact ⟨u, by rw [memOf_set_out (by omega)]; exact hu, hr⟩
            · rw [List.getElem?_append_right (by simp; omega)] at hj
              have e1 : (List.take o (e.enc z)).length = o := by simp; omega
              rw [e1, avs_get] at hj
              cases hc : s.cells[j - o]? with
              | none => simp [hc] at hj
              | some c =>
                simp [hc] at hj
                subst hj
                obtain ⟨u, hu, hr⟩ := hvr.get (j - o) c hc
                refine ⟨u, ?_, hr⟩
                have := memOf_set_in (o := i * e.size + o) q4 hfit hu
                rwa [show i * e.size + o + (j - o) = i * e.size + j by omega] at this
          · rw [List.getElem?_append_right (by simp [avs_length]; omega), List.getElem?_drop] at hj
            have e1 : (List.take o (e.enc z) ++ avs s.cells).length = o + s.cells.length := by simp [avs_length]; omega
            rw [e1, show o + s.cells.length + (j - (o + s.cells.length)) = j by omega] at hj
            obtain ⟨u, hu, hr⟩ := CL.sees_enc e (w := w) q7 j av hj
            exact ⟨u, by rw [memOf_set_out (by omega)]; exact hu, hr⟩
        have inv2 := inv1.setOwn (f := C.onGroup gr e fun l => l.set i y) (p := i * e.size + o) (vs := v.cells.toList) q2
          fun c u hc => hc.onSet inv1.ok q2 (by omega) (by omega) hsee
        exact ⟨_, g', _, h, inv2, hrun⟩
      · simp at h
    · simp at h

/-! ## new boxes -/
theorem Inv.newBox (inv : Inv w0 M0 g st a w) {cs : List C} {us : Array Value} {T : TypeId} (hv : All2 (RelC g w) cs us.toList) :
    Inv w0 M0 { g with β := g.β ++ [w.heap.size] } ⟨st.sl, st.bx ++ [cs]⟩ a (w.alloc (.cells us T)) := by
  have hk : Below w.heap.size w (w.alloc (.cells us T)) := (Below.refl _ _).alloc (Nat.le_refl _) _
  have inv1 := inv.grow hk
  have hβ : ∀ (i b : Nat), g.β[i]? = some b → (g.β ++ [w.heap.size])[i]? = some b := fun i b h => by
    rw [List.getElem?_append_left]
    · exact h
    · rcases Nat.lt_or_ge i g.β.length with h' | h'
      · exact h'
      · simp [List.getElem?_eq_none h'] at h
  have hC : ∀ c u, RelC g w c u → RelC { g with β := g.β ++ [w.heap.size] } (w.alloc (.cells us T)) c u := fun c u hc =>
    hc.mono (g := g) (Mem.le_refl g.M) hβ (fun _ _ h => h) fun r b hb => hk.block b (inv.ok.newo r b hb).2
  have hsz : (w.alloc (.cells us T)).heap.size = w.heap.size + 1 := by simp
  have hnew : ∀ b ∈ g.β, b ≠ w.heap.size := fun b hb => by have := (inv.ok.newb b hb).2; omega
  refine ⟨⟨inv.ok.le, inv.ok.old, fun b o u hu => ?_, fun i j b hi hj => ?_, inv.ok.odist, fun r b hb => ?_, fun b hb => ?_, inv1.ok.newo, inv1.ok.frame, (by obtain ⟨t, ht⟩ := inv1.ok.pre; exact ⟨t ++ [w.heap.size], by show g.β ++ _ = _; rw [ht, List.append_assoc]⟩)⟩, ⟨inv.rel.slots.mono fun _ _ h => RelS.mono hC h, fun b cs' hb => ?_, ?_⟩, inv.defs⟩
  · obtain ⟨h1, h2, h3⟩ := inv1.ok.mem b o u hu
    refine ⟨h1, ?_, h3⟩
    simp only [List.mem_append, List.mem_singleton]
    rintro (h | h)
    · exact h2 h
    · have := mem_lt inv.ok hu; omega
  · rw [List.getElem?_append] at hi hj
    split at hi <;> split at hj
    · exact inv.ok.bdist i j b hi hj
    · rename_i _ hj2
      have : b = w.heap.size := by
        rcases Nat.lt_or_ge (j - g.β.length) 1 with h | h
        · rw [show j - g.β.length = 0 by omega] at hj; simp at hj; exact hj.symm
        · simp [List.getElem?_eq_none (show [w.heap.size].length ≤ j - g.β.length by simpa using h)] at hj
      exact (hnew b (List.mem_of_getElem? hi) this).elim
    · have : b = w.heap.size := by
        rcases Nat.lt_or_ge (i - g.β.length) 1 with h | h
        · rw [show i - g.β.length = 0 by omega] at hi; simp at hi; exact hi.symm
        · simp [List.getElem?_eq_none (show [w.heap.size].length ≤ i - g.β.length by simpa using h)] at hi
      exact (hnew b (List.mem_of_getElem? hj) this).elim
    · have h1 : i - g.β.length < 1 := by
        rcases Nat.lt_or_ge (i - g.β.length) 1 with h | h
        · exact h
        · simp [List.getElem?_eq_none (show [w.heap.size].length ≤ i - g.β.length by simpa using h)] at hi
      have h2 : j - g.β.length < 1 := by
        rcases Nat.lt_or_ge (j - g.β.length) 1 with h | h
        · exact h
        · simp [List.getElem?_eq_none (show [w.heap.size].length ≤ j - g.β.length by simpa using h)] at hj
      omega
  · simp only [List.mem_append, List.mem_singleton]
    rintro (h | h)
    · exact inv.ok.obox r b hb h
    · have := (inv.ok.newo r b hb).2; omega
  · simp only [List.mem_append, List.mem_singleton] at hb
    rcases hb with hb | hb
    · exact inv1.ok.newb b hb
    · subst hb
      exact ⟨.inl inv.ok.frame.size, by omega⟩
  · rw [List.getElem?_append] at hb
    split at hb
    · obtain ⟨blk, us', T', h1, h2, h3⟩ := inv.rel.boxes b cs' hb
      refine ⟨blk, us', T', hβ _ _ h1, ?_, h3.mono hC⟩
      rw [hk.block blk (inv.ok.newb blk (List.mem_of_getElem? h1)).2]; exact h2
    · have h0 : b = st.bx.length := by
        rcases Nat.lt_or_ge (b - st.bx.length) 1 with h | h
        · omega
        · simp [List.getElem?_eq_none (show [cs].length ≤ b - st.bx.length by simpa using h)] at hb
      subst h0
      simp at hb
      subst hb
      refine ⟨w.heap.size, us, T, by rw [← inv.rel.blen]; simp, ?_, hv.mono hC⟩
      show (w.heap.push _)[w.heap.size]? = _
      simp
  · simp [inv.rel.blen]
theorem ptr_rel (inv : Inv w0 M0 g st a w) {w' : World} : RelS { g with β := g.β ++ [w.heap.size] } w' (.s (.c ⟨.ro, .ptr st.bx.length 0⟩)) (.pointer (some ⟨w.heap.size, 0, none⟩)) :=
  ⟨w.heap.size, by rw [← inv.rel.blen]; simp, rfl⟩
theorem adopt_rel_ptr {g' : G} {c : C} {u : Value} {b o : Nat} (hβ : g'.β = g.β) (h : RelC g w ⟨.ro, .ptr b o⟩ u) : RelC g' w ⟨.ro, .ptr b o⟩ u := by
  obtain ⟨k, h1, h2⟩ := h
  exact ⟨k, by rw [hβ]; exact h1, h2⟩
end
end Go.Proofs.Ythiaaaedfidnjaa.Am
