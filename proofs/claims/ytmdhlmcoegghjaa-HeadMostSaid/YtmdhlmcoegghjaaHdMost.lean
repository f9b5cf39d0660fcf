/- HeadMost: what is known of heads' bytes, and the walk. -/
import Derived.Test.YtmdhlmcoegghjaaHdCalc
namespace Go.Proofs.Ytmdhlmcoegghjaa.Hd
open Go Go.RowKit Go.Proofs.Ytmdhlmcoegghjaa.Am
set_option maxRecDepth 100000
def putH (xs : List S1) : Option Res := match xs with
  | [.agg [⟨.ro, .v (.int .u64 n)⟩, ⟨.ro, .v (.int .i64 k)⟩, ⟨.ro, .v (.int .i64 c)⟩]] =>
    if n = 4294967296 ∧ k = 7 ∧ c = 9 then some (.s (.c ⟨.own 800 none, .sl (.int .u8) false [84, 71, 88, 49, 0, 0, 0, 0, 1, 0, 0, 0, 7, 0, 0, 0, 9, 0, 0, 0, 200, 244, 115, 66]⟩), []) else
    if n = 5 ∧ k = 1048576 ∧ c = 9 then some (.s (.c ⟨.own 800 none, .sl (.int .u8) false [84, 71, 88, 49, 5, 0, 0, 0, 0, 0, 0, 0, 0, 0, 16, 0, 9, 0, 0, 0, 51, 110, 156, 170]⟩), []) else
    if n = 5 ∧ k = 1 ∧ c = 9 then some (.s (.c ⟨.own 800 none, .sl (.int .u8) false [84, 71, 88, 49, 5, 0, 0, 0, 0, 0, 0, 0, 1, 0, 0, 0, 9, 0, 0, 0, 54, 108, 224, 101]⟩), []) else
    if n = 5 ∧ k = 7 ∧ c = 2147483648 then some (.s (.c ⟨.own 800 none, .sl (.int .u8) false [84, 71, 88, 49, 5, 0, 0, 0, 0, 0, 0, 0, 7, 0, 0, 0, 0, 0, 0, 128, 27, 169, 63, 51]⟩), []) else
    if n = 5 ∧ k = 7 ∧ c = 0 then some (.s (.c ⟨.own 800 none, .sl (.int .u8) false [84, 71, 88, 49, 5, 0, 0, 0, 0, 0, 0, 0, 7, 0, 0, 0, 0, 0, 0, 0, 59, 42, 135, 222]⟩), []) else
    none
  | _ => none
def readH (ys : List S1) : Option Res := match ys with
  | [.c ⟨.ro, .sl (.int .u8) false xs⟩] =>
    if xs = l0 then some (.tup [.agg [vC (.int .u64 4294967296), vC (.int .i64 7), vC (.int .i64 9)], .c (vC (.int .i64 0))], []) else
    if xs = l1 then some (.tup [.agg [vC (.int .u64 5), vC (.int .i64 1048576), vC (.int .i64 9)], .c (vC (.int .i64 0))], []) else
    if xs = l2 then some (.tup [.agg [vC (.int .u64 5), vC (.int .i64 1), vC (.int .i64 9)], .c (vC (.int .i64 0))], []) else
    if xs = l3 then some (.tup [.agg [vC (.int .u64 5), vC (.int .i64 7), vC (.int .i64 2147483648)], .c (vC (.int .i64 0))], []) else
    if xs = l4 then some (.tup [.agg [vC (.int .u64 5), vC (.int .i64 7), vC (.int .i64 0)], .c (vC (.int .i64 0))], []) else
    none
  | _ => none
def knownH : List S1 → Option Res
  | [] => some (vS (.bool true), [])
  | _ => none
theorem putK (xs : List S1) (r : Res) (h : putH xs = some r) : ∃ n, call (V []) n 11 xs = some r := by
  unfold putH at h
  split at h
  · split at h
    · rename_i hh
      obtain ⟨rfl, rfl, rfl⟩ := hh
      exact ⟨40, h ▸ put0⟩
    split at h
    · rename_i hh
      obtain ⟨rfl, rfl, rfl⟩ := hh
      exact ⟨40, h ▸ put1⟩
    split at h
    · rename_i hh
      obtain ⟨rfl, rfl, rfl⟩ := hh
      exact ⟨40, h ▸ put2⟩
    split at h
    · rename_i hh
      obtain ⟨rfl, rfl, rfl⟩ := hh
      exact ⟨40, h ▸ put3⟩
    split at h
    · rename_i hh
      obtain ⟨rfl, rfl, rfl⟩ := hh
      exact ⟨40, h ▸ put4⟩
    simp at h
  · simp at h
theorem readK (ys : List S1) (r : Res) (h : readH ys = some r) : ∃ n, call (V []) n 19 ys = some r := by
  unfold readH at h
  split at h
  · split at h
    · rename_i hh
      subst hh
      exact ⟨40, h ▸ read0⟩
    split at h
    · rename_i hh
      subst hh
      exact ⟨40, h ▸ read1⟩
    split at h
    · rename_i hh
      subst hh
      exact ⟨40, h ▸ read2⟩
    split at h
    · rename_i hh
      subst hh
      exact ⟨40, h ▸ read3⟩
    split at h
    · rename_i hh
      subst hh
      exact ⟨40, h ▸ read4⟩
    simp at h
  · simp at h
theorem knownK (xs : List S1) (r : Res) (h : knownH xs = some r) : ∃ n, call (V []) n 8 xs = some r := by
  unfold knownH at h
  split at h
  · exact ⟨40, h ▸ knownE⟩
  · simp at h
theorem mix : Go.Proofs.Try.prog.follows .mixedOrders = true := by kernel_rfl
def stubs : Stubs := [(8, knownH), (11, putH), (19, readH)]
theorem stubsOK : StubOK (V stubs) := by
  have h0 : ∀ V' : Env, V'.P = Go.Proofs.Try.prog → V'.stub = Stubs.look [] → StubOK V' := fun V' _ h => stubs_nil h
  have hn : StubOK (V []) := h0 _ rfl rfl
  exact stubs_cons (x := (8, knownH)) (known_of (V := V []) mix hn knownK)
    (stubs_cons (x := (11, putH)) (known_of (V := V []) mix hn putK)
      (stubs_cons (x := (19, readH)) (known_of (V := V []) mix hn readK) h0)) _ rfl rfl
theorem stubsOK1 : StubOK (V [(8, knownH)]) := by
  have h0 : ∀ V' : Env, V'.P = Go.Proofs.Try.prog → V'.stub = Stubs.look [] → StubOK V' := fun V' _ h => stubs_nil h
  exact stubs_cons (x := (8, knownH)) (known_of (V := V []) mix (h0 _ rfl rfl) knownK) h0 _ rfl rfl
theorem mostT (what : Int) : call (V [(8, knownH)]) 40 7 [.c (vC (.int .u8 what)), .c (vC (.bool true))] =
    br (decide (what.tmod 5 = 0)) (some (vS (.bool true), [])) (br (decide (what.tmod 5 = 1)) (some (vS (.bool true), [])) (br (decide (what.tmod 5 = 2)) (some (vS (.bool true), [])) (br (decide (what.tmod 5 = 3)) (some (vS (.bool true), [])) (some (vS (.bool true), []))))) := by kernel_rfl
theorem mostF (what : Int) : call (V stubs) 40 7 [.c (vC (.int .u8 what)), .c (vC (.bool false))] =
    br (decide (what.tmod 5 = 0)) (some (vS (.bool true), [])) (br (decide (what.tmod 5 = 1)) (some (vS (.bool true), [])) (br (decide (what.tmod 5 = 2)) (some (vS (.bool true), [])) (br (decide (what.tmod 5 = 3)) (some (vS (.bool true), [])) (some (vS (.bool true), []))))) := by kernel_rfl
theorem br_same (b : Bool) (x : Option Res) : br b x x = x := by cases b <;> rfl
theorem mostWalk (what : Int) (past : Bool) (w : World) : Calls Go.Proofs.Try.prog 7 #[.int .u8 what, .bool past] w fun e w' => e = .returned (.bool true) ∧ Below w.heap.size w w' := by
  cases past with
  | true => exact law_of (V := V [(8, knownH)]) (bx := []) mix stubsOK1 (M := fun _ _ => none) (fun _ _ _ h => by simp at h) (xs := [.c (vC (.int .u8 what)), .c (vC (.bool true))]) ⟨⟨rfl, rfl⟩, ⟨rfl, rfl⟩, trivial⟩ ((mostT what).trans (by simp only [br_same]))
  | false => exact law_of (V := V stubs) (bx := []) mix stubsOK (M := fun _ _ => none) (fun _ _ _ h => by simp at h) (xs := [.c (vC (.int .u8 what)), .c (vC (.bool false))]) ⟨⟨rfl, rfl⟩, ⟨rfl, rfl⟩, trivial⟩ ((mostF what).trans (by simp only [br_same]))
end Go.Proofs.Ytmdhlmcoegghjaa.Hd
