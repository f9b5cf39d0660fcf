/- The heads of HeadMost: their bytes, and what is read of them. -/
import Derived.Test.YtmdhlmcoegghjaaAmC
import Derived.Test.YtmdhlmcoegghjaaHd0
import Derived.ProofKit
namespace Go.Proofs.Ytmdhlmcoegghjaa.Hd
open Go Go.RowKit Go.Proofs.Ytmdhlmcoegghjaa.Am
set_option maxRecDepth 100000
def l0 : List Int := [84, 71, 88, 49, 0, 0, 0, 0, 1, 0, 0, 0, 7, 0, 0, 0, 9, 0, 0, 0, 200, 244, 115, 66]
theorem put0 : call (V []) 40 11 [.agg [vC (.int .u64 4294967296), vC (.int .i64 7), vC (.int .i64 9)]] = some (.s (.c ⟨.own 800 none, .sl (.int .u8) false [84, 71, 88, 49, 0, 0, 0, 0, 1, 0, 0, 0, 7, 0, 0, 0, 9, 0, 0, 0, 200, 244, 115, 66]⟩), []) := by kernel_rfl
theorem read0 : call (V []) 40 19 [.c ⟨.ro, .sl (.int .u8) false [84, 71, 88, 49, 0, 0, 0, 0, 1, 0, 0, 0, 7, 0, 0, 0, 9, 0, 0, 0, 200, 244, 115, 66]⟩] = some (.tup [.agg [vC (.int .u64 4294967296), vC (.int .i64 7), vC (.int .i64 9)], .c (vC (.int .i64 0))], []) := by kernel_rfl
def l1 : List Int := [84, 71, 88, 49, 5, 0, 0, 0, 0, 0, 0, 0, 0, 0, 16, 0, 9, 0, 0, 0, 51, 110, 156, 170]
theorem put1 : call (V []) 40 11 [.agg [vC (.int .u64 5), vC (.int .i64 1048576), vC (.int .i64 9)]] = some (.s (.c ⟨.own 800 none, .sl (.int .u8) false [84, 71, 88, 49, 5, 0, 0, 0, 0, 0, 0, 0, 0, 0, 16, 0, 9, 0, 0, 0, 51, 110, 156, 170]⟩), []) := by kernel_rfl
theorem read1 : call (V []) 40 19 [.c ⟨.ro, .sl (.int .u8) false [84, 71, 88, 49, 5, 0, 0, 0, 0, 0, 0, 0, 0, 0, 16, 0, 9, 0, 0, 0, 51, 110, 156, 170]⟩] = some (.tup [.agg [vC (.int .u64 5), vC (.int .i64 1048576), vC (.int .i64 9)], .c (vC (.int .i64 0))], []) := by kernel_rfl
def l2 : List Int := [84, 71, 88, 49, 5, 0, 0, 0, 0, 0, 0, 0, 1, 0, 0, 0, 9, 0, 0, 0, 54, 108, 224, 101]
theorem put2 : call (V []) 40 11 [.agg [vC (.int .u64 5), vC (.int .i64 1), vC (.int .i64 9)]] = some (.s (.c ⟨.own 800 none, .sl (.int .u8) false [84, 71, 88, 49, 5, 0, 0, 0, 0, 0, 0, 0, 1, 0, 0, 0, 9, 0, 0, 0, 54, 108, 224, 101]⟩), []) := by kernel_rfl
theorem read2 : call (V []) 40 19 [.c ⟨.ro, .sl (.int .u8) false [84, 71, 88, 49, 5, 0, 0, 0, 0, 0, 0, 0, 1, 0, 0, 0, 9, 0, 0, 0, 54, 108, 224, 101]⟩] = some (.tup [.agg [vC (.int .u64 5), vC (.int .i64 1), vC (.int .i64 9)], .c (vC (.int .i64 0))], []) := by kernel_rfl
def l3 : List Int := [84, 71, 88, 49, 5, 0, 0, 0, 0, 0, 0, 0, 7, 0, 0, 0, 0, 0, 0, 128, 27, 169, 63, 51]
theorem put3 : call (V []) 40 11 [.agg [vC (.int .u64 5), vC (.int .i64 7), vC (.int .i64 2147483648)]] = some (.s (.c ⟨.own 800 none, .sl (.int .u8) false [84, 71, 88, 49, 5, 0, 0, 0, 0, 0, 0, 0, 7, 0, 0, 0, 0, 0, 0, 128, 27, 169, 63, 51]⟩), []) := by kernel_rfl
theorem read3 : call (V []) 40 19 [.c ⟨.ro, .sl (.int .u8) false [84, 71, 88, 49, 5, 0, 0, 0, 0, 0, 0, 0, 7, 0, 0, 0, 0, 0, 0, 128, 27, 169, 63, 51]⟩] = some (.tup [.agg [vC (.int .u64 5), vC (.int .i64 7), vC (.int .i64 2147483648)], .c (vC (.int .i64 0))], []) := by kernel_rfl
def l4 : List Int := [84, 71, 88, 49, 5, 0, 0, 0, 0, 0, 0, 0, 7, 0, 0, 0, 0, 0, 0, 0, 59, 42, 135, 222]
theorem put4 : call (V []) 40 11 [.agg [vC (.int .u64 5), vC (.int .i64 7), vC (.int .i64 0)]] = some (.s (.c ⟨.own 800 none, .sl (.int .u8) false [84, 71, 88, 49, 5, 0, 0, 0, 0, 0, 0, 0, 7, 0, 0, 0, 0, 0, 0, 0, 59, 42, 135, 222]⟩), []) := by kernel_rfl
theorem read4 : call (V []) 40 19 [.c ⟨.ro, .sl (.int .u8) false [84, 71, 88, 49, 5, 0, 0, 0, 0, 0, 0, 0, 7, 0, 0, 0, 0, 0, 0, 0, 59, 42, 135, 222]⟩] = some (.tup [.agg [vC (.int .u64 5), vC (.int .i64 7), vC (.int .i64 0)], .c (vC (.int .i64 0))], []) := by kernel_rfl
theorem knownE : call (V []) 40 8 [] = some (vS (.bool true), []) := by kernel_rfl
end Go.Proofs.Ytmdhlmcoegghjaa.Hd
