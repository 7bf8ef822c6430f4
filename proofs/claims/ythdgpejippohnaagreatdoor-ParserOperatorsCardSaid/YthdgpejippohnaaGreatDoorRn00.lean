/-
  Runs of the parser by the evaluator, each at one string; no condition.
-/
import Derived.Test.YthdgpejippohnaaGreatDoorPiR
import Derived.Test.YthdgpejippohnaaGreatDoorPiS
namespace Go.Proofs.YthdgpejippohnaaGreatDoor
namespace Pi
def rv0 : PV := .tup [.agg [.d (.int (.i64) 16), .d (.str []), .d (.str [45]), .d (.str []), .d (.int (.i64) 0), .d (.row []), .d (.row []), .d (.row [[.int (.i64) 16, .str [], .str [45], .str [], .int (.i64) 0, .row [], .row [], .row [[.int (.i64) 3, .str [], .str [97], .str [], .int (.i64) 0, .row [], .row [], .row []], [.int (.i64) 16, .str [], .str [42], .str [], .int (.i64) 0, .row [], .row [], .row [[.int (.i64) 3, .str [], .str [98], .str [], .int (.i64) 0, .row [], .row [], .row []], [.int (.i64) 3, .str [], .str [99], .str [], .int (.i64) 0, .row [], .row [], .row []]]]]], [.int (.i64) 0, .str [], .str [], .str [], .int (.i64) 1, .row [], .row [], .row []]])], .d (.int (.i64) 0), .d (.int (.i64) 0)]
theorem rn0 : resOf (callI K1 400 (.fn 15) [.d (.str [97, 32, 45, 32, 98, 32, 42, 32, 99, 32, 45, 32, 49])] []) = some rv0 := by kernel_rfl
def rv1 : PV := .tup [.agg [.d (.int (.i64) 8), .d (.str []), .d (.str []), .d (.row [[.int (.i64) 10, .str [115], .str [78], .row [[.int (.i64) 4, .str [], .str [], .row [], .row []]], .row []]]), .d (.row [[.str [97], .int (.i64) 6, .str [], .str [], .row [], .row [], .bool false], [.str [98], .int (.i64) 2, .str [], .str [], .row [], .row [], .bool true]])], .d (.int (.i64) 0), .d (.int (.i64) 0)]
theorem rn1 : resOf (callI K1 400 (.fn 12) [.d (.str [102, 110, 40, 98, 63, 58, 32, 105, 110, 116, 44, 32, 97, 58, 32, 123, 125, 41, 32, 115, 58, 58, 78, 91, 116, 101, 120, 116, 93])] []) = some rv1 := by kernel_rfl
def rv2 : PV := .tup [.agg [.d (.str [97, 47, 118, 49]), .d (.row []), .d (.row [[.int (.i64) 1, .str [118], .bool true, .bool false, .str [], .row [], .int (.i64) 0, .str [], .str [], .row [], .row [], .int (.i64) 0, .str [], .str [], .row [], .row [], .int (.i64) 2, .str [], .str [], .row [], .row [], .int (.i64) 0, .str [], .str [], .str [], .int (.i64) 1, .row [], .row [], .row [], .str [], .str []]])], .d (.int (.i64) 0), .d (.int (.i64) 0)]
theorem rn2 : resOf (callI K1 400 (.fn 18) [.d (.str [109, 111, 100, 117, 108, 101, 32, 97, 47, 118, 49, 32, 101, 120, 112, 111, 114, 116, 32, 108, 101, 116, 32, 118, 58, 32, 105, 110, 116, 32, 61, 32, 49])] []) = some rv2 := by kernel_rfl
def rv3 : PV := .tup [.agg [.d (.int (.i64) 0), .d (.str []), .d (.str []), .d (.str []), .d (.int (.i64) 0), .d (.row []), .d (.row []), .d (.row [])], .d (.int (.i64) 3), .d (.int (.i64) 3)]
theorem rn3 : resOf (callI K1 400 (.fn 15) [.d (.str [97, 32, 43])] []) = some rv3 := by kernel_rfl
def rv4 : PV := .tup [.agg [.d (.int (.i64) 16), .d (.str []), .d (.str [111, 114]), .d (.str []), .d (.int (.i64) 0), .d (.row []), .d (.row []), .d (.row [[.int (.i64) 16, .str [], .str [111, 114], .str [], .int (.i64) 0, .row [], .row [], .row [[.int (.i64) 3, .str [], .str [97], .str [], .int (.i64) 0, .row [], .row [], .row []], [.int (.i64) 3, .str [], .str [98], .str [], .int (.i64) 0, .row [], .row [], .row []]]], [.int (.i64) 3, .str [], .str [99], .str [], .int (.i64) 0, .row [], .row [], .row []]])], .d (.int (.i64) 0), .d (.int (.i64) 0)]
theorem rn4 : resOf (callI K1 400 (.fn 15) [.d (.str [97, 32, 111, 114, 32, 98, 32, 111, 114, 32, 99])] []) = some rv4 := by kernel_rfl
end Pi
end Go.Proofs.YthdgpejippohnaaGreatDoor
