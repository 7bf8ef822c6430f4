/-
  Runs of the parser by the evaluator, each at one string; no condition.
-/
import Derived.Test.YthdgpejippohnaaGreatDoorPiR
import Derived.Test.YthdgpejippohnaaGreatDoorPiS
namespace Go.Proofs.YthdgpejippohnaaGreatDoor
namespace Pi
def rv55 : PV := .tup [.agg [.d (.int (.i64) 16), .d (.str []), .d (.str [45]), .d (.str []), .d (.int (.i64) 0), .d (.row []), .d (.row []), .d (.row [[.int (.i64) 16, .str [], .str [43], .str [], .int (.i64) 0, .row [], .row [], .row [[.int (.i64) 3, .str [], .str [97], .str [], .int (.i64) 0, .row [], .row [], .row []], [.int (.i64) 3, .str [], .str [98], .str [], .int (.i64) 0, .row [], .row [], .row []]]], [.int (.i64) 3, .str [], .str [99], .str [], .int (.i64) 0, .row [], .row [], .row []]])], .d (.int (.i64) 0), .d (.int (.i64) 0)]
theorem rn55 : resOf (callI K1 400 (.fn 15) [.d (.str [97, 32, 43, 32, 98, 32, 45, 32, 99])] []) = some rv55 := by kernel_rfl
def rv56 : PV := .tup [.agg [.d (.int (.i64) 16), .d (.str []), .d (.str [43, 43]), .d (.str []), .d (.int (.i64) 0), .d (.row []), .d (.row []), .d (.row [[.int (.i64) 16, .str [], .str [43], .str [], .int (.i64) 0, .row [], .row [], .row [[.int (.i64) 3, .str [], .str [97], .str [], .int (.i64) 0, .row [], .row [], .row []], [.int (.i64) 3, .str [], .str [98], .str [], .int (.i64) 0, .row [], .row [], .row []]]], [.int (.i64) 3, .str [], .str [99], .str [], .int (.i64) 0, .row [], .row [], .row []]])], .d (.int (.i64) 0), .d (.int (.i64) 0)]
theorem rn56 : resOf (callI K1 400 (.fn 15) [.d (.str [97, 32, 43, 32, 98, 32, 43, 43, 32, 99])] []) = some rv56 := by kernel_rfl
def rv57 : PV := .tup [.agg [.d (.int (.i64) 16), .d (.str []), .d (.str [43]), .d (.str []), .d (.int (.i64) 0), .d (.row []), .d (.row []), .d (.row [[.int (.i64) 3, .str [], .str [97], .str [], .int (.i64) 0, .row [], .row [], .row []], [.int (.i64) 16, .str [], .str [42], .str [], .int (.i64) 0, .row [], .row [], .row [[.int (.i64) 3, .str [], .str [98], .str [], .int (.i64) 0, .row [], .row [], .row []], [.int (.i64) 3, .str [], .str [99], .str [], .int (.i64) 0, .row [], .row [], .row []]]]])], .d (.int (.i64) 0), .d (.int (.i64) 0)]
theorem rn57 : resOf (callI K1 400 (.fn 15) [.d (.str [97, 32, 43, 32, 98, 32, 42, 32, 99])] []) = some rv57 := by kernel_rfl
def rv58 : PV := .tup [.agg [.d (.int (.i64) 16), .d (.str []), .d (.str [111, 114]), .d (.str []), .d (.int (.i64) 0), .d (.row []), .d (.row []), .d (.row [[.int (.i64) 16, .str [], .str [45], .str [], .int (.i64) 0, .row [], .row [], .row [[.int (.i64) 3, .str [], .str [97], .str [], .int (.i64) 0, .row [], .row [], .row []], [.int (.i64) 3, .str [], .str [98], .str [], .int (.i64) 0, .row [], .row [], .row []]]], [.int (.i64) 3, .str [], .str [99], .str [], .int (.i64) 0, .row [], .row [], .row []]])], .d (.int (.i64) 0), .d (.int (.i64) 0)]
theorem rn58 : resOf (callI K1 400 (.fn 15) [.d (.str [97, 32, 45, 32, 98, 32, 111, 114, 32, 99])] []) = some rv58 := by kernel_rfl
def rv59 : PV := .tup [.agg [.d (.int (.i64) 16), .d (.str []), .d (.str [97, 110, 100]), .d (.str []), .d (.int (.i64) 0), .d (.row []), .d (.row []), .d (.row [[.int (.i64) 16, .str [], .str [45], .str [], .int (.i64) 0, .row [], .row [], .row [[.int (.i64) 3, .str [], .str [97], .str [], .int (.i64) 0, .row [], .row [], .row []], [.int (.i64) 3, .str [], .str [98], .str [], .int (.i64) 0, .row [], .row [], .row []]]], [.int (.i64) 3, .str [], .str [99], .str [], .int (.i64) 0, .row [], .row [], .row []]])], .d (.int (.i64) 0), .d (.int (.i64) 0)]
theorem rn59 : resOf (callI K1 400 (.fn 15) [.d (.str [97, 32, 45, 32, 98, 32, 97, 110, 100, 32, 99])] []) = some rv59 := by kernel_rfl
end Pi
end Go.Proofs.YthdgpejippohnaaGreatDoor
