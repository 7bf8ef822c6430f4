/-
  Runs of the parser by the evaluator, each at one string; no condition.
-/
import Derived.Test.YthdgpejippohnaaGreatDoorPiR
import Derived.Test.YthdgpejippohnaaGreatDoorPiS
namespace Go.Proofs.YthdgpejippohnaaGreatDoor
namespace Pi
def rv65 : PV := .tup [.agg [.d (.int (.i64) 16), .d (.str []), .d (.str [43, 43]), .d (.str []), .d (.int (.i64) 0), .d (.row []), .d (.row []), .d (.row [[.int (.i64) 16, .str [], .str [45], .str [], .int (.i64) 0, .row [], .row [], .row [[.int (.i64) 3, .str [], .str [97], .str [], .int (.i64) 0, .row [], .row [], .row []], [.int (.i64) 3, .str [], .str [98], .str [], .int (.i64) 0, .row [], .row [], .row []]]], [.int (.i64) 3, .str [], .str [99], .str [], .int (.i64) 0, .row [], .row [], .row []]])], .d (.int (.i64) 0), .d (.int (.i64) 0)]
theorem rn65 : resOf (callI K1 400 (.fn 15) [.d (.str [97, 32, 45, 32, 98, 32, 43, 43, 32, 99])] []) = some rv65 := by kernel_rfl
def rv66 : PV := .tup [.agg [.d (.int (.i64) 16), .d (.str []), .d (.str [45]), .d (.str []), .d (.int (.i64) 0), .d (.row []), .d (.row []), .d (.row [[.int (.i64) 3, .str [], .str [97], .str [], .int (.i64) 0, .row [], .row [], .row []], [.int (.i64) 16, .str [], .str [42], .str [], .int (.i64) 0, .row [], .row [], .row [[.int (.i64) 3, .str [], .str [98], .str [], .int (.i64) 0, .row [], .row [], .row []], [.int (.i64) 3, .str [], .str [99], .str [], .int (.i64) 0, .row [], .row [], .row []]]]])], .d (.int (.i64) 0), .d (.int (.i64) 0)]
theorem rn66 : resOf (callI K1 400 (.fn 15) [.d (.str [97, 32, 45, 32, 98, 32, 42, 32, 99])] []) = some rv66 := by kernel_rfl
def rv67 : PV := .tup [.agg [.d (.int (.i64) 16), .d (.str []), .d (.str [111, 114]), .d (.str []), .d (.int (.i64) 0), .d (.row []), .d (.row []), .d (.row [[.int (.i64) 16, .str [], .str [43, 43], .str [], .int (.i64) 0, .row [], .row [], .row [[.int (.i64) 3, .str [], .str [97], .str [], .int (.i64) 0, .row [], .row [], .row []], [.int (.i64) 3, .str [], .str [98], .str [], .int (.i64) 0, .row [], .row [], .row []]]], [.int (.i64) 3, .str [], .str [99], .str [], .int (.i64) 0, .row [], .row [], .row []]])], .d (.int (.i64) 0), .d (.int (.i64) 0)]
theorem rn67 : resOf (callI K1 400 (.fn 15) [.d (.str [97, 32, 43, 43, 32, 98, 32, 111, 114, 32, 99])] []) = some rv67 := by kernel_rfl
def rv68 : PV := .tup [.agg [.d (.int (.i64) 16), .d (.str []), .d (.str [97, 110, 100]), .d (.str []), .d (.int (.i64) 0), .d (.row []), .d (.row []), .d (.row [[.int (.i64) 16, .str [], .str [43, 43], .str [], .int (.i64) 0, .row [], .row [], .row [[.int (.i64) 3, .str [], .str [97], .str [], .int (.i64) 0, .row [], .row [], .row []], [.int (.i64) 3, .str [], .str [98], .str [], .int (.i64) 0, .row [], .row [], .row []]]], [.int (.i64) 3, .str [], .str [99], .str [], .int (.i64) 0, .row [], .row [], .row []]])], .d (.int (.i64) 0), .d (.int (.i64) 0)]
theorem rn68 : resOf (callI K1 400 (.fn 15) [.d (.str [97, 32, 43, 43, 32, 98, 32, 97, 110, 100, 32, 99])] []) = some rv68 := by kernel_rfl
def rv69 : PV := .tup [.agg [.d (.int (.i64) 16), .d (.str []), .d (.str [61, 61]), .d (.str []), .d (.int (.i64) 0), .d (.row []), .d (.row []), .d (.row [[.int (.i64) 16, .str [], .str [43, 43], .str [], .int (.i64) 0, .row [], .row [], .row [[.int (.i64) 3, .str [], .str [97], .str [], .int (.i64) 0, .row [], .row [], .row []], [.int (.i64) 3, .str [], .str [98], .str [], .int (.i64) 0, .row [], .row [], .row []]]], [.int (.i64) 3, .str [], .str [99], .str [], .int (.i64) 0, .row [], .row [], .row []]])], .d (.int (.i64) 0), .d (.int (.i64) 0)]
theorem rn69 : resOf (callI K1 400 (.fn 15) [.d (.str [97, 32, 43, 43, 32, 98, 32, 61, 61, 32, 99])] []) = some rv69 := by kernel_rfl
end Pi
end Go.Proofs.YthdgpejippohnaaGreatDoor
