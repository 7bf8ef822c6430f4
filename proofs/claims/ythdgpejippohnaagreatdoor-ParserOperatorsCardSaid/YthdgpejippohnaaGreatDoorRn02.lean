/-
  Runs of the parser by the evaluator, each at one string; no condition.
-/
import Derived.Test.YthdgpejippohnaaGreatDoorPiR
import Derived.Test.YthdgpejippohnaaGreatDoorPiS
namespace Go.Proofs.YthdgpejippohnaaGreatDoor
namespace Pi
def rv10 : PV := .tup [.agg [.d (.int (.i64) 16), .d (.str []), .d (.str [111, 114]), .d (.str []), .d (.int (.i64) 0), .d (.row []), .d (.row []), .d (.row [[.int (.i64) 3, .str [], .str [97], .str [], .int (.i64) 0, .row [], .row [], .row []], [.int (.i64) 16, .str [], .str [45], .str [], .int (.i64) 0, .row [], .row [], .row [[.int (.i64) 3, .str [], .str [98], .str [], .int (.i64) 0, .row [], .row [], .row []], [.int (.i64) 3, .str [], .str [99], .str [], .int (.i64) 0, .row [], .row [], .row []]]]])], .d (.int (.i64) 0), .d (.int (.i64) 0)]
theorem rn10 : resOf (callI K1 400 (.fn 15) [.d (.str [97, 32, 111, 114, 32, 98, 32, 45, 32, 99])] []) = some rv10 := by kernel_rfl
def rv11 : PV := .tup [.agg [.d (.int (.i64) 16), .d (.str []), .d (.str [111, 114]), .d (.str []), .d (.int (.i64) 0), .d (.row []), .d (.row []), .d (.row [[.int (.i64) 3, .str [], .str [97], .str [], .int (.i64) 0, .row [], .row [], .row []], [.int (.i64) 16, .str [], .str [43, 43], .str [], .int (.i64) 0, .row [], .row [], .row [[.int (.i64) 3, .str [], .str [98], .str [], .int (.i64) 0, .row [], .row [], .row []], [.int (.i64) 3, .str [], .str [99], .str [], .int (.i64) 0, .row [], .row [], .row []]]]])], .d (.int (.i64) 0), .d (.int (.i64) 0)]
theorem rn11 : resOf (callI K1 400 (.fn 15) [.d (.str [97, 32, 111, 114, 32, 98, 32, 43, 43, 32, 99])] []) = some rv11 := by kernel_rfl
def rv12 : PV := .tup [.agg [.d (.int (.i64) 16), .d (.str []), .d (.str [111, 114]), .d (.str []), .d (.int (.i64) 0), .d (.row []), .d (.row []), .d (.row [[.int (.i64) 3, .str [], .str [97], .str [], .int (.i64) 0, .row [], .row [], .row []], [.int (.i64) 16, .str [], .str [42], .str [], .int (.i64) 0, .row [], .row [], .row [[.int (.i64) 3, .str [], .str [98], .str [], .int (.i64) 0, .row [], .row [], .row []], [.int (.i64) 3, .str [], .str [99], .str [], .int (.i64) 0, .row [], .row [], .row []]]]])], .d (.int (.i64) 0), .d (.int (.i64) 0)]
theorem rn12 : resOf (callI K1 400 (.fn 15) [.d (.str [97, 32, 111, 114, 32, 98, 32, 42, 32, 99])] []) = some rv12 := by kernel_rfl
def rv13 : PV := .tup [.agg [.d (.int (.i64) 16), .d (.str []), .d (.str [111, 114]), .d (.str []), .d (.int (.i64) 0), .d (.row []), .d (.row []), .d (.row [[.int (.i64) 16, .str [], .str [97, 110, 100], .str [], .int (.i64) 0, .row [], .row [], .row [[.int (.i64) 3, .str [], .str [97], .str [], .int (.i64) 0, .row [], .row [], .row []], [.int (.i64) 3, .str [], .str [98], .str [], .int (.i64) 0, .row [], .row [], .row []]]], [.int (.i64) 3, .str [], .str [99], .str [], .int (.i64) 0, .row [], .row [], .row []]])], .d (.int (.i64) 0), .d (.int (.i64) 0)]
theorem rn13 : resOf (callI K1 400 (.fn 15) [.d (.str [97, 32, 97, 110, 100, 32, 98, 32, 111, 114, 32, 99])] []) = some rv13 := by kernel_rfl
def rv14 : PV := .tup [.agg [.d (.int (.i64) 16), .d (.str []), .d (.str [97, 110, 100]), .d (.str []), .d (.int (.i64) 0), .d (.row []), .d (.row []), .d (.row [[.int (.i64) 16, .str [], .str [97, 110, 100], .str [], .int (.i64) 0, .row [], .row [], .row [[.int (.i64) 3, .str [], .str [97], .str [], .int (.i64) 0, .row [], .row [], .row []], [.int (.i64) 3, .str [], .str [98], .str [], .int (.i64) 0, .row [], .row [], .row []]]], [.int (.i64) 3, .str [], .str [99], .str [], .int (.i64) 0, .row [], .row [], .row []]])], .d (.int (.i64) 0), .d (.int (.i64) 0)]
theorem rn14 : resOf (callI K1 400 (.fn 15) [.d (.str [97, 32, 97, 110, 100, 32, 98, 32, 97, 110, 100, 32, 99])] []) = some rv14 := by kernel_rfl
end Pi
end Go.Proofs.YthdgpejippohnaaGreatDoor
