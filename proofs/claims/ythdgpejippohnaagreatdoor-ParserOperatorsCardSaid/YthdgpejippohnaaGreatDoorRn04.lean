/-
  Runs of the parser by the evaluator, each at one string; no condition.
-/
import Derived.Test.YthdgpejippohnaaGreatDoorPiR
import Derived.Test.YthdgpejippohnaaGreatDoorPiS
namespace Go.Proofs.YthdgpejippohnaaGreatDoor
namespace Pi
def rv20 : PV := .tup [.agg [.d (.int (.i64) 16), .d (.str []), .d (.str [97, 110, 100]), .d (.str []), .d (.int (.i64) 0), .d (.row []), .d (.row []), .d (.row [[.int (.i64) 3, .str [], .str [97], .str [], .int (.i64) 0, .row [], .row [], .row []], [.int (.i64) 16, .str [], .str [43, 43], .str [], .int (.i64) 0, .row [], .row [], .row [[.int (.i64) 3, .str [], .str [98], .str [], .int (.i64) 0, .row [], .row [], .row []], [.int (.i64) 3, .str [], .str [99], .str [], .int (.i64) 0, .row [], .row [], .row []]]]])], .d (.int (.i64) 0), .d (.int (.i64) 0)]
theorem rn20 : resOf (callI K1 400 (.fn 15) [.d (.str [97, 32, 97, 110, 100, 32, 98, 32, 43, 43, 32, 99])] []) = some rv20 := by kernel_rfl
def rv21 : PV := .tup [.agg [.d (.int (.i64) 16), .d (.str []), .d (.str [97, 110, 100]), .d (.str []), .d (.int (.i64) 0), .d (.row []), .d (.row []), .d (.row [[.int (.i64) 3, .str [], .str [97], .str [], .int (.i64) 0, .row [], .row [], .row []], [.int (.i64) 16, .str [], .str [42], .str [], .int (.i64) 0, .row [], .row [], .row [[.int (.i64) 3, .str [], .str [98], .str [], .int (.i64) 0, .row [], .row [], .row []], [.int (.i64) 3, .str [], .str [99], .str [], .int (.i64) 0, .row [], .row [], .row []]]]])], .d (.int (.i64) 0), .d (.int (.i64) 0)]
theorem rn21 : resOf (callI K1 400 (.fn 15) [.d (.str [97, 32, 97, 110, 100, 32, 98, 32, 42, 32, 99])] []) = some rv21 := by kernel_rfl
def rv22 : PV := .tup [.agg [.d (.int (.i64) 16), .d (.str []), .d (.str [111, 114]), .d (.str []), .d (.int (.i64) 0), .d (.row []), .d (.row []), .d (.row [[.int (.i64) 16, .str [], .str [61, 61], .str [], .int (.i64) 0, .row [], .row [], .row [[.int (.i64) 3, .str [], .str [97], .str [], .int (.i64) 0, .row [], .row [], .row []], [.int (.i64) 3, .str [], .str [98], .str [], .int (.i64) 0, .row [], .row [], .row []]]], [.int (.i64) 3, .str [], .str [99], .str [], .int (.i64) 0, .row [], .row [], .row []]])], .d (.int (.i64) 0), .d (.int (.i64) 0)]
theorem rn22 : resOf (callI K1 400 (.fn 15) [.d (.str [97, 32, 61, 61, 32, 98, 32, 111, 114, 32, 99])] []) = some rv22 := by kernel_rfl
def rv23 : PV := .tup [.agg [.d (.int (.i64) 16), .d (.str []), .d (.str [97, 110, 100]), .d (.str []), .d (.int (.i64) 0), .d (.row []), .d (.row []), .d (.row [[.int (.i64) 16, .str [], .str [61, 61], .str [], .int (.i64) 0, .row [], .row [], .row [[.int (.i64) 3, .str [], .str [97], .str [], .int (.i64) 0, .row [], .row [], .row []], [.int (.i64) 3, .str [], .str [98], .str [], .int (.i64) 0, .row [], .row [], .row []]]], [.int (.i64) 3, .str [], .str [99], .str [], .int (.i64) 0, .row [], .row [], .row []]])], .d (.int (.i64) 0), .d (.int (.i64) 0)]
theorem rn23 : resOf (callI K1 400 (.fn 15) [.d (.str [97, 32, 61, 61, 32, 98, 32, 97, 110, 100, 32, 99])] []) = some rv23 := by kernel_rfl
def rv24 : PV := .tup [.agg [.d (.int (.i64) 0), .d (.str []), .d (.str []), .d (.str []), .d (.int (.i64) 0), .d (.row []), .d (.row []), .d (.row [])], .d (.int (.i64) 7), .d (.int (.i64) 3)]
theorem rn24 : resOf (callI K1 400 (.fn 15) [.d (.str [97, 32, 61, 61, 32, 98, 32, 61, 61, 32, 99])] []) = some rv24 := by kernel_rfl
end Pi
end Go.Proofs.YthdgpejippohnaaGreatDoor
