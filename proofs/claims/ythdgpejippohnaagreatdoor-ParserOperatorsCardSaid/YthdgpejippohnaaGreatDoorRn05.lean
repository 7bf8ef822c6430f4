/-
  Runs of the parser by the evaluator, each at one string; no condition.
-/
import Derived.Test.YthdgpejippohnaaGreatDoorPiR
import Derived.Test.YthdgpejippohnaaGreatDoorPiS
namespace Go.Proofs.YthdgpejippohnaaGreatDoor
namespace Pi
def rv25 : PV := .tup [.agg [.d (.int (.i64) 0), .d (.str []), .d (.str []), .d (.str []), .d (.int (.i64) 0), .d (.row []), .d (.row []), .d (.row [])], .d (.int (.i64) 7), .d (.int (.i64) 3)]
theorem rn25 : resOf (callI K1 400 (.fn 15) [.d (.str [97, 32, 61, 61, 32, 98, 32, 61, 61, 61, 32, 99])] []) = some rv25 := by kernel_rfl
def rv26 : PV := .tup [.agg [.d (.int (.i64) 0), .d (.str []), .d (.str []), .d (.str []), .d (.int (.i64) 0), .d (.row []), .d (.row []), .d (.row [])], .d (.int (.i64) 7), .d (.int (.i64) 3)]
theorem rn26 : resOf (callI K1 400 (.fn 15) [.d (.str [97, 32, 61, 61, 32, 98, 32, 60, 32, 99])] []) = some rv26 := by kernel_rfl
def rv27 : PV := .tup [.agg [.d (.int (.i64) 16), .d (.str []), .d (.str [61, 61]), .d (.str []), .d (.int (.i64) 0), .d (.row []), .d (.row []), .d (.row [[.int (.i64) 3, .str [], .str [97], .str [], .int (.i64) 0, .row [], .row [], .row []], [.int (.i64) 16, .str [], .str [43], .str [], .int (.i64) 0, .row [], .row [], .row [[.int (.i64) 3, .str [], .str [98], .str [], .int (.i64) 0, .row [], .row [], .row []], [.int (.i64) 3, .str [], .str [99], .str [], .int (.i64) 0, .row [], .row [], .row []]]]])], .d (.int (.i64) 0), .d (.int (.i64) 0)]
theorem rn27 : resOf (callI K1 400 (.fn 15) [.d (.str [97, 32, 61, 61, 32, 98, 32, 43, 32, 99])] []) = some rv27 := by kernel_rfl
def rv28 : PV := .tup [.agg [.d (.int (.i64) 16), .d (.str []), .d (.str [61, 61]), .d (.str []), .d (.int (.i64) 0), .d (.row []), .d (.row []), .d (.row [[.int (.i64) 3, .str [], .str [97], .str [], .int (.i64) 0, .row [], .row [], .row []], [.int (.i64) 16, .str [], .str [45], .str [], .int (.i64) 0, .row [], .row [], .row [[.int (.i64) 3, .str [], .str [98], .str [], .int (.i64) 0, .row [], .row [], .row []], [.int (.i64) 3, .str [], .str [99], .str [], .int (.i64) 0, .row [], .row [], .row []]]]])], .d (.int (.i64) 0), .d (.int (.i64) 0)]
theorem rn28 : resOf (callI K1 400 (.fn 15) [.d (.str [97, 32, 61, 61, 32, 98, 32, 45, 32, 99])] []) = some rv28 := by kernel_rfl
def rv29 : PV := .tup [.agg [.d (.int (.i64) 16), .d (.str []), .d (.str [61, 61]), .d (.str []), .d (.int (.i64) 0), .d (.row []), .d (.row []), .d (.row [[.int (.i64) 3, .str [], .str [97], .str [], .int (.i64) 0, .row [], .row [], .row []], [.int (.i64) 16, .str [], .str [43, 43], .str [], .int (.i64) 0, .row [], .row [], .row [[.int (.i64) 3, .str [], .str [98], .str [], .int (.i64) 0, .row [], .row [], .row []], [.int (.i64) 3, .str [], .str [99], .str [], .int (.i64) 0, .row [], .row [], .row []]]]])], .d (.int (.i64) 0), .d (.int (.i64) 0)]
theorem rn29 : resOf (callI K1 400 (.fn 15) [.d (.str [97, 32, 61, 61, 32, 98, 32, 43, 43, 32, 99])] []) = some rv29 := by kernel_rfl
end Pi
end Go.Proofs.YthdgpejippohnaaGreatDoor
