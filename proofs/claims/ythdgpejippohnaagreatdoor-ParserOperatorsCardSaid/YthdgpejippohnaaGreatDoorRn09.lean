/-
  Runs of the parser by the evaluator, each at one string; no condition.
-/
import Derived.Test.YthdgpejippohnaaGreatDoorPiR
import Derived.Test.YthdgpejippohnaaGreatDoorPiS
namespace Go.Proofs.YthdgpejippohnaaGreatDoor
namespace Pi
def rv45 : PV := .tup [.agg [.d (.int (.i64) 16), .d (.str []), .d (.str [60]), .d (.str []), .d (.int (.i64) 0), .d (.row []), .d (.row []), .d (.row [[.int (.i64) 3, .str [], .str [97], .str [], .int (.i64) 0, .row [], .row [], .row []], [.int (.i64) 16, .str [], .str [43], .str [], .int (.i64) 0, .row [], .row [], .row [[.int (.i64) 3, .str [], .str [98], .str [], .int (.i64) 0, .row [], .row [], .row []], [.int (.i64) 3, .str [], .str [99], .str [], .int (.i64) 0, .row [], .row [], .row []]]]])], .d (.int (.i64) 0), .d (.int (.i64) 0)]
theorem rn45 : resOf (callI K1 400 (.fn 15) [.d (.str [97, 32, 60, 32, 98, 32, 43, 32, 99])] []) = some rv45 := by kernel_rfl
def rv46 : PV := .tup [.agg [.d (.int (.i64) 16), .d (.str []), .d (.str [60]), .d (.str []), .d (.int (.i64) 0), .d (.row []), .d (.row []), .d (.row [[.int (.i64) 3, .str [], .str [97], .str [], .int (.i64) 0, .row [], .row [], .row []], [.int (.i64) 16, .str [], .str [45], .str [], .int (.i64) 0, .row [], .row [], .row [[.int (.i64) 3, .str [], .str [98], .str [], .int (.i64) 0, .row [], .row [], .row []], [.int (.i64) 3, .str [], .str [99], .str [], .int (.i64) 0, .row [], .row [], .row []]]]])], .d (.int (.i64) 0), .d (.int (.i64) 0)]
theorem rn46 : resOf (callI K1 400 (.fn 15) [.d (.str [97, 32, 60, 32, 98, 32, 45, 32, 99])] []) = some rv46 := by kernel_rfl
def rv47 : PV := .tup [.agg [.d (.int (.i64) 16), .d (.str []), .d (.str [60]), .d (.str []), .d (.int (.i64) 0), .d (.row []), .d (.row []), .d (.row [[.int (.i64) 3, .str [], .str [97], .str [], .int (.i64) 0, .row [], .row [], .row []], [.int (.i64) 16, .str [], .str [43, 43], .str [], .int (.i64) 0, .row [], .row [], .row [[.int (.i64) 3, .str [], .str [98], .str [], .int (.i64) 0, .row [], .row [], .row []], [.int (.i64) 3, .str [], .str [99], .str [], .int (.i64) 0, .row [], .row [], .row []]]]])], .d (.int (.i64) 0), .d (.int (.i64) 0)]
theorem rn47 : resOf (callI K1 400 (.fn 15) [.d (.str [97, 32, 60, 32, 98, 32, 43, 43, 32, 99])] []) = some rv47 := by kernel_rfl
def rv48 : PV := .tup [.agg [.d (.int (.i64) 16), .d (.str []), .d (.str [60]), .d (.str []), .d (.int (.i64) 0), .d (.row []), .d (.row []), .d (.row [[.int (.i64) 3, .str [], .str [97], .str [], .int (.i64) 0, .row [], .row [], .row []], [.int (.i64) 16, .str [], .str [42], .str [], .int (.i64) 0, .row [], .row [], .row [[.int (.i64) 3, .str [], .str [98], .str [], .int (.i64) 0, .row [], .row [], .row []], [.int (.i64) 3, .str [], .str [99], .str [], .int (.i64) 0, .row [], .row [], .row []]]]])], .d (.int (.i64) 0), .d (.int (.i64) 0)]
theorem rn48 : resOf (callI K1 400 (.fn 15) [.d (.str [97, 32, 60, 32, 98, 32, 42, 32, 99])] []) = some rv48 := by kernel_rfl
def rv49 : PV := .tup [.agg [.d (.int (.i64) 16), .d (.str []), .d (.str [111, 114]), .d (.str []), .d (.int (.i64) 0), .d (.row []), .d (.row []), .d (.row [[.int (.i64) 16, .str [], .str [43], .str [], .int (.i64) 0, .row [], .row [], .row [[.int (.i64) 3, .str [], .str [97], .str [], .int (.i64) 0, .row [], .row [], .row []], [.int (.i64) 3, .str [], .str [98], .str [], .int (.i64) 0, .row [], .row [], .row []]]], [.int (.i64) 3, .str [], .str [99], .str [], .int (.i64) 0, .row [], .row [], .row []]])], .d (.int (.i64) 0), .d (.int (.i64) 0)]
theorem rn49 : resOf (callI K1 400 (.fn 15) [.d (.str [97, 32, 43, 32, 98, 32, 111, 114, 32, 99])] []) = some rv49 := by kernel_rfl
end Pi
end Go.Proofs.YthdgpejippohnaaGreatDoor
