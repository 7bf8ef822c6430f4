/-
  Runs of the parser by the evaluator, each at one string; no condition.
-/
import Derived.Test.YthdgpejippohnaaGreatDoorPiR
import Derived.Test.YthdgpejippohnaaGreatDoorPiS
namespace Go.Proofs.YthdgpejippohnaaGreatDoor
namespace Pi
def rv40 : PV := .tup [.agg [.d (.int (.i64) 16), .d (.str []), .d (.str [111, 114]), .d (.str []), .d (.int (.i64) 0), .d (.row []), .d (.row []), .d (.row [[.int (.i64) 16, .str [], .str [60], .str [], .int (.i64) 0, .row [], .row [], .row [[.int (.i64) 3, .str [], .str [97], .str [], .int (.i64) 0, .row [], .row [], .row []], [.int (.i64) 3, .str [], .str [98], .str [], .int (.i64) 0, .row [], .row [], .row []]]], [.int (.i64) 3, .str [], .str [99], .str [], .int (.i64) 0, .row [], .row [], .row []]])], .d (.int (.i64) 0), .d (.int (.i64) 0)]
theorem rn40 : resOf (callI K1 400 (.fn 15) [.d (.str [97, 32, 60, 32, 98, 32, 111, 114, 32, 99])] []) = some rv40 := by kernel_rfl
def rv41 : PV := .tup [.agg [.d (.int (.i64) 16), .d (.str []), .d (.str [97, 110, 100]), .d (.str []), .d (.int (.i64) 0), .d (.row []), .d (.row []), .d (.row [[.int (.i64) 16, .str [], .str [60], .str [], .int (.i64) 0, .row [], .row [], .row [[.int (.i64) 3, .str [], .str [97], .str [], .int (.i64) 0, .row [], .row [], .row []], [.int (.i64) 3, .str [], .str [98], .str [], .int (.i64) 0, .row [], .row [], .row []]]], [.int (.i64) 3, .str [], .str [99], .str [], .int (.i64) 0, .row [], .row [], .row []]])], .d (.int (.i64) 0), .d (.int (.i64) 0)]
theorem rn41 : resOf (callI K1 400 (.fn 15) [.d (.str [97, 32, 60, 32, 98, 32, 97, 110, 100, 32, 99])] []) = some rv41 := by kernel_rfl
def rv42 : PV := .tup [.agg [.d (.int (.i64) 0), .d (.str []), .d (.str []), .d (.str []), .d (.int (.i64) 0), .d (.row []), .d (.row []), .d (.row [])], .d (.int (.i64) 6), .d (.int (.i64) 3)]
theorem rn42 : resOf (callI K1 400 (.fn 15) [.d (.str [97, 32, 60, 32, 98, 32, 61, 61, 32, 99])] []) = some rv42 := by kernel_rfl
def rv43 : PV := .tup [.agg [.d (.int (.i64) 0), .d (.str []), .d (.str []), .d (.str []), .d (.int (.i64) 0), .d (.row []), .d (.row []), .d (.row [])], .d (.int (.i64) 6), .d (.int (.i64) 3)]
theorem rn43 : resOf (callI K1 400 (.fn 15) [.d (.str [97, 32, 60, 32, 98, 32, 61, 61, 61, 32, 99])] []) = some rv43 := by kernel_rfl
def rv44 : PV := .tup [.agg [.d (.int (.i64) 0), .d (.str []), .d (.str []), .d (.str []), .d (.int (.i64) 0), .d (.row []), .d (.row []), .d (.row [])], .d (.int (.i64) 6), .d (.int (.i64) 3)]
theorem rn44 : resOf (callI K1 400 (.fn 15) [.d (.str [97, 32, 60, 32, 98, 32, 60, 32, 99])] []) = some rv44 := by kernel_rfl
end Pi
end Go.Proofs.YthdgpejippohnaaGreatDoor
