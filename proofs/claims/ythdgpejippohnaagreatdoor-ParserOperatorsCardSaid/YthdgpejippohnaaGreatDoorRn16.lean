/-
  Runs of the parser by the evaluator, each at one string; no condition.
-/
import Derived.Test.YthdgpejippohnaaGreatDoorPiR
import Derived.Test.YthdgpejippohnaaGreatDoorPiS
namespace Go.Proofs.YthdgpejippohnaaGreatDoor
namespace Pi
def rv80 : PV := .tup [.agg [.d (.int (.i64) 16), .d (.str []), .d (.str [60]), .d (.str []), .d (.int (.i64) 0), .d (.row []), .d (.row []), .d (.row [[.int (.i64) 16, .str [], .str [42], .str [], .int (.i64) 0, .row [], .row [], .row [[.int (.i64) 3, .str [], .str [97], .str [], .int (.i64) 0, .row [], .row [], .row []], [.int (.i64) 3, .str [], .str [98], .str [], .int (.i64) 0, .row [], .row [], .row []]]], [.int (.i64) 3, .str [], .str [99], .str [], .int (.i64) 0, .row [], .row [], .row []]])], .d (.int (.i64) 0), .d (.int (.i64) 0)]
theorem rn80 : resOf (callI K1 400 (.fn 15) [.d (.str [97, 32, 42, 32, 98, 32, 60, 32, 99])] []) = some rv80 := by kernel_rfl
def rv81 : PV := .tup [.agg [.d (.int (.i64) 16), .d (.str []), .d (.str [43]), .d (.str []), .d (.int (.i64) 0), .d (.row []), .d (.row []), .d (.row [[.int (.i64) 16, .str [], .str [42], .str [], .int (.i64) 0, .row [], .row [], .row [[.int (.i64) 3, .str [], .str [97], .str [], .int (.i64) 0, .row [], .row [], .row []], [.int (.i64) 3, .str [], .str [98], .str [], .int (.i64) 0, .row [], .row [], .row []]]], [.int (.i64) 3, .str [], .str [99], .str [], .int (.i64) 0, .row [], .row [], .row []]])], .d (.int (.i64) 0), .d (.int (.i64) 0)]
theorem rn81 : resOf (callI K1 400 (.fn 15) [.d (.str [97, 32, 42, 32, 98, 32, 43, 32, 99])] []) = some rv81 := by kernel_rfl
def rv82 : PV := .tup [.agg [.d (.int (.i64) 16), .d (.str []), .d (.str [45]), .d (.str []), .d (.int (.i64) 0), .d (.row []), .d (.row []), .d (.row [[.int (.i64) 16, .str [], .str [42], .str [], .int (.i64) 0, .row [], .row [], .row [[.int (.i64) 3, .str [], .str [97], .str [], .int (.i64) 0, .row [], .row [], .row []], [.int (.i64) 3, .str [], .str [98], .str [], .int (.i64) 0, .row [], .row [], .row []]]], [.int (.i64) 3, .str [], .str [99], .str [], .int (.i64) 0, .row [], .row [], .row []]])], .d (.int (.i64) 0), .d (.int (.i64) 0)]
theorem rn82 : resOf (callI K1 400 (.fn 15) [.d (.str [97, 32, 42, 32, 98, 32, 45, 32, 99])] []) = some rv82 := by kernel_rfl
def rv83 : PV := .tup [.agg [.d (.int (.i64) 16), .d (.str []), .d (.str [43, 43]), .d (.str []), .d (.int (.i64) 0), .d (.row []), .d (.row []), .d (.row [[.int (.i64) 16, .str [], .str [42], .str [], .int (.i64) 0, .row [], .row [], .row [[.int (.i64) 3, .str [], .str [97], .str [], .int (.i64) 0, .row [], .row [], .row []], [.int (.i64) 3, .str [], .str [98], .str [], .int (.i64) 0, .row [], .row [], .row []]]], [.int (.i64) 3, .str [], .str [99], .str [], .int (.i64) 0, .row [], .row [], .row []]])], .d (.int (.i64) 0), .d (.int (.i64) 0)]
theorem rn83 : resOf (callI K1 400 (.fn 15) [.d (.str [97, 32, 42, 32, 98, 32, 43, 43, 32, 99])] []) = some rv83 := by kernel_rfl
def rv84 : PV := .tup [.agg [.d (.int (.i64) 16), .d (.str []), .d (.str [42]), .d (.str []), .d (.int (.i64) 0), .d (.row []), .d (.row []), .d (.row [[.int (.i64) 16, .str [], .str [42], .str [], .int (.i64) 0, .row [], .row [], .row [[.int (.i64) 3, .str [], .str [97], .str [], .int (.i64) 0, .row [], .row [], .row []], [.int (.i64) 3, .str [], .str [98], .str [], .int (.i64) 0, .row [], .row [], .row []]]], [.int (.i64) 3, .str [], .str [99], .str [], .int (.i64) 0, .row [], .row [], .row []]])], .d (.int (.i64) 0), .d (.int (.i64) 0)]
theorem rn84 : resOf (callI K1 400 (.fn 15) [.d (.str [97, 32, 42, 32, 98, 32, 42, 32, 99])] []) = some rv84 := by kernel_rfl
end Pi
end Go.Proofs.YthdgpejippohnaaGreatDoor
