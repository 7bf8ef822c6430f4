/-
  Runs of the parser by the evaluator, each at one string; no condition.
-/
import Derived.Test.YthdgpejippohnaaGreatDoorPiR
import Derived.Test.YthdgpejippohnaaGreatDoorPiS
namespace Go.Proofs.YthdgpejippohnaaGreatDoor
namespace Pi
def rv60 : PV := .tup [.agg [.d (.int (.i64) 16), .d (.str []), .d (.str [61, 61]), .d (.str []), .d (.int (.i64) 0), .d (.row []), .d (.row []), .d (.row [[.int (.i64) 16, .str [], .str [45], .str [], .int (.i64) 0, .row [], .row [], .row [[.int (.i64) 3, .str [], .str [97], .str [], .int (.i64) 0, .row [], .row [], .row []], [.int (.i64) 3, .str [], .str [98], .str [], .int (.i64) 0, .row [], .row [], .row []]]], [.int (.i64) 3, .str [], .str [99], .str [], .int (.i64) 0, .row [], .row [], .row []]])], .d (.int (.i64) 0), .d (.int (.i64) 0)]
theorem rn60 : resOf (callI K1 400 (.fn 15) [.d (.str [97, 32, 45, 32, 98, 32, 61, 61, 32, 99])] []) = some rv60 := by kernel_rfl
def rv61 : PV := .tup [.agg [.d (.int (.i64) 16), .d (.str []), .d (.str [61, 61, 61]), .d (.str []), .d (.int (.i64) 0), .d (.row []), .d (.row []), .d (.row [[.int (.i64) 16, .str [], .str [45], .str [], .int (.i64) 0, .row [], .row [], .row [[.int (.i64) 3, .str [], .str [97], .str [], .int (.i64) 0, .row [], .row [], .row []], [.int (.i64) 3, .str [], .str [98], .str [], .int (.i64) 0, .row [], .row [], .row []]]], [.int (.i64) 3, .str [], .str [99], .str [], .int (.i64) 0, .row [], .row [], .row []]])], .d (.int (.i64) 0), .d (.int (.i64) 0)]
theorem rn61 : resOf (callI K1 400 (.fn 15) [.d (.str [97, 32, 45, 32, 98, 32, 61, 61, 61, 32, 99])] []) = some rv61 := by kernel_rfl
def rv62 : PV := .tup [.agg [.d (.int (.i64) 16), .d (.str []), .d (.str [60]), .d (.str []), .d (.int (.i64) 0), .d (.row []), .d (.row []), .d (.row [[.int (.i64) 16, .str [], .str [45], .str [], .int (.i64) 0, .row [], .row [], .row [[.int (.i64) 3, .str [], .str [97], .str [], .int (.i64) 0, .row [], .row [], .row []], [.int (.i64) 3, .str [], .str [98], .str [], .int (.i64) 0, .row [], .row [], .row []]]], [.int (.i64) 3, .str [], .str [99], .str [], .int (.i64) 0, .row [], .row [], .row []]])], .d (.int (.i64) 0), .d (.int (.i64) 0)]
theorem rn62 : resOf (callI K1 400 (.fn 15) [.d (.str [97, 32, 45, 32, 98, 32, 60, 32, 99])] []) = some rv62 := by kernel_rfl
def rv63 : PV := .tup [.agg [.d (.int (.i64) 16), .d (.str []), .d (.str [43]), .d (.str []), .d (.int (.i64) 0), .d (.row []), .d (.row []), .d (.row [[.int (.i64) 16, .str [], .str [45], .str [], .int (.i64) 0, .row [], .row [], .row [[.int (.i64) 3, .str [], .str [97], .str [], .int (.i64) 0, .row [], .row [], .row []], [.int (.i64) 3, .str [], .str [98], .str [], .int (.i64) 0, .row [], .row [], .row []]]], [.int (.i64) 3, .str [], .str [99], .str [], .int (.i64) 0, .row [], .row [], .row []]])], .d (.int (.i64) 0), .d (.int (.i64) 0)]
theorem rn63 : resOf (callI K1 400 (.fn 15) [.d (.str [97, 32, 45, 32, 98, 32, 43, 32, 99])] []) = some rv63 := by kernel_rfl
def rv64 : PV := .tup [.agg [.d (.int (.i64) 16), .d (.str []), .d (.str [45]), .d (.str []), .d (.int (.i64) 0), .d (.row []), .d (.row []), .d (.row [[.int (.i64) 16, .str [], .str [45], .str [], .int (.i64) 0, .row [], .row [], .row [[.int (.i64) 3, .str [], .str [97], .str [], .int (.i64) 0, .row [], .row [], .row []], [.int (.i64) 3, .str [], .str [98], .str [], .int (.i64) 0, .row [], .row [], .row []]]], [.int (.i64) 3, .str [], .str [99], .str [], .int (.i64) 0, .row [], .row [], .row []]])], .d (.int (.i64) 0), .d (.int (.i64) 0)]
theorem rn64 : resOf (callI K1 400 (.fn 15) [.d (.str [97, 32, 45, 32, 98, 32, 45, 32, 99])] []) = some rv64 := by kernel_rfl
end Pi
end Go.Proofs.YthdgpejippohnaaGreatDoor
