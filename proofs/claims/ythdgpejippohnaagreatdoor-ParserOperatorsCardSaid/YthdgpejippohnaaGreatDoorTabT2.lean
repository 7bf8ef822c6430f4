/-
  That the table of code is that of the loaded program; no condition.
-/
import Derived.Test.YthdgpejippohnaaGreatDoorTab
import Derived.Test.YthdgpejippohnaaGreatDoorPiC
import Derived.Test.YthdgpejippohnaaGreatDoorChecked
import Derived.KernelRfl
namespace Go.Proofs.YthdgpejippohnaaGreatDoor
namespace Pi
theorem icOK12 : compF Tryz.prog 12 = some ic12 := by kernel_rfl
theorem icOK32 : compF Tryz.prog 32 = some ic32 := by kernel_rfl
theorem icOK41 : compF Tryz.prog 41 = some ic41 := by kernel_rfl
theorem icOK46 : compF Tryz.prog 46 = some ic46 := by kernel_rfl
theorem icOK76 : compF Tryz.prog 76 = some ic76 := by kernel_rfl
theorem icOK81 : compF Tryz.prog 81 = some ic81 := by kernel_rfl
theorem icOK85 : compF Tryz.prog 85 = some ic85 := by kernel_rfl
theorem icOK99 : compF Tryz.prog 99 = some ic99 := by kernel_rfl
theorem icOK103 : compF Tryz.prog 103 = some ic103 := by kernel_rfl
theorem icOK111 : compF Tryz.prog 111 = some ic111 := by kernel_rfl
theorem icOK137 : compF Tryz.prog 137 = some ic137 := by kernel_rfl
theorem icOK141 : compF Tryz.prog 141 = some ic141 := by kernel_rfl
theorem icOK145 : compF Tryz.prog 145 = some ic145 := by kernel_rfl
theorem icOK150 : compF Tryz.prog 150 = some ic150 := by kernel_rfl
theorem icOK154 : compF Tryz.prog 154 = some ic154 := by kernel_rfl
theorem icOK163 : compF Tryz.prog 163 = some ic163 := by kernel_rfl
theorem icOK167 : compF Tryz.prog 167 = some ic167 := by kernel_rfl
theorem icOK176 : compF Tryz.prog 176 = some ic176 := by kernel_rfl
theorem icOK183 : compF Tryz.prog 183 = some ic183 := by kernel_rfl
theorem icOK202 : compF Tryz.prog 202 = some ic202 := by kernel_rfl
theorem icOK208 : compF Tryz.prog 208 = some ic208 := by kernel_rfl
theorem icOK212 : compF Tryz.prog 212 = some ic212 := by kernel_rfl
theorem icOK218 : compF Tryz.prog 218 = some ic218 := by kernel_rfl
theorem icOK226 : compF Tryz.prog 226 = some ic226 := by kernel_rfl
theorem icOK247 : compF Tryz.prog 247 = some ic247 := by kernel_rfl
theorem icOK252 : compF Tryz.prog 252 = some ic252 := by kernel_rfl
theorem icOK257 : compF Tryz.prog 257 = some ic257 := by kernel_rfl
theorem icOK264 : compF Tryz.prog 264 = some ic264 := by kernel_rfl
theorem icOK278 : compF Tryz.prog 278 = some ic278 := by kernel_rfl
theorem icOK290 : compF Tryz.prog 290 = some ic290 := by kernel_rfl
theorem icOK299 : compF Tryz.prog 299 = some ic299 := by kernel_rfl
theorem nmOK12 : ((Tryz.prog.funcs[(12 : Nat)]?).map fun fn => fn.name == "runtime.NumGoroutine") = some false := by kernel_rfl
theorem nmOK32 : ((Tryz.prog.funcs[(32 : Nat)]?).map fun fn => fn.name == "runtime.NumGoroutine") = some false := by kernel_rfl
theorem nmOK41 : ((Tryz.prog.funcs[(41 : Nat)]?).map fun fn => fn.name == "runtime.NumGoroutine") = some false := by kernel_rfl
theorem nmOK46 : ((Tryz.prog.funcs[(46 : Nat)]?).map fun fn => fn.name == "runtime.NumGoroutine") = some false := by kernel_rfl
theorem nmOK76 : ((Tryz.prog.funcs[(76 : Nat)]?).map fun fn => fn.name == "runtime.NumGoroutine") = some false := by kernel_rfl
theorem nmOK81 : ((Tryz.prog.funcs[(81 : Nat)]?).map fun fn => fn.name == "runtime.NumGoroutine") = some false := by kernel_rfl
theorem nmOK85 : ((Tryz.prog.funcs[(85 : Nat)]?).map fun fn => fn.name == "runtime.NumGoroutine") = some false := by kernel_rfl
theorem nmOK99 : ((Tryz.prog.funcs[(99 : Nat)]?).map fun fn => fn.name == "runtime.NumGoroutine") = some false := by kernel_rfl
theorem nmOK103 : ((Tryz.prog.funcs[(103 : Nat)]?).map fun fn => fn.name == "runtime.NumGoroutine") = some false := by kernel_rfl
theorem nmOK111 : ((Tryz.prog.funcs[(111 : Nat)]?).map fun fn => fn.name == "runtime.NumGoroutine") = some false := by kernel_rfl
theorem nmOK137 : ((Tryz.prog.funcs[(137 : Nat)]?).map fun fn => fn.name == "runtime.NumGoroutine") = some false := by kernel_rfl
theorem nmOK141 : ((Tryz.prog.funcs[(141 : Nat)]?).map fun fn => fn.name == "runtime.NumGoroutine") = some false := by kernel_rfl
theorem nmOK145 : ((Tryz.prog.funcs[(145 : Nat)]?).map fun fn => fn.name == "runtime.NumGoroutine") = some false := by kernel_rfl
theorem nmOK150 : ((Tryz.prog.funcs[(150 : Nat)]?).map fun fn => fn.name == "runtime.NumGoroutine") = some false := by kernel_rfl
theorem nmOK154 : ((Tryz.prog.funcs[(154 : Nat)]?).map fun fn => fn.name == "runtime.NumGoroutine") = some false := by kernel_rfl
theorem nmOK163 : ((Tryz.prog.funcs[(163 : Nat)]?).map fun fn => fn.name == "runtime.NumGoroutine") = some false := by kernel_rfl
theorem nmOK167 : ((Tryz.prog.funcs[(167 : Nat)]?).map fun fn => fn.name == "runtime.NumGoroutine") = some false := by kernel_rfl
theorem nmOK176 : ((Tryz.prog.funcs[(176 : Nat)]?).map fun fn => fn.name == "runtime.NumGoroutine") = some false := by kernel_rfl
theorem nmOK183 : ((Tryz.prog.funcs[(183 : Nat)]?).map fun fn => fn.name == "runtime.NumGoroutine") = some false := by kernel_rfl
theorem nmOK202 : ((Tryz.prog.funcs[(202 : Nat)]?).map fun fn => fn.name == "runtime.NumGoroutine") = some false := by kernel_rfl
theorem nmOK208 : ((Tryz.prog.funcs[(208 : Nat)]?).map fun fn => fn.name == "runtime.NumGoroutine") = some false := by kernel_rfl
theorem nmOK212 : ((Tryz.prog.funcs[(212 : Nat)]?).map fun fn => fn.name == "runtime.NumGoroutine") = some false := by kernel_rfl
theorem nmOK218 : ((Tryz.prog.funcs[(218 : Nat)]?).map fun fn => fn.name == "runtime.NumGoroutine") = some false := by kernel_rfl
theorem nmOK226 : ((Tryz.prog.funcs[(226 : Nat)]?).map fun fn => fn.name == "runtime.NumGoroutine") = some false := by kernel_rfl
theorem nmOK247 : ((Tryz.prog.funcs[(247 : Nat)]?).map fun fn => fn.name == "runtime.NumGoroutine") = some false := by kernel_rfl
theorem nmOK252 : ((Tryz.prog.funcs[(252 : Nat)]?).map fun fn => fn.name == "runtime.NumGoroutine") = some false := by kernel_rfl
theorem nmOK257 : ((Tryz.prog.funcs[(257 : Nat)]?).map fun fn => fn.name == "runtime.NumGoroutine") = some false := by kernel_rfl
theorem nmOK264 : ((Tryz.prog.funcs[(264 : Nat)]?).map fun fn => fn.name == "runtime.NumGoroutine") = some false := by kernel_rfl
theorem nmOK278 : ((Tryz.prog.funcs[(278 : Nat)]?).map fun fn => fn.name == "runtime.NumGoroutine") = some false := by kernel_rfl
theorem nmOK290 : ((Tryz.prog.funcs[(290 : Nat)]?).map fun fn => fn.name == "runtime.NumGoroutine") = some false := by kernel_rfl
theorem nmOK299 : ((Tryz.prog.funcs[(299 : Nat)]?).map fun fn => fn.name == "runtime.NumGoroutine") = some false := by kernel_rfl
end Pi
end Go.Proofs.YthdgpejippohnaaGreatDoor
