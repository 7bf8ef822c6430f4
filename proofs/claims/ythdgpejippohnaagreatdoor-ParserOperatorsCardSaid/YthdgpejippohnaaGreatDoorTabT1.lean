/-
  That the table of code is that of the loaded program; no condition.
-/
import Derived.Test.YthdgpejippohnaaGreatDoorTab
import Derived.Test.YthdgpejippohnaaGreatDoorPiC
import Derived.Test.YthdgpejippohnaaGreatDoorChecked
import Derived.KernelRfl
namespace Go.Proofs.YthdgpejippohnaaGreatDoor
namespace Pi
theorem icOK11 : compF Tryz.prog 11 = some ic11 := by kernel_rfl
theorem icOK31 : compF Tryz.prog 31 = some ic31 := by kernel_rfl
theorem icOK40 : compF Tryz.prog 40 = some ic40 := by kernel_rfl
theorem icOK45 : compF Tryz.prog 45 = some ic45 := by kernel_rfl
theorem icOK75 : compF Tryz.prog 75 = some ic75 := by kernel_rfl
theorem icOK80 : compF Tryz.prog 80 = some ic80 := by kernel_rfl
theorem icOK84 : compF Tryz.prog 84 = some ic84 := by kernel_rfl
theorem icOK98 : compF Tryz.prog 98 = some ic98 := by kernel_rfl
theorem icOK102 : compF Tryz.prog 102 = some ic102 := by kernel_rfl
theorem icOK110 : compF Tryz.prog 110 = some ic110 := by kernel_rfl
theorem icOK119 : compF Tryz.prog 119 = some ic119 := by kernel_rfl
theorem icOK140 : compF Tryz.prog 140 = some ic140 := by kernel_rfl
theorem icOK144 : compF Tryz.prog 144 = some ic144 := by kernel_rfl
theorem icOK148 : compF Tryz.prog 148 = some ic148 := by kernel_rfl
theorem icOK153 : compF Tryz.prog 153 = some ic153 := by kernel_rfl
theorem icOK162 : compF Tryz.prog 162 = some ic162 := by kernel_rfl
theorem icOK166 : compF Tryz.prog 166 = some ic166 := by kernel_rfl
theorem icOK174 : compF Tryz.prog 174 = some ic174 := by kernel_rfl
theorem icOK182 : compF Tryz.prog 182 = some ic182 := by kernel_rfl
theorem icOK201 : compF Tryz.prog 201 = some ic201 := by kernel_rfl
theorem icOK207 : compF Tryz.prog 207 = some ic207 := by kernel_rfl
theorem icOK211 : compF Tryz.prog 211 = some ic211 := by kernel_rfl
theorem icOK217 : compF Tryz.prog 217 = some ic217 := by kernel_rfl
theorem icOK222 : compF Tryz.prog 222 = some ic222 := by kernel_rfl
theorem icOK240 : compF Tryz.prog 240 = some ic240 := by kernel_rfl
theorem icOK250 : compF Tryz.prog 250 = some ic250 := by kernel_rfl
theorem icOK256 : compF Tryz.prog 256 = some ic256 := by kernel_rfl
theorem icOK263 : compF Tryz.prog 263 = some ic263 := by kernel_rfl
theorem icOK273 : compF Tryz.prog 273 = some ic273 := by kernel_rfl
theorem icOK288 : compF Tryz.prog 288 = some ic288 := by kernel_rfl
theorem icOK295 : compF Tryz.prog 295 = some ic295 := by kernel_rfl
theorem icOK305 : compF Tryz.prog 305 = some ic305 := by kernel_rfl
theorem nmOK11 : ((Tryz.prog.funcs[(11 : Nat)]?).map fun fn => fn.name == "runtime.NumGoroutine") = some false := by kernel_rfl
theorem nmOK31 : ((Tryz.prog.funcs[(31 : Nat)]?).map fun fn => fn.name == "runtime.NumGoroutine") = some false := by kernel_rfl
theorem nmOK40 : ((Tryz.prog.funcs[(40 : Nat)]?).map fun fn => fn.name == "runtime.NumGoroutine") = some false := by kernel_rfl
theorem nmOK45 : ((Tryz.prog.funcs[(45 : Nat)]?).map fun fn => fn.name == "runtime.NumGoroutine") = some false := by kernel_rfl
theorem nmOK75 : ((Tryz.prog.funcs[(75 : Nat)]?).map fun fn => fn.name == "runtime.NumGoroutine") = some false := by kernel_rfl
theorem nmOK80 : ((Tryz.prog.funcs[(80 : Nat)]?).map fun fn => fn.name == "runtime.NumGoroutine") = some false := by kernel_rfl
theorem nmOK84 : ((Tryz.prog.funcs[(84 : Nat)]?).map fun fn => fn.name == "runtime.NumGoroutine") = some false := by kernel_rfl
theorem nmOK98 : ((Tryz.prog.funcs[(98 : Nat)]?).map fun fn => fn.name == "runtime.NumGoroutine") = some false := by kernel_rfl
theorem nmOK102 : ((Tryz.prog.funcs[(102 : Nat)]?).map fun fn => fn.name == "runtime.NumGoroutine") = some false := by kernel_rfl
theorem nmOK110 : ((Tryz.prog.funcs[(110 : Nat)]?).map fun fn => fn.name == "runtime.NumGoroutine") = some false := by kernel_rfl
theorem nmOK119 : ((Tryz.prog.funcs[(119 : Nat)]?).map fun fn => fn.name == "runtime.NumGoroutine") = some false := by kernel_rfl
theorem nmOK140 : ((Tryz.prog.funcs[(140 : Nat)]?).map fun fn => fn.name == "runtime.NumGoroutine") = some false := by kernel_rfl
theorem nmOK144 : ((Tryz.prog.funcs[(144 : Nat)]?).map fun fn => fn.name == "runtime.NumGoroutine") = some false := by kernel_rfl
theorem nmOK148 : ((Tryz.prog.funcs[(148 : Nat)]?).map fun fn => fn.name == "runtime.NumGoroutine") = some false := by kernel_rfl
theorem nmOK153 : ((Tryz.prog.funcs[(153 : Nat)]?).map fun fn => fn.name == "runtime.NumGoroutine") = some false := by kernel_rfl
theorem nmOK162 : ((Tryz.prog.funcs[(162 : Nat)]?).map fun fn => fn.name == "runtime.NumGoroutine") = some false := by kernel_rfl
theorem nmOK166 : ((Tryz.prog.funcs[(166 : Nat)]?).map fun fn => fn.name == "runtime.NumGoroutine") = some false := by kernel_rfl
theorem nmOK174 : ((Tryz.prog.funcs[(174 : Nat)]?).map fun fn => fn.name == "runtime.NumGoroutine") = some false := by kernel_rfl
theorem nmOK182 : ((Tryz.prog.funcs[(182 : Nat)]?).map fun fn => fn.name == "runtime.NumGoroutine") = some false := by kernel_rfl
theorem nmOK201 : ((Tryz.prog.funcs[(201 : Nat)]?).map fun fn => fn.name == "runtime.NumGoroutine") = some false := by kernel_rfl
theorem nmOK207 : ((Tryz.prog.funcs[(207 : Nat)]?).map fun fn => fn.name == "runtime.NumGoroutine") = some false := by kernel_rfl
theorem nmOK211 : ((Tryz.prog.funcs[(211 : Nat)]?).map fun fn => fn.name == "runtime.NumGoroutine") = some false := by kernel_rfl
theorem nmOK217 : ((Tryz.prog.funcs[(217 : Nat)]?).map fun fn => fn.name == "runtime.NumGoroutine") = some false := by kernel_rfl
theorem nmOK222 : ((Tryz.prog.funcs[(222 : Nat)]?).map fun fn => fn.name == "runtime.NumGoroutine") = some false := by kernel_rfl
theorem nmOK240 : ((Tryz.prog.funcs[(240 : Nat)]?).map fun fn => fn.name == "runtime.NumGoroutine") = some false := by kernel_rfl
theorem nmOK250 : ((Tryz.prog.funcs[(250 : Nat)]?).map fun fn => fn.name == "runtime.NumGoroutine") = some false := by kernel_rfl
theorem nmOK256 : ((Tryz.prog.funcs[(256 : Nat)]?).map fun fn => fn.name == "runtime.NumGoroutine") = some false := by kernel_rfl
theorem nmOK263 : ((Tryz.prog.funcs[(263 : Nat)]?).map fun fn => fn.name == "runtime.NumGoroutine") = some false := by kernel_rfl
theorem nmOK273 : ((Tryz.prog.funcs[(273 : Nat)]?).map fun fn => fn.name == "runtime.NumGoroutine") = some false := by kernel_rfl
theorem nmOK288 : ((Tryz.prog.funcs[(288 : Nat)]?).map fun fn => fn.name == "runtime.NumGoroutine") = some false := by kernel_rfl
theorem nmOK295 : ((Tryz.prog.funcs[(295 : Nat)]?).map fun fn => fn.name == "runtime.NumGoroutine") = some false := by kernel_rfl
theorem nmOK305 : ((Tryz.prog.funcs[(305 : Nat)]?).map fun fn => fn.name == "runtime.NumGoroutine") = some false := by kernel_rfl
end Pi
end Go.Proofs.YthdgpejippohnaaGreatDoor
