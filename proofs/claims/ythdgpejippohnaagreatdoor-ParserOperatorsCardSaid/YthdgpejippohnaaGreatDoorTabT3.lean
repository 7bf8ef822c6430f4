/-
  That the table of code is that of the loaded program; no condition.
-/
import Derived.Test.YthdgpejippohnaaGreatDoorTab
import Derived.Test.YthdgpejippohnaaGreatDoorPiC
import Derived.Test.YthdgpejippohnaaGreatDoorChecked
import Derived.KernelRfl
namespace Go.Proofs.YthdgpejippohnaaGreatDoor
namespace Pi
theorem icOK15 : compF Tryz.prog 15 = some ic15 := by kernel_rfl
theorem icOK33 : compF Tryz.prog 33 = some ic33 := by kernel_rfl
theorem icOK43 : compF Tryz.prog 43 = some ic43 := by kernel_rfl
theorem icOK57 : compF Tryz.prog 57 = some ic57 := by kernel_rfl
theorem icOK77 : compF Tryz.prog 77 = some ic77 := by kernel_rfl
theorem icOK82 : compF Tryz.prog 82 = some ic82 := by kernel_rfl
theorem icOK86 : compF Tryz.prog 86 = some ic86 := by kernel_rfl
theorem icOK100 : compF Tryz.prog 100 = some ic100 := by kernel_rfl
theorem icOK108 : compF Tryz.prog 108 = some ic108 := by kernel_rfl
theorem icOK112 : compF Tryz.prog 112 = some ic112 := by kernel_rfl
theorem icOK138 : compF Tryz.prog 138 = some ic138 := by kernel_rfl
theorem icOK142 : compF Tryz.prog 142 = some ic142 := by kernel_rfl
theorem icOK146 : compF Tryz.prog 146 = some ic146 := by kernel_rfl
theorem icOK151 : compF Tryz.prog 151 = some ic151 := by kernel_rfl
theorem icOK155 : compF Tryz.prog 155 = some ic155 := by kernel_rfl
theorem icOK164 : compF Tryz.prog 164 = some ic164 := by kernel_rfl
theorem icOK168 : compF Tryz.prog 168 = some ic168 := by kernel_rfl
theorem icOK178 : compF Tryz.prog 178 = some ic178 := by kernel_rfl
theorem icOK199 : compF Tryz.prog 199 = some ic199 := by kernel_rfl
theorem icOK203 : compF Tryz.prog 203 = some ic203 := by kernel_rfl
theorem icOK209 : compF Tryz.prog 209 = some ic209 := by kernel_rfl
theorem icOK215 : compF Tryz.prog 215 = some ic215 := by kernel_rfl
theorem icOK219 : compF Tryz.prog 219 = some ic219 := by kernel_rfl
theorem icOK233 : compF Tryz.prog 233 = some ic233 := by kernel_rfl
theorem icOK248 : compF Tryz.prog 248 = some ic248 := by kernel_rfl
theorem icOK253 : compF Tryz.prog 253 = some ic253 := by kernel_rfl
theorem icOK258 : compF Tryz.prog 258 = some ic258 := by kernel_rfl
theorem icOK268 : compF Tryz.prog 268 = some ic268 := by kernel_rfl
theorem icOK281 : compF Tryz.prog 281 = some ic281 := by kernel_rfl
theorem icOK291 : compF Tryz.prog 291 = some ic291 := by kernel_rfl
theorem icOK300 : compF Tryz.prog 300 = some ic300 := by kernel_rfl
theorem nmOK15 : ((Tryz.prog.funcs[(15 : Nat)]?).map fun fn => fn.name == "runtime.NumGoroutine") = some false := by kernel_rfl
theorem nmOK33 : ((Tryz.prog.funcs[(33 : Nat)]?).map fun fn => fn.name == "runtime.NumGoroutine") = some false := by kernel_rfl
theorem nmOK43 : ((Tryz.prog.funcs[(43 : Nat)]?).map fun fn => fn.name == "runtime.NumGoroutine") = some false := by kernel_rfl
theorem nmOK57 : ((Tryz.prog.funcs[(57 : Nat)]?).map fun fn => fn.name == "runtime.NumGoroutine") = some false := by kernel_rfl
theorem nmOK77 : ((Tryz.prog.funcs[(77 : Nat)]?).map fun fn => fn.name == "runtime.NumGoroutine") = some false := by kernel_rfl
theorem nmOK82 : ((Tryz.prog.funcs[(82 : Nat)]?).map fun fn => fn.name == "runtime.NumGoroutine") = some false := by kernel_rfl
theorem nmOK86 : ((Tryz.prog.funcs[(86 : Nat)]?).map fun fn => fn.name == "runtime.NumGoroutine") = some false := by kernel_rfl
theorem nmOK100 : ((Tryz.prog.funcs[(100 : Nat)]?).map fun fn => fn.name == "runtime.NumGoroutine") = some false := by kernel_rfl
theorem nmOK108 : ((Tryz.prog.funcs[(108 : Nat)]?).map fun fn => fn.name == "runtime.NumGoroutine") = some false := by kernel_rfl
theorem nmOK112 : ((Tryz.prog.funcs[(112 : Nat)]?).map fun fn => fn.name == "runtime.NumGoroutine") = some false := by kernel_rfl
theorem nmOK138 : ((Tryz.prog.funcs[(138 : Nat)]?).map fun fn => fn.name == "runtime.NumGoroutine") = some false := by kernel_rfl
theorem nmOK142 : ((Tryz.prog.funcs[(142 : Nat)]?).map fun fn => fn.name == "runtime.NumGoroutine") = some false := by kernel_rfl
theorem nmOK146 : ((Tryz.prog.funcs[(146 : Nat)]?).map fun fn => fn.name == "runtime.NumGoroutine") = some false := by kernel_rfl
theorem nmOK151 : ((Tryz.prog.funcs[(151 : Nat)]?).map fun fn => fn.name == "runtime.NumGoroutine") = some false := by kernel_rfl
theorem nmOK155 : ((Tryz.prog.funcs[(155 : Nat)]?).map fun fn => fn.name == "runtime.NumGoroutine") = some false := by kernel_rfl
theorem nmOK164 : ((Tryz.prog.funcs[(164 : Nat)]?).map fun fn => fn.name == "runtime.NumGoroutine") = some false := by kernel_rfl
theorem nmOK168 : ((Tryz.prog.funcs[(168 : Nat)]?).map fun fn => fn.name == "runtime.NumGoroutine") = some false := by kernel_rfl
theorem nmOK178 : ((Tryz.prog.funcs[(178 : Nat)]?).map fun fn => fn.name == "runtime.NumGoroutine") = some false := by kernel_rfl
theorem nmOK199 : ((Tryz.prog.funcs[(199 : Nat)]?).map fun fn => fn.name == "runtime.NumGoroutine") = some false := by kernel_rfl
theorem nmOK203 : ((Tryz.prog.funcs[(203 : Nat)]?).map fun fn => fn.name == "runtime.NumGoroutine") = some false := by kernel_rfl
theorem nmOK209 : ((Tryz.prog.funcs[(209 : Nat)]?).map fun fn => fn.name == "runtime.NumGoroutine") = some false := by kernel_rfl
theorem nmOK215 : ((Tryz.prog.funcs[(215 : Nat)]?).map fun fn => fn.name == "runtime.NumGoroutine") = some false := by kernel_rfl
theorem nmOK219 : ((Tryz.prog.funcs[(219 : Nat)]?).map fun fn => fn.name == "runtime.NumGoroutine") = some false := by kernel_rfl
theorem nmOK233 : ((Tryz.prog.funcs[(233 : Nat)]?).map fun fn => fn.name == "runtime.NumGoroutine") = some false := by kernel_rfl
theorem nmOK248 : ((Tryz.prog.funcs[(248 : Nat)]?).map fun fn => fn.name == "runtime.NumGoroutine") = some false := by kernel_rfl
theorem nmOK253 : ((Tryz.prog.funcs[(253 : Nat)]?).map fun fn => fn.name == "runtime.NumGoroutine") = some false := by kernel_rfl
theorem nmOK258 : ((Tryz.prog.funcs[(258 : Nat)]?).map fun fn => fn.name == "runtime.NumGoroutine") = some false := by kernel_rfl
theorem nmOK268 : ((Tryz.prog.funcs[(268 : Nat)]?).map fun fn => fn.name == "runtime.NumGoroutine") = some false := by kernel_rfl
theorem nmOK281 : ((Tryz.prog.funcs[(281 : Nat)]?).map fun fn => fn.name == "runtime.NumGoroutine") = some false := by kernel_rfl
theorem nmOK291 : ((Tryz.prog.funcs[(291 : Nat)]?).map fun fn => fn.name == "runtime.NumGoroutine") = some false := by kernel_rfl
theorem nmOK300 : ((Tryz.prog.funcs[(300 : Nat)]?).map fun fn => fn.name == "runtime.NumGoroutine") = some false := by kernel_rfl
end Pi
end Go.Proofs.YthdgpejippohnaaGreatDoor
