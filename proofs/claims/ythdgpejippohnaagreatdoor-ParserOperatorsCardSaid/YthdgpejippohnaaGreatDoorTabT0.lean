/-
  That the table of code is that of the loaded program; no condition.
-/
import Derived.Test.YthdgpejippohnaaGreatDoorTab
import Derived.Test.YthdgpejippohnaaGreatDoorPiC
import Derived.Test.YthdgpejippohnaaGreatDoorChecked
import Derived.KernelRfl
namespace Go.Proofs.YthdgpejippohnaaGreatDoor
namespace Pi
theorem icOK9 : compF Tryz.prog 9 = some ic9 := by kernel_rfl
theorem icOK18 : compF Tryz.prog 18 = some ic18 := by kernel_rfl
theorem icOK39 : compF Tryz.prog 39 = some ic39 := by kernel_rfl
theorem icOK44 : compF Tryz.prog 44 = some ic44 := by kernel_rfl
theorem icOK73 : compF Tryz.prog 73 = some ic73 := by kernel_rfl
theorem icOK78 : compF Tryz.prog 78 = some ic78 := by kernel_rfl
theorem icOK83 : compF Tryz.prog 83 = some ic83 := by kernel_rfl
theorem icOK87 : compF Tryz.prog 87 = some ic87 := by kernel_rfl
theorem icOK101 : compF Tryz.prog 101 = some ic101 := by kernel_rfl
theorem icOK109 : compF Tryz.prog 109 = some ic109 := by kernel_rfl
theorem icOK113 : compF Tryz.prog 113 = some ic113 := by kernel_rfl
theorem icOK139 : compF Tryz.prog 139 = some ic139 := by kernel_rfl
theorem icOK143 : compF Tryz.prog 143 = some ic143 := by kernel_rfl
theorem icOK147 : compF Tryz.prog 147 = some ic147 := by kernel_rfl
theorem icOK152 : compF Tryz.prog 152 = some ic152 := by kernel_rfl
theorem icOK156 : compF Tryz.prog 156 = some ic156 := by kernel_rfl
theorem icOK165 : compF Tryz.prog 165 = some ic165 := by kernel_rfl
theorem icOK169 : compF Tryz.prog 169 = some ic169 := by kernel_rfl
theorem icOK181 : compF Tryz.prog 181 = some ic181 := by kernel_rfl
theorem icOK200 : compF Tryz.prog 200 = some ic200 := by kernel_rfl
theorem icOK204 : compF Tryz.prog 204 = some ic204 := by kernel_rfl
theorem icOK210 : compF Tryz.prog 210 = some ic210 := by kernel_rfl
theorem icOK216 : compF Tryz.prog 216 = some ic216 := by kernel_rfl
theorem icOK221 : compF Tryz.prog 221 = some ic221 := by kernel_rfl
theorem icOK239 : compF Tryz.prog 239 = some ic239 := by kernel_rfl
theorem icOK249 : compF Tryz.prog 249 = some ic249 := by kernel_rfl
theorem icOK254 : compF Tryz.prog 254 = some ic254 := by kernel_rfl
theorem icOK262 : compF Tryz.prog 262 = some ic262 := by kernel_rfl
theorem icOK271 : compF Tryz.prog 271 = some ic271 := by kernel_rfl
theorem icOK282 : compF Tryz.prog 282 = some ic282 := by kernel_rfl
theorem icOK294 : compF Tryz.prog 294 = some ic294 := by kernel_rfl
theorem icOK303 : compF Tryz.prog 303 = some ic303 := by kernel_rfl
theorem icdOK74 : compD Tryz.prog 74 = some icd74 := by kernel_rfl
theorem icdOK92 : compD Tryz.prog 92 = some icd92 := by kernel_rfl
theorem icdOK107 : compD Tryz.prog 107 = some icd107 := by kernel_rfl
theorem nmOK9 : ((Tryz.prog.funcs[(9 : Nat)]?).map fun fn => fn.name == "runtime.NumGoroutine") = some false := by kernel_rfl
theorem nmOK18 : ((Tryz.prog.funcs[(18 : Nat)]?).map fun fn => fn.name == "runtime.NumGoroutine") = some false := by kernel_rfl
theorem nmOK39 : ((Tryz.prog.funcs[(39 : Nat)]?).map fun fn => fn.name == "runtime.NumGoroutine") = some false := by kernel_rfl
theorem nmOK44 : ((Tryz.prog.funcs[(44 : Nat)]?).map fun fn => fn.name == "runtime.NumGoroutine") = some false := by kernel_rfl
theorem nmOK73 : ((Tryz.prog.funcs[(73 : Nat)]?).map fun fn => fn.name == "runtime.NumGoroutine") = some false := by kernel_rfl
theorem nmOK78 : ((Tryz.prog.funcs[(78 : Nat)]?).map fun fn => fn.name == "runtime.NumGoroutine") = some false := by kernel_rfl
theorem nmOK83 : ((Tryz.prog.funcs[(83 : Nat)]?).map fun fn => fn.name == "runtime.NumGoroutine") = some false := by kernel_rfl
theorem nmOK87 : ((Tryz.prog.funcs[(87 : Nat)]?).map fun fn => fn.name == "runtime.NumGoroutine") = some false := by kernel_rfl
theorem nmOK101 : ((Tryz.prog.funcs[(101 : Nat)]?).map fun fn => fn.name == "runtime.NumGoroutine") = some false := by kernel_rfl
theorem nmOK109 : ((Tryz.prog.funcs[(109 : Nat)]?).map fun fn => fn.name == "runtime.NumGoroutine") = some false := by kernel_rfl
theorem nmOK113 : ((Tryz.prog.funcs[(113 : Nat)]?).map fun fn => fn.name == "runtime.NumGoroutine") = some false := by kernel_rfl
theorem nmOK139 : ((Tryz.prog.funcs[(139 : Nat)]?).map fun fn => fn.name == "runtime.NumGoroutine") = some false := by kernel_rfl
theorem nmOK143 : ((Tryz.prog.funcs[(143 : Nat)]?).map fun fn => fn.name == "runtime.NumGoroutine") = some false := by kernel_rfl
theorem nmOK147 : ((Tryz.prog.funcs[(147 : Nat)]?).map fun fn => fn.name == "runtime.NumGoroutine") = some false := by kernel_rfl
theorem nmOK152 : ((Tryz.prog.funcs[(152 : Nat)]?).map fun fn => fn.name == "runtime.NumGoroutine") = some false := by kernel_rfl
theorem nmOK156 : ((Tryz.prog.funcs[(156 : Nat)]?).map fun fn => fn.name == "runtime.NumGoroutine") = some false := by kernel_rfl
theorem nmOK165 : ((Tryz.prog.funcs[(165 : Nat)]?).map fun fn => fn.name == "runtime.NumGoroutine") = some false := by kernel_rfl
theorem nmOK169 : ((Tryz.prog.funcs[(169 : Nat)]?).map fun fn => fn.name == "runtime.NumGoroutine") = some false := by kernel_rfl
theorem nmOK181 : ((Tryz.prog.funcs[(181 : Nat)]?).map fun fn => fn.name == "runtime.NumGoroutine") = some false := by kernel_rfl
theorem nmOK200 : ((Tryz.prog.funcs[(200 : Nat)]?).map fun fn => fn.name == "runtime.NumGoroutine") = some false := by kernel_rfl
theorem nmOK204 : ((Tryz.prog.funcs[(204 : Nat)]?).map fun fn => fn.name == "runtime.NumGoroutine") = some false := by kernel_rfl
theorem nmOK210 : ((Tryz.prog.funcs[(210 : Nat)]?).map fun fn => fn.name == "runtime.NumGoroutine") = some false := by kernel_rfl
theorem nmOK216 : ((Tryz.prog.funcs[(216 : Nat)]?).map fun fn => fn.name == "runtime.NumGoroutine") = some false := by kernel_rfl
theorem nmOK221 : ((Tryz.prog.funcs[(221 : Nat)]?).map fun fn => fn.name == "runtime.NumGoroutine") = some false := by kernel_rfl
theorem nmOK239 : ((Tryz.prog.funcs[(239 : Nat)]?).map fun fn => fn.name == "runtime.NumGoroutine") = some false := by kernel_rfl
theorem nmOK249 : ((Tryz.prog.funcs[(249 : Nat)]?).map fun fn => fn.name == "runtime.NumGoroutine") = some false := by kernel_rfl
theorem nmOK254 : ((Tryz.prog.funcs[(254 : Nat)]?).map fun fn => fn.name == "runtime.NumGoroutine") = some false := by kernel_rfl
theorem nmOK262 : ((Tryz.prog.funcs[(262 : Nat)]?).map fun fn => fn.name == "runtime.NumGoroutine") = some false := by kernel_rfl
theorem nmOK271 : ((Tryz.prog.funcs[(271 : Nat)]?).map fun fn => fn.name == "runtime.NumGoroutine") = some false := by kernel_rfl
theorem nmOK282 : ((Tryz.prog.funcs[(282 : Nat)]?).map fun fn => fn.name == "runtime.NumGoroutine") = some false := by kernel_rfl
theorem nmOK294 : ((Tryz.prog.funcs[(294 : Nat)]?).map fun fn => fn.name == "runtime.NumGoroutine") = some false := by kernel_rfl
theorem nmOK303 : ((Tryz.prog.funcs[(303 : Nat)]?).map fun fn => fn.name == "runtime.NumGoroutine") = some false := by kernel_rfl
theorem nmOK74 : ((Tryz.prog.funcs[(74 : Nat)]?).map fun fn => fn.name == "runtime.NumGoroutine") = some false := by kernel_rfl
theorem nmOK92 : ((Tryz.prog.funcs[(92 : Nat)]?).map fun fn => fn.name == "runtime.NumGoroutine") = some false := by kernel_rfl
theorem nmOK107 : ((Tryz.prog.funcs[(107 : Nat)]?).map fun fn => fn.name == "runtime.NumGoroutine") = some false := by kernel_rfl
end Pi
end Go.Proofs.YthdgpejippohnaaGreatDoor
