/-
  ParserOperators run by the evaluator; no condition but those in each theorem.
-/
import Derived.Test.YthdgpejippohnaaGreatDoorK3
namespace Go.Proofs.YthdgpejippohnaaGreatDoor
namespace Pi
theorem op3_0 : (fun x y : Int => resB (finI ic9 (codeI po1 (callI K3 400) false 400 (c9r 5) (e5 x y 3 0) []))) = fun _ _ => some true := by kernel_rfl
theorem op3_1 : (fun x y : Int => resB (finI ic9 (codeI po1 (callI K3 400) false 400 (c9r 5) (e5 x y 3 1) []))) = fun _ _ => some true := by kernel_rfl
theorem op3_2 : (fun x y : Int => resB (finI ic9 (codeI po1 (callI K3 400) false 400 (c9r 5) (e5 x y 3 2) []))) = fun _ _ => some true := by kernel_rfl
theorem op3_3 : (fun x y : Int => resB (finI ic9 (codeI po1 (callI K3 400) false 400 (c9r 5) (e5 x y 3 3) []))) = fun _ _ => some true := by kernel_rfl
theorem op3_4 : (fun x y : Int => resB (finI ic9 (codeI po1 (callI K3 400) false 400 (c9r 5) (e5 x y 3 4) []))) = fun _ _ => some true := by kernel_rfl
theorem op3_5 : (fun x y : Int => resB (finI ic9 (codeI po1 (callI K3 400) false 400 (c9r 5) (e5 x y 3 5) []))) = fun _ _ => some true := by kernel_rfl
theorem op3_6 : (fun x y : Int => resB (finI ic9 (codeI po1 (callI K3 400) false 400 (c9r 5) (e5 x y 3 6) []))) = fun _ _ => some true := by kernel_rfl
theorem op3_7 : (fun x y : Int => resB (finI ic9 (codeI po1 (callI K3 400) false 400 (c9r 5) (e5 x y 3 7) []))) = fun _ _ => some true := by kernel_rfl
theorem op3_8 : (fun x y : Int => resB (finI ic9 (codeI po1 (callI K3 400) false 400 (c9r 5) (e5 x y 3 8) []))) = fun _ _ => some true := by kernel_rfl
theorem op4_0 : (fun x y : Int => resB (finI ic9 (codeI po1 (callI K3 400) false 400 (c9r 5) (e5 x y 4 0) []))) = fun _ _ => some true := by kernel_rfl
theorem op4_1 : (fun x y : Int => resB (finI ic9 (codeI po1 (callI K3 400) false 400 (c9r 5) (e5 x y 4 1) []))) = fun _ _ => some true := by kernel_rfl
theorem op4_2 : (fun x y : Int => resB (finI ic9 (codeI po1 (callI K3 400) false 400 (c9r 5) (e5 x y 4 2) []))) = fun _ _ => some true := by kernel_rfl
theorem op4_3 : (fun x y : Int => resB (finI ic9 (codeI po1 (callI K3 400) false 400 (c9r 5) (e5 x y 4 3) []))) = fun _ _ => some true := by kernel_rfl
theorem op4_4 : (fun x y : Int => resB (finI ic9 (codeI po1 (callI K3 400) false 400 (c9r 5) (e5 x y 4 4) []))) = fun _ _ => some true := by kernel_rfl
theorem op4_5 : (fun x y : Int => resB (finI ic9 (codeI po1 (callI K3 400) false 400 (c9r 5) (e5 x y 4 5) []))) = fun _ _ => some true := by kernel_rfl
theorem op4_6 : (fun x y : Int => resB (finI ic9 (codeI po1 (callI K3 400) false 400 (c9r 5) (e5 x y 4 6) []))) = fun _ _ => some true := by kernel_rfl
theorem op4_7 : (fun x y : Int => resB (finI ic9 (codeI po1 (callI K3 400) false 400 (c9r 5) (e5 x y 4 7) []))) = fun _ _ => some true := by kernel_rfl
theorem op4_8 : (fun x y : Int => resB (finI ic9 (codeI po1 (callI K3 400) false 400 (c9r 5) (e5 x y 4 8) []))) = fun _ _ => some true := by kernel_rfl
theorem op5_0 : (fun x y : Int => resB (finI ic9 (codeI po1 (callI K3 400) false 400 (c9r 5) (e5 x y 5 0) []))) = fun _ _ => some true := by kernel_rfl
theorem op5_1 : (fun x y : Int => resB (finI ic9 (codeI po1 (callI K3 400) false 400 (c9r 5) (e5 x y 5 1) []))) = fun _ _ => some true := by kernel_rfl
theorem op5_2 : (fun x y : Int => resB (finI ic9 (codeI po1 (callI K3 400) false 400 (c9r 5) (e5 x y 5 2) []))) = fun _ _ => some true := by kernel_rfl
theorem op5_3 : (fun x y : Int => resB (finI ic9 (codeI po1 (callI K3 400) false 400 (c9r 5) (e5 x y 5 3) []))) = fun _ _ => some true := by kernel_rfl
theorem op5_4 : (fun x y : Int => resB (finI ic9 (codeI po1 (callI K3 400) false 400 (c9r 5) (e5 x y 5 4) []))) = fun _ _ => some true := by kernel_rfl
theorem op5_5 : (fun x y : Int => resB (finI ic9 (codeI po1 (callI K3 400) false 400 (c9r 5) (e5 x y 5 5) []))) = fun _ _ => some true := by kernel_rfl
theorem op5_6 : (fun x y : Int => resB (finI ic9 (codeI po1 (callI K3 400) false 400 (c9r 5) (e5 x y 5 6) []))) = fun _ _ => some true := by kernel_rfl
theorem op5_7 : (fun x y : Int => resB (finI ic9 (codeI po1 (callI K3 400) false 400 (c9r 5) (e5 x y 5 7) []))) = fun _ _ => some true := by kernel_rfl
theorem op5_8 : (fun x y : Int => resB (finI ic9 (codeI po1 (callI K3 400) false 400 (c9r 5) (e5 x y 5 8) []))) = fun _ _ => some true := by kernel_rfl
end Pi
end Go.Proofs.YthdgpejippohnaaGreatDoor
