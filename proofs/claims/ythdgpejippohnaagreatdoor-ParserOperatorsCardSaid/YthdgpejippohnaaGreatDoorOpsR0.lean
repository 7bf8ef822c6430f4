/-
  ParserOperators run by the evaluator; no condition but those in each theorem.
-/
import Derived.Test.YthdgpejippohnaaGreatDoorK3
namespace Go.Proofs.YthdgpejippohnaaGreatDoor
namespace Pi
theorem op0_0 : (fun x y : Int => resB (finI ic9 (codeI po1 (callI K3 400) false 400 (c9r 5) (e5 x y 0 0) []))) = fun _ _ => some true := by kernel_rfl
theorem op0_1 : (fun x y : Int => resB (finI ic9 (codeI po1 (callI K3 400) false 400 (c9r 5) (e5 x y 0 1) []))) = fun _ _ => some true := by kernel_rfl
theorem op0_2 : (fun x y : Int => resB (finI ic9 (codeI po1 (callI K3 400) false 400 (c9r 5) (e5 x y 0 2) []))) = fun _ _ => some true := by kernel_rfl
theorem op0_3 : (fun x y : Int => resB (finI ic9 (codeI po1 (callI K3 400) false 400 (c9r 5) (e5 x y 0 3) []))) = fun _ _ => some true := by kernel_rfl
theorem op0_4 : (fun x y : Int => resB (finI ic9 (codeI po1 (callI K3 400) false 400 (c9r 5) (e5 x y 0 4) []))) = fun _ _ => some true := by kernel_rfl
theorem op0_5 : (fun x y : Int => resB (finI ic9 (codeI po1 (callI K3 400) false 400 (c9r 5) (e5 x y 0 5) []))) = fun _ _ => some true := by kernel_rfl
theorem op0_6 : (fun x y : Int => resB (finI ic9 (codeI po1 (callI K3 400) false 400 (c9r 5) (e5 x y 0 6) []))) = fun _ _ => some true := by kernel_rfl
theorem op0_7 : (fun x y : Int => resB (finI ic9 (codeI po1 (callI K3 400) false 400 (c9r 5) (e5 x y 0 7) []))) = fun _ _ => some true := by kernel_rfl
theorem op0_8 : (fun x y : Int => resB (finI ic9 (codeI po1 (callI K3 400) false 400 (c9r 5) (e5 x y 0 8) []))) = fun _ _ => some true := by kernel_rfl
theorem op1_0 : (fun x y : Int => resB (finI ic9 (codeI po1 (callI K3 400) false 400 (c9r 5) (e5 x y 1 0) []))) = fun _ _ => some true := by kernel_rfl
theorem op1_1 : (fun x y : Int => resB (finI ic9 (codeI po1 (callI K3 400) false 400 (c9r 5) (e5 x y 1 1) []))) = fun _ _ => some true := by kernel_rfl
theorem op1_2 : (fun x y : Int => resB (finI ic9 (codeI po1 (callI K3 400) false 400 (c9r 5) (e5 x y 1 2) []))) = fun _ _ => some true := by kernel_rfl
theorem op1_3 : (fun x y : Int => resB (finI ic9 (codeI po1 (callI K3 400) false 400 (c9r 5) (e5 x y 1 3) []))) = fun _ _ => some true := by kernel_rfl
theorem op1_4 : (fun x y : Int => resB (finI ic9 (codeI po1 (callI K3 400) false 400 (c9r 5) (e5 x y 1 4) []))) = fun _ _ => some true := by kernel_rfl
theorem op1_5 : (fun x y : Int => resB (finI ic9 (codeI po1 (callI K3 400) false 400 (c9r 5) (e5 x y 1 5) []))) = fun _ _ => some true := by kernel_rfl
theorem op1_6 : (fun x y : Int => resB (finI ic9 (codeI po1 (callI K3 400) false 400 (c9r 5) (e5 x y 1 6) []))) = fun _ _ => some true := by kernel_rfl
theorem op1_7 : (fun x y : Int => resB (finI ic9 (codeI po1 (callI K3 400) false 400 (c9r 5) (e5 x y 1 7) []))) = fun _ _ => some true := by kernel_rfl
theorem op1_8 : (fun x y : Int => resB (finI ic9 (codeI po1 (callI K3 400) false 400 (c9r 5) (e5 x y 1 8) []))) = fun _ _ => some true := by kernel_rfl
theorem op2_0 : (fun x y : Int => resB (finI ic9 (codeI po1 (callI K3 400) false 400 (c9r 5) (e5 x y 2 0) []))) = fun _ _ => some true := by kernel_rfl
theorem op2_1 : (fun x y : Int => resB (finI ic9 (codeI po1 (callI K3 400) false 400 (c9r 5) (e5 x y 2 1) []))) = fun _ _ => some true := by kernel_rfl
theorem op2_2 : (fun x y : Int => resB (finI ic9 (codeI po1 (callI K3 400) false 400 (c9r 5) (e5 x y 2 2) []))) = fun _ _ => some true := by kernel_rfl
theorem op2_3 : (fun x y : Int => resB (finI ic9 (codeI po1 (callI K3 400) false 400 (c9r 5) (e5 x y 2 3) []))) = fun _ _ => some true := by kernel_rfl
theorem op2_4 : (fun x y : Int => resB (finI ic9 (codeI po1 (callI K3 400) false 400 (c9r 5) (e5 x y 2 4) []))) = fun _ _ => some true := by kernel_rfl
theorem op2_5 : (fun x y : Int => resB (finI ic9 (codeI po1 (callI K3 400) false 400 (c9r 5) (e5 x y 2 5) []))) = fun _ _ => some true := by kernel_rfl
theorem op2_6 : (fun x y : Int => resB (finI ic9 (codeI po1 (callI K3 400) false 400 (c9r 5) (e5 x y 2 6) []))) = fun _ _ => some true := by kernel_rfl
theorem op2_7 : (fun x y : Int => resB (finI ic9 (codeI po1 (callI K3 400) false 400 (c9r 5) (e5 x y 2 7) []))) = fun _ _ => some true := by kernel_rfl
theorem op2_8 : (fun x y : Int => resB (finI ic9 (codeI po1 (callI K3 400) false 400 (c9r 5) (e5 x y 2 8) []))) = fun _ _ => some true := by kernel_rfl
end Pi
end Go.Proofs.YthdgpejippohnaaGreatDoor
