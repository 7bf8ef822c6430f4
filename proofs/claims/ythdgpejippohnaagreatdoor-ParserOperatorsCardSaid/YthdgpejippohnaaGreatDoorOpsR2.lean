/-
  ParserOperators run by the evaluator; no condition but those in each theorem.
-/
import Derived.Test.YthdgpejippohnaaGreatDoorK3
namespace Go.Proofs.YthdgpejippohnaaGreatDoor
namespace Pi
theorem op6_0 : (fun x y : Int => resB (finI ic9 (codeI po1 (callI K3 400) false 400 (c9r 5) (e5 x y 6 0) []))) = fun _ _ => some true := by kernel_rfl
theorem op6_1 : (fun x y : Int => resB (finI ic9 (codeI po1 (callI K3 400) false 400 (c9r 5) (e5 x y 6 1) []))) = fun _ _ => some true := by kernel_rfl
theorem op6_2 : (fun x y : Int => resB (finI ic9 (codeI po1 (callI K3 400) false 400 (c9r 5) (e5 x y 6 2) []))) = fun _ _ => some true := by kernel_rfl
theorem op6_3 : (fun x y : Int => resB (finI ic9 (codeI po1 (callI K3 400) false 400 (c9r 5) (e5 x y 6 3) []))) = fun _ _ => some true := by kernel_rfl
theorem op6_4 : (fun x y : Int => resB (finI ic9 (codeI po1 (callI K3 400) false 400 (c9r 5) (e5 x y 6 4) []))) = fun _ _ => some true := by kernel_rfl
theorem op6_5 : (fun x y : Int => resB (finI ic9 (codeI po1 (callI K3 400) false 400 (c9r 5) (e5 x y 6 5) []))) = fun _ _ => some true := by kernel_rfl
theorem op6_6 : (fun x y : Int => resB (finI ic9 (codeI po1 (callI K3 400) false 400 (c9r 5) (e5 x y 6 6) []))) = fun _ _ => some true := by kernel_rfl
theorem op6_7 : (fun x y : Int => resB (finI ic9 (codeI po1 (callI K3 400) false 400 (c9r 5) (e5 x y 6 7) []))) = fun _ _ => some true := by kernel_rfl
theorem op6_8 : (fun x y : Int => resB (finI ic9 (codeI po1 (callI K3 400) false 400 (c9r 5) (e5 x y 6 8) []))) = fun _ _ => some true := by kernel_rfl
theorem op7_0 : (fun x y : Int => resB (finI ic9 (codeI po1 (callI K3 400) false 400 (c9r 5) (e5 x y 7 0) []))) = fun _ _ => some true := by kernel_rfl
theorem op7_1 : (fun x y : Int => resB (finI ic9 (codeI po1 (callI K3 400) false 400 (c9r 5) (e5 x y 7 1) []))) = fun _ _ => some true := by kernel_rfl
theorem op7_2 : (fun x y : Int => resB (finI ic9 (codeI po1 (callI K3 400) false 400 (c9r 5) (e5 x y 7 2) []))) = fun _ _ => some true := by kernel_rfl
theorem op7_3 : (fun x y : Int => resB (finI ic9 (codeI po1 (callI K3 400) false 400 (c9r 5) (e5 x y 7 3) []))) = fun _ _ => some true := by kernel_rfl
theorem op7_4 : (fun x y : Int => resB (finI ic9 (codeI po1 (callI K3 400) false 400 (c9r 5) (e5 x y 7 4) []))) = fun _ _ => some true := by kernel_rfl
theorem op7_5 : (fun x y : Int => resB (finI ic9 (codeI po1 (callI K3 400) false 400 (c9r 5) (e5 x y 7 5) []))) = fun _ _ => some true := by kernel_rfl
theorem op7_6 : (fun x y : Int => resB (finI ic9 (codeI po1 (callI K3 400) false 400 (c9r 5) (e5 x y 7 6) []))) = fun _ _ => some true := by kernel_rfl
theorem op7_7 : (fun x y : Int => resB (finI ic9 (codeI po1 (callI K3 400) false 400 (c9r 5) (e5 x y 7 7) []))) = fun _ _ => some true := by kernel_rfl
theorem op7_8 : (fun x y : Int => resB (finI ic9 (codeI po1 (callI K3 400) false 400 (c9r 5) (e5 x y 7 8) []))) = fun _ _ => some true := by kernel_rfl
theorem op8_0 : (fun x y : Int => resB (finI ic9 (codeI po1 (callI K3 400) false 400 (c9r 5) (e5 x y 8 0) []))) = fun _ _ => some true := by kernel_rfl
theorem op8_1 : (fun x y : Int => resB (finI ic9 (codeI po1 (callI K3 400) false 400 (c9r 5) (e5 x y 8 1) []))) = fun _ _ => some true := by kernel_rfl
theorem op8_2 : (fun x y : Int => resB (finI ic9 (codeI po1 (callI K3 400) false 400 (c9r 5) (e5 x y 8 2) []))) = fun _ _ => some true := by kernel_rfl
theorem op8_3 : (fun x y : Int => resB (finI ic9 (codeI po1 (callI K3 400) false 400 (c9r 5) (e5 x y 8 3) []))) = fun _ _ => some true := by kernel_rfl
theorem op8_4 : (fun x y : Int => resB (finI ic9 (codeI po1 (callI K3 400) false 400 (c9r 5) (e5 x y 8 4) []))) = fun _ _ => some true := by kernel_rfl
theorem op8_5 : (fun x y : Int => resB (finI ic9 (codeI po1 (callI K3 400) false 400 (c9r 5) (e5 x y 8 5) []))) = fun _ _ => some true := by kernel_rfl
theorem op8_6 : (fun x y : Int => resB (finI ic9 (codeI po1 (callI K3 400) false 400 (c9r 5) (e5 x y 8 6) []))) = fun _ _ => some true := by kernel_rfl
theorem op8_7 : (fun x y : Int => resB (finI ic9 (codeI po1 (callI K3 400) false 400 (c9r 5) (e5 x y 8 7) []))) = fun _ _ => some true := by kernel_rfl
theorem op8_8 : (fun x y : Int => resB (finI ic9 (codeI po1 (callI K3 400) false 400 (c9r 5) (e5 x y 8 8) []))) = fun _ _ => some true := by kernel_rfl
end Pi
end Go.Proofs.YthdgpejippohnaaGreatDoor
