/-
  ParserOperators run by the evaluator; no condition but those in each theorem.
-/
import Derived.Test.YthdgpejippohnaaGreatDoorOpsR0
import Derived.Test.YthdgpejippohnaaGreatDoorOpsR1
import Derived.Test.YthdgpejippohnaaGreatDoorOpsR2
namespace Go.Proofs.YthdgpejippohnaaGreatDoor
namespace Pi
theorem seq_n {po : Pol} {call : CallF} {rd : Bool} {n : Nat} {a b : IC} {env env' : Env} {objs objs' : Objs} (h : codeI po call rd n a env objs = some (.normal, env', objs')) : codeI po call rd n (.seq a b) env objs = codeI po call rd n b env' objs' := by simp only [codeI, h]
theorem st0 : (fun x y : Int => codeI po1 (callI K3 400) false 400 (hd2 (c9r 0)) (e0 x y) []) = fun x y => some (.normal, e1 x y, []) := by kernel_rfl
theorem st1 : (fun x y : Int => codeI po1 (callI K3 400) false 400 (hd2 (c9r 1)) (e1 x y) []) = fun x y => some (.normal, e2 x y, []) := by kernel_rfl
theorem st2 : (fun x y : Int => codeI po1 (callI K3 400) false 400 (hd2 (c9r 2)) (e2 x y) []) = fun x y => some (.normal, e3 x y, []) := by kernel_rfl
theorem st3 : (fun x y : Int => codeI po1 (callI K3 400) false 400 (hd2 (c9r 3)) (e3 x y) []) = fun x y => some (.normal, e4 x y, []) := by kernel_rfl
theorem st4 : (fun x y : Int => codeI po1 (callI K3 400) false 400 (hd2 (c9r 4)) (e4 x y) []) = fun x y => some (.normal, e5 x y ((IntKind.wrap .i64 x).tmod 9) ((IntKind.wrap .i64 y).tmod 9), []) := by kernel_rfl
theorem sq (k : Nat) (h : c9r k = .seq (hd2 (c9r k)) (c9r (k + 1))) {env env' : Env} (h' : codeI po1 (callI K3 400) false 400 (hd2 (c9r k)) env [] = some (.normal, env', [])) : codeI po1 (callI K3 400) false 400 (c9r k) env [] = codeI po1 (callI K3 400) false 400 (c9r (k + 1)) env' [] := by
  rw [h]; exact seq_n h'
theorem run9 (x y : Int) : callI K3 401 (.fn 9) [.d (.int .u8 x), .d (.int .u8 y)] [] = finI ic9 (codeI po1 (callI K3 400) false 400 (c9r 5) (e5 x y ((IntKind.wrap .i64 x).tmod 9) ((IntKind.wrap .i64 y).tmod 9)) []) := by
  have hs : K3.sum 9 = none := by kernel_rfl
  have hf : K3.fn 9 = some ic9 := by kernel_rfl
  have hb : (fun x y : Int => bodyI po1 (callI K3 400) 400 ic9 [.d (.int .u8 x), .d (.int .u8 y)] []) = fun x y => finI ic9 (codeI po1 (callI K3 400) false 400 (c9r 0) (e0 x y) []) := by kernel_rfl
  have e : callI K3 401 (.fn 9) [.d (.int .u8 x), .d (.int .u8 y)] [] = bodyI po1 (callI K3 400) 400 ic9 [.d (.int .u8 x), .d (.int .u8 y)] [] := by
    show callI K3 (400 + 1) _ _ _ = _
    simp only [callI, hs, hf]; rfl
  rw [e, congrFun (congrFun hb x) y, sq 0 (by kernel_rfl) (congrFun (congrFun st0 x) y), sq 1 (by kernel_rfl) (congrFun (congrFun st1 x) y), sq 2 (by kernel_rfl) (congrFun (congrFun st2 x) y), sq 3 (by kernel_rfl) (congrFun (congrFun st3 x) y), sq 4 (by kernel_rfl) (congrFun (congrFun st4 x) y)]
theorem all81 (x y : Int) : ∀ a b : Nat, a < 9 → b < 9 → resB (finI ic9 (codeI po1 (callI K3 400) false 400 (c9r 5) (e5 x y a b) [])) = some true
  | 0, 0, _, _ => congrFun (congrFun op0_0 x) y
  | 0, 1, _, _ => congrFun (congrFun op0_1 x) y
  | 0, 2, _, _ => congrFun (congrFun op0_2 x) y
  | 0, 3, _, _ => congrFun (congrFun op0_3 x) y
  | 0, 4, _, _ => congrFun (congrFun op0_4 x) y
  | 0, 5, _, _ => congrFun (congrFun op0_5 x) y
  | 0, 6, _, _ => congrFun (congrFun op0_6 x) y
  | 0, 7, _, _ => congrFun (congrFun op0_7 x) y
  | 0, 8, _, _ => congrFun (congrFun op0_8 x) y
  | 1, 0, _, _ => congrFun (congrFun op1_0 x) y
  | 1, 1, _, _ => congrFun (congrFun op1_1 x) y
  | 1, 2, _, _ => congrFun (congrFun op1_2 x) y
  | 1, 3, _, _ => congrFun (congrFun op1_3 x) y
  | 1, 4, _, _ => congrFun (congrFun op1_4 x) y
  | 1, 5, _, _ => congrFun (congrFun op1_5 x) y
  | 1, 6, _, _ => congrFun (congrFun op1_6 x) y
  | 1, 7, _, _ => congrFun (congrFun op1_7 x) y
  | 1, 8, _, _ => congrFun (congrFun op1_8 x) y
  | 2, 0, _, _ => congrFun (congrFun op2_0 x) y
  | 2, 1, _, _ => congrFun (congrFun op2_1 x) y
  | 2, 2, _, _ => congrFun (congrFun op2_2 x) y
  | 2, 3, _, _ => congrFun (congrFun op2_3 x) y
  | 2, 4, _, _ => congrFun (congrFun op2_4 x) y
  | 2, 5, _, _ => congrFun (congrFun op2_5 x) y
  | 2, 6, _, _ => congrFun (congrFun op2_6 x) y
  | 2, 7, _, _ => congrFun (congrFun op2_7 x) y
  | 2, 8, _, _ => congrFun (congrFun op2_8 x) y
  | 3, 0, _, _ => congrFun (congrFun op3_0 x) y
  | 3, 1, _, _ => congrFun (congrFun op3_1 x) y
  | 3, 2, _, _ => congrFun (congrFun op3_2 x) y
  | 3, 3, _, _ => congrFun (congrFun op3_3 x) y
  | 3, 4, _, _ => congrFun (congrFun op3_4 x) y
  | 3, 5, _, _ => congrFun (congrFun op3_5 x) y
  | 3, 6, _, _ => congrFun (congrFun op3_6 x) y
  | 3, 7, _, _ => congrFun (congrFun op3_7 x) y
  | 3, 8, _, _ => congrFun (congrFun op3_8 x) y
  | 4, 0, _, _ => congrFun (congrFun op4_0 x) y
  | 4, 1, _, _ => congrFun (congrFun op4_1 x) y
  | 4, 2, _, _ => congrFun (congrFun op4_2 x) y
  | 4, 3, _, _ => congrFun (congrFun op4_3 x) y
  | 4, 4, _, _ => congrFun (congrFun op4_4 x) y
  | 4, 5, _, _ => congrFun (congrFun op4_5 x) y
  | 4, 6, _, _ => congrFun (congrFun op4_6 x) y
  | 4, 7, _, _ => congrFun (congrFun op4_7 x) y
  | 4, 8, _, _ => congrFun (congrFun op4_8 x) y
  | 5, 0, _, _ => congrFun (congrFun op5_0 x) y
  | 5, 1, _, _ => congrFun (congrFun op5_1 x) y
  | 5, 2, _, _ => congrFun (congrFun op5_2 x) y
  | 5, 3, _, _ => congrFun (congrFun op5_3 x) y
  | 5, 4, _, _ => congrFun (congrFun op5_4 x) y
  | 5, 5, _, _ => congrFun (congrFun op5_5 x) y
  | 5, 6, _, _ => congrFun (congrFun op5_6 x) y
  | 5, 7, _, _ => congrFun (congrFun op5_7 x) y
  | 5, 8, _, _ => congrFun (congrFun op5_8 x) y
  | 6, 0, _, _ => congrFun (congrFun op6_0 x) y
  | 6, 1, _, _ => congrFun (congrFun op6_1 x) y
  | 6, 2, _, _ => congrFun (congrFun op6_2 x) y
  | 6, 3, _, _ => congrFun (congrFun op6_3 x) y
  | 6, 4, _, _ => congrFun (congrFun op6_4 x) y
  | 6, 5, _, _ => congrFun (congrFun op6_5 x) y
  | 6, 6, _, _ => congrFun (congrFun op6_6 x) y
  | 6, 7, _, _ => congrFun (congrFun op6_7 x) y
  | 6, 8, _, _ => congrFun (congrFun op6_8 x) y
  | 7, 0, _, _ => congrFun (congrFun op7_0 x) y
  | 7, 1, _, _ => congrFun (congrFun op7_1 x) y
  | 7, 2, _, _ => congrFun (congrFun op7_2 x) y
  | 7, 3, _, _ => congrFun (congrFun op7_3 x) y
  | 7, 4, _, _ => congrFun (congrFun op7_4 x) y
  | 7, 5, _, _ => congrFun (congrFun op7_5 x) y
  | 7, 6, _, _ => congrFun (congrFun op7_6 x) y
  | 7, 7, _, _ => congrFun (congrFun op7_7 x) y
  | 7, 8, _, _ => congrFun (congrFun op7_8 x) y
  | 8, 0, _, _ => congrFun (congrFun op8_0 x) y
  | 8, 1, _, _ => congrFun (congrFun op8_1 x) y
  | 8, 2, _, _ => congrFun (congrFun op8_2 x) y
  | 8, 3, _, _ => congrFun (congrFun op8_3 x) y
  | 8, 4, _, _ => congrFun (congrFun op8_4 x) y
  | 8, 5, _, _ => congrFun (congrFun op8_5 x) y
  | 8, 6, _, _ => congrFun (congrFun op8_6 x) y
  | 8, 7, _, _ => congrFun (congrFun op8_7 x) y
  | 8, 8, _, _ => congrFun (congrFun op8_8 x) y
  | a + 9, _, h, _ => absurd h (by omega)
  | _, b + 9, _, h => absurd h (by omega)
theorem wrap_small {x : Int} (h0 : 0 ≤ x) (h1 : x < 256) : IntKind.wrap .i64 x = x := by
  simp only [IntKind.wrap, IntKind.bits, IntKind.signed]
  simp <;> omega
theorem tmod_small {x : Int} (h0 : 0 ≤ x) : ∃ a : Nat, a < 9 ∧ x.tmod 9 = a := by
  refine ⟨(x.tmod 9).toNat, ?_, ?_⟩
  · rw [Int.tmod_eq_emod_of_nonneg h0]; omega
  · rw [Int.tmod_eq_emod_of_nonneg h0]; omega
theorem resB_some {x : Option (Out × Objs)} {b : Bool} (h : resB x = some b) : ∃ o, x = some (.ret (.d (.bool b)), o) := by
  unfold resB at h
  split at h
  · injection h with h; subst h; exact ⟨_, rfl⟩
  · cases h
theorem ops_run (x y : Int) (hx0 : 0 ≤ x) (hx1 : x < 256) (hy0 : 0 ≤ y) (hy1 : y < 256) : ∃ n o, callI K3 n (.fn 9) [.d (.int .u8 x), .d (.int .u8 y)] [] = some (.ret (.d (.bool true)), o) := by
  obtain ⟨a, ha, ea⟩ := tmod_small hx0
  obtain ⟨b, hb, eb⟩ := tmod_small hy0
  have h := run9 x y
  rw [wrap_small hx0 hx1, wrap_small hy0 hy1, ea, eb] at h
  obtain ⟨o, ho⟩ := resB_some (all81 x y a b ha hb)
  exact ⟨401, o, h.trans ho⟩
end Pi
end Go.Proofs.YthdgpejippohnaaGreatDoor
