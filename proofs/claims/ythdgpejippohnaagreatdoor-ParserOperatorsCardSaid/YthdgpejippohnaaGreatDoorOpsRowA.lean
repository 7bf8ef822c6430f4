/-
  ParserOperators: the closed facts of its row; no condition.
-/
import Derived.Test.YthdgpejippohnaaGreatDoorCards
import Derived.Test.YthdgpejippohnaaGreatDoorTie
import Derived.Test.YthdgpejippohnaaGreatDoorPiY
import Derived.LaidMore
import Derived.SevenTiedAt
import Derived.Stop.Joined
namespace Go.Proofs.YthdgpejippohnaaGreatDoor.Ops
open Go.ChangeShapes Go.WideShapes Go.ChangeAt Go.RowKit
open Go.Proofs.YthdgpejippohnaaGreatDoor.Pi
theorem fNamed : Tryz.pinned.checked.prog.funcNamed Rows.parserOperatorsRow.func = some 9 := by kernel_rfl
theorem fClosed : joinedFacts Tryz.pinned.checked.prog 9 Tryz.f9 (OpenSpec.ofChange Rows.parserOperatorsSpec).bare Rows.parserOperatorsRow = true := by kernel_rfl
theorem fInst : Tryz.f9.isInstance Tryz.pinned.checked.prog Rows.parserOperatorsRow.origin Rows.parserOperatorsRow.targs := of_decide_eq_true (by kernel_rfl)
theorem fWrap : Tryz.f9.isWrapper Tryz.pinned.checked.prog Rows.parserOperatorsRow.wrapper Rows.parserOperatorsRow.mainSum := by
  unfold Func.isWrapper; first | (rw [if_pos (by decide +kernel)]; kernel_rfl) | (rw [if_neg (by decide +kernel)]; exact ⟨rfl, rfl⟩)
theorem plain (f : FuncId) (fn : Func) (hf : Tryz.pinned.checked.prog.funcNamed "modcert/modcertlaw05.ParserOperators" = some f) (hfn : Tryz.pinned.checked.prog.funcs[f]? = some fn) :
    true = Tryz.pinned.checked.prog.looks [] ∧ ∀ (j : Nat) t, fn.params[j]? = some t → Tryz.pinned.checked.prog.wantsStandIn t = false := by
  obtain rfl : f = 9 := Option.some.inj ((show Tryz.prog.funcNamed "modcert/modcertlaw05.ParserOperators" = some 9 by kernel_rfl).symm.trans hf) |>.symm
  obtain rfl : fn = Tryz.f9 := (Option.some.inj (Tryz.func9.symm.trans hfn)).symm
  refine ⟨by kernel_rfl, fun j t ht => ?_⟩
  rw [Tryz.params9] at ht
  obtain rfl : t = 5 := by simpa using Array.mem_of_getElem? ht
  exact (show Tryz.prog.wantsStandIn 5 = false by kernel_rfl)
end Go.Proofs.YthdgpejippohnaaGreatDoor.Ops
