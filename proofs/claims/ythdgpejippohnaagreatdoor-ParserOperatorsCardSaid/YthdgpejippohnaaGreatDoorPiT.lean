/-
  A run of no arguments stands for the call.
-/
import Derived.Test.YthdgpejippohnaaGreatDoorPiS
namespace Go.Proofs.YthdgpejippohnaaGreatDoor
namespace Pi
set_option linter.unusedVariables false
section
variable {P : Program} {base : Nat} {w w' : World} {im im' : Im} {g g' : List Value} {objs objs' : Objs}
/-- One run, of no arguments, stands for the call. -/
def sNone (p : PV) : List PV → Objs → Option (Out × Objs)
  | [], [] => some (.ret p, [])
  | _, _ => none
theorem sNone_ok {K : Ctx} (hK : CtxOK P base K) {f : FuncId} {p : PV} (hid : p.ids = []) {n : Nat} (hrun : resOf (callI K n (.fn f) [] []) = some p) : SumOK P base f (sNone p) := by
  intro args objs out objs' h w im g vargs hsat hr
  unfold sNone at h
  split at h <;> first | (cases h; done) | skip
  injection h with h; injection h with h1 h2; subst h1 h2
  obtain ⟨q, o, hc, hq⟩ := resOf_run hrun
  obtain ⟨k1, k2⟩ := call_sound hK n _ _ _ _ _ hc w im g vargs hsat hr
  refine ⟨k1, k2.mono ?_⟩
  rintro e w' ⟨im', g', l1, s1, v, rfl, hv⟩
  obtain ⟨im2, g2, l2, s2⟩ := frzIds_sound q.ids s1
  have hv2 := pur_rep s2 (s1.mono l2 hv)
  rw [← hq] at hv2
  have t1 := (l1.trans l2).trunc hsat.len (k := 0) (Nat.le_refl _)
  have t2 := s2.trunc (k := 0) (Nat.zero_le _) (by simp [allIds])
  rw [List.take_zero, List.take_zero] at t1 t2
  refine ⟨im2, [], t1, t2, v, rfl, ?_⟩
  have := Rep_ren (g' := []) (objs' := []) (fun i => i) p v (fun i hi => by rw [hid] at hi; cases hi) hv2
  rwa [ren_id] at this
end
end Pi
end Go.Proofs.YthdgpejippohnaaGreatDoor
