/-
  Runs that are known stand for the calls: a function of a string, told by the lines of a table, each of which is a run of the evaluator.
-/
import Derived.Test.YthdgpejippohnaaGreatDoorPiQ
namespace Go.Proofs.YthdgpejippohnaaGreatDoor
namespace Pi
set_option linter.unusedVariables false
section
variable {P : Program} {base : Nat} {w w' : World} {im im' : Im} {g g' : List Value} {objs objs' : Objs}
def sTab (l : List (List UInt8 × PV)) : List PV → Objs → Option (Out × Objs)
  | [.d (.str s)], [] => (match l.find? (fun p => p.1 == s) with | some p => some (.ret p.2, []) | none => none)
  | _, _ => none
/-- What a run hands back, made data. -/
noncomputable def resOf : Option (Out × Objs) → Option PV
  | some (.ret v, o) => some (v.pur (frzIds o v.ids))
  | _ => none
theorem resOf_run {x : Option (Out × Objs)} {p : PV} (h : resOf x = some p) : ∃ v o, x = some (.ret v, o) ∧ p = v.pur (frzIds o v.ids) := by
  unfold resOf at h
  split at h
  · injection h with h; exact ⟨_, _, rfl, h.symm⟩
  · cases h
theorem sTab_ok {K : Ctx} (hK : CtxOK P base K) {f : FuncId} {l : List (List UInt8 × PV)} (hl : ∀ p ∈ l, p.2.ids = [] ∧ ∃ n v o, callI K n (.fn f) [.d (.str p.1)] [] = some (.ret v, o) ∧ p.2 = v.pur (frzIds o v.ids)) : SumOK P base f (sTab l) := by
  intro args objs out objs' h w im g vargs hsat hr
  unfold sTab at h
  split at h <;> first | (cases h; done) | skip
  split at h <;> first | (cases h; done) | skip
  rename_i s _ p hp
  injection h with h; injection h with h1 h2; subst h1 h2
  have hm := List.mem_of_find?_eq_some hp
  have hs : p.1 = s := by simpa using List.find?_some hp
  obtain ⟨hid, n, q, o, hc, hq⟩ := hl p hm
  rw [hs] at hc
  obtain ⟨k1, k2⟩ := call_sound hK n _ _ _ _ _ hc w im g vargs hsat hr
  refine ⟨k1, k2.mono ?_⟩
  rintro e w' ⟨im', g', l1, s1, v, rfl, hv⟩
  obtain ⟨im2, g2, l2, s2⟩ := frzIds_sound q.ids s1
  have hv2 := pur_rep s2 (s1.mono l2 hv)
  rw [← hq] at hv2
  have t1 := (l1.trans l2).trunc hsat.len (k := 0) (Nat.le_refl _)
  have t2 := s2.trunc (k := 0) (Nat.zero_le _) (by simp [allIds])
  rw [List.take_zero, List.take_zero] at t1 t2
  refine ⟨im2, [], t1, t2, v, rfl, ?_⟩
  have := Rep_ren (g' := []) (objs' := []) (fun i => i) p.2 v (fun i hi => by rw [hid] at hi; cases hi) hv2
  rwa [ren_id] at this
end
end Pi
end Go.Proofs.YthdgpejippohnaaGreatDoor
