/-
  From a run of the evaluator to a row: where it begins (no objects, the memory as the row's claim gives it), and what it leaves (everything that was there is as it was).
-/
import Derived.Test.YthdgpejippohnaaGreatDoorPiT
import Derived.ProofKit
import Derived.OpenShut
import Derived.Deep.DeepHandedRow
import Derived.LaidLaws
import Derived.Lay
namespace Go.Proofs.YthdgpejippohnaaGreatDoor
namespace Pi
set_option linter.unusedVariables false
section
variable {P : Program}
theorem max_of_shape {w : World} {g : Nat} {t : TypeId} {zero : Array Value} (h : w.ShapedOpen P) (hmax : maxAt P = some g) (hg : g < P.globals.size)
    (h0 : ((begin P (fun _ _ => 0) default).world.heap[g]?).bind Obj.row? = some (zero, t)) (hz : zero.size = 1)
    (hb : P.buildable t = true) (hc : P.cellTypes P.depth t = some [t]) (hu : P.underlying t = some (.int .i64)) : MaxOK P w.heap.size w := by
  intro q hq
  rw [hmax] at hq
  injection hq with hq
  subst hq
  obtain ⟨cs, hh, hs, hr⟩ := h.1 g zero t hg h0
  obtain ⟨ts, hts, _, hall⟩ := hr hb
  rw [hc] at hts
  cases hts
  have h1 : 0 < cs.size := by omega
  obtain ⟨u, hu', hok⟩ := hall 0 cs[0] (by simp [h1])
  have : u = t := by simpa using hu'.symm
  subst this
  have hin : cs[0]? = some cs[0] := by simp [h1]
  have hm : ∃ m, cs[0] = .int .i64 m := by
    unfold Cell.ok at hok
    rw [hu] at hok
    cases hv : cs[0] <;> rw [hv] at hok <;> simp at hok
    rename_i k m
    obtain ⟨rfl, _⟩ := hok
    exact ⟨m, rfl⟩
  obtain ⟨m, hm⟩ := hm
  rw [hm] at hin
  exact ⟨(Array.getElem?_eq_some_iff.1 hh).1, cs, u, (0, 0), m, hh, hin⟩
theorem sat0 {w : World} (h : MaxOK P w.heap.size w) : Sat P w.heap.size w (fun _ _ => False) [] [] where
  len := rfl
  low := Nat.le_refl _
  glob := h
  obj := fun i o v h => by simp at h
  dist := fun i j u v k h => by simp at h
  imm := fun b o h => h.elim
  immg := fun b o h => h.elim
theorem kept_of_le {w w' : World} {im im' : Im} {g' : List Value} {objs' : Objs} {may : MemPlace → Prop} (h : Le w im [] [] w' im' g' objs') : w.keptBut w' may := by
  refine ⟨h.os, h.output, fun i hi => ?_⟩
  have e : w'.heap[i]? = w.heap[i]? := h.frame i hi (fun j v hj => by simp at hj)
  rw [e]
  cases w.heap[i]? with
  | none => rfl
  | some o => cases o <;> simp
variable {H : Type} {enc : TypeId × Value → H}
/-- What was there is as it was: what the specification asks behind the call. -/
theorem post_of_le {f : Func} {s : ChangeSpec} {apart fresh handsOn : Bool} {W W' : World} {args : Array Value} {v : Value} {ds gs : List (DataW H)} {before pa pv : List MemPlace} {im im' : Im} {g' : List Value} {objs' : Objs}
    (hW : DataW.Whole enc P f.params.toList s.vars apart W args.toList ds gs before)
    (hres : ∀ (b : Nat) (sp : Nat → Bool) (hd : Bool), DataW.TrodAll enc P W' b sp hd f.resultTypes.toList (v.resultList f.resultTypes.size) (s.fn H (ds ++ gs)).results [])
    (hargs : ∀ sp : Nat → Bool, (∀ p ∈ before, sp p.block = true) → DataW.TrodAll enc P W' 0 sp true f.params.toList args.toList (s.fn H (ds ++ gs)).args pa)
    (hvars : ∀ sp : Nat → Bool, (∀ p ∈ before, sp p.block = true) → DataW.TrodVars enc P W' sp s.vars (s.fn H (ds ++ gs)).vars pv)
    (hps : before = pa ++ pv) (hk : Le W im [] [] W' im' g' objs') :
    s.post enc P f apart fresh handsOn false W args v W' := by
  have hold : ∀ p ∈ before, (fun b => decide (b < W.heap.size)) p.block = true := fun p hp => by simpa using hW.lt p hp
  refine ⟨ds, gs, before, [], pa, pv, hW, hres _ _ _, hargs _ hold, hvars _ hold, kept_of_le hk, fun h => by cases h⟩
/-- A world in which what is listed lies as listed. -/
theorem witness_laid {C : Checked} {os : Os} {f : FuncId} {fn : Func} {s : OpenSpec} {conds : List PathCond} {apart : Bool} {laid : List (String × DataW Unit)} (w0 : World) (args : Array Value) (hos : w0.os = os)
    (hsh : (w0.forCall (fun _ _ => 0) ⟨#[], args, []⟩).Shaped C.prog)
    (hok : Input.okWideB C.prog (w0.forCall (fun _ _ => 0) ⟨#[], args, []⟩) f ⟨#[], args, []⟩ = true)
    (hrow : s.preRow enc C.prog fn conds apart laid (w0.forCall (fun _ _ => 0) ⟨#[], args, []⟩).memory args) :
    ∃ (w : World) (tape : Tape) (i : Input), w.os = os ∧ (w.forCall tape i).Shaped C.prog ∧ i.vars = [] ∧ Input.okWide C.prog (w.forCall tape i) .any w.heap.size f i ∧
      s.preRow enc C.prog fn conds apart laid (w.forCall tape i).memory i.args ∧ ({} : Assume).holds C.prog (lone (Frame.enter C.prog f i.args .normal) [] (w.forCall tape i)) :=
  ⟨w0, fun _ _ => 0, ⟨#[], args, []⟩, hos, hsh, rfl, (Input.okWide_of_okWideB hok).2, hrow, by
    simp only [Assume.holds]
    exact ⟨by simp, by simp, fun _ => Modest.zero, by simp, by simp⟩⟩
end
end Pi
end Go.Proofs.YthdgpejippohnaaGreatDoor
