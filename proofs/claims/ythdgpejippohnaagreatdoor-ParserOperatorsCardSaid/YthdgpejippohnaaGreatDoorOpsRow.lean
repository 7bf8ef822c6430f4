/-
  ParserOperators: of two binary operators the one that binds more strongly is the inner one; proved for every pair of bytes, no condition.
-/
import Derived.Test.YthdgpejippohnaaGreatDoorCards
import Derived.Test.YthdgpejippohnaaGreatDoorTie
import Derived.Test.YthdgpejippohnaaGreatDoorOpsRun
import Derived.Test.YthdgpejippohnaaGreatDoorOpsRowA
import Derived.Test.YthdgpejippohnaaGreatDoorOpsRowB
import Derived.Test.YthdgpejippohnaaGreatDoorPiY
import Derived.LaidMore
import Derived.SevenTiedAt
import Derived.Stop.Joined
namespace Go.Proofs.YthdgpejippohnaaGreatDoor.Ops
open Go.ChangeShapes Go.WideShapes Go.ChangeAt Go.RowKit
open Go.Proofs.YthdgpejippohnaaGreatDoor.Pi

theorem own : ownKnob Tryz.prog.godebug = none := by kernel_rfl
theorem maxOK {W : World} (h : W.ShapedOpen Tryz.prog) : MaxOK Tryz.prog W.heap.size W :=
  max_of_shape (g := 0) (t := 3) (zero := #[.int .i64 0]) h (by kernel_rfl) (of_decide_eq_true (by kernel_rfl)) (by kernel_rfl) rfl (by kernel_rfl) (by kernel_rfl) Tryz.underlying3
theorem u8_range {x : Int} (h : (Lit.int .u8 x).wf = true) : 0 ≤ x ∧ x < 256 := by
  simp only [Lit.wf, Bool.and_eq_true, decide_eq_true_eq] at h
  have e1 : IntKind.min .u8 = 0 := by kernel_rfl
  have e2 : IntKind.max .u8 = 255 := by kernel_rfl
  rw [e1, e2] at h
  omega
set_option maxRecDepth 100000 in
theorem contract (H : Type) (enc : TypeId × Value → H) (W : World) (base : Nat) (args : Array Value) (ds gs : List (DataW H)) (before : List MemPlace)
    (hval : ∀ (j : Nat) t v, Tryz.f9.params[j]? = some t → args[j]? = some v → Value.okWide Tryz.prog W .any base t v)
    (hW : DataW.Whole enc Tryz.prog Tryz.f9.params.toList Rows.parserOperatorsSpec.vars false W args.toList ds gs before) (hsh : W.ShapedOpen Tryz.prog) :
    Calls Tryz.prog 9 args W fun e W' => ∃ v, e = .returned v ∧ Rows.parserOperatorsSpec.post enc Tryz.prog Tryz.f9 false true false false W args v W' := by
  have hW' := hW
  obtain ⟨p, q, hA0, hV, rfl, hfz, hnd⟩ := hW
  have hA : DataW.TrodAll enc Tryz.prog W 0 (fun _ => true) true Tryz.f9.params.toList args.toList ds p := hA0
  rw [Tryz.params9] at hA hval
  obtain ⟨v0, vs0, d0, ds0, p0, q0, hargs, rfl, rfl, h0, r0⟩ := trodAll_cons hA
  obtain ⟨v1, vs1, d1, ds1, p1, q1, rfl, rfl, rfl, h1, r1⟩ := trodAll_cons r0
  obtain ⟨rfl, rfl, rfl⟩ := trodAll_nil r1
  obtain rfl : args = #[v0, v1] := by cases args; simp_all
  obtain ⟨rfl, rfl⟩ := trodVars_none hV
  obtain ⟨x, rfl, rfl, rfl, wx⟩ := open_int Tryz.underlying5 (hval 0 5 v0 rfl rfl) h0
  obtain ⟨y, rfl, rfl, rfl, wy⟩ := open_int Tryz.underlying5 (hval 1 5 v1 rfl rfl) h1
  clear hA0
  simp only [List.append_nil] at hW'
  have hx := u8_range wx
  have hy := u8_range wy
  obtain ⟨n, o, hrun⟩ := ops_run x y hx.1 hx.2 hy.1 hy.2
  obtain ⟨_, hc⟩ := call_sound (ctx3 (base := W.heap.size)) n _ _ _ _ _ hrun W (fun _ _ => False) [] [.int .u8 x, .int .u8 y] (sat0 (maxOK hsh)) ⟨rfl, rfl, trivial⟩
  refine hc.mono fun e W' ⟨im', g', hle, _, v, he, hv⟩ => ?_
  subst he
  obtain rfl : v = .bool true := hv
  exact ⟨_, rfl, post_of_le (pa := []) (pv := []) hW' (fun _ _ _ => trodAll_cons_mk (shut_bool Tryz.underlying4 _) trodAll_mk0) (fun _ _ => trodAll_cons_mk (shut_int Tryz.underlying5 wx) (trodAll_cons_mk (shut_int Tryz.underlying5 wy) trodAll_mk0)) (fun _ _ => rfl) rfl hle⟩
set_option maxRecDepth 100000 in
theorem lifted (os : Os) (started : os.Started) (H : Type) (enc : TypeId × Value → H) (F : Stop.Interp) :
    ReturnsInHanded {} Tryz.checked os 9 .any ((OpenSpec.ofChange Rows.parserOperatorsSpec).preRow enc Tryz.prog Tryz.f9 Rows.parserOperatorsRow.domain false Rows.parserOperatorsRow.laid) (((OpenSpec.ofChange Rows.parserOperatorsSpec).at F).post enc Tryz.prog Tryz.f9 false true false false) := by
  obtain ⟨places, hx⟩ := reads os enc
  refine returnsInHanded_of_row (C := Tryz.checked) (s := OpenSpec.ofChange Rows.parserOperatorsSpec) own started (by kernel_rfl) Tryz.func9
    (witness_laid (enc := enc) (C := Tryz.checked) (World.laidAll Tryz.prog os Rows.parserOperatorsRow.laid) #[.int .u8 0, .int .u8 0] (World.laidAll_os _ _ _) (laid_shaped os) (by kernel_rfl)
      (OpenSpec.preRow_of_cond 8 hx (by kernel_rfl) (fun k hk => by cases hk) (by kernel_rfl) (laid_met os))) ?_
  intro W base args ds gs before hval hW _ _ _ _ hsh _
  exact contract H enc W base args ds gs before hval hW hsh
theorem said : Rows.ParserOperatorsSaid :=
  OpenClaim.holds_of_cond 9 Tryz.f9 rfl rfl rfl rfl rfl rfl rfl ⟨rfl, rfl, rfl, rfl, rfl⟩ rfl rfl rfl rfl rfl fNamed Tryz.func9 fClosed fInst fWrap
    (fun os started H enc _ F => by rw [OpenClaim.pre_eq_preRow]; exact lifted os started H enc F)
end Go.Proofs.YthdgpejippohnaaGreatDoor.Ops
namespace Go.Proofs.YthdgpejippohnaaGreatDoor
open Go.Proofs.YthdgpejippohnaaGreatDoor.Ops
/-- The card. -/
theorem ops_holds : Rows.ParserOperatorsCardSaid :=
  Claim7.holds_tied_plain_at .later [] _ _ _ _ said (fun _ h => by cases h) (by kernel_rfl) (fun _ h => by cases h) parserOperators_row_tie rfl ⟨rfl, rfl⟩ (by kernel_rfl) rfl plain (by kernel_rfl)
#print axioms ops_holds
end Go.Proofs.YthdgpejippohnaaGreatDoor
