/-
  ParserOperators: a world in which the listed variables lie as listed; no condition.
-/
import Derived.Test.YthdgpejippohnaaGreatDoorCards
import Derived.Test.YthdgpejippohnaaGreatDoorTie
import Derived.Test.YthdgpejippohnaaGreatDoorPiY
import Derived.LaidMore
import Derived.SevenTiedAt
import Derived.Stop.Joined
namespace Go.Proofs.YthdgpejippohnaaGreatDoor.Ops
open Go.ChangeShapes Go.WideShapes Go.ChangeAt Go.RowKit
open Go.Proofs.YthdgpejippohnaaGreatDoor.Pi
theorem laid_met (os : Os) : laidMet Tryz.prog Rows.parserOperatorsRow.laid ((World.laidAll Tryz.prog os Rows.parserOperatorsRow.laid).forCall (fun _ _ => 0) ⟨#[], #[.int .u8 0, .int .u8 0], []⟩).memory :=
  laidMet_laidAll _ (by kernel_rfl) (by kernel_rfl)
theorem laid_shaped (os : Os) : ((World.laidAll Tryz.prog os Rows.parserOperatorsRow.laid).forCall (fun _ _ => 0) ⟨#[], #[.int .u8 0, .int .u8 0], []⟩).Shaped Tryz.prog :=
  World.shaped_of_ZipB (by kernel_rfl) (by kernel_rfl)
theorem reads (os : Os) {H : Type} (enc : TypeId × Value → H) : ∃ places, DataW.whole enc Tryz.prog ((World.laidAll Tryz.prog os Rows.parserOperatorsRow.laid).forCall (fun _ _ => 0) ⟨#[], #[.int .u8 0, .int .u8 0], []⟩).memory Tryz.f9.params.toList Rows.parserOperatorsSpec.vars false #[Value.int .u8 0, Value.int .u8 0].toList 8 = some ([.lit (.int .u8 0), .lit (.int .u8 0)], [], places) :=
  ⟨[], by kernel_rfl⟩
end Go.Proofs.YthdgpejippohnaaGreatDoor.Ops
