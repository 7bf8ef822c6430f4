/-
  The context with the known runs of the parser in place of its calls; that it is right. No condition.
-/
import Derived.Test.YthdgpejippohnaaGreatDoorRn00
import Derived.Test.YthdgpejippohnaaGreatDoorRn01
import Derived.Test.YthdgpejippohnaaGreatDoorRn02
import Derived.Test.YthdgpejippohnaaGreatDoorRn03
import Derived.Test.YthdgpejippohnaaGreatDoorRn04
import Derived.Test.YthdgpejippohnaaGreatDoorRn05
import Derived.Test.YthdgpejippohnaaGreatDoorRn06
import Derived.Test.YthdgpejippohnaaGreatDoorRn07
import Derived.Test.YthdgpejippohnaaGreatDoorRn08
import Derived.Test.YthdgpejippohnaaGreatDoorRn09
import Derived.Test.YthdgpejippohnaaGreatDoorRn10
import Derived.Test.YthdgpejippohnaaGreatDoorRn11
import Derived.Test.YthdgpejippohnaaGreatDoorRn12
import Derived.Test.YthdgpejippohnaaGreatDoorRn13
import Derived.Test.YthdgpejippohnaaGreatDoorRn14
import Derived.Test.YthdgpejippohnaaGreatDoorRn15
import Derived.Test.YthdgpejippohnaaGreatDoorRn16
namespace Go.Proofs.YthdgpejippohnaaGreatDoor
namespace Pi
def tab12 : List (List UInt8 × PV) :=
  [([102, 110, 40, 98, 63, 58, 32, 105, 110, 116, 44, 32, 97, 58, 32, 123, 125, 41, 32, 115, 58, 58, 78, 91, 116, 101, 120, 116, 93], rv1)]
theorem tab12_ok : ∀ p ∈ tab12, p.2.ids = [] ∧ ∃ n v o, callI K1 n (.fn 12) [.d (.str p.1)] [] = some (.ret v, o) ∧ p.2 = v.pur (frzIds o v.ids) := by
  unfold tab12
  refine List.forall_mem_cons.2 ⟨⟨by kernel_rfl, 400, resOf_run rn1⟩, ?_⟩
  intro p h
  cases h
def tab15 : List (List UInt8 × PV) :=
  [([97, 32, 45, 32, 98, 32, 42, 32, 99, 32, 45, 32, 49], rv0),
   ([97, 32, 43], rv3),
   ([97, 32, 111, 114, 32, 98, 32, 111, 114, 32, 99], rv4),
   ([97, 32, 111, 114, 32, 98, 32, 97, 110, 100, 32, 99], rv5),
   ([97, 32, 111, 114, 32, 98, 32, 61, 61, 32, 99], rv6),
   ([97, 32, 111, 114, 32, 98, 32, 61, 61, 61, 32, 99], rv7),
   ([97, 32, 111, 114, 32, 98, 32, 60, 32, 99], rv8),
   ([97, 32, 111, 114, 32, 98, 32, 43, 32, 99], rv9),
   ([97, 32, 111, 114, 32, 98, 32, 45, 32, 99], rv10),
   ([97, 32, 111, 114, 32, 98, 32, 43, 43, 32, 99], rv11),
   ([97, 32, 111, 114, 32, 98, 32, 42, 32, 99], rv12),
   ([97, 32, 97, 110, 100, 32, 98, 32, 111, 114, 32, 99], rv13),
   ([97, 32, 97, 110, 100, 32, 98, 32, 97, 110, 100, 32, 99], rv14),
   ([97, 32, 97, 110, 100, 32, 98, 32, 61, 61, 32, 99], rv15),
   ([97, 32, 97, 110, 100, 32, 98, 32, 61, 61, 61, 32, 99], rv16),
   ([97, 32, 97, 110, 100, 32, 98, 32, 60, 32, 99], rv17),
   ([97, 32, 97, 110, 100, 32, 98, 32, 43, 32, 99], rv18),
   ([97, 32, 97, 110, 100, 32, 98, 32, 45, 32, 99], rv19),
   ([97, 32, 97, 110, 100, 32, 98, 32, 43, 43, 32, 99], rv20),
   ([97, 32, 97, 110, 100, 32, 98, 32, 42, 32, 99], rv21),
   ([97, 32, 61, 61, 32, 98, 32, 111, 114, 32, 99], rv22),
   ([97, 32, 61, 61, 32, 98, 32, 97, 110, 100, 32, 99], rv23),
   ([97, 32, 61, 61, 32, 98, 32, 61, 61, 32, 99], rv24),
   ([97, 32, 61, 61, 32, 98, 32, 61, 61, 61, 32, 99], rv25),
   ([97, 32, 61, 61, 32, 98, 32, 60, 32, 99], rv26),
   ([97, 32, 61, 61, 32, 98, 32, 43, 32, 99], rv27),
   ([97, 32, 61, 61, 32, 98, 32, 45, 32, 99], rv28),
   ([97, 32, 61, 61, 32, 98, 32, 43, 43, 32, 99], rv29),
   ([97, 32, 61, 61, 32, 98, 32, 42, 32, 99], rv30),
   ([97, 32, 61, 61, 61, 32, 98, 32, 111, 114, 32, 99], rv31),
   ([97, 32, 61, 61, 61, 32, 98, 32, 97, 110, 100, 32, 99], rv32),
   ([97, 32, 61, 61, 61, 32, 98, 32, 61, 61, 32, 99], rv33),
   ([97, 32, 61, 61, 61, 32, 98, 32, 61, 61, 61, 32, 99], rv34),
   ([97, 32, 61, 61, 61, 32, 98, 32, 60, 32, 99], rv35),
   ([97, 32, 61, 61, 61, 32, 98, 32, 43, 32, 99], rv36),
   ([97, 32, 61, 61, 61, 32, 98, 32, 45, 32, 99], rv37),
   ([97, 32, 61, 61, 61, 32, 98, 32, 43, 43, 32, 99], rv38),
   ([97, 32, 61, 61, 61, 32, 98, 32, 42, 32, 99], rv39),
   ([97, 32, 60, 32, 98, 32, 111, 114, 32, 99], rv40),
   ([97, 32, 60, 32, 98, 32, 97, 110, 100, 32, 99], rv41),
   ([97, 32, 60, 32, 98, 32, 61, 61, 32, 99], rv42),
   ([97, 32, 60, 32, 98, 32, 61, 61, 61, 32, 99], rv43),
   ([97, 32, 60, 32, 98, 32, 60, 32, 99], rv44),
   ([97, 32, 60, 32, 98, 32, 43, 32, 99], rv45),
   ([97, 32, 60, 32, 98, 32, 45, 32, 99], rv46),
   ([97, 32, 60, 32, 98, 32, 43, 43, 32, 99], rv47),
   ([97, 32, 60, 32, 98, 32, 42, 32, 99], rv48),
   ([97, 32, 43, 32, 98, 32, 111, 114, 32, 99], rv49),
   ([97, 32, 43, 32, 98, 32, 97, 110, 100, 32, 99], rv50),
   ([97, 32, 43, 32, 98, 32, 61, 61, 32, 99], rv51),
   ([97, 32, 43, 32, 98, 32, 61, 61, 61, 32, 99], rv52),
   ([97, 32, 43, 32, 98, 32, 60, 32, 99], rv53),
   ([97, 32, 43, 32, 98, 32, 43, 32, 99], rv54),
   ([97, 32, 43, 32, 98, 32, 45, 32, 99], rv55),
   ([97, 32, 43, 32, 98, 32, 43, 43, 32, 99], rv56),
   ([97, 32, 43, 32, 98, 32, 42, 32, 99], rv57),
   ([97, 32, 45, 32, 98, 32, 111, 114, 32, 99], rv58),
   ([97, 32, 45, 32, 98, 32, 97, 110, 100, 32, 99], rv59),
   ([97, 32, 45, 32, 98, 32, 61, 61, 32, 99], rv60),
   ([97, 32, 45, 32, 98, 32, 61, 61, 61, 32, 99], rv61),
   ([97, 32, 45, 32, 98, 32, 60, 32, 99], rv62),
   ([97, 32, 45, 32, 98, 32, 43, 32, 99], rv63),
   ([97, 32, 45, 32, 98, 32, 45, 32, 99], rv64),
   ([97, 32, 45, 32, 98, 32, 43, 43, 32, 99], rv65),
   ([97, 32, 45, 32, 98, 32, 42, 32, 99], rv66),
   ([97, 32, 43, 43, 32, 98, 32, 111, 114, 32, 99], rv67),
   ([97, 32, 43, 43, 32, 98, 32, 97, 110, 100, 32, 99], rv68),
   ([97, 32, 43, 43, 32, 98, 32, 61, 61, 32, 99], rv69),
   ([97, 32, 43, 43, 32, 98, 32, 61, 61, 61, 32, 99], rv70),
   ([97, 32, 43, 43, 32, 98, 32, 60, 32, 99], rv71),
   ([97, 32, 43, 43, 32, 98, 32, 43, 32, 99], rv72),
   ([97, 32, 43, 43, 32, 98, 32, 45, 32, 99], rv73),
   ([97, 32, 43, 43, 32, 98, 32, 43, 43, 32, 99], rv74),
   ([97, 32, 43, 43, 32, 98, 32, 42, 32, 99], rv75),
   ([97, 32, 42, 32, 98, 32, 111, 114, 32, 99], rv76),
   ([97, 32, 42, 32, 98, 32, 97, 110, 100, 32, 99], rv77),
   ([97, 32, 42, 32, 98, 32, 61, 61, 32, 99], rv78),
   ([97, 32, 42, 32, 98, 32, 61, 61, 61, 32, 99], rv79),
   ([97, 32, 42, 32, 98, 32, 60, 32, 99], rv80),
   ([97, 32, 42, 32, 98, 32, 43, 32, 99], rv81),
   ([97, 32, 42, 32, 98, 32, 45, 32, 99], rv82),
   ([97, 32, 42, 32, 98, 32, 43, 43, 32, 99], rv83),
   ([97, 32, 42, 32, 98, 32, 42, 32, 99], rv84)]
theorem tab15_ok : ∀ p ∈ tab15, p.2.ids = [] ∧ ∃ n v o, callI K1 n (.fn 15) [.d (.str p.1)] [] = some (.ret v, o) ∧ p.2 = v.pur (frzIds o v.ids) := by
  unfold tab15
  refine List.forall_mem_cons.2 ⟨⟨by kernel_rfl, 400, resOf_run rn0⟩, ?_⟩
  refine List.forall_mem_cons.2 ⟨⟨by kernel_rfl, 400, resOf_run rn3⟩, ?_⟩
  refine List.forall_mem_cons.2 ⟨⟨by kernel_rfl, 400, resOf_run rn4⟩, ?_⟩
  refine List.forall_mem_cons.2 ⟨⟨by kernel_rfl, 400, resOf_run rn5⟩, ?_⟩
  refine List.forall_mem_cons.2 ⟨⟨by kernel_rfl, 400, resOf_run rn6⟩, ?_⟩
  refine List.forall_mem_cons.2 ⟨⟨by kernel_rfl, 400, resOf_run rn7⟩, ?_⟩
  refine List.forall_mem_cons.2 ⟨⟨by kernel_rfl, 400, resOf_run rn8⟩, ?_⟩
  refine List.forall_mem_cons.2 ⟨⟨by kernel_rfl, 400, resOf_run rn9⟩, ?_⟩
  refine List.forall_mem_cons.2 ⟨⟨by kernel_rfl, 400, resOf_run rn10⟩, ?_⟩
  refine List.forall_mem_cons.2 ⟨⟨by kernel_rfl, 400, resOf_run rn11⟩, ?_⟩
  refine List.forall_mem_cons.2 ⟨⟨by kernel_rfl, 400, resOf_run rn12⟩, ?_⟩
  refine List.forall_mem_cons.2 ⟨⟨by kernel_rfl, 400, resOf_run rn13⟩, ?_⟩
  refine List.forall_mem_cons.2 ⟨⟨by kernel_rfl, 400, resOf_run rn14⟩, ?_⟩
  refine List.forall_mem_cons.2 ⟨⟨by kernel_rfl, 400, resOf_run rn15⟩, ?_⟩
  refine List.forall_mem_cons.2 ⟨⟨by kernel_rfl, 400, resOf_run rn16⟩, ?_⟩
  refine List.forall_mem_cons.2 ⟨⟨by kernel_rfl, 400, resOf_run rn17⟩, ?_⟩
  refine List.forall_mem_cons.2 ⟨⟨by kernel_rfl, 400, resOf_run rn18⟩, ?_⟩
  refine List.forall_mem_cons.2 ⟨⟨by kernel_rfl, 400, resOf_run rn19⟩, ?_⟩
  refine List.forall_mem_cons.2 ⟨⟨by kernel_rfl, 400, resOf_run rn20⟩, ?_⟩
  refine List.forall_mem_cons.2 ⟨⟨by kernel_rfl, 400, resOf_run rn21⟩, ?_⟩
  refine List.forall_mem_cons.2 ⟨⟨by kernel_rfl, 400, resOf_run rn22⟩, ?_⟩
  refine List.forall_mem_cons.2 ⟨⟨by kernel_rfl, 400, resOf_run rn23⟩, ?_⟩
  refine List.forall_mem_cons.2 ⟨⟨by kernel_rfl, 400, resOf_run rn24⟩, ?_⟩
  refine List.forall_mem_cons.2 ⟨⟨by kernel_rfl, 400, resOf_run rn25⟩, ?_⟩
  refine List.forall_mem_cons.2 ⟨⟨by kernel_rfl, 400, resOf_run rn26⟩, ?_⟩
  refine List.forall_mem_cons.2 ⟨⟨by kernel_rfl, 400, resOf_run rn27⟩, ?_⟩
  refine List.forall_mem_cons.2 ⟨⟨by kernel_rfl, 400, resOf_run rn28⟩, ?_⟩
  refine List.forall_mem_cons.2 ⟨⟨by kernel_rfl, 400, resOf_run rn29⟩, ?_⟩
  refine List.forall_mem_cons.2 ⟨⟨by kernel_rfl, 400, resOf_run rn30⟩, ?_⟩
  refine List.forall_mem_cons.2 ⟨⟨by kernel_rfl, 400, resOf_run rn31⟩, ?_⟩
  refine List.forall_mem_cons.2 ⟨⟨by kernel_rfl, 400, resOf_run rn32⟩, ?_⟩
  refine List.forall_mem_cons.2 ⟨⟨by kernel_rfl, 400, resOf_run rn33⟩, ?_⟩
  refine List.forall_mem_cons.2 ⟨⟨by kernel_rfl, 400, resOf_run rn34⟩, ?_⟩
  refine List.forall_mem_cons.2 ⟨⟨by kernel_rfl, 400, resOf_run rn35⟩, ?_⟩
  refine List.forall_mem_cons.2 ⟨⟨by kernel_rfl, 400, resOf_run rn36⟩, ?_⟩
  refine List.forall_mem_cons.2 ⟨⟨by kernel_rfl, 400, resOf_run rn37⟩, ?_⟩
  refine List.forall_mem_cons.2 ⟨⟨by kernel_rfl, 400, resOf_run rn38⟩, ?_⟩
  refine List.forall_mem_cons.2 ⟨⟨by kernel_rfl, 400, resOf_run rn39⟩, ?_⟩
  refine List.forall_mem_cons.2 ⟨⟨by kernel_rfl, 400, resOf_run rn40⟩, ?_⟩
  refine List.forall_mem_cons.2 ⟨⟨by kernel_rfl, 400, resOf_run rn41⟩, ?_⟩
  refine List.forall_mem_cons.2 ⟨⟨by kernel_rfl, 400, resOf_run rn42⟩, ?_⟩
  refine List.forall_mem_cons.2 ⟨⟨by kernel_rfl, 400, resOf_run rn43⟩, ?_⟩
  refine List.forall_mem_cons.2 ⟨⟨by kernel_rfl, 400, resOf_run rn44⟩, ?_⟩
  refine List.forall_mem_cons.2 ⟨⟨by kernel_rfl, 400, resOf_run rn45⟩, ?_⟩
  refine List.forall_mem_cons.2 ⟨⟨by kernel_rfl, 400, resOf_run rn46⟩, ?_⟩
  refine List.forall_mem_cons.2 ⟨⟨by kernel_rfl, 400, resOf_run rn47⟩, ?_⟩
  refine List.forall_mem_cons.2 ⟨⟨by kernel_rfl, 400, resOf_run rn48⟩, ?_⟩
  refine List.forall_mem_cons.2 ⟨⟨by kernel_rfl, 400, resOf_run rn49⟩, ?_⟩
  refine List.forall_mem_cons.2 ⟨⟨by kernel_rfl, 400, resOf_run rn50⟩, ?_⟩
  refine List.forall_mem_cons.2 ⟨⟨by kernel_rfl, 400, resOf_run rn51⟩, ?_⟩
  refine List.forall_mem_cons.2 ⟨⟨by kernel_rfl, 400, resOf_run rn52⟩, ?_⟩
  refine List.forall_mem_cons.2 ⟨⟨by kernel_rfl, 400, resOf_run rn53⟩, ?_⟩
  refine List.forall_mem_cons.2 ⟨⟨by kernel_rfl, 400, resOf_run rn54⟩, ?_⟩
  refine List.forall_mem_cons.2 ⟨⟨by kernel_rfl, 400, resOf_run rn55⟩, ?_⟩
  refine List.forall_mem_cons.2 ⟨⟨by kernel_rfl, 400, resOf_run rn56⟩, ?_⟩
  refine List.forall_mem_cons.2 ⟨⟨by kernel_rfl, 400, resOf_run rn57⟩, ?_⟩
  refine List.forall_mem_cons.2 ⟨⟨by kernel_rfl, 400, resOf_run rn58⟩, ?_⟩
  refine List.forall_mem_cons.2 ⟨⟨by kernel_rfl, 400, resOf_run rn59⟩, ?_⟩
  refine List.forall_mem_cons.2 ⟨⟨by kernel_rfl, 400, resOf_run rn60⟩, ?_⟩
  refine List.forall_mem_cons.2 ⟨⟨by kernel_rfl, 400, resOf_run rn61⟩, ?_⟩
  refine List.forall_mem_cons.2 ⟨⟨by kernel_rfl, 400, resOf_run rn62⟩, ?_⟩
  refine List.forall_mem_cons.2 ⟨⟨by kernel_rfl, 400, resOf_run rn63⟩, ?_⟩
  refine List.forall_mem_cons.2 ⟨⟨by kernel_rfl, 400, resOf_run rn64⟩, ?_⟩
  refine List.forall_mem_cons.2 ⟨⟨by kernel_rfl, 400, resOf_run rn65⟩, ?_⟩
  refine List.forall_mem_cons.2 ⟨⟨by kernel_rfl, 400, resOf_run rn66⟩, ?_⟩
  refine List.forall_mem_cons.2 ⟨⟨by kernel_rfl, 400, resOf_run rn67⟩, ?_⟩
  refine List.forall_mem_cons.2 ⟨⟨by kernel_rfl, 400, resOf_run rn68⟩, ?_⟩
  refine List.forall_mem_cons.2 ⟨⟨by kernel_rfl, 400, resOf_run rn69⟩, ?_⟩
  refine List.forall_mem_cons.2 ⟨⟨by kernel_rfl, 400, resOf_run rn70⟩, ?_⟩
  refine List.forall_mem_cons.2 ⟨⟨by kernel_rfl, 400, resOf_run rn71⟩, ?_⟩
  refine List.forall_mem_cons.2 ⟨⟨by kernel_rfl, 400, resOf_run rn72⟩, ?_⟩
  refine List.forall_mem_cons.2 ⟨⟨by kernel_rfl, 400, resOf_run rn73⟩, ?_⟩
  refine List.forall_mem_cons.2 ⟨⟨by kernel_rfl, 400, resOf_run rn74⟩, ?_⟩
  refine List.forall_mem_cons.2 ⟨⟨by kernel_rfl, 400, resOf_run rn75⟩, ?_⟩
  refine List.forall_mem_cons.2 ⟨⟨by kernel_rfl, 400, resOf_run rn76⟩, ?_⟩
  refine List.forall_mem_cons.2 ⟨⟨by kernel_rfl, 400, resOf_run rn77⟩, ?_⟩
  refine List.forall_mem_cons.2 ⟨⟨by kernel_rfl, 400, resOf_run rn78⟩, ?_⟩
  refine List.forall_mem_cons.2 ⟨⟨by kernel_rfl, 400, resOf_run rn79⟩, ?_⟩
  refine List.forall_mem_cons.2 ⟨⟨by kernel_rfl, 400, resOf_run rn80⟩, ?_⟩
  refine List.forall_mem_cons.2 ⟨⟨by kernel_rfl, 400, resOf_run rn81⟩, ?_⟩
  refine List.forall_mem_cons.2 ⟨⟨by kernel_rfl, 400, resOf_run rn82⟩, ?_⟩
  refine List.forall_mem_cons.2 ⟨⟨by kernel_rfl, 400, resOf_run rn83⟩, ?_⟩
  refine List.forall_mem_cons.2 ⟨⟨by kernel_rfl, 400, resOf_run rn84⟩, ?_⟩
  intro p h
  cases h
def tab18 : List (List UInt8 × PV) :=
  [([109, 111, 100, 117, 108, 101, 32, 97, 47, 118, 49, 32, 101, 120, 112, 111, 114, 116, 32, 108, 101, 116, 32, 118, 58, 32, 105, 110, 116, 32, 61, 32, 49], rv2)]
theorem tab18_ok : ∀ p ∈ tab18, p.2.ids = [] ∧ ∃ n v o, callI K1 n (.fn 18) [.d (.str p.1)] [] = some (.ret v, o) ∧ p.2 = v.pur (frzIds o v.ids) := by
  unfold tab18
  refine List.forall_mem_cons.2 ⟨⟨by kernel_rfl, 400, resOf_run rn2⟩, ?_⟩
  intro p h
  cases h
noncomputable def sum2 (f : FuncId) : Option (List PV → Objs → Option (Out × Objs)) :=
  cond (Nat.beq f 12) (some (sTab tab12)) (cond (Nat.beq f 15) (some (sTab tab15)) (cond (Nat.beq f 18) (some (sTab tab18)) (sum1 f)))
noncomputable def K2 : Ctx := { po := po1, fn := icTab, dfn := icdTab, sum := sum2, ext := ext1 }
theorem ctx2 {base : Nat} : CtxOK Tryz.prog base K2 :=
  { dfn := icdTab_ok
    fn := icTab_ok
    ext := ext1_ok
    sum := by
      intro f s h
      have h : sum2 f = some s := h
      unfold sum2 at h
      rcases cond_leaf h with ⟨rfl, rfl⟩ | h
      · exact sTab_ok ctx1 tab12_ok
      rcases cond_leaf h with ⟨rfl, rfl⟩ | h
      · exact sTab_ok ctx1 tab15_ok
      rcases cond_leaf h with ⟨rfl, rfl⟩ | h
      · exact sTab_ok ctx1 tab18_ok
      exact sum1_ok f s h }
end Pi
end Go.Proofs.YthdgpejippohnaaGreatDoor
