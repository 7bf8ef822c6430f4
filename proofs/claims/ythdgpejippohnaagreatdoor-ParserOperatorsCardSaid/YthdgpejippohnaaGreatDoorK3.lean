/-
  ParserOperators run by the evaluator; no condition but those in each theorem.
-/
import Derived.Test.YthdgpejippohnaaGreatDoorK2
import Derived.Test.YthdgpejippohnaaGreatDoorPiT
namespace Go.Proofs.YthdgpejippohnaaGreatDoor
namespace Pi
theorem awake_run : resOf (callI K2 400 (.fn 11) [] []) = some (.d (.bool true)) := by kernel_rfl
noncomputable def sum3 (f : FuncId) : Option (List PV → Objs → Option (Out × Objs)) := cond (Nat.beq f 11) (some (sNone (.d (.bool true)))) (sum2 f)
noncomputable def K3 : Ctx := { po := po1, fn := icTab, dfn := icdTab, sum := sum3, ext := ext1 }
theorem ctx3 {base : Nat} : CtxOK Tryz.prog base K3 :=
  { dfn := icdTab_ok
    fn := icTab_ok
    ext := ext1_ok
    sum := by
      intro f s h
      have h : sum3 f = some s := h
      unfold sum3 at h
      rcases cond_leaf h with ⟨rfl, rfl⟩ | h
      · exact sNone_ok ctx2 rfl awake_run
      · exact ctx2.sum f s h }
def hd2 : IC → IC
  | .seq a _ => a
  | c => c
def tl2 : IC → IC
  | .seq _ b => b
  | c => c
def bodyC : IB → IC
  | .plain c => c
  | _ => .bad
def c9 : IC := bodyC ic9.body
def c9r (k : Nat) : IC := @Nat.rec (fun _ => IC) c9 (fun _ c => tl2 c) k
def nms : PV := .full [[.str [111, 114]], [.str [97, 110, 100]], [.str [61, 61]], [.str [61, 61, 61]], [.str [60]], [.str [43]], [.str [45]], [.str [43, 43]], [.str [42]]]
def lvs : PV := .full [[.int .i64 0], [.int .i64 1], [.int .i64 2], [.int .i64 2], [.int .i64 2], [.int .i64 3], [.int .i64 3], [.int .i64 3], [.int .i64 4]]
def resB : Option (Out × Objs) → Option Bool
  | some (.ret (.d (.bool b)), _) => some b
  | _ => none
def e0 (x y : Int) : Env := [.d (.int .u8 x), .d (.int .u8 y)] ++ List.replicate 172 .any
def e1 (x y : Int) : Env := [.d (.int .u8 x), .d (.int .u8 y), .any, .any, .d (.bool false)] ++ List.replicate 169 .any
def e2 (x y : Int) : Env := [.d (.int .u8 x), .d (.int .u8 y), .any, .any, .d (.bool false), .any, .any, .any, .any, .any, .any, .any, .any, .any, .any, .any, .any, .d (.bool true), .d (.bool false)] ++ List.replicate 155 .any
def e3 (x y : Int) : Env := [.d (.int .u8 x), .d (.int .u8 y), .any, .any, .d (.bool false), nms, .any, .any, .any, .any, .any, .any, .any, .any, .any, .any, .any, .d (.bool true), .d (.bool false), nms] ++ List.replicate 154 .any
def e4 (x y : Int) : Env := [.d (.int .u8 x), .d (.int .u8 y), .any, .any, .d (.bool false), nms, lvs, .any, .any, .any, .any, .any, .any, .any, .any, .any, .any, .d (.bool true), .d (.bool false), nms, lvs] ++ List.replicate 153 .any
def e5 (x y a b : Int) : Env := [.d (.int .u8 x), .d (.int .u8 y), .any, .any, .d (.bool false), nms, lvs, .d (.int .i64 a), .d (.int .i64 b), .any, .any, .any, .any, .any, .any, .any, .any, .d (.bool true), .d (.bool false), nms, lvs, .d (.int .u8 x), .d (.int .i64 (IntKind.wrap .i64 x)), nms, .d (.int .i64 9), .d (.int .i64 a), .d (.int .u8 y), .d (.int .i64 (IntKind.wrap .i64 y)), nms, .d (.int .i64 9), .d (.int .i64 b)] ++ List.replicate 143 .any
end Pi
end Go.Proofs.YthdgpejippohnaaGreatDoor
