/-
  The context of the seat: which functions are told by their laws, which by their code; that it is right.
-/
import Derived.Test.YthdgpejippohnaaGreatDoorTabC
namespace Go.Proofs.YthdgpejippohnaaGreatDoor
namespace Pi
open Go.Shelf
def rIdx : Ren :=
  { f := fun x => match x with
      | 219 => 189
      | 217 => 240
      | 225 => 241
      | 224 => 242
      | 267 => 243
      | 266 => 269
      | 314 => 270
      | n => n
    t := fun x => match x with
      | 9 => 9
      | 3 => 3
      | 4 => 4
      | 5 => 5
      | 46 => 241
      | 146 => 258
      | 51 => 257
      | n => n
    g := fun x => match x with
      | 1 => 0
      | n => n }
theorem lIdx : Lays.n219 Tryz.prog rIdx :=
  { mixed := Eq.refl true
    f217 := Tryz.func240.trans (congrArg some (by kernel_rfl))
    f219 := Tryz.func189.trans (congrArg some (by kernel_rfl))
    f224 := Tryz.func242.trans (congrArg some (by kernel_rfl))
    f225 := Tryz.func241.trans (congrArg some (by kernel_rfl))
    f266 := Tryz.func269.trans (congrArg some (by kernel_rfl))
    f267 := Tryz.func243.trans (congrArg some (by kernel_rfl))
    f314 := Tryz.func270.trans (congrArg some (by kernel_rfl))
    t3 := Tryz.underlying3
    a3 := Tryz.isAgg3
    z3 := Tryz.sizeOf3
    v3 := Tryz.zeroValue3
    t4 := Tryz.underlying4
    a4 := Tryz.isAgg4
    z4 := Tryz.sizeOf4
    v4 := Tryz.zeroValue4
    t5 := Tryz.underlying5
    a5 := Tryz.isAgg5
    z5 := Tryz.sizeOf5
    v5 := Tryz.zeroValue5
    t9 := Tryz.underlying9
    a9 := Tryz.isAgg9
    z9 := Tryz.sizeOf9
    v9 := Tryz.zeroValue9
    t46 := Tryz.underlying241
    a46 := Tryz.isAgg241
    z46 := Tryz.sizeOf241
    v46 := Tryz.zeroValue241
    t51 := Tryz.underlying257
    a51 := Tryz.isAgg257
    z51 := Tryz.sizeOf257
    v51 := Tryz.zeroValue257
    t146 := Tryz.underlying258
    a146 := Tryz.isAgg258
    z146 := Tryz.sizeOf258
    v146 := Tryz.zeroValue258
    g1 := by kernel_rfl }
def rClT : Ren :=
  { f := fun x => match x with
      | 41 => 205
      | n => n
    t := fun x => match x with
      | 22 => 23
      | 23 => 26
      | 4 => 4
      | n => n
    g := fun n => n }
theorem lClT : SlLaysE0.n41 Tryz.prog rClT :=
  { mixed := Eq.refl true
    f41 := ⟨ "slices.Clone[[]modcert/api.Type,modcert/api.Type]", by decide, Tryz.func205.trans (congrArg some (by kernel_rfl))⟩
    t4 := Tryz.underlying4
    a4 := Tryz.isAgg4
    z4 := Tryz.sizeOf4
    v4 := Tryz.zeroValue4
    t22 := Tryz.underlying23
    a22 := Tryz.isAgg23
    z22 := Tryz.sizeOf23
    v22 := Tryz.zeroValue23 }
def rClF : Ren :=
  { f := fun x => match x with
      | 41 => 266
      | n => n
    t := fun x => match x with
      | 22 => 24
      | 23 => 71
      | 4 => 4
      | n => n
    g := fun n => n }
theorem lClF : SlLaysE0.n41 Tryz.prog rClF :=
  { mixed := Eq.refl true
    f41 := ⟨ "slices.Clone[[]modcert/api.Field,modcert/api.Field]", by decide, Tryz.func266.trans (congrArg some (by kernel_rfl))⟩
    t4 := Tryz.underlying4
    a4 := Tryz.isAgg4
    z4 := Tryz.sizeOf4
    v4 := Tryz.zeroValue4
    t22 := Tryz.underlying24
    a22 := Tryz.isAgg24
    z22 := Tryz.sizeOf24
    v22 := Tryz.zeroValue24 }
theorem okF {f : FuncId} {fn : Func} {c : Code} (h : Tryz.prog.funcs[f]? = some fn) (hb : fn.body = some c) (hn : (fn.name == "runtime.NumGoroutine") = false) : okFn Tryz.prog f :=
  ⟨fn, c, h, hb, by intro e; rw [e] at hn; simp at hn⟩
def sum1 (f : FuncId) : Option (List PV → Objs → Option (Out × Objs)) :=
  cond (Nat.beq f 189) (some sIdx) (cond (Nat.beq f 205) (some (sCln 26 5 88)) (cond (Nat.beq f 266) (some (sCln 71 7 112)) none))
def ext1 (f : FuncId) : Option (List PV → Objs → Option (Out × Objs)) :=
  cond (Nat.beq f 269) (some eIdx) (cond (Nat.beq f 298) (some eCnt) (cond (Nat.beq f 275) (some eCmp) none))
def po1 : Pol := { vt := [9, 26, 35, 105, 23, 71, 192, 40, 55], pf := fun _ => false }
def K1 : Ctx := { po := po1, fn := icTab, dfn := icdTab, sum := sum1, ext := ext1 }
theorem cond_leaf {α : Type} {f k : FuncId} {s r : α} {z : Option α} (h : cond (Nat.beq f k) (some s) z = some r) : f = k ∧ s = r ∨ z = some r := by
  cases hb : Nat.beq f k with
  | false => rw [hb] at h; exact .inr h
  | true => rw [hb] at h; exact .inl ⟨Nat.eq_of_beq_eq_true hb, by simpa using h⟩
variable {base : Nat}
theorem sum1_ok : ∀ f s, sum1 f = some s → SumOK Tryz.prog base f s := by
  intro f s h
  unfold sum1 at h
  rcases cond_leaf h with ⟨rfl, rfl⟩ | h
  · have e : rIdx.f 219 = 189 := by kernel_rfl
    have h1 : okFn Tryz.prog (rIdx.f 219) := by rw [e]; exact okF Tryz.func189 rfl (by kernel_rfl)
    have h2 : maxAt Tryz.prog = some (rIdx.g 1) := by kernel_rfl
    have h3 := sIdx_ok (base := base) lIdx h1 h2
    rw [e] at h3
    exact h3
  rcases cond_leaf h with ⟨rfl, rfl⟩ | h
  · exact sCln_ok (i0 := Tryz.t26) lClT (okF Tryz.func205 rfl (by kernel_rfl)) (by kernel_rfl) rfl rfl (by decide)
  rcases cond_leaf h with ⟨rfl, rfl⟩ | h
  · exact sCln_ok (i0 := Tryz.t71) lClF (okF Tryz.func266 rfl (by kernel_rfl)) (by kernel_rfl) rfl rfl (by decide)
  cases h
theorem ext1_ok : ∀ f s, ext1 f = some s → ExtOK Tryz.prog base f s := by
  intro f s h
  unfold ext1 at h
  rcases cond_leaf h with ⟨rfl, rfl⟩ | h
  · exact eIdx_ok Tryz.func269 (by kernel_rfl) (by kernel_rfl) (by kernel_rfl) (by kernel_rfl)
  rcases cond_leaf h with ⟨rfl, rfl⟩ | h
  · exact eCnt_ok Tryz.func298 (by kernel_rfl) (by kernel_rfl) (by kernel_rfl) (by kernel_rfl)
  rcases cond_leaf h with ⟨rfl, rfl⟩ | h
  · exact eCmp_ok Tryz.func275 (by kernel_rfl) (by kernel_rfl) (by kernel_rfl) (by kernel_rfl)
  cases h
theorem ctx1 : CtxOK Tryz.prog base K1 :=
  { dfn := icdTab_ok
    fn := icTab_ok
    sum := sum1_ok
    ext := ext1_ok }
end Pi
end Go.Proofs.YthdgpejippohnaaGreatDoor
