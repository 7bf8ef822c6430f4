/-
  One operation of the evaluator is what the machine's operation does: the operations without effect on memory. No condition.
-/
import Derived.Test.YthdgpejippohnaaGreatDoorPiD
import Derived.Laws.Entries
import Derived.Laws.Cells
import Derived.Laws.CopyRow
import Derived.MapKept
import Derived.ChangeKeysEq
import Derived.RangeFuncLeaves
import Derived.LaidEqlPtr
import Derived.RangeFuncRecord
namespace Go.Proofs.YthdgpejippohnaaGreatDoor
namespace Pi
set_option linter.unusedVariables false
section
variable {P : Program} {base : Nat} {w w' : World} {im im' : Im} {g g' : List Value} {objs objs' : Objs} {env : Env} {a : Act} {o : Oper}

/-- Every machine is let in; the frames of which the rules speak may be a round's. -/
def WF (ro : Option Nat) : Fence := { Fence.wide with round := ro }
theorem wf_room (ro : Option Nat) (k : Nat) : (WF ro).room k := fun _ h => by cases h
theorem wf_calls {ro : Option Nat} {n : Nat} {f : FuncId} {args : Array Value} {R : Ending → World → Prop} : CallsIn (WF ro) n P f args w R ↔ Calls P f args w R := callsIn_wide (n := n)
/-- An operation; or the call of a range's body, at its round. -/
def goesOn (P : Program) (o : Oper) (a : Act) (w : World) (next : Act → World → Prop) (Q : Exit → Act → World → Prop) : Prop :=
  o.wp P a w next Q ∨ ∃ l f tmps assign body, (execOp a.eval o).run P w = .ok (.round l f tmps assign body) w ∧ RoundIn (WF none) 0 P l f tmps assign body w fun
    | .returned v, w'' => next (a.put o.dst v) w''
    | .panicked chain, w'' => Q (.panic chain) a w''
    | .outgrown, _ => LetsOut Q
def OpOK (P : Program) (base : Nat) (o : Oper) (a : Act) (w : World) (im : Im) (g : List Value) (objs : Objs) (r : Res) : Prop :=
  ∀ (next : Act → World → Prop) (Q : Exit → Act → World → Prop),
    (∀ v objs', r = .ok v objs' → ∀ v' w' im' g', Le w im g objs w' im' g' objs' → Sat P base w' im' g' objs' → Rep w' im' g' objs' v v' → next (a.put o.dst v') w') →
    (∀ v objs', r = .pan v objs' → ∀ v' w' im' g', Le w im g objs w' im' g' objs' → Sat P base w' im' g' objs' → Rep w' im' g' objs' v v' → Q (.panic [{ v := v', recovered := false }]) a w') →
    goesOn P o a w next Q

theorem opok_val {v : PV} {v' : Value} (hrun : (execOp a.eval o).run P w = .ok (.value v') w') (hl : Le w im g objs w' im' g' objs') (hs : Sat P base w' im' g' objs') (hr : Rep w' im' g' objs' v v') : OpOK P base o a w im g objs (.ok v objs') := by
  intro next Q h _
  left
  unfold Oper.wp
  rw [hrun, Oper.upon_value]
  exact h v objs' rfl v' w' im' g' hl hs hr
theorem opok_skip (hrun : (execOp a.eval o).run P w = .ok .skip w') (hl : Le w im g objs w' im' g' objs') (hs : Sat P base w' im' g' objs') : OpOK P base o a w im g objs (.ok .any objs') := by
  intro next Q h _
  left
  unfold Oper.wp
  rw [hrun, Oper.upon_skip]
  exact h .any objs' rfl undef w' im' g' hl hs trivial
theorem opok_same {v : PV} {v' : Value} (hs : Sat P base w im g objs) (hrun : (execOp a.eval o).run P w = .ok (.value v') w) (hr : Rep w im g objs v v') : OpOK P base o a w im g objs (.ok v objs) :=
  opok_val hrun (Le.refl w im g objs) hs hr

theorem run_sizeOf' {t : TypeId} {s : Nat} (h : szOf P t = some s) (w : World) : (sizeOf t).run P w = .ok s w := by
  unfold szOf at h
  cases hi : P.info? t with
  | none => simp [hi] at h
  | some i => simp [hi] at h; subst h; simp [sizeOf, typeInfo, hi]
theorem run_isAgg' {t : TypeId} {b : Bool} (h : isAggT P t = some b) (w : World) : (isAgg t).run P w = .ok b w := by
  unfold isAggT at h
  cases hu : P.underlying t with
  | none => simp [hu] at h
  | some d =>
    unfold isAgg
    rw [Sem.run_bind, run_underlying hu w]
    cases d <;> simp_all
theorem lszOf_cases {t : TypeId} {s : Option Nat} (h : lszOf P t = some s) : (s = none ∧ isAggT P t = some false) ∨ ∃ n, s = some n ∧ isAggT P t = some true ∧ szOf P t = some n := by
  unfold lszOf at h
  split at h
  · cases hz : szOf P t with
    | none => simp [hz] at h
    | some n => simp [hz] at h; exact .inr ⟨n, h.symm, by assumption, rfl⟩
  · injection h with h; exact .inl ⟨h.symm, by assumption⟩
  · cases h

/-! values out of what an operand represents -/
theorem rep_int {p : PV} {k : IntKind} {n : Int} {v : Value} (hp : p = .d (.int k n)) (h : Rep w im g objs p v) : v = .int k n := by subst hp; exact h
theorem rep_bool {p : PV} {b : Bool} {v : Value} (hp : p = .d (.bool b)) (h : Rep w im g objs p v) : v = .bool b := by subst hp; exact h
theorem rep_str {p : PV} {s : List UInt8} {v : Value} (hp : p = .d (.str s)) (h : Rep w im g objs p v) : v = .string ⟨s.toArray⟩ := by subst hp; exact h
theorem rep_agg {p : PV} {cs : List PV} {v : Value} (hp : p = .agg cs) (h : Rep w im g objs p v) : ∃ vs : List Value, v = .agg vs.toArray ∧ RepL w im g objs cs vs := by subst hp; unfold Rep at h; exact h

theorem s_mov {x : Operand} {y : Opnd} (hsat : Sat P base w im g objs) (henv : RepL w im g objs env a.tmps.toList) (ho : o.op = .move x ∨ o.op = .assign x) (hy : opndI x = some y) : OpOK P base o a w im g objs (.ok (opnd env y) objs) := by
  refine opok_same hsat ?_ (opnd_rep henv hy)
  rcases ho with ho | ho <;> simp [execOp, ho]
theorem s_pick {c x y : Operand} {c' x' y' : Opnd} {t : Bool} (hsat : Sat P base w im g objs) (henv : RepL w im g objs env a.tmps.toList) (ho : o.op = .pick c x y) (h1 : opndI c = some c') (h2 : opndI x = some x') (h3 : opndI y = some y') (hc : opnd env c' = .d (.bool t)) :
    OpOK P base o a w im g objs (.ok (if t then opnd env x' else opnd env y') objs) := by
  have hb := rep_bool hc (opnd_rep henv h1)
  refine opok_same (v' := if t then a.eval x else a.eval y) hsat ?_ ?_
  · simp [execOp, ho, asBool, hb]
  · cases t
    · exact opnd_rep henv h3
    · exact opnd_rep henv h2
theorem s_un {op : UnOp} {t : TypeId} {x : Operand} {y : Opnd} {v : PV} (hsat : Sat P base w im g objs) (henv : RepL w im g objs env a.tmps.toList) (ho : o.op = .unOp op t x) (hy : opndI x = some y) (hv : unI op (opnd env y) = some v) : OpOK P base o a w im g objs (.ok v objs) := by
  have hr := opnd_rep henv hy
  unfold unI at hv
  split at hv
  · rename_i b hq
    injection hv with hv; subst hv
    have := rep_bool hq hr
    exact opok_same (v' := .bool !b) hsat (by simp [execOp, ho, Op.unary, this]) rfl
  · rename_i k n hq
    injection hv with hv; subst hv
    have := rep_int hq hr
    exact opok_same (v' := .int k (k.wrap (0 - n))) hsat (by simp [execOp, ho, Op.unary, this, Op.intArith]) rfl
  · cases hv
theorem toList_mk (s : List UInt8) : (⟨s.toArray⟩ : ByteArray).toList = s := by
  rw [ByteArray.toList_eq]
theorem append_mk (s t : List UInt8) : (⟨s.toArray⟩ : ByteArray) ++ (⟨t.toArray⟩ : ByteArray) = ⟨(s ++ t).toArray⟩ := by
  apply ByteArray.ext
  simp
theorem size_mk (s : List UInt8) : (⟨s.toArray⟩ : ByteArray).size = s.length := by simp [ByteArray.size]
theorem extract_mk (s : List UInt8) (l h : Nat) : (⟨s.toArray⟩ : ByteArray).extract l h = ⟨((s.drop l).take (h - l)).toArray⟩ := by
  apply ByteArray.ext
  simp [ByteArray.data_extract, List.extract_eq_take_drop]

theorem run_guard {op : BinOp} {t : TypeId} {x y : Operand} {u v : Value} (h : ¬ ((u = .nilIface ∧ v = .nilIface) ∨ ∃ a b, u = .agg a ∧ v = .agg b)) (w : World) : (eqGuard op t x y u v).run P w = .ok () w := by
  have key : ∀ A B : Sem Unit, (match u, v with
      | .nilIface, .nilIface => A
      | .agg _, .agg _ => B
      | _, _ => pure ()) = pure () := by
    intro A B
    split
    · exact (h (.inl ⟨rfl, rfl⟩)).elim
    · exact (h (.inr ⟨_, _, rfl, rfl⟩)).elim
    · rfl
  unfold eqGuard
  rw [Sem.run_ite]
  cases op <;> first | rfl | exact (congrArg (fun z : Sem Unit => z.run P w) (key _ _)).trans rfl
theorem s_bin {op : BinOp} {t t2 : TypeId} {x y : Operand} {x' y' : Opnd} {v : PV} (hsat : Sat P base w im g objs) (henv : RepL w im g objs env a.tmps.toList) (ho : o.op = .binOp op t x y t2) (h1 : opndI x = some x') (h2 : opndI y = some y') (hv : binI op (opnd env x') (opnd env y') = some v) : OpOK P base o a w im g objs (.ok v objs) := by
  have r1 := opnd_rep henv h1
  have r2 := opnd_rep henv h2
  unfold binI at hv
  split at hv
  · rename_i k m k' n q1 q2
    have e1 := rep_int q1 r1
    have e2 := rep_int q2 r2
    have hg := run_guard (P := P) (op := op) (t := t) (x := x) (y := y) (u := .int k m) (v := .int k' n) (by simp) w
    split at hv
    · split at hv
      · injection hv with hv; subst hv
        rename_i hb
        refine opok_same hsat (v' := .int k (k.wrap (m * 2 ^ (min n.toNat k.bits)))) ?_ rfl
        simp only [execOp, ho, Sem.run_bind, hg, Result.andThen_ok, e1, e2, binOp, Op.shift]
        rw [if_neg (by omega)]
        rfl
      · cases hv
    · split at hv
      · injection hv with hv; subst hv
        rename_i hb
        refine opok_same hsat (v' := .int k (m.fdiv (2 ^ (min n.toNat k.bits)))) ?_ rfl
        simp only [execOp, ho, Sem.run_bind, hg, Result.andThen_ok, e1, e2, binOp, Op.shift]
        rw [if_neg (by omega)]
        rfl
      · cases hv
    · split at hv
      · rename_i hk
        subst hk
        split at hv
        case h_4 =>
          split at hv
          · cases hv
          · injection hv with hv; subst hv
            rename_i hb
            refine opok_same hsat (v' := .int k (k.wrap (m.tdiv n))) ?_ rfl
            simp [execOp, ho, hg, e1, e2, binOp, Op.intDiv, hb]
        case h_5 =>
          split at hv
          · cases hv
          · injection hv with hv; subst hv
            rename_i hb
            refine opok_same hsat (v' := .int k (m.tmod n)) ?_ rfl
            simp [execOp, ho, hg, e1, e2, binOp, Op.intDiv, hb]
        all_goals first
          | (cases hv; done)
          | (injection hv with hv; subst hv; refine opok_same hsat ?_ rfl; simp only [execOp, ho, Sem.run_bind, hg, Result.andThen_ok, e1, e2, binOp, Op.intArith, Op.intBits, Op.intCmp, ne_eq, not_true_eq_false, if_false]; rfl)
      · cases hv
  · rename_i s t q1 q2
    have e1 := rep_str q1 r1
    have e2 := rep_str q2 r2
    split at hv
    case h_1 =>
      split at hv
      · injection hv with hv; subst hv
        rename_i hb
        refine opok_same hsat (v' := .string ⟨(s ++ t).toArray⟩) ?_ rfl
        simp only [execOp, ho, Sem.run_bind, run_guard (P := P) (u := Value.string ⟨s.toArray⟩) (v := Value.string ⟨t.toArray⟩) (by simp) w, Result.andThen_ok, e1, e2, binOp, Op.stringOp, size_mk, append_mk]
        rw [if_neg (by simp only [IntKind.max]; simp [IntKind.signed, IntKind.bits]; omega)]
        rfl
      · cases hv
    all_goals first
      | (cases hv; done)
      | (injection hv with hv; subst hv; refine opok_same hsat ?_ rfl
         simp only [execOp, ho, Sem.run_bind, run_guard (P := P) (u := Value.string ⟨s.toArray⟩) (v := Value.string ⟨t.toArray⟩) (by simp) w, Result.andThen_ok, e1, e2, binOp, Op.stringOp, toList_mk]
         rfl)
  · cases hv

theorem eq_at {t : TypeId} {d : TypeDesc} (ht : P.underlying t = some d) (u v : Value) (b : Bool) (h : (match d, u, v with
    | .pointer _, .pointer none, .pointer c => b = c.isNone
    | .pointer _, .pointer _, .pointer none => b = false
    | .func _ _ _, .nilFunc, .nilFunc => b = true
    | .func _ _ _, .nilFunc, .func _ _ _ => b = false
    | .func _ _ _, .func _ _ _, .nilFunc => b = false
    | .interface _, .nilIface, .iface _ _ => b = false
    | .interface _, .iface _ _, .nilIface => b = false
    | .bool, .bool x, .bool y => b = (x == y)
    | _, _, _ => False)) : (Op.equal t u v).run P w = .ok b w := by
  have : Op.equal t u v = Op.equalIn (9999 + 1) t u v := rfl
  rw [this]
  unfold Op.equalIn
  rw [Sem.run_bind, run_underlying ht, Result.andThen_ok]
  split at h <;> first | (cases h; done) | (subst h; first | rfl | skip)
  rename_i p c hx
  cases p with
  | none => exact (hx rfl).elim
  | some p => rfl
theorem s_eq {neg : Bool} {t t2 : TypeId} {x y : Operand} {x' y' : Opnd} {b : Bool} (hsat : Sat P base w im g objs) (henv : RepL w im g objs env a.tmps.toList) (ho : o.op = .binOp (if neg then .neq else .eql) t x y t2) (h1 : opndI x = some x') (h2 : opndI y = some y') (hv : eqI (eqTC P t x y) (opnd env x') (opnd env y') = some b) : OpOK P base o a w im g objs (.ok (.d (.bool (if neg then !b else b))) objs) := by
  have r1 := opnd_rep henv h1
  have r2 := opnd_rep henv h2
  have fin : ¬ ((a.eval x = .nilIface ∧ a.eval y = .nilIface) ∨ ∃ p q, a.eval x = .agg p ∧ a.eval y = .agg q) → (∀ k n, ¬ (a.eval x = .int k n)) → (∀ s, ¬ a.eval x = .string s) → (Op.equal t (a.eval x) (a.eval y)).run P w = .ok b w → (∀ k n, a.eval x ≠ .float k n) → (∀ k n m, a.eval x ≠ .complex k n m) → OpOK P base o a w im g objs (.ok (.d (.bool (if neg then !b else b))) objs) := by
    intro hng hi hst he hf hc
    have hg := run_guard (P := P) (op := if neg then .neq else .eql) (t := t) (x := x) (y := y) hng w
    refine opok_same hsat (v' := .bool (if neg then !b else b)) ?_ rfl
    simp only [execOp, ho, Sem.run_bind, hg, Result.andThen_ok]
    generalize a.eval x = u at *
    generalize a.eval y = v at *
    cases neg
    · have : binOp .eql t u v = (do pure (.bool (← Op.equal t u v))) := by
        unfold binOp
        cases u <;> first | rfl | (exact (hi _ _ rfl).elim) | (exact (hst _ rfl).elim) | (exact (hf _ _ rfl).elim) | (exact (hc _ _ _ rfl).elim)
      simp [this, he]
    · have : binOp .neq t u v = (do pure (.bool (!(← Op.equal t u v)))) := by
        unfold binOp
        cases u <;> first | rfl | (exact (hi _ _ rfl).elim) | (exact (hst _ rfl).elim) | (exact (hf _ _ rfl).elim) | (exact (hc _ _ _ rfl).elim)
      simp [this, he]
  by_cases hifc : eqTC P t x y = .ifc
  · rw [hifc] at hv
    have huc : (∃ ms, P.underlying t = some (.interface ms)) ∧ (isConstO x || isConstO y) = true := by
      clear hv fin
      unfold eqTC at hifc
      cases ht : eqT P t <;> rw [ht] at hifc <;> simp only at hifc <;> try (cases hifc; done)
      · by_cases hcon : (isConstO x || isConstO y) = true
        · refine ⟨?_, hcon⟩
          unfold eqT at ht
          split at ht <;> first | (cases ht; done) | skip
          · split at ht <;> cases ht
          · exact ⟨_, by assumption⟩
        · rw [if_neg hcon] at hifc
          cases hifc
      · exfalso
        unfold eqT at ht
        split at ht <;> first | (cases ht; done) | skip
        split at ht <;> cases ht
    obtain ⟨hu, hcon⟩ := huc
    obtain ⟨ms, hu⟩ := hu
    have hcon2 : ∀ u v : Value, (u = .nilIface ∧ v = .nilIface) ∨ (∀ a b, u = .agg a → v ≠ .agg b) → (eqGuard (if neg then BinOp.neq else .eql) t x y u v).run P w = .ok () w := by
      intro u v huv
      by_cases hn : (u = .nilIface ∧ v = .nilIface) ∨ ∃ a b, u = .agg a ∧ v = .agg b
      · rcases hn with ⟨rfl, rfl⟩ | ⟨a, b, rfl, rfl⟩
        · unfold eqGuard
          clear huv fin ho hv hifc h1 h2 r1 r2
          cases x <;> cases y <;> simp only [isConstO, Bool.or_self, Bool.false_eq_true] at hcon <;> cases neg <;> rfl
        · rcases huv with ⟨h, _⟩ | h
          · cases h
          · exact (h a b rfl rfl).elim
      · exact run_guard hn w
    unfold eqI at hv
    simp only at hv
    have fin2 : ∀ (hk : (a.eval x = .nilIface ∧ a.eval y = .nilIface ∧ b = true) ∨ ∃ tt u, (a.eval x = .nilIface ∧ a.eval y = .iface tt u ∧ b = false) ∨ (a.eval x = .iface tt u ∧ a.eval y = .nilIface ∧ b = false)), OpOK P base o a w im g objs (.ok (.d (.bool (if neg then !b else b))) objs) := by
      intro hk
      refine opok_same hsat (v' := .bool (if neg then !b else b)) ?_ rfl
      have he : (Op.equal t (a.eval x) (a.eval y)).run P w = .ok b w := by
        have : Op.equal t (a.eval x) (a.eval y) = Op.equalIn (9999 + 1) t (a.eval x) (a.eval y) := rfl
        rw [this]
        unfold Op.equalIn
        rw [Sem.run_bind, run_underlying hu]
        rcases hk with ⟨e1, e2, rfl⟩ | ⟨tt, u, ⟨e1, e2, rfl⟩ | ⟨e1, e2, rfl⟩⟩ <;> rw [e1, e2] <;> rfl
      have hgd := hcon2 (a.eval x) (a.eval y) (by
        rcases hk with ⟨e1, e2, _⟩ | ⟨tt, u, ⟨e1, e2, _⟩ | ⟨e1, e2, _⟩⟩
        · exact .inl ⟨e1, e2⟩
        · exact .inr (fun a b h => by rw [e1] at h; cases h)
        · exact .inr (fun a b h => by rw [e1] at h; cases h))
      simp only [execOp, ho, Sem.run_bind, hgd, Result.andThen_ok]
      rcases hk with ⟨e1, e2, rfl⟩ | ⟨tt, u, ⟨e1, e2, rfl⟩ | ⟨e1, e2, rfl⟩⟩ <;> rw [e1, e2] at he ⊢ <;> cases neg <;> simp [binOp, he]
    split at hv <;> first | (cases hv; done) | (injection hv with hv; subst hv)
    all_goals
      rename_i e1 e2
      rw [e1] at r1; rw [e2] at r2
      unfold Rep at r1 r2
    · exact fin2 (.inl ⟨r1, r2, rfl⟩)
    · obtain ⟨u, r2, _⟩ := r2
      exact fin2 (.inr ⟨_, u, .inl ⟨r1, r2, rfl⟩⟩)
    · obtain ⟨u, r1, _⟩ := r1
      exact fin2 (.inr ⟨_, u, .inr ⟨r1, r2, rfl⟩⟩)
  have hsame : eqTC P t x y = eqT P t := by
    unfold eqTC at hifc ⊢
    cases ht : eqT P t <;> rw [ht] at hifc <;> try rfl
    simp only at hifc ⊢
    by_cases hc : (isConstO x || isConstO y) = true
    · rw [if_pos hc] at hifc; exact (hifc rfl).elim
    · rw [if_neg hc]
  rw [hsame] at hv
  unfold eqT at hv
  split at hv
  · rename_i hu
    unfold eqI at hv
    simp only at hv
    split at hv
    · rename_i p q e1 e2
      injection hv with hv
      have f1 := rep_bool e1 r1
      have f2 := rep_bool e2 r2
      exact fin (by simp [f1]) (by simp [f1]) (by simp [f1]) (eq_at hu _ _ b (by rw [f1, f2]; exact hv.symm)) (by simp [f1]) (by simp [f1])
    · cases hv
  · rename_i el hu
    split at hv
    case isFalse => unfold eqI at hv; cases hv
    rename_i hsome
    unfold eqI at hv
    simp only at hv
    split at hv <;> first | (cases hv; done) | (injection hv with hv; subst hv) | skip
    all_goals
      rename_i e1 e2
      rw [e1] at r1; rw [e2] at r2
      unfold Rep at r1 r2
    · exact fin (by simp [r1]) (by simp [r1]) (by simp [r1]) (eq_at hu _ _ _ (by rw [r1, r2]; rfl)) (by simp [r1]) (by simp [r1])
    · obtain ⟨k, _, r2⟩ := r2
      exact fin (by simp [r1]) (by simp [r1]) (by simp [r1]) (eq_at hu _ _ _ (by rw [r1, r2]; rfl)) (by simp [r1]) (by simp [r1])
    · obtain ⟨k, _, r1⟩ := r1
      exact fin (by simp [r1]) (by simp [r1]) (by simp [r1]) (eq_at hu _ _ _ (by rw [r1, r2])) (by simp [r1]) (by simp [r1])
    · obtain ⟨k, _, r2, _⟩ := r2
      exact fin (by simp [r1]) (by simp [r1]) (by simp [r1]) (eq_at hu _ _ _ (by rw [r1, r2]; rfl)) (by simp [r1]) (by simp [r1])
    · obtain ⟨k, _, r1, _⟩ := r1
      exact fin (by simp [r1]) (by simp [r1]) (by simp [r1]) (eq_at hu _ _ _ (by rw [r1, r2])) (by simp [r1]) (by simp [r1])
    · split at hv <;> first | (cases hv; done) | skip
      rename_i hij
      injection hv with hv; subst hv
      obtain ⟨rfl, rfl⟩ := hij
      obtain ⟨k, hk, r1⟩ := r1
      obtain ⟨k', hk', r2⟩ := r2
      rw [hk] at hk'; injection hk' with hk'; injection hk' with hk'; injection hk' with hk'; injection hk' with hk'; subst hk'
      obtain ⟨j, hj⟩ := Option.isSome_iff_exists.1 hsome
      have h : ∀ (d : Nat) (ad : Addr), (Op.equalIn (d + 1) t (.pointer (some ad)) (.pointer (some ad))).run P w = .ok true w := fun d ad => by
        simp [Op.equalIn, run_underlying hu, sizeOf, typeInfo, hj, run_sameAddr_same]
      exact fin (by simp [r1]) (by simp [r1]) (by simp [r1]) (by rw [r1, r2]; simp [Op.equal, Op.maxDepth, h 9999]) (by simp [r1]) (by simp [r1])
  · rename_i hu
    unfold eqI at hv
    simp only at hv
    split at hv <;> first | (cases hv; done) | (injection hv with hv; subst hv)
    all_goals
      rename_i e1 e2
      rw [e1] at r1; rw [e2] at r2
      unfold Rep at r1 r2
    · exact fin (by simp [r1]) (by simp [r1]) (by simp [r1]) (eq_at hu _ _ _ (by rw [r1, r2])) (by simp [r1]) (by simp [r1])
    · obtain ⟨_, _, r2, _⟩ := r2
      exact fin (by simp [r1]) (by simp [r1]) (by simp [r1]) (eq_at hu _ _ _ (by rw [r1, r2])) (by simp [r1]) (by simp [r1])
    · obtain ⟨_, _, r1, _⟩ := r1
      exact fin (by simp [r1]) (by simp [r1]) (by simp [r1]) (eq_at hu _ _ _ (by rw [r1, r2])) (by simp [r1]) (by simp [r1])
  · rename_i hu
    unfold eqI at hv
    simp only at hv
    split at hv <;> first | (cases hv; done) | (injection hv with hv; subst hv)
    all_goals
      rename_i e1 e2
      rw [e1] at r1; rw [e2] at r2
      unfold Rep at r1 r2
    · obtain ⟨_, r2, _⟩ := r2
      exact fin (by simp [r1, r2]) (by simp [r1]) (by simp [r1]) (eq_at hu _ _ _ (by rw [r1, r2])) (by simp [r1]) (by simp [r1])
    · obtain ⟨_, r1, _⟩ := r1
      exact fin (by simp [r1, r2]) (by simp [r1]) (by simp [r1]) (eq_at hu _ _ _ (by rw [r1, r2])) (by simp [r1]) (by simp [r1])
  · unfold eqI at hv; cases hv
end
end Pi
end Go.Proofs.YthdgpejippohnaaGreatDoor
