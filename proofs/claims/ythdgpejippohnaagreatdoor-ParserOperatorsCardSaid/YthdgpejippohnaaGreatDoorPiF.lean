/-
  One operation of the evaluator is what the machine's operation does: addresses, parts, loads, cuts, conversions. No condition.
-/
import Derived.Test.YthdgpejippohnaaGreatDoorPiE
namespace Go.Proofs.YthdgpejippohnaaGreatDoor
namespace Pi
set_option linter.unusedVariables false
section
variable {P : Program} {base : Nat} {w w' : World} {im im' : Im} {g g' : List Value} {objs objs' : Objs} {env : Env} {a : Act} {o : Oper}

theorem s_faddr {s : TypeId} {x : Operand} {y : Opnd} {f : Nat} {fields : Array Field} {fd : Field} {n : Nat} {off : Nat} (hsat : Sat P base w im g objs) (henv : RepL w im g objs env a.tmps.toList) (ho : o.op = .fieldAddr s x f) (hy : opndI x = some y)
    (hu : P.underlying s = some (.struct fields)) (hf : fields[f]? = some fd) (hz : szOf P fd.type = some (n + 1)) (hoff : off = fd.offset) :
    (∀ id q, opnd env y = .box id q → OpOK P base o a w im g objs (.ok (.box id (q + off)) objs)) ∧ (∀ cs q, opnd env y = .elem cs q → OpOK P base o a w im g objs (.ok (.elem cs (q + off)) objs)) := by
  have r := opnd_rep henv hy
  subst hoff
  have hrun : ∀ b q, a.eval x = .pointer (some ⟨b, q, none⟩) → (execOp a.eval o).run P w = .ok (.value (.pointer (some ⟨b, q + fd.offset, none⟩))) w := by
    intro b q he
    simp [execOp, ho, Instr.fieldAt, run_underlying hu, hf, Instr.sureAddr, he, fieldPlace, run_sizeOf' hz, Addr.add_lit]
  constructor
  · intro id q he
    rw [he] at r
    unfold Rep at r
    obtain ⟨k, hg, hv'⟩ := r
    refine opok_same hsat (hrun k q hv') ?_
    unfold Rep
    exact ⟨k, hg, rfl⟩
  · intro cs q he
    rw [he] at r
    unfold Rep at r
    obtain ⟨b, q', hv', hr⟩ := r
    refine opok_same hsat (hrun b _ hv') ?_
    unfold Rep
    exact ⟨b, q', by rw [Nat.add_assoc], hr⟩
theorem s_faddr_ebox {s : TypeId} {x : Operand} {y : Opnd} {f : Nat} {fields : Array Field} {fd : Field} {n : Nat} {off : Nat} (hsat : Sat P base w im g objs) (henv : RepL w im g objs env a.tmps.toList) (ho : o.op = .fieldAddr s x f) (hy : opndI x = some y) (hu : P.underlying s = some (.struct fields)) (hf : fields[f]? = some fd) (hz : szOf P fd.type = some (n + 1)) (hoff : off = fd.offset)
    {id ver ez j q : Nat} (he : opnd env y = .ebox id ver ez j q) : OpOK P base o a w im g objs (.ok (.ebox id ver ez j (q + off)) objs) := by
  have r := opnd_rep henv hy
  subst hoff
  rw [he] at r
  unfold Rep at r
  obtain ⟨b, hv', hr⟩ := r
  refine opok_same hsat (v' := .pointer (some ⟨b, j * ez + q + fd.offset, none⟩)) ?_ ?_
  · simp [execOp, ho, Instr.fieldAt, run_underlying hu, hf, Instr.sureAddr, hv', fieldPlace, run_sizeOf' hz, Addr.add_lit]
  · unfold Rep
    exact ⟨b, by rw [Nat.add_assoc], hr⟩

/-- Cells of a struct's value. -/
theorem run_part {t : TypeId} {cs : List Value} {off : Nat} {sz : Option Nat} (h : lszOf P t = some sz) (w : World) {v : Value}
    (hv : (sz = none ∧ cs[off]? = some v) ∨ ∃ n, sz = some n ∧ v = .agg ((cs.drop off).take n).toArray) : (part t cs.toArray off).run P w = .ok v w := by
  rcases lszOf_cases h with ⟨rfl, ha⟩ | ⟨n, rfl, ha, hs⟩
  · rcases hv with ⟨_, hv⟩ | ⟨n, hn, _⟩
    · simp [part, run_isAgg' ha, hv]
    · cases hn
  · rcases hv with ⟨hn, _⟩ | ⟨n', hn, rfl⟩
    · cases hn
    · injection hn with hn; subst hn
      simp [part, run_isAgg' ha, run_sizeOf' hs, List.extract_eq_take_drop]

theorem s_fld {s : TypeId} {x : Operand} {y : Opnd} {f : Nat} {fields : Array Field} {fd : Field} {sz : Option Nat} {cs : List PV} {v : PV} (hsat : Sat P base w im g objs) (henv : RepL w im g objs env a.tmps.toList) (ho : o.op = .field s x f) (hy : opndI x = some y)
    (hu : P.underlying s = some (.struct fields)) (hf : fields[f]? = some fd) (hz : lszOf P fd.type = some sz) (hx : opnd env y = .agg cs)
    (hv : (sz = none ∧ cs[fd.offset]? = some v) ∨ ∃ n, sz = some n ∧ fd.offset + n ≤ cs.length ∧ v = .agg ((cs.drop fd.offset).take n)) : OpOK P base o a w im g objs (.ok v objs) := by
  obtain ⟨vs, he, hr⟩ := rep_agg hx (opnd_rep henv hy)
  rcases hv with ⟨hn, hv⟩ | ⟨n, hn, hl, rfl⟩
  · obtain ⟨u, hu', hr'⟩ := hr.get hv
    refine opok_same hsat (v' := u) ?_ hr'
    have := run_part (P := P) hz w (cs := vs) (.inl ⟨hn, hu'⟩)
    simp [execOp, ho, Instr.field, run_underlying hu, hf, he, asAgg, this]
  · refine opok_same hsat (v' := .agg ((vs.drop fd.offset).take n).toArray) ?_ ?_
    · have := run_part (P := P) hz w (cs := vs) (off := fd.offset) (.inr ⟨n, hn, rfl⟩)
      simp [execOp, ho, Instr.field, run_underlying hu, hf, he, asAgg, this]
    · unfold Rep
      exact ⟨_, rfl, (hr.drop _).take _⟩

theorem s_ext {x : Operand} {y : Opnd} {i : Nat} {vs : List PV} {v : PV} (hsat : Sat P base w im g objs) (henv : RepL w im g objs env a.tmps.toList) (ho : o.op = .extract x i) (hy : opndI x = some y) (hx : opnd env y = .tup vs) (hv : vs[i]? = some v) : OpOK P base o a w im g objs (.ok v objs) := by
  have r := opnd_rep henv hy
  rw [hx] at r
  unfold Rep at r
  obtain ⟨us, he, hr⟩ := r
  obtain ⟨u, hu, hr'⟩ := hr.get hv
  exact opok_same hsat (v' := u) (by simp [execOp, ho, Instr.extract, he, hu]) hr'

theorem s_mkf {f : FuncId} {xs ys : Array Operand} {as bs : List Opnd} (hsat : Sat P base w im g objs) (henv : RepL w im g objs env a.tmps.toList) (ho : o.op = .makeFunc (.func f) xs ys) (h1 : opndsI xs.toList = some as) (h2 : opndsI ys.toList = some bs) :
    OpOK P base o a w im g objs (.ok (.clo f (as.map (opnd env)) (bs.map (opnd env))) objs) := by
  refine opok_same hsat (v' := .func (.func f) (xs.map a.eval) (ys.map a.eval)) (by simp [execOp, ho, Instr.makeFunc]) ?_
  unfold Rep
  refine ⟨xs.toList.map a.eval, ys.toList.map a.eval, ?_, opnds_rep henv h1, opnds_rep henv h2⟩
  simp [← Array.toList_map]

theorem s_mki {t : TypeId} {x : Operand} {y : Opnd} {d : TypeDesc} (hsat : Sat P base w im g objs) (henv : RepL w im g objs env a.tmps.toList) (ho : o.op = .makeInterface t x) (hy : opndI x = some y) (hu : P.underlying t = some d) (hd : ∀ ms, d ≠ .interface ms) : OpOK P base o a w im g objs (.ok (.iface t (opnd env y)) objs) := by
  refine opok_same hsat (v' := .iface t (a.eval x)) ?_ ?_
  · simp only [execOp, ho, Instr.makeInterface, Sem.run_bind, run_underlying hu, Result.andThen_ok]
    cases d <;> first | rfl | (exact (hd _ rfl).elim)
  · unfold Rep
    exact ⟨_, rfl, opnd_rep henv hy⟩

theorem s_convI {s t : TypeId} {x : Operand} {y : Opnd} {k k0 k1 : IntKind} {n : Int} (hsat : Sat P base w im g objs) (henv : RepL w im g objs env a.tmps.toList) (ho : o.op = .convert s t x) (hy : opndI x = some y) (hs : P.underlying s = some (.int k0)) (ht : P.underlying t = some (.int k)) (hx : opnd env y = .d (.int k1 n)) : OpOK P base o a w im g objs (.ok (.d (.int k (k.wrap n))) objs) := by
  have e := rep_int hx (opnd_rep henv hy)
  exact opok_same hsat (v' := .int k (k.wrap n)) (by simp [execOp, ho, convert, run_underlying hs, run_underlying ht, e, Conv.intToInt]) rfl
theorem s_convS {s t : TypeId} {x : Operand} {y : Opnd} {q : List UInt8} (hsat : Sat P base w im g objs) (henv : RepL w im g objs env a.tmps.toList) (ho : o.op = .convert s t x) (hy : opndI x = some y) (hs : P.underlying s = some .string) (ht : P.underlying t = some .string) (hx : opnd env y = .d (.str q)) : OpOK P base o a w im g objs (.ok (.d (.str q)) objs) := by
  have e := rep_str hx (opnd_rep henv hy)
  exact opok_same hsat (v' := .string ⟨q.toArray⟩) (by simp [execOp, ho, convert, run_underlying hs, run_underlying ht, e]) rfl

/-- A row at a slice's value, with its elements' place. -/
theorem row_at {els : List (List D)} {v : Value} (h : RepD w im (.row els) v) (hn : 0 < els.length) : ∃ b q c sz, v = .slice (some ⟨b, q, none⟩) els.length c ∧ els.length ≤ c ∧ RepEls w im els sz b q := by
  unfold RepD at h
  rcases h with ⟨h0, _⟩ | h
  · rw [h0] at hn; simp at hn
  · exact h
theorem row_slice {els : List (List D)} {v : Value} (h : RepD w im (.row els) v) : ∃ A c, v = .slice A els.length c ∧ els.length ≤ c := by
  unfold RepD at h
  rcases h with ⟨rfl, A, c, rfl⟩ | ⟨b, q, c, sz, rfl, hc, _⟩
  · exact ⟨A, c, rfl, Nat.zero_le _⟩
  · exact ⟨_, c, rfl, hc⟩

theorem s_aaddr {t e : TypeId} {x i : Operand} {y i' : Opnd} {len sz : Nat} {r : Res} {po : Pol} {call : CallF} (hsat : Sat P base w im g objs) (henv : RepL w im g objs env a.tmps.toList) (ho : o.op = .indexAddr t x i) (hy : opndI x = some y) (hi : opndI i = some i')
    (hu : P.underlying t = some (.array len e)) (hz : szOf P e = some sz) (h : stepI po call env objs (.aaddr len sz y i') = some r) : OpOK P base o a w im g objs r := by
  have rx := opnd_rep henv hy
  have ri := opnd_rep henv hi
  unfold stepI at h
  simp only at h
  split at h <;> first | (cases h; done) | skip
  · rename_i id off k j hx hj
    split at h <;> first | (cases h; done) | skip
    rename_i hb
    injection h with h; subst h
    have ej := rep_int hj ri
    rw [hx] at rx
    unfold Rep at rx
    obtain ⟨q, hg, ev⟩ := rx
    refine opok_same hsat (v' := .pointer (some ⟨q, off + j.toNat * sz, none⟩)) ?_ ?_
    · simp [execOp, ho, Instr.indexAt, asIntOf, ej, run_underlying hu, ev, hb.1, hb.2, run_sizeOf' hz, Addr.add_lit, Instr.sureAddr]
    · unfold Rep
      exact ⟨q, hg, rfl⟩
  · rename_i cs off k j hx hj
    split at h <;> first | (cases h; done) | skip
    rename_i hb
    injection h with h; subst h
    have ej := rep_int hj ri
    rw [hx] at rx
    unfold Rep at rx
    obtain ⟨b, q, ev, hr⟩ := rx
    refine opok_same hsat (v' := .pointer (some ⟨b, q + (off + j.toNat * sz), none⟩)) ?_ ?_
    · simp [execOp, ho, Instr.indexAt, asIntOf, ej, run_underlying hu, ev, hb.1, hb.2, run_sizeOf' hz, Addr.add_lit, Instr.sureAddr, Nat.add_assoc]
    · unfold Rep
      exact ⟨b, q, rfl, hr⟩
  · rename_i id ver ez q off k j hx hj
    split at h <;> first | (cases h; done) | skip
    rename_i hb
    injection h with h; subst h
    have ej := rep_int hj ri
    rw [hx] at rx
    unfold Rep at rx
    obtain ⟨b, ev, hr⟩ := rx
    refine opok_same hsat (v' := .pointer (some ⟨b, q * ez + (off + j.toNat * sz), none⟩)) ?_ ?_
    · simp [execOp, ho, Instr.indexAt, asIntOf, ej, run_underlying hu, ev, hb.1, hb.2, run_sizeOf' hz, Addr.add_lit, Instr.sureAddr, Nat.add_assoc]
    · unfold Rep
      exact ⟨b, rfl, hr⟩
/-- The address of an element of a row that may be written. -/
theorem s_iaddr_sl {t e : TypeId} {x i : Operand} {y i' : Opnd} {sz id ver lo n : Nat} {k : IntKind} {j : Int} (hsat : Sat P base w im g objs) (henv : RepL w im g objs env a.tmps.toList) (ho : o.op = .indexAddr t x i) (hy : opndI x = some y) (hi : opndI i = some i')
    (hu : P.underlying t = some (.slice e)) (hz : szOf P e = some sz) (hx : opnd env y = .sl id ver sz lo n) (hj : opnd env i' = .d (.int k j)) (h0 : 0 ≤ j) (h1 : j < n) : OpOK P base o a w im g objs (.ok (.ebox id ver sz (lo + j.toNat) 0) objs) := by
  have r := opnd_rep henv hy
  rw [hx] at r
  unfold Rep at r
  obtain ⟨b, c, ev, hc, hr⟩ := r
  have ej := rep_int hj (opnd_rep henv hi)
  refine opok_same hsat (v' := .pointer (some ⟨b, lo * sz + j.toNat * sz, none⟩)) ?_ ?_
  · simp [execOp, ho, Instr.indexAt, asIntOf, ej, run_underlying hu, ev, h0, h1, run_sizeOf' hz, Addr.add_lit]
  · unfold Rep
    refine ⟨b, by rw [Nat.add_zero, Nat.add_mul], ?_⟩
    obtain ⟨o', e', m, q1, q2, q3, q4⟩ := hr
    exact ⟨o', e', m, q1, q2, q3, fun hv => let ⟨u, cap, r1, r2, _⟩ := q4 hv; ⟨u, cap, r1, r2, trivial⟩⟩
theorem s_iaddr {t e : TypeId} {x i : Operand} {y i' : Opnd} {sz : Nat} {els : List (List D)} {el : List D} {k : IntKind} {j : Int} (hsat : Sat P base w im g objs) (henv : RepL w im g objs env a.tmps.toList) (ho : o.op = .indexAddr t x i) (hy : opndI x = some y) (hi : opndI i = some i')
    (hu : P.underlying t = some (.slice e)) (hz : szOf P e = some sz) (hx : (opnd env y).asRow objs = some els) (hj : opnd env i' = .d (.int k j)) (h0 : 0 ≤ j) (h1 : els[j.toNat]? = some el) (hl : el.length = sz) : OpOK P base o a w im g objs (.ok (.elem el 0) objs) := by
  have r := asRow_rep hsat hx (opnd_rep henv hy)
  have ej := rep_int hj (opnd_rep henv hi)
  have hlt : j.toNat < els.length := (List.getElem?_eq_some_iff.1 h1).1
  obtain ⟨b, q, c, sz', ev, hc, hr⟩ := row_at r (by omega)
  obtain ⟨e1, e2⟩ := RepEls_at hr h1
  have hss : sz' = sz := by omega
  subst hss
  refine opok_same hsat (v' := .pointer (some ⟨b, q + j.toNat * sz', none⟩)) ?_ ?_
  · have h2 : j < els.length := by omega
    simp [execOp, ho, Instr.indexAt, asIntOf, ej, run_underlying hu, ev, h0, h2, run_sizeOf' hz, Addr.add_lit]
  · unfold Rep
    exact ⟨b, q + j.toNat * sz', rfl, e2⟩

theorem s_sidx {t : TypeId} {x i : Operand} {y i' : Opnd} {s : List UInt8} {k : IntKind} {j : Int} {c : UInt8} (hsat : Sat P base w im g objs) (henv : RepL w im g objs env a.tmps.toList) (ho : o.op = .index t x i) (hy : opndI x = some y) (hi : opndI i = some i')
    (hu : P.underlying t = some .string) (hx : opnd env y = .d (.str s)) (hj : opnd env i' = .d (.int k j)) (h0 : 0 ≤ j) (hc : s[j.toNat]? = some c) : OpOK P base o a w im g objs (.ok (.d (.int .u8 c.toNat)) objs) := by
  have ex := rep_str hx (opnd_rep henv hy)
  have ej := rep_int hj (opnd_rep henv hi)
  refine opok_same hsat (v' := .int .u8 c.toNat) ?_ rfl
  have hlt : j.toNat < s.length := (List.getElem?_eq_some_iff.1 hc).1
  have hb : (⟨s.toArray⟩ : ByteArray)[j.toNat]? = some c := by
    rw [getElem?_pos (⟨s.toArray⟩ : ByteArray) j.toNat (by simpa [ByteArray.size] using hlt)]
    congr 1
    have := (List.getElem?_eq_some_iff.1 hc).2
    simpa [ByteArray.getElem_eq_getElem_data] using this
  simp [execOp, ho, Instr.index, asIntOf, ej, run_underlying hu, ex, h0, hb]

theorem s_aidx {t e : TypeId} {x i : Operand} {y i' : Opnd} {len sz : Nat} {ag : Bool} {cs : List PV} {k : IntKind} {j : Int} {v : PV} (hsat : Sat P base w im g objs) (henv : RepL w im g objs env a.tmps.toList) (ho : o.op = .index t x i) (hy : opndI x = some y) (hi : opndI i = some i')
    (hu : P.underlying t = some (.array len e)) (hag : isAggT P e = some ag) (hz : szOf P e = some sz) (hx : opnd env y = .agg cs) (hj : opnd env i' = .d (.int k j)) (h0 : 0 ≤ j) (h1 : j < len)
    (hv : (ag = false ∧ cs[j.toNat * sz]? = some v) ∨ (ag = true ∧ v = .agg ((cs.drop (j.toNat * sz)).take sz))) : OpOK P base o a w im g objs (.ok v objs) := by
  obtain ⟨vs, he, hr⟩ := rep_agg hx (opnd_rep henv hy)
  have ej := rep_int hj (opnd_rep henv hi)
  rcases hv with ⟨hn, hv⟩ | ⟨hn, rfl⟩
  · obtain ⟨u, hu', hr'⟩ := hr.get hv
    refine opok_same hsat (v' := u) ?_ hr'
    have := run_part (P := P) (t := e) (sz := none) (by simp [lszOf, hag, hn]) w (cs := vs) (.inl ⟨rfl, hu'⟩)
    simp [execOp, ho, Instr.index, asIntOf, ej, run_underlying hu, he, h0, h1, run_sizeOf' hz, this]
  · refine opok_same hsat (v' := .agg ((vs.drop (j.toNat * sz)).take sz).toArray) ?_ ?_
    · have := run_part (P := P) (t := e) (sz := some sz) (by simp [lszOf, hag, hn, hz]) w (cs := vs) (off := j.toNat * sz) (.inr ⟨sz, rfl, rfl⟩)
      simp [execOp, ho, Instr.index, asIntOf, ej, run_underlying hu, he, h0, h1, run_sizeOf' hz, this]
    · unfold Rep
      exact ⟨_, rfl, (hr.drop _).take _⟩
end
end Pi
end Go.Proofs.YthdgpejippohnaaGreatDoor
