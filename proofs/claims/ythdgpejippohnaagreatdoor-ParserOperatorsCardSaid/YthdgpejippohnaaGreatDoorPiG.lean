/-
  One operation of the evaluator is what the machine's operation does: cuts, lengths, loads. No condition.
-/
import Derived.Test.YthdgpejippohnaaGreatDoorPiF
namespace Go.Proofs.YthdgpejippohnaaGreatDoor
namespace Pi
set_option linter.unusedVariables false
section
variable {P : Program} {base : Nat} {w w' : World} {im im' : Im} {g g' : List Value} {objs objs' : Objs} {env : Env} {a : Act} {o : Oper}

def bound1 : Option PV → Option Value → Prop
  | none, v => v = none
  | some (.d (.int k x)), v => v = some (.int k x)
  | some _, v => True
theorem run_sliceBound {k : IntKind} {x : Int} {y : Nat} (c : BoundsCode) (h0 : 0 ≤ x) (h1 : x ≤ y) (w : World) : (Instr.sliceBound (.int k x) y c).run P w = .ok x.toNat w := by
  simp [Instr.sliceBound, asIntOf, h0, h1]
theorem hi_cases {n h : Nat} {hi : Option PV} {vh : Option Value} (hb : hiI n hi = some h) (h2 : bound1 hi vh) : h ≤ n ∧ ((vh = none ∧ h = n) ∨ ∃ k x, vh = some (.int k x) ∧ 0 ≤ x ∧ x ≤ n ∧ h = x.toNat) := by
  unfold hiI at hb
  split at hb
  · injection hb with hb; subst hb
    exact ⟨Nat.le_refl _, .inl ⟨h2, rfl⟩⟩
  · split at hb
    · injection hb with hb; subst hb
      rename_i k x hx
      exact ⟨by omega, .inr ⟨k, x, h2, hx.1, hx.2, rfl⟩⟩
    · cases hb
  · cases hb
theorem lo_cases {n h : Nat} {hi : Option PV} {vh : Option Value} (hb : loI n hi = some h) (h2 : bound1 hi vh) : h ≤ n ∧ ((vh = none ∧ h = 0) ∨ ∃ k x, vh = some (.int k x) ∧ 0 ≤ x ∧ x ≤ n ∧ h = x.toNat) := by
  unfold loI at hb
  split at hb
  · injection hb with hb; subst hb
    exact ⟨Nat.zero_le _, .inl ⟨h2, rfl⟩⟩
  · split at hb
    · injection hb with hb; subst hb
      rename_i k x hx
      exact ⟨by omega, .inr ⟨k, x, h2, hx.1, hx.2, rfl⟩⟩
    · cases hb
  · cases hb
theorem run_bounds {n cap l h : Nat} {lo hi : Option PV} {vl vh : Option Value} (isS : Bool) (hb : boundsI n lo hi = some (l, h)) (hc : n ≤ cap) (h1 : bound1 lo vl) (h2 : bound1 hi vh) (w : World) :
    (Instr.sliceBounds isS n cap vl vh none).run P w = .ok (l, h, cap) w ∧ l ≤ h ∧ h ≤ n := by
  unfold boundsI at hb
  split at hb
  · cases hb
  · rename_i H hH
    split at hb
    · cases hb
    · rename_i L hL
      injection hb with hb
      injection hb with e1 e2
      subst e1 e2
      obtain ⟨hn, hh⟩ := hi_cases hH h2
      obtain ⟨hm, hl⟩ := lo_cases hL h1
      refine ⟨?_, hm, hn⟩
      rcases hh with ⟨rfl, rfl⟩ | ⟨k, x, rfl, a1, a2, rfl⟩ <;> rcases hl with ⟨rfl, rfl⟩ | ⟨k', x', rfl, b1, b2, rfl⟩
      · rfl
      · have := run_sliceBound (P := P) (k := k') .sliceB b1 b2 w
        simp [Instr.sliceBounds, this]
      · have := run_sliceBound (P := P) (k := k) (y := cap) (if isS then .sliceAcap else .sliceAlen) a1 (by omega) w
        simp [Instr.sliceBounds, this]
      · have h1 := run_sliceBound (P := P) (k := k) (y := cap) (if isS then .sliceAcap else .sliceAlen) a1 (by omega) w
        have h2 := run_sliceBound (P := P) (k := k') .sliceB b1 b2 w
        simp [Instr.sliceBounds, h1, h2]
theorem bound1_map {x : Option Operand} {y : Option Opnd} (henv : RepL w im g objs env a.tmps.toList) (h : optI x = some y) : bound1 (y.map (opnd env)) (x.map a.eval) := by
  cases x with
  | none => simp only [optI, Option.some.injEq] at h; subst h; rfl
  | some l =>
    cases h1 : opndI l with
    | none => simp [optI, h1] at h
    | some p =>
      simp only [optI, h1, Option.map_some, Option.some.injEq] at h
      subst h
      have r := opnd_rep henv h1
      show bound1 (some (opnd env p)) (some (a.eval l))
      generalize opnd env p = q at r
      cases q <;> try trivial
      rename_i x
      cases x <;> first | trivial | exact congrArg some r

theorem s_sslc {t : TypeId} {x : Operand} {lo hi : Option Operand} {y : Opnd} {lo' hi' : Option Opnd} {s : List UInt8} {l h : Nat} (hsat : Sat P base w im g objs) (henv : RepL w im g objs env a.tmps.toList) (ho : o.op = .slice t x lo hi none) (hy : opndI x = some y)
    (h1 : optI lo = some lo') (h2 : optI hi = some hi') (hu : P.underlying t = some .string) (hx : opnd env y = .d (.str s)) (hb : boundsI s.length (lo'.map (opnd env)) (hi'.map (opnd env)) = some (l, h)) :
    OpOK P base o a w im g objs (.ok (.d (.str ((s.drop l).take (h - l)))) objs) := by
  have ex := rep_str hx (opnd_rep henv hy)
  obtain ⟨hr, _, _⟩ := run_bounds (P := P) false hb (Nat.le_refl _) (bound1_map henv h1) (bound1_map henv h2) w
  refine opok_same hsat (v' := .string ⟨((s.drop l).take (h - l)).toArray⟩) ?_ rfl
  simp [execOp, ho, Instr.sliceAt, Instr.slice, run_underlying hu, ex, size_mk, hr, extract_mk]

theorem s_slc {t e : TypeId} {x : Operand} {lo hi : Option Operand} {y : Opnd} {lo' hi' : Option Opnd} {els : List (List D)} {sz : Nat} {l h : Nat} (hsat : Sat P base w im g objs) (henv : RepL w im g objs env a.tmps.toList) (ho : o.op = .slice t x lo hi none) (hy : opndI x = some y)
    (h1 : optI lo = some lo') (h2 : optI hi = some hi') (hu : P.underlying t = some (.slice e)) (hz : szOf P e = some sz) (hx : (opnd env y).asRow objs = some els) (hb : boundsI els.length (lo'.map (opnd env)) (hi'.map (opnd env)) = some (l, h)) (hh : hdOk sz els = true) :
    OpOK P base o a w im g objs (.ok (.d (.row ((els.drop l).take (h - l)))) objs) := by
  have r := asRow_rep hsat hx (opnd_rep henv hy)
  obtain ⟨A, c, ev, hc⟩ := row_slice r
  obtain ⟨hr, hlh, hhn⟩ := run_bounds (P := P) (cap := c) true hb (by omega) (bound1_map henv h1) (bound1_map henv h2) w
  have hrun : (execOp a.eval o).run P w = .ok (.value (.slice (if c = l then A else A.map (·.add (l * sz))) (h - l) (c - l))) w := by
    simp [execOp, ho, Instr.sliceAt, Instr.slice, run_underlying hu, ev, hr, run_sizeOf' hz]
  refine opok_same hsat hrun ?_
  show RepD w im _ _
  unfold RepD
  by_cases hd : h - l = 0
  · left
    refine ⟨by rw [hd]; simp, _, _, by rw [hd]⟩
  · right
    obtain ⟨b, q, c', sz', ev', hc', hels⟩ := row_at r (by omega)
    rw [ev] at ev'
    injection ev' with e1 _ e3
    subst e1 e3
    have hss : sz' = sz := by
      cases els with
      | nil => simp at hhn; omega
      | cons el r' =>
        simp only [hdOk, beq_iff_eq] at hh
        have := (RepEls_at hels (j := 0) rfl).1
        omega
    subst hss
    rw [if_neg (by omega)]
    have hlen : ((els.drop l).take (h - l)).length = h - l := by simp only [List.length_take, List.length_drop]; omega
    refine ⟨b, q + l * sz', c - l, sz', by rw [hlen]; simp [Addr.add_lit], by omega, RepEls_mk fun j el hj => ?_⟩
    rw [List.getElem?_take] at hj
    split at hj
    · rw [List.getElem?_drop] at hj
      have := RepEls_at hels hj
      exact ⟨this.1, by rw [show q + l * sz' + j * sz' = q + (l + j) * sz' from by rw [Nat.add_mul]; omega]; exact this.2⟩
    · cases hj

theorem s_slc_sl {t e : TypeId} {x : Operand} {lo hi : Option Operand} {y : Opnd} {lo' hi' : Option Opnd} {id ver l0 n : Nat} {sz : Nat} {l h : Nat} (hsat : Sat P base w im g objs) (henv : RepL w im g objs env a.tmps.toList) (ho : o.op = .slice t x lo hi none) (hy : opndI x = some y)
    (h1 : optI lo = some lo') (h2 : optI hi = some hi') (hu : P.underlying t = some (.slice e)) (hz : szOf P e = some sz) (hx : opnd env y = .sl id ver sz l0 n) (hb : boundsI n (lo'.map (opnd env)) (hi'.map (opnd env)) = some (l, h)) :
    OpOK P base o a w im g objs (.ok (if l = 0 then .sl id ver sz l0 h else if h - l = 0 then .d (.row []) else .sl id ver sz (l0 + l) (h - l)) objs) := by
  have r := opnd_rep henv hy
  rw [hx] at r
  unfold Rep at r
  obtain ⟨k, c, ev, hc, hv⟩ := r
  obtain ⟨hr, hlh, hhn⟩ := run_bounds (P := P) (cap := c) true hb (by omega) (bound1_map henv h1) (bound1_map henv h2) w
  have hrun : (execOp a.eval o).run P w = .ok (.value (.slice (if c = l then some ⟨k, l0 * sz, none⟩ else (some ⟨k, l0 * sz, none⟩ : Option Addr).map (·.add (l * sz))) (h - l) (c - l))) w := by
    simp [execOp, ho, Instr.sliceAt, Instr.slice, run_underlying hu, ev, hr, run_sizeOf' hz]
  refine opok_same hsat hrun ?_
  split
  · rename_i hl
    subst hl
    unfold Rep
    refine ⟨k, c, ?_, by omega, ?_⟩
    · simp [Addr.add_lit]
    · obtain ⟨o', e', m, q1, q2, q3, q4⟩ := hv
      exact ⟨o', e', m, q1, q2, q3, fun hv => let ⟨u, cap, r1, r2, r3, r4⟩ := q4 hv; ⟨u, cap, r1, r2, r3, by omega⟩⟩
  · split
    · rename_i hd
      exact .inl ⟨rfl, _, _, by rw [hd]⟩
    · rename_i hl hd
      unfold Rep
      rw [if_neg (by omega)]
      refine ⟨k, c - l, ?_, by omega, ?_⟩
      · simp [Addr.add_lit, Nat.add_mul]
      · obtain ⟨o', e', m, q1, q2, q3, q4⟩ := hv
        exact ⟨o', e', m, q1, q2, q3, fun hv => let ⟨u, cap, r1, r2, r3, r4⟩ := q4 hv; ⟨u, cap, r1, r2, fun h0 => by omega, by omega⟩⟩

def lenOK : TypeDesc → Value → Int → Prop
  | .string, .string s, n => n = s.size
  | .slice _, .slice _ m _, n => n = m
  | .map _ _, .map none, n => n = 0
  | _, _, _ => False
theorem exec_builtin {b : Builtin} {args : Array Operand} {tys : Array TypeId} (ho : o.op = .call { callee := .builtin b, args := args, argTypes := tys }) {s : Sem Value}
    (hb : ∀ cs, builtin b tys o.type cs (args.map a.eval) = (do pure (.value (← s)))) {v : Value} (hr : s.run P w = .ok v w') : (execOp a.eval o).run P w = .ok (.value v) w' := by
  simp only [execOp, ho, resolve, invoke, Sem.run_bind, Sem.run_pure, Result.andThen_ok]
  rw [hb]
  simp [hr]
theorem toArray_one {α : Type} {xs : Array α} {x : α} (h : xs.toList = [x]) : xs = #[x] := by
  apply Array.toList_inj.1
  simpa using h
theorem s_len {args : Array Operand} {tys : Array TypeId} {t : TypeId} {d : TypeDesc} {y : Opnd} {n : Int} (hsat : Sat P base w im g objs) (henv : RepL w im g objs env a.tmps.toList) (ho : o.op = .call { callee := .builtin .len, args := args, argTypes := tys }) (hy : opndsI args.toList = some [y])
    (ht : tys[0]? = some t) (hu : P.underlying t = some d) (hv : ∀ v, Rep w im g objs (opnd env y) v → lenOK d v n) : OpOK P base o a w im g objs (.ok (.d (.int .i64 n)) objs) := by
  have hr := opnds_rep henv hy
  cases hl : args.toList with
  | nil => simp [hl, RepL] at hr
  | cons x r => cases r with
    | cons _ _ => simp [hl, RepL] at hr
    | nil =>
      rw [hl] at hr
      have hr1 : Rep w im g objs (opnd env y) (a.eval x) := hr.1
      have ha : args = #[x] := toArray_one hl
      subst ha
      have hv' := hv _ hr1
      refine opok_same hsat (v' := .int .i64 n) ?_ rfl
      refine exec_builtin ho (s := Builtin.len_ tys o.type #[a.eval x]) (fun _ => by simp [builtin]) ?_
      unfold Builtin.len_
      simp only [ht, List.getElem?_toArray, List.getElem?_cons_zero, Sem.run_bind, run_underlying hu, Result.andThen_ok]
      generalize a.eval x = v at hv'
      unfold lenOK at hv'
      split at hv' <;> first | (subst hv'; rfl) | exact hv'.elim

/-! ### loads -/
theorem s_load {t : TypeId} {x : Operand} {y : Opnd} {sz : Option Nat} {r : Res} (hsat : Sat P base w im g objs) (henv : RepL w im g objs env a.tmps.toList) (ho : o.op = .load t x) (hy : opndI x = some y) (hz : lszOf P t = some sz)
    {b q : Nat} (he : a.eval x = .pointer (some ⟨b, q, none⟩)) {v : PV} (h : (sz = none ∧ ∃ u, w.cell? ⟨b, q, none⟩ = some u ∧ Rep w im g objs v u) ∨ ∃ n ps us, sz = some n ∧ v = .agg ps ∧ us.length = n ∧ (∀ j u, us[j]? = some u → w.cell? ⟨b, q + j, none⟩ = some u) ∧ RepL w im g objs ps us) :
    OpOK P base o a w im g objs (.ok v objs) := by
  rcases lszOf_cases hz with ⟨rfl, ha⟩ | ⟨n, rfl, ha, hs⟩
  · rcases h with ⟨_, u, hu, hr⟩ | ⟨_, _, _, hn, _⟩
    · refine opok_same hsat (v' := u) ?_ hr
      simp [execOp, ho, Instr.loadAt, Instr.sureAddr, he, loadVar, run_isAgg' ha, hu]
    · cases hn
  · rcases h with ⟨hn, _⟩ | ⟨n', ps, us, hn, rfl, hl, hc, hr⟩
    · cases hn
    · injection hn with hn; subst hn
      refine opok_same hsat (v' := .agg us.toArray) ?_ ?_
      · have := run_loadCells_list (P := P) w ⟨b, q, none⟩ us (fun j u hu => by rw [Addr.add_lit]; exact hc j u hu)
        rw [hl] at this
        simp [execOp, ho, Instr.loadAt, Instr.sureAddr, he, loadVar, run_isAgg' ha, run_sizeOf' hs, this]
      · unfold Rep
        exact ⟨us, rfl, hr⟩
theorem s_load_box {t : TypeId} {x : Operand} {y : Opnd} {sz : Option Nat} {id off : Nat} {cs : List PV} {v : PV} (hsat : Sat P base w im g objs) (henv : RepL w im g objs env a.tmps.toList) (ho : o.op = .load t x) (hy : opndI x = some y) (hz : lszOf P t = some sz)
    (hx : opnd env y = .box id off) {e : TypeId} (hid : objs[id]? = some (.cells e cs)) (hv : (sz = none ∧ cs[off]? = some v) ∨ ∃ n, sz = some n ∧ off + n ≤ cs.length ∧ v = .agg ((cs.drop off).take n)) : OpOK P base o a w im g objs (.ok v objs) := by
  have r := opnd_rep henv hy
  rw [hx] at r
  unfold Rep at r
  obtain ⟨k, hg, he⟩ := r
  have hok := hsat.obj id _ _ hid hg
  unfold ObjOK at hok
  obtain ⟨k', cur, hk, hb, hh, hr, _⟩ := hok
  injection hk with hk; injection hk with hk; injection hk with hk; subst hk
  refine s_load (sz := sz) (r := .ok v objs) hsat henv ho hy hz he ?_
  have hlen := hr.length
  rcases hv with ⟨hn, hv⟩ | ⟨n, hn, hl, rfl⟩
  · obtain ⟨u, hu, hru⟩ := hr.get hv
    refine .inl ⟨hn, u, ?_, hru⟩
    rw [cell_of_row w k off cur e (0, 0) hh]
    simpa using hu
  · refine .inr ⟨n, _, (cur.toList.drop off).take n, hn, rfl, ?_, fun j u hu => ?_, (hr.drop _).take _⟩
    · simp only [List.length_take, List.length_drop]; omega
    · rw [cell_of_row w k (off + j) cur e (0, 0) hh]
      rw [List.getElem?_take] at hu
      split at hu
      · rw [List.getElem?_drop] at hu
        simpa using hu
      · cases hu
theorem s_load_elem {t : TypeId} {x : Operand} {y : Opnd} {sz : Option Nat} {off : Nat} {cs : List D} {v : PV} (hsat : Sat P base w im g objs) (henv : RepL w im g objs env a.tmps.toList) (ho : o.op = .load t x) (hy : opndI x = some y) (hz : lszOf P t = some sz)
    (hx : opnd env y = .elem cs off) (hv : (sz = none ∧ ∃ d, cs[off]? = some d ∧ v = .d d) ∨ ∃ n, sz = some n ∧ off + n ≤ cs.length ∧ v = .agg (((cs.drop off).take n).map .d)) : OpOK P base o a w im g objs (.ok v objs) := by
  have r := opnd_rep henv hy
  rw [hx] at r
  unfold Rep at r
  obtain ⟨b, q, he, hrow⟩ := r
  rw [RepRow_iff] at hrow
  refine s_load (sz := sz) (r := .ok v objs) hsat henv ho hy hz he ?_
  rcases hv with ⟨hn, d, hv, rfl⟩ | ⟨n, hn, hl, rfl⟩
  · obtain ⟨_, u, hu, hd⟩ := hrow off d hv
    exact .inl ⟨hn, u, hu, hd⟩
  · have key : ∀ (m s : Nat), s + m ≤ cs.length → ∃ us : List Value, us.length = m ∧ (∀ j u, us[j]? = some u → w.cell? ⟨b, q + (s + j), none⟩ = some u) ∧ RepL w im g objs (((cs.drop s).take m).map .d) us := by
      intro m
      induction m with
      | zero => intro s _; exact ⟨[], rfl, fun j u hu => by simp at hu, by simp [RepL]⟩
      | succ m ih =>
        intro s hs
        obtain ⟨us, h1, h2, h3⟩ := ih (s + 1) (by omega)
        have hd : cs[s]? = some (cs[s]'(by omega)) := List.getElem?_eq_getElem (by omega)
        obtain ⟨_, u, hu, hdr⟩ := hrow s _ hd
        refine ⟨u :: us, by simp [h1], fun j z hz => ?_, ?_⟩
        · cases j with
          | zero => simp at hz; subst hz; exact hu
          | succ j => have := h2 j z (by simpa using hz); rwa [show s + (j + 1) = s + 1 + j from by omega]
        · rw [List.drop_eq_getElem_cons (by omega), List.take_succ_cons, List.map_cons]
          exact ⟨hdr, h3⟩
    obtain ⟨us, h1, h2, h3⟩ := key n off hl
    exact .inr ⟨n, _, us, hn, rfl, h1, fun j u hu => by rw [Nat.add_assoc]; exact h2 j u hu, h3⟩
/-- The cells of one element among those of a row. -/
theorem flat_at : ∀ {els : List (List D)} {cur : List Value} {sz : Nat}, (∀ el ∈ els, el.length = sz) → RepL w im g objs (els.flatten.map .d) cur → ∀ {j : Nat} {el : List D}, els[j]? = some el → RepL w im g objs (el.map .d) ((cur.drop (j * sz)).take sz)
  | [], _, _, _, _, j, _, hj => by simp at hj
  | x :: r, cur, sz, hall, hr, j, el, hj => by
    have hl := hall x (by simp)
    rw [List.flatten_cons, List.map_append] at hr
    cases j with
    | zero =>
      simp at hj; subst hj
      have h1 := hr.take x.length
      rw [List.take_left' (by simp)] at h1
      rw [hl] at h1
      simpa using h1
    | succ j =>
      have h2 := hr.drop x.length
      rw [List.drop_left' (by simp)] at h2
      have := flat_at (fun z hz => hall z (by simp [hz])) h2 (j := j) (by simpa using hj)
      rw [hl, List.drop_drop] at this
      rwa [show (j + 1) * sz = sz + j * sz from by rw [Nat.add_mul]; omega]
theorem row_read {cs : List D} {b q : Nat} (hrow : RepRow w im cs b q) : ∀ (m s : Nat), s + m ≤ cs.length → ∃ us : List Value, us.length = m ∧ (∀ j u, us[j]? = some u → w.cell? ⟨b, q + (s + j), none⟩ = some u) ∧ RepL w im g objs (((cs.drop s).take m).map .d) us := by
  rw [RepRow_iff] at hrow
  intro m
  induction m with
  | zero => intro s _; exact ⟨[], rfl, fun j u hu => by simp at hu, by simp [RepL]⟩
  | succ m ih =>
    intro s hs
    obtain ⟨us, h1, h2, h3⟩ := ih (s + 1) (by omega)
    have hd : cs[s]? = some (cs[s]'(by omega)) := List.getElem?_eq_getElem (by omega)
    obtain ⟨_, u, hu, hdr⟩ := hrow s _ hd
    refine ⟨u :: us, by simp [h1], fun j z hz => ?_, ?_⟩
    · cases j with
      | zero => simp at hz; subst hz; exact hu
      | succ j => have := h2 j z (by simpa using hz); rwa [show s + (j + 1) = s + 1 + j from by omega]
    · rw [List.drop_eq_getElem_cons (by omega), List.take_succ_cons, List.map_cons]
      exact ⟨hdr, h3⟩
theorem s_load_ebox {t : TypeId} {x : Operand} {y : Opnd} {sz : Option Nat} {id ver ez j off : Nat} {el : List D} {v : PV} (hsat : Sat P base w im g objs) (henv : RepL w im g objs env a.tmps.toList) (ho : o.op = .load t x) (hy : opndI x = some y) (hz : lszOf P t = some sz)
    (hx : opnd env y = .ebox id ver ez j off) (he : eboxI objs id ver j = some el) (hl : el.length = ez) (hv : elRead el off sz = some v) : OpOK P base o a w im g objs (.ok v objs) := by
  have r := opnd_rep henv hy
  rw [hx] at r
  unfold Rep at r
  obtain ⟨k, hev, hr⟩ := r
  refine s_load (sz := sz) (r := .ok v objs) hsat henv ho hy hz hev ?_
  /- the element's cells -/
  have cells : ∃ us : List Value, RepL w im g objs (el.map .d) us ∧ ∀ i u, us[i]? = some u → w.cell? ⟨k, j * ez + i, none⟩ = some u := by
    unfold eboxI at he
    split at he <;> first | (cases he; done) | skip
    · rename_i e els hob
      split at he <;> first | (cases he; done) | skip
      rename_i hver
      have hid := getD_some hob (by simp)
      obtain ⟨u, cap, hu, hh, _⟩ := hr.at hid (e := e) (by simp [AObj.tag, hver])
      have hok := hsat.obj id _ u hid hu
      unfold ObjOK at hok
      obtain ⟨i, k', cap', cur, hi, hs0, rfl, hb, hheap, h4, h5, h6, h7, hrep⟩ := hok
      obtain ⟨rfl, rfl⟩ := isHd_vec hh
      have hsz : i.size = ez := by rw [← hl]; exact (h7 el (List.mem_of_getElem? he)).symm
      have hj : j < els.length := (List.getElem?_eq_some_iff.1 he).1
      refine ⟨_, flat_at h7 hrep he, fun x u hu => ?_⟩
      rw [hsz] at hu
      rw [cells_at hheap, ← Array.getElem?_toList]
      rw [List.getElem?_take] at hu
      split at hu
      · rename_i hlt
        rw [List.getElem?_drop, List.getElem?_take] at hu
        split at hu
        · exact hu
        · cases hu
      · cases hu
    · rename_i e els hob
      split at he <;> first | (cases he; done) | skip
      rename_i hver
      have hid := getD_some hob (by simp)
      obtain ⟨u, cap, hu, hh, _⟩ := hr.at hid (e := e) (by simp [AObj.tag, hver])
      have hok := hsat.obj id _ u hid hu
      unfold ObjOK at hok
      obtain ⟨i, k', cap', hi, rfl, hrow⟩ := hok
      obtain ⟨rfl, rfl⟩ := isHd_frz hh
      obtain ⟨e1, e2⟩ := RepEls_at hrow he
      obtain ⟨us, a1, a2, a3⟩ := row_read (g := g) (objs := objs) e2 el.length 0 (by omega)
      refine ⟨us, by simpa using a3, fun x u hu => ?_⟩
      have := a2 x u hu
      rwa [show 0 + j * i.size + (0 + x) = j * ez + x from by rw [← hl, e1]; omega] at this
  obtain ⟨us, hus, hcell⟩ := cells
  have hlen := hus.length
  rw [List.length_map] at hlen
  unfold elRead at hv
  split at hv
  · split at hv <;> first | (cases hv; done) | skip
    rename_i d hd
    injection hv with hv; subst hv
    obtain ⟨u, hu, hru⟩ := hus.get (i := off) (by rw [List.getElem?_map, hd]; rfl)
    exact .inl ⟨rfl, u, hcell _ _ hu, hru⟩
  · rename_i n
    split at hv <;> first | (cases hv; done) | skip
    rename_i hn
    injection hv with hv; subst hv
    refine .inr ⟨n, _, (us.drop off).take n, rfl, rfl, by simp; omega, fun i u hu => ?_, ?_⟩
    · rw [List.getElem?_take] at hu
      split at hu
      · rw [List.getElem?_drop] at hu
        have := hcell _ _ hu
        rwa [show j * ez + (off + i) = j * ez + off + i from by omega] at this
      · cases hu
    · have := (hus.drop off).take n
      rwa [← List.map_drop, ← List.map_take] at this
end
end Pi
end Go.Proofs.YthdgpejippohnaaGreatDoor
