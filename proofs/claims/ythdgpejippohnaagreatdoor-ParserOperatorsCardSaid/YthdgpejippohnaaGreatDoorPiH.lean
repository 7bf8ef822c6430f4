/-
  One operation of the evaluator is what the machine's operation does: what makes and what writes memory. No condition.
-/
import Derived.Test.YthdgpejippohnaaGreatDoorPiG
namespace Go.Proofs.YthdgpejippohnaaGreatDoor
namespace Pi
set_option linter.unusedVariables false
section
variable {P : Program} {base : Nat} {w w' : World} {im im' : Im} {g g' : List Value} {objs objs' : Objs} {env : Env} {a : Act} {o : Oper}

theorem alloc_world (w : World) (ob : Obj) : (w.alloc ob).os = w.os ∧ (w.alloc ob).tape = w.tape ∧ (w.alloc ob).output = w.output := ⟨rfl, rfl, rfl⟩
/-- A new variable. -/
theorem new_cells (hsat : Sat P base w im g objs) {ps : List PV} {cur : Array Value} (e : TypeId) (hr : RepL w im g objs ps cur.toList) (h1 : ∀ u ∈ cur.toList, u.oneCell' = true) :
    Le w im g objs (w.alloc (.cells cur e)) im (g ++ [.pointer (some ⟨w.heap.size, 0, none⟩)]) (objs ++ [.cells e ps]) ∧ Sat P base (w.alloc (.cells cur e)) im (g ++ [.pointer (some ⟨w.heap.size, 0, none⟩)]) (objs ++ [.cells e ps]) := by
  refine hsat.push _ _ (by simp) (fun k hk => heap_alloc_old w _ k hk) rfl rfl rfl (fun _ _ h => h) (fun b x h => .inl h) (fun k hk => by simp [blk] at hk; omega) (fun hl => ?_)
  unfold ObjOK
  exact ⟨w.heap.size, cur, rfl, hsat.low, heap_alloc_new w _, hsat.monoL hl hr, h1⟩
theorem rep_new {e : TypeId} {ps : List PV} (hlen : g.length = objs.length) : Rep w im (g ++ [.pointer (some ⟨w'.heap.size, 0, none⟩)]) (objs ++ [.cells e ps]) (.box objs.length 0) (.pointer (some ⟨w'.heap.size, 0, none⟩)) := by
  unfold Rep
  exact ⟨w'.heap.size, by rw [← hlen]; simp, rfl⟩
theorem s_box {e : TypeId} {x : Operand} {y : Opnd} (hsat : Sat P base w im g objs) (henv : RepL w im g objs env a.tmps.toList) (ho : o.op = .box e x) (hy : opndI x = some y) (h1 : (opnd env y).cellsOf.all PV.one = true) :
    OpOK P base o a w im g objs (.ok (.box objs.length 0) (objs ++ [.cells e (opnd env y).cellsOf])) := by
  obtain ⟨hr, ho1⟩ := Rep_cells h1 (opnd_rep henv hy)
  obtain ⟨hl, hs⟩ := new_cells hsat e hr ho1
  refine opok_val (v' := .pointer (some ⟨w.heap.size, 0, none⟩)) ?_ hl hs (rep_new hsat.len)
  simp [execOp, ho, Instr.box, newVar, newRow]
theorem zeroI_rep {t : TypeId} {zs : List PV} (h : zeroI P t = some zs) : ∃ i z, P.info? t = some i ∧ i.zero = some z ∧ RepL w im g objs zs z.cells.toList ∧ zs.all PV.one = true := by
  unfold zeroI at h
  split at h
  · rename_i i hi
    split at h
    · rename_i z hz
      obtain ⟨a, b⟩ := const1s_rep (w := w) (im := im) (g := g) (objs := objs) h
      exact ⟨i, z, hi, hz, a, b⟩
    · cases h
  · cases h
theorem run_zero {t : TypeId} {i : TypeInfo} {z : Value} (hi : P.info? t = some i) (hz : i.zero = some z) (w : World) : (zeroValue t).run P w = .ok z w := by
  simp [zeroValue, typeInfo, hi, hz]
theorem all_one_cells {ps : List PV} {vs : List Value} (h : RepL w im g objs ps vs) (h1 : ps.all PV.one = true) : ∀ u ∈ vs, u.oneCell' = true := by
  intro u hu
  obtain ⟨i, hi⟩ := List.mem_iff_getElem?.1 hu
  have hi' : i < ps.length := by rw [h.length]; exact (List.getElem?_eq_some_iff.1 hi).1
  obtain ⟨v', hv', hr⟩ := h.get (List.getElem?_eq_getElem hi')
  rw [hi] at hv'; injection hv' with hv'; subst hv'
  exact Rep_one (List.all_eq_true.1 h1 _ (List.getElem_mem hi')) hr
theorem s_alloc {e : TypeId} {zs : List PV} (hsat : Sat P base w im g objs) (ho : o.op = .alloc e) (hz : zeroI P e = some zs) :
    OpOK P base o a w im g objs (.ok (.box objs.length 0) (objs ++ [.cells e zs])) := by
  obtain ⟨i, z, hi, hiz, hr, h1⟩ := zeroI_rep (w := w) (im := im) (g := g) (objs := objs) hz
  obtain ⟨hl, hs⟩ := new_cells hsat e hr (all_one_cells hr h1)
  refine opok_val (v' := .pointer (some ⟨w.heap.size, 0, none⟩)) ?_ hl hs (rep_new hsat.len)
  simp [execOp, ho, Instr.alloc, newVar, newRow, run_zero hi hiz]

/-! ### values put together -/
def setAtV (vs : List Value) (off : Nat) : List Value → List Value
  | [] => vs
  | v :: r => setAtV (vs.set off v) (off + 1) r
theorem foldl_setAt : ∀ (us : List Value) (k off : Nat) (cells : Array Value), ((us.zipIdx k).foldl (fun cs (c, j) => cs.setIfInBounds (off + j) c) cells).toList = setAtV cells.toList (off + k) us
  | [], _, _, _ => rfl
  | u :: r, k, off, cells => by
    rw [List.zipIdx_cons, List.foldl_cons, foldl_setAt r (k + 1) off]
    simp [setAtV, Array.toList_setIfInBounds, Nat.add_assoc]
theorem length_setAtV : ∀ (us vs : List Value) (off : Nat), (setAtV vs off us).length = vs.length
  | [], _, _ => rfl
  | u :: r, vs, off => by rw [setAtV, length_setAtV r]; simp
theorem length_setAt : ∀ (us vs : List PV) (off : Nat), (setAt vs off us).length = vs.length
  | [], _, _ => rfl
  | u :: r, vs, off => by rw [setAt, length_setAt r]; simp
theorem setAtV_eq (cur : List Value) (off : Nat) (us : List Value) (h : off + us.length ≤ cur.length) : cur.take off ++ us ++ cur.drop (off + us.length) = setAtV cur off us := by
  induction us generalizing cur off with
  | nil => simp [setAtV]
  | cons u r ih =>
    have h' : off < cur.length := by simp at h; omega
    rw [setAtV, ← ih (cur.set off u) (off + 1) (by simp at h ⊢; omega)]
    rw [List.take_succ_eq_append_getElem (by simpa using h'), List.take_set_of_le (Nat.le_refl _), List.drop_set_of_lt (by omega)]
    simp [Nat.add_assoc, Nat.add_comm 1]
theorem RepL.setAt {ps qs : List PV} {vs us : List Value} (h : RepL w im g objs ps vs) (off : Nat) (hq : RepL w im g objs qs us) : RepL w im g objs (Pi.setAt ps off qs) (setAtV vs off us) := by
  induction qs generalizing ps vs us off with
  | nil => cases us with
    | nil => exact h
    | cons => exact hq.elim
  | cons q r ih => cases us with
    | nil => exact hq.elim
    | cons u s => exact ih (h.set off hq.1) (off + 1) hq.2
theorem toDs_rep (hsat : Sat P base w im g objs) {os : Objs} (hos : os = objs ∨ os = []) : ∀ {ps : List PV} {ds : List D} {vs : List Value}, toDs os ps = some ds → RepL w im g objs ps vs → RepL w im g objs (ds.map .d) vs
  | [], ds, vs, h, hr => by unfold toDs at h; injection h with h; subst h; exact hr
  | p :: r, ds, [], h, hr => hr.elim
  | p :: r, ds, v :: s, h, hr => by
    unfold toDs at h
    cases h1 : p.toD os with
    | none => simp [h1] at h
    | some x => cases h2 : toDs os r with
      | none => simp [h1, h2] at h
      | some xs =>
        simp [h1, h2] at h
        subst h
        exact ⟨toD_rep hsat hos h1 hr.1, toDs_rep hsat hos h2 hr.2⟩
theorem toDs_one {os : Objs} : ∀ {ps : List PV} {ds : List D}, toDs os ps = some ds → ps.all PV.one = true ∧ ds.length = ps.length
  | [], ds, h => by unfold toDs at h; injection h with h; subst h; exact ⟨rfl, rfl⟩
  | p :: r, ds, h => by
    unfold toDs at h
    cases h1 : p.toD os with
    | none => simp [h1] at h
    | some x => cases h2 : toDs os r with
      | none => simp [h1, h2] at h
      | some xs =>
        simp [h1, h2] at h
        subst h
        obtain ⟨a, b⟩ := toDs_one h2
        refine ⟨?_, by simp [b]⟩
        rw [List.all_cons, a, Bool.and_true]
        cases p <;> simp_all [PV.toD, PV.one]
theorem fill_pv (henv : RepL w im g objs env a.tmps.toList) (place : Nat → Option (Nat × Nat)) : ∀ {parts : List (Nat × Operand)} {ps : List (Nat × Nat × Opnd)} {cs cs' : List PV} {cells : Array Value}, partsI place parts = some ps → fillI env cs ps = some cs' → RepL w im g objs cs cells.toList →
    ∃ cells', Instr.fill place cells (parts.map fun x => (x.1, a.eval x.2)) = some cells' ∧ RepL w im g objs cs' cells'.toList ∧ cells'.size = cells.size
  | [], ps, cs, cs', cells, h1, h2, hr => by
    unfold partsI at h1; injection h1 with h1; subst h1
    unfold fillI at h2; injection h2 with h2; subst h2
    exact ⟨cells, rfl, hr, rfl⟩
  | (i, x) :: r, ps, cs, cs', cells, h1, h2, hr => by
    unfold partsI at h1
    cases e1 : place i with
    | none => simp [e1] at h1
    | some os =>
      obtain ⟨off, sz⟩ := os
      cases e2 : opndI x with
      | none => simp [e1, e2] at h1
      | some p => cases e3 : partsI place r with
        | none => simp [e1, e2, e3] at h1
        | some qs =>
          simp [e1, e2, e3] at h1
          subst h1
          unfold fillI at h2
          simp only at h2
          split at h2
          · rename_i hc
            simp only [Bool.and_eq_true, decide_eq_true_eq] at hc
            obtain ⟨⟨c1, c2⟩, c3⟩ := hc
            obtain ⟨hc4, _⟩ := Rep_cells c3 (opnd_rep henv e2)
            have hl1 := hc4.length
            have hl2 := hr.length
            simp only [Array.length_toList] at hl1 hl2
            obtain ⟨cells', f1, f2, f3⟩ := fill_pv henv place (cells := ((a.eval x).cells.toList.zipIdx).foldl (fun cs (c, j) => cs.setIfInBounds (off + j) c) cells) e3 h2 (by
              rw [foldl_setAt, Nat.add_zero]
              exact hr.setAt off hc4)
            have hsz : (((a.eval x).cells.toList.zipIdx).foldl (fun cs (c, j) => cs.setIfInBounds (off + j) c) cells).size = cells.size := by
              rw [← Array.length_toList, foldl_setAt, length_setAtV, Array.length_toList]
            refine ⟨cells', ?_, f2, by rw [f3, hsz]⟩
            rw [List.map_cons, Instr.fill]
            simp only [e1]
            rw [if_neg (by simp; omega), ← f1]
            congr 1
            rw [← Array.foldl_toList, Array.toList_zipIdx]
          · cases h2
theorem fillI_one : ∀ {ps : List (Nat × Nat × Opnd)} {cs cs' : List PV}, fillI env cs ps = some cs' → cs'.length = cs.length
  | [], cs, cs', h => by unfold fillI at h; injection h with h; subst h; rfl
  | (off, sz, x) :: r, cs, cs', h => by
    unfold fillI at h
    simp only at h
    split at h
    · rw [fillI_one h, length_setAt]
    · cases h
theorem flat_len (sz : Nat) : ∀ (els : List (List D)), (∀ el ∈ els, el.length = sz) → els.flatten.length = els.length * sz
  | [], _ => by simp
  | el :: r, h => by
    rw [List.flatten_cons, List.length_append, h el (by simp), flat_len sz r (fun x hx => h x (by simp [hx])), List.length_cons, Nat.add_mul]
    omega
theorem set_flat (sz : Nat) (d : List D) (vs : List Value) : ∀ (els : List (List D)) (cells : List Value) (i : Nat), (∀ el ∈ els, el.length = sz) → i < els.length → d.length = sz → vs.length = sz → RepL w im g objs (els.flatten.map .d) cells → RepL w im g objs (d.map .d) vs → RepL w im g objs ((els.set i d).flatten.map .d) (setAtV cells (i * sz) vs)
  | [], _, _, _, hi, _, _, _, _ => by simp at hi
  | el :: r, cells, i, hall, hi, hd, hv, hr, hn => by
    have hel : el.length = sz := hall el (by simp)
    rw [List.flatten_cons, List.map_append] at hr
    have hlen := hr.length
    simp only [List.length_append, List.length_map] at hlen
    have hsplit : cells = cells.take sz ++ cells.drop sz := (List.take_append_drop sz cells).symm
    have h1 : RepL w im g objs (el.map .d) (cells.take sz) := by
      have := hr.take sz
      rwa [List.take_left' (by simp [hel])] at this
    have h2 : RepL w im g objs (r.flatten.map .d) (cells.drop sz) := by
      have := hr.drop sz
      rwa [List.drop_left' (by simp [hel])] at this
    cases i with
    | zero =>
      rw [List.set_cons_zero, List.flatten_cons, List.map_append, Nat.zero_mul]
      have hs : setAtV cells 0 vs = vs ++ cells.drop sz := by
        rw [← setAtV_eq cells 0 vs (by omega)]; simp [hv]
      rw [hs]
      exact hn.app h2
    | succ i =>
      rw [List.set_cons_succ, List.flatten_cons, List.map_append]
      have ih := set_flat sz d vs r (cells.drop sz) i (fun el hm => hall el (by simp [hm])) (by simpa using hi) hd hv h2 hn
      have hil : (i + 1) * sz + vs.length ≤ cells.length := by
        have hrl : r.flatten.length = r.length * sz := flat_len sz r (fun el hm => hall el (by simp [hm]))
        have : i + 1 ≤ r.length := by simp at hi; omega
        have := Nat.mul_le_mul_right sz this
        rw [Nat.add_mul] at this ⊢
        omega
      have hs : setAtV cells ((i + 1) * sz) vs = cells.take sz ++ setAtV (cells.drop sz) (i * sz) vs := by
        rw [← setAtV_eq cells _ vs hil, ← setAtV_eq (cells.drop sz) _ vs (by rw [Nat.add_mul] at hil; simp; omega)]
        rw [List.drop_drop, Nat.add_mul, Nat.one_mul, Nat.add_comm (i * sz) sz, Nat.add_assoc, List.take_add]
        simp only [List.append_assoc]
      rw [hs]
      exact h1.app ih
theorem fillD_len {os : Objs} : ∀ {sz : Nat} {ps : List (Nat × Opnd)} {els els' : List (List D)}, fillD os env sz els ps = some els' → els'.length = els.length
  | sz, [], els, els', h => by unfold fillD at h; injection h with h; subst h; rfl
  | sz, (i, x) :: r, els, els', h => by
    unfold fillD at h
    split at h
    · split at h
      · rw [fillD_len h]; simp
      · cases h
    · cases h
theorem fill_d (hsat : Sat P base w im g objs) {os : Objs} (hos : os = objs ∨ os = []) (henv : RepL w im g objs env a.tmps.toList) (sz : Nat) : ∀ {parts : List (Nat × Operand)} {ps : List (Nat × Opnd)} {els els' : List (List D)} {cells : Array Value}, idxI parts = some ps → fillD os env sz els ps = some els' → (∀ el ∈ els, el.length = sz) → RepL w im g objs (els.flatten.map .d) cells.toList →
    ∃ cells', Instr.fill (fun i => some (i * sz, sz)) cells (parts.map fun x => (x.1, a.eval x.2)) = some cells' ∧ (∀ el ∈ els', el.length = sz) ∧ RepL w im g objs (els'.flatten.map .d) cells'.toList ∧ cells'.size = cells.size
  | [], ps, els, els', cells, h1, h2, hall, hr => by
    unfold idxI at h1; injection h1 with h1; subst h1
    unfold fillD at h2; injection h2 with h2; subst h2
    exact ⟨cells, rfl, hall, hr, rfl⟩
  | (i, x) :: r, ps, els, els', cells, h1, h2, hall, hr => by
    unfold idxI at h1
    cases e2 : opndI x with
    | none => simp [e2] at h1
    | some p => cases e3 : idxI r with
      | none => simp [e2, e3] at h1
      | some qs =>
        simp [e2, e3] at h1
        subst h1
        unfold fillD at h2
        cases e4 : toDs os (opnd env p).cellsOf with
        | none => simp [e4] at h2
        | some vs =>
          simp only [e4] at h2
          split at h2
          · rename_i hc
            simp only [Bool.and_eq_true, decide_eq_true_eq] at hc
            obtain ⟨c1, c2⟩ := hc
            obtain ⟨c3, c4⟩ := toDs_one e4
            obtain ⟨hc4, _⟩ := Rep_cells c3 (opnd_rep henv e2)
            have hl1 := hc4.length
            have hl2 := hr.length
            simp only [Array.length_toList, List.length_map] at hl1 hl2
            rw [flat_len sz els hall] at hl2
            have hmul : (i + 1) * sz ≤ els.length * sz := Nat.mul_le_mul_right _ c2
            rw [Nat.add_mul, Nat.one_mul] at hmul
            obtain ⟨cells', f1, f0, f2, f3⟩ := fill_d hsat hos henv sz (cells := ((a.eval x).cells.toList.zipIdx).foldl (fun cs (c, j) => cs.setIfInBounds (i * sz + j) c) cells) e3 h2 (fun el hm => by
                rcases List.mem_or_eq_of_mem_set hm with h | h
                · exact hall el h
                · rw [h]; exact c1) (by
              rw [foldl_setAt, Nat.add_zero]
              exact set_flat sz vs _ els _ i hall c2 c1 (by simp; omega) hr (toDs_rep hsat hos e4 hc4))
            have hsz : (((a.eval x).cells.toList.zipIdx).foldl (fun cs (c, j) => cs.setIfInBounds (i * sz + j) c) cells).size = cells.size := by
              rw [← Array.length_toList, foldl_setAt, length_setAtV, Array.length_toList]
            refine ⟨cells', ?_, f0, f2, by rw [f3, hsz]⟩
            rw [List.map_cons, Instr.fill]
            simp only
            rw [if_neg (by simp; omega), ← f1]
            congr 1
            rw [← Array.foldl_toList, Array.toList_zipIdx]
          · cases h2
/-! ### cells of one element are set -/
theorem flat_set (sz : Nat) : ∀ {els : List (List D)} {j off : Nat} {el : List D} (v : D), (∀ x ∈ els, x.length = sz) → els[j]? = some el → off < sz → els.flatten.set (j * sz + off) v = (els.set j (el.set off v)).flatten
  | [], j, _, _, _, _, hj, _ => by simp at hj
  | x :: r, j, off, el, v, hall, hj, ho => by
    have hl := hall x (by simp)
    cases j with
    | zero =>
      simp at hj; subst hj
      simp only [Nat.zero_mul, Nat.zero_add, List.flatten_cons, List.set_cons_zero]
      rw [List.set_append_left _ _ (by omega)]
    | succ j =>
      simp only [List.flatten_cons, List.set_cons_succ]
      rw [List.set_append_right _ _ (by rw [hl, Nat.add_mul]; omega), hl, show (j + 1) * sz + off - sz = j * sz + off from by rw [Nat.add_mul]; omega, flat_set sz v (fun z hz => hall z (by simp [hz])) (by simpa using hj) ho]
theorem elSet_len : ∀ (vs el : List D) (off : Nat), (elSet el off vs).length = el.length
  | [], _, _ => rfl
  | v :: r, el, off => by unfold elSet; rw [elSet_len]; simp
theorem setAt_flat (sz : Nat) : ∀ (vs : List D) {els : List (List D)} {j off : Nat} {el : List D}, (∀ x ∈ els, x.length = sz) → els[j]? = some el → off + vs.length ≤ sz → Pi.setAt (els.flatten.map .d) (j * sz + off) (vs.map .d) = (els.set j (elSet el off vs)).flatten.map .d
  | [], els, j, off, el, hall, hj, _ => by
    have hs : els.set j el = els := by
      apply List.ext_getElem?
      intro i
      by_cases hi : i = j
      · subst hi; rw [List.getElem?_set_self (List.getElem?_eq_some_iff.1 hj).1, hj]
      · rw [List.getElem?_set_ne (Ne.symm hi)]
    simp only [List.map_nil, Pi.setAt, elSet, hs]
  | v :: r, els, j, off, el, hall, hj, hn => by
    rw [List.length_cons] at hn
    rw [List.map_cons, Pi.setAt, ← List.map_set, flat_set sz v hall hj (by omega), elSet]
    have hjl := (List.getElem?_eq_some_iff.1 hj).1
    have h2 := setAt_flat sz r (els := els.set j (el.set off v)) (j := j) (off := off + 1) (el := el.set off v) (fun x hx => by
      rcases List.mem_or_eq_of_mem_set hx with h | h
      · exact hall x h
      · rw [h, List.length_set]; exact hall el (List.mem_of_getElem? hj)) (by rw [List.getElem?_set_self hjl]) (by omega)
    rw [Nat.add_assoc, h2, List.set_set]
theorem setAtV_take : ∀ (us vs : List Value) (off m : Nat), (setAtV vs off us).take m = setAtV (vs.take m) off us
  | [], _, _, _ => rfl
  | u :: r, vs, off, m => by
    unfold setAtV
    rw [setAtV_take r, List.take_set]
end
end Pi
end Go.Proofs.YthdgpejippohnaaGreatDoor
