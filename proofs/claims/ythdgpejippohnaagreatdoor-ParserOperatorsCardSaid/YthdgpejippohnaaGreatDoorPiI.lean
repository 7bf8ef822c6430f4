/-
  One operation of the evaluator is what the machine's operation does: structs, slices, stores, appends. No condition.
-/
import Derived.Test.YthdgpejippohnaaGreatDoorPiH
namespace Go.Proofs.YthdgpejippohnaaGreatDoor
namespace Pi
set_option linter.unusedVariables false
section
variable {P : Program} {base : Nat} {w w' : World} {im im' : Im} {g g' : List Value} {objs objs' : Objs} {env : Env} {a : Act} {o : Oper}

theorem run_places (fields : List Field) (h : fields.all (fun f => (szOf P f.type).isSome) = true) (w : World) :
    (fields.mapM (m := Sem) fun f => do pure (f.offset, ← sizeOf f.type)).run P w = .ok (fields.map fun f => (f.offset, (szOf P f.type).getD 0)) w := by
  induction fields with
  | nil => rfl
  | cons f r ih =>
    simp only [List.all_cons, Bool.and_eq_true] at h
    obtain ⟨s, hs⟩ := Option.isSome_iff_exists.1 h.1
    simp only [List.mapM_cons, Sem.run_bind, run_sizeOf' hs, Result.andThen_ok, Sem.run_pure, ih h.2, List.map_cons, hs, Option.getD_some]
theorem s_build_struct {t : TypeId} {parts : Array (Nat × Operand)} {fields : Array Field} {zs cs : List PV} {ps : List (Nat × Nat × Opnd)} (hsat : Sat P base w im g objs) (henv : RepL w im g objs env a.tmps.toList) (ho : o.op = .build t parts)
    (hu : P.underlying t = some (.struct fields)) (hall : fields.toList.all (fun f => (szOf P f.type).isSome) = true) (hz : zeroI P t = some zs) (hp : partsI (fun i => match fields[i]? with | some f => (szOf P f.type).map fun s => (f.offset, s) | none => none) parts.toList = some ps) (hf : fillI env zs ps = some cs) :
    OpOK P base o a w im g objs (.ok (.agg cs) objs) := by
  obtain ⟨i, z, hi, hiz, hr, h1⟩ := zeroI_rep (w := w) (im := im) (g := g) (objs := objs) hz
  obtain ⟨cells', f1, f2, f3⟩ := fill_pv henv _ hp hf hr
  refine opok_same hsat (v' := .agg cells') ?_ ?_
  · have hm : (fields.mapM (m := Sem) fun f => do pure (f.offset, ← sizeOf f.type)).run P w = .ok (fields.map fun f => (f.offset, (szOf P f.type).getD 0)) w := by
      rw [Array.mapM_eq_mapM_toList, Sem.run_map, run_places fields.toList hall w, Result.andThen_ok, ← Array.toList_map, Array.toArray_toList]
    have hpl : (fun i : Nat => (fields.map fun (f : Field) => (f.offset, (szOf P f.type).getD 0))[i]?) = (fun i : Nat => match fields[i]? with | some f => (szOf P f.type).map fun s => (f.offset, s) | none => none) := by
      funext i
      rw [Array.getElem?_map]
      cases hfi : fields[i]? with
      | none => rfl
      | some f =>
        have hmem : f ∈ fields.toList := by
          have := Array.mem_of_getElem? hfi
          simpa using this
        obtain ⟨s, hs⟩ := Option.isSome_iff_exists.1 (List.all_eq_true.1 hall f hmem)
        simp [hs]
    simp only [execOp, ho, Instr.build, Sem.run_bind, run_zero hi hiz, run_underlying hu, Result.andThen_ok, hm, hpl, Array.toList_map]
    rw [show (fun x : Nat × Operand => match x with | (i, x) => (i, a.eval x)) = fun x => (x.1, a.eval x.2) from rfl, f1]
    rfl
  · unfold Rep
    exact ⟨cells'.toList, by simp, f2⟩
theorem s_build_array {t e : TypeId} {n : Nat} {parts : Array (Nat × Operand)} {zs cs : List PV} {ps : List (Nat × Nat × Opnd)} (hsat : Sat P base w im g objs) (henv : RepL w im g objs env a.tmps.toList) (ho : o.op = .build t parts)
    (hu : P.underlying t = some (.array n e)) (hz : zeroI P t = some zs) (hp : partsI (fun i => (szOf P e).map fun s => (i * s, s)) parts.toList = some ps) (hf : fillI env zs ps = some cs) (hs : (szOf P e).isSome = true) :
    OpOK P base o a w im g objs (.ok (.agg cs) objs) := by
  obtain ⟨i, z, hi, hiz, hr, h1⟩ := zeroI_rep (w := w) (im := im) (g := g) (objs := objs) hz
  obtain ⟨cells', f1, f2, f3⟩ := fill_pv henv _ hp hf hr
  obtain ⟨s, hs⟩ := Option.isSome_iff_exists.1 hs
  refine opok_same hsat (v' := .agg cells') ?_ ?_
  · simp only [hs, Option.map_some] at f1
    simp only [execOp, ho, Instr.build, Sem.run_bind, run_zero hi hiz, run_underlying hu, Result.andThen_ok, run_sizeOf' hs, Array.toList_map]
    rw [show (fun x : Nat × Operand => match x with | (i, x) => (i, a.eval x)) = fun x => (x.1, a.eval x.2) from rfl, f1]
    rfl
  · unfold Rep
    exact ⟨cells'.toList, by simp, f2⟩

/-- Cells that represent a row's cells are the row, where they lie one behind the other. -/
theorem rep_els (sz : Nat) (b : Nat) (hp : ∀ x u, RepD w im x u → RepD w' im' x u) : ∀ {els : List (List D)} {vals : List Value} (q : Nat), (∀ el ∈ els, el.length = sz) → RepL w im g objs (els.flatten.map .d) vals → (∀ (j : Nat) u, vals[j]? = some u → im' b (q + j) ∧ w'.cell? ⟨b, q + j, none⟩ = some u) → RepEls w' im' els sz b q
  | [], _, _, _, _, _ => trivial
  | el :: r, vals, q, hall, hr, hc => by
    rw [List.flatten_cons, List.map_append] at hr
    have hel : el.length = sz := hall el (by simp)
    have h1 := hr.take sz
    rw [List.take_left' (by simp [hel])] at h1
    have h2 := hr.drop sz
    rw [List.drop_left' (by simp [hel])] at h2
    unfold RepEls
    refine ⟨hel, ?_, rep_els sz b hp (q + sz) (fun x hx => hall x (by simp [hx])) h2 (fun j u hu => ?_)⟩
    · rw [RepRow_iff]
      intro j x hx
      obtain ⟨u, hu, hru⟩ := h1.get (i := j) (p := .d x) (by simp [hx])
      rw [List.getElem?_take] at hu
      split at hu
      · obtain ⟨a1, a2⟩ := hc j u hu
        exact ⟨a1, u, a2, hp x u hru⟩
      · cases hu
    · rw [List.getElem?_drop] at hu
      have := hc _ u hu
      rwa [← Nat.add_assoc] at this
/-- New cells, held fast: a row. -/
theorem new_row (hsat : Sat P base w im g objs) {els : List (List D)} {cur : Array Value} (e : TypeId) (sz : Nat) (hall : ∀ el ∈ els, el.length = sz) (hr : RepL w im g objs (els.flatten.map .d) cur.toList) :
    Le w im g objs (w.alloc (.cells cur e)) (fun b x => im b x ∨ b = w.heap.size) g objs ∧ Sat P base (w.alloc (.cells cur e)) (fun b x => im b x ∨ b = w.heap.size) g objs ∧ RepEls (w.alloc (.cells cur e)) (fun b x => im b x ∨ b = w.heap.size) els sz w.heap.size 0 := by
  obtain ⟨hl, hs⟩ := hsat.more (w' := w.alloc (.cells cur e)) (im' := fun b x => im b x ∨ b = w.heap.size) (by simp) (fun k hk => heap_alloc_old w _ k hk) rfl rfl rfl (fun b x h => .inl h) (fun b x h => by
    rcases h with h | h
    · exact .inl h
    · exact .inr ⟨by omega, by simp; omega⟩)
  refine ⟨hl, hs, rep_els (g := g) (objs := objs) sz _ (fun x u h => RepD_mono hl.pres x u h) 0 hall hr (fun j u hu => ⟨.inr rfl, ?_⟩)⟩
  rw [Nat.zero_add, World.cell?_alloc_at cur e _ j rfl]
  simpa using hu
theorem s_lit {t e : TypeId} {len s : Nat} {parts : Array (Nat × Operand)} {zs : List PV} {zd : List D} {els : List (List D)} {ps : List (Nat × Opnd)} (hsat : Sat P base w im g objs) (henv : RepL w im g objs env a.tmps.toList) (ho : o.op = .buildSlice t len parts)
    (hu : P.underlying t = some (.slice e)) (hz : zeroI P e = some zs) (hs : szOf P e = some s) (hd : toDs [] zs = some zd) (hp : idxI parts.toList = some ps) (hzl : zd.length = s) (hs0 : 0 < s) (hb : len * s ≤ 2 ^ 24)
    {os : Objs} (hos : os = objs ∨ os = []) (hf : fillD os env zd.length (List.replicate len zd) ps = some els) : OpOK P base o a w im g objs (.ok (.full els) objs) := by
  obtain ⟨i, z, hi, hiz, hr, h1⟩ := zeroI_rep (w := w) (im := im) (g := g) (objs := objs) hz
  have hrd := toDs_rep hsat (.inr rfl) hd hr
  have hzs : z.cells.size = s := by have := hrd.length; simp at this; omega
  have hlen : els.length = len := by rw [fillD_len hf]; simp
  have hinit : RepL w im g objs ((List.replicate len zd).flatten.map .d) ((Array.range (len * s)).map (z.cells[· % z.cells.size]!)).toList := by
    have hflat : ∀ n, (Array.map (fun x => z.cells[x % z.cells.size]!) (Array.range (n * s))).toList = (List.replicate n z.cells.toList).flatten := by
      intro n
      rw [Array.toList_map, Array.toList_range, hzs]
      induction n with
      | zero => simp
      | succ n ih =>
        rw [List.replicate_succ', List.flatten_append, Nat.add_mul, Nat.one_mul, List.range_add, List.map_append, ih]
        congr 1
        simp only [List.flatten_cons, List.flatten_nil, List.append_nil, List.map_map]
        apply List.ext_getElem?
        intro j
        by_cases hj : j < s
        · simp only [List.getElem?_map, List.getElem?_range hj, Option.map_some, Function.comp]
          rw [Nat.mul_comm, Nat.mul_add_mod, Nat.mod_eq_of_lt hj, Array.getElem?_toList]
          rw [getElem!_pos z.cells j (by omega), Array.getElem?_eq_getElem (by omega)]
        · rw [List.getElem?_eq_none (by simp; omega), List.getElem?_eq_none (by simp; omega)]
    rw [hflat len]
    clear hf hb hp ho
    induction len generalizing els with
    | zero => simp [RepL]
    | succ n ih =>
      rw [List.replicate_succ, List.replicate_succ, List.flatten_cons, List.flatten_cons, List.map_append]
      exact hrd.app (ih (els := List.replicate n []) (by simp))
  obtain ⟨cells', f1, f0, f2, f3⟩ := fill_d hsat hos henv s hp (by rw [← hzl]; exact hf) (fun el hm => by rw [(List.mem_replicate.1 hm).2]; exact hzl) hinit
  obtain ⟨hl, hs', hrow⟩ := new_row hsat e s f0 f2
  refine opok_val (v' := .slice (some ⟨w.heap.size, 0, none⟩) len len) ?_ hl hs' ?_
  · have hpar : (fun x : Nat × Operand => match x with | (i, x) => (i, a.eval x)) = fun x => (x.1, a.eval x.2) := rfl
    simp only [execOp, ho, Instr.buildSlice, Sem.run_bind, run_underlying hu, Result.andThen_ok, run_sizeOf' hs, Array.toList_map]
    rw [if_neg (by omega), hpar]
    by_cases h0 : len * s = 0
    · have hcells : ∀ F G : Nat → Value, (Array.range (len * s)).map F = (Array.range (len * s)).map G := by intro F G; rw [h0]; simp
      rw [if_pos h0]
      simp only [Sem.run_bind, Sem.run_pure, Result.andThen_ok]
      rw [hcells _ (fun x => z.cells[x % z.cells.size]!), f1]
      simp [newRow]
    · rw [if_neg h0]
      simp only [Sem.run_bind, run_zero hi hiz, Sem.run_pure, Result.andThen_ok]
      rw [f1]
      simp [newRow]
  · unfold Rep
    refine ⟨?_, _, by rw [hlen]⟩
    unfold RepD
    exact .inr ⟨w.heap.size, 0, len, s, by rw [hlen], by omega, hrow⟩
theorem mem_setAtV : ∀ (us vs : List Value) (off : Nat) (x : Value), x ∈ setAtV vs off us → x ∈ vs ∨ x ∈ us
  | [], vs, off, x, h => .inl h
  | u :: r, vs, off, x, h => by
    rcases mem_setAtV r (vs.set off u) (off + 1) x h with h | h
    · rcases List.mem_or_eq_of_mem_set h with h | h
      · exact .inl h
      · subst h; exact .inr (by simp)
    · exact .inr (by simp [h])
theorem s_store {t : TypeId} {x y : Operand} {x' y' : Opnd} {sz id off : Nat} {cs : List PV} (hsat : Sat P base w im g objs) (henv : RepL w im g objs env a.tmps.toList) (ho : o.op = .store t x y) (hz : szOf P t = some sz) (hx : opndI x = some x') (hy : opndI y = some y')
    (hb : opnd env x' = .box id off) {e : TypeId} (hid : objs[id]? = some (.cells e cs)) (hl : (opnd env y').cellsOf.length = sz) (hfit : off + sz ≤ cs.length) (h1 : (opnd env y').cellsOf.all PV.one = true) :
    OpOK P base o a w im g objs (.ok .any (objs.set id (.cells e (setAt cs off (opnd env y').cellsOf)))) := by
  have r := opnd_rep henv hx
  rw [hb] at r
  unfold Rep at r
  obtain ⟨k, hg, he⟩ := r
  have hok := hsat.obj id _ _ hid hg
  unfold ObjOK at hok
  obtain ⟨k', cur, hk, hb', hh, hr, h1c⟩ := hok
  injection hk with hk; injection hk with hk; injection hk with hk; subst hk
  obtain ⟨hc, hone⟩ := Rep_cells h1 (opnd_rep henv hy)
  have hlen := hr.length
  have hlc := hc.length
  have hst := run_storeCells_at P k off e (a.eval y).cells.toList 0 cur w hh (by simp at hlen hlc ⊢; omega) hone
  simp only [Nat.add_zero] at hst
  have hrun : (execOp a.eval o).run P w = .ok .skip (w.setRow k (setAtV cur.toList off (a.eval y).cells.toList).toArray) := by
    rw [setAtV_eq _ _ _ (by simp at hlen hlc ⊢; omega)] at hst
    have hsize : (a.eval y).cells.size = sz := by simp at hlc; omega
    simp [execOp, ho, Instr.storeAt, Instr.sureAddr, he, storeVar, run_sizeOf' hz, hsize, hst]
  have hheap : ∀ j, j ≠ k → (w.setRow k (setAtV cur.toList off (a.eval y).cells.toList).toArray).heap[j]? = w.heap[j]? := fun j hj => setRow_other w k j _ hj
  obtain ⟨hl', hs'⟩ := hsat.turn (w' := w.setRow k (setAtV cur.toList off (a.eval y).cells.toList).toArray) (im' := im) id (.cells e cs) (.cells e (setAt cs off (opnd env y').cellsOf)) _ (.pointer (some ⟨k, 0, none⟩)) hid hg (by simp)
    (fun j hj hn => hheap j (fun h => hn (by subst h; rfl))) rfl rfl rfl (fun _ _ h => h)
    (fun b x hi hbk => by
      obtain ⟨e', n, inf, q1, _⟩ := hsat.immg b x hi id _ hg hbk
      rw [hid] at q1; cases q1)
    (fun b x h => .inl h) (fun _ h => .inl h) (.inl ⟨rfl, rfl, rfl⟩) (fun hle => by
      unfold ObjOK
      refine ⟨k, (setAtV cur.toList off (a.eval y).cells.toList).toArray, rfl, hb', setRow_heap w k cur _ e _ hh, ?_, ?_⟩
      · exact hsat.monoL hle (hr.setAt off hc)
      · intro u hu
        rcases mem_setAtV _ _ _ _ hu with h | h
        · exact h1c u h
        · exact hone u h)
  have hgs : g.set id (.pointer (some ⟨k, 0, none⟩)) = g := by
    apply List.ext_getElem?
    intro j
    by_cases hj : j = id
    · subst hj; rw [List.getElem?_set_self (List.getElem?_eq_some_iff.1 hg).1, hg]
    · rw [List.getElem?_set_ne (Ne.symm hj)]
  exact opok_skip hrun hl' hs'
/-- An element of a row that may be written is written. -/
theorem s_store_ebox {t : TypeId} {x y : Operand} {x' y' : Opnd} {sz id ver ez j off : Nat} {els : List (List D)} {el vs : List D} (hsat : Sat P base w im g objs) (henv : RepL w im g objs env a.tmps.toList) (ho : o.op = .store t x y) (hz : szOf P t = some sz) (hx : opndI x = some x') (hy : opndI y = some y')
    (hb : opnd env x' = .ebox id ver ez j off) {e : TypeId} (hid : objs[id]? = some (.vec e els)) (hel : els[j]? = some el) (hvs : toDs objs (opnd env y').cellsOf = some vs) (hver : ver = els.length) (hez : el.length = ez) (hl : vs.length = sz) (hfit : off + sz ≤ el.length) :
    OpOK P base o a w im g objs (.ok .any (objs.set id (.vec e (els.set j (elSet el off vs))))) := by
  have r := opnd_rep henv hx
  rw [hb] at r
  unfold Rep at r
  obtain ⟨k, hev, hr⟩ := r
  obtain ⟨u, cap, hu, hh, _⟩ := hr.at hid (e := e) (by simp [AObj.tag, hver])
  have hok := hsat.obj id _ u hid hu
  unfold ObjOK at hok
  obtain ⟨i, k', cap', cur, hi, hs0, rfl, hb', hheap, h4, h5, h6, h7, hrep⟩ := hok
  obtain ⟨rfl, rfl⟩ := isHd_vec hh
  have hsz : i.size = ez := by rw [← hez]; exact (h7 el (List.mem_of_getElem? hel)).symm
  have hj : j < els.length := (List.getElem?_eq_some_iff.1 hel).1
  obtain ⟨hone, hlen1⟩ := toDs_one hvs
  obtain ⟨hc, hone'⟩ := Rep_cells hone (opnd_rep henv hy)
  have hcd := toDs_rep hsat (.inl rfl) hvs hc
  have hlc := hcd.length
  rw [List.length_map] at hlc
  have hm1 : (j + 1) * i.size ≤ els.length * i.size := Nat.mul_le_mul_right _ hj
  have hm2 : els.length * i.size ≤ cap * i.size := Nat.mul_le_mul_right _ h4
  rw [Nat.add_mul, Nat.one_mul] at hm1
  have hfit2 : j * ez + off + (a.eval y).cells.toList.length ≤ cur.size := by rw [h6, ← hlc, ← hsz]; omega
  have hst := run_storeCells_at P k (j * ez + off) e (a.eval y).cells.toList 0 cur w hheap (by simpa using hfit2) hone'
  simp only [Nat.add_zero] at hst
  have hrun : (execOp a.eval o).run P w = .ok .skip (w.setRow k (setAtV cur.toList (j * ez + off) (a.eval y).cells.toList).toArray) := by
    rw [setAtV_eq _ _ _ (by simpa using hfit2)] at hst
    have hsize : (a.eval y).cells.size = sz := by simp at hlc; omega
    simp [execOp, ho, Instr.storeAt, Instr.sureAddr, hev, storeVar, run_sizeOf' hz, hsize, hst]
  have hother : ∀ q, q ≠ k → (w.setRow k (setAtV cur.toList (j * ez + off) (a.eval y).cells.toList).toArray).heap[q]? = w.heap[q]? := fun q hq => setRow_other w k q _ hq
  obtain ⟨hl', hs'⟩ := hsat.turn (w' := w.setRow k (setAtV cur.toList (j * ez + off) (a.eval y).cells.toList).toArray) (im' := im) id (.vec e els) (.vec e (els.set j (elSet el off vs))) _ (hdV k cap) hid hu (by simp)
    (fun q hq hn => hother q (fun h => hn (by subst h; rfl))) rfl rfl rfl (fun _ _ h => h)
    (fun b x hi' hbk => by
      obtain ⟨e', n, inf, q1, _⟩ := hsat.immg b x hi' id _ hu hbk
      rw [hid] at q1; cases q1)
    (fun b x h => .inl h) (fun _ h => .inl h) (.inr (.inr (.inl ⟨e, els, _, rfl, .inl rfl, by simp, fun _ => .inl rfl⟩))) (fun hle => by
      unfold ObjOK
      refine ⟨i, k, cap, (setAtV cur.toList (j * ez + off) (a.eval y).cells.toList).toArray, hi, hs0, rfl, hb', setRow_heap w k cur _ e _ hheap, by simpa using h4, h5, ?_, ?_, ?_⟩
      · rw [List.size_toArray, length_setAtV]; simpa using h6
      · intro x hx
        rcases List.mem_or_eq_of_mem_set hx with h | h
        · exact h7 x h
        · rw [h, elSet_len]; exact h7 el (List.mem_of_getElem? hel)
      · refine hsat.monoL hle ?_
        rw [List.length_set]
        show RepL w im g objs _ ((setAtV cur.toList (j * ez + off) (a.eval y).cells.toList).take _)
        rw [setAtV_take, ← setAt_flat i.size vs h7 hel (by rw [hl, hsz, ← hez]; exact hfit), ← hsz]
        exact hrep.setAt _ hcd)
  exact opok_skip hrun hl' hs'
end
end Pi
end Go.Proofs.YthdgpejippohnaaGreatDoor
