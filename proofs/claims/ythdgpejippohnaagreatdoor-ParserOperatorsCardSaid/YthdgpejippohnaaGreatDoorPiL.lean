/-
  A call of the evaluator, under new numbers for the objects that its arguments lead to, is the machine's call. Condition: the called functions are.
-/
import Derived.Test.YthdgpejippohnaaGreatDoorPiK
namespace Go.Proofs.YthdgpejippohnaaGreatDoor
namespace Pi
set_option linter.unusedVariables false
section
variable {P : Program} {base : Nat}

def okFn (P : Program) (f : FuncId) : Prop := ∃ fn c, P.funcs[f]? = some fn ∧ fn.body = some c ∧ fn.name ≠ "runtime.NumGoroutine"
def OutOK (w : World) (im : Im) (g : List Value) (objs : Objs) : Out → Ending → Prop
  | .ret p, e => ∃ v, e = .returned v ∧ Rep w im g objs p v
  | .panic p, e => ∃ v, e = .panicked [{ v := v, recovered := false }] ∧ Rep w im g objs p v
/-- What a call of the evaluator says: of a function, that it is called so; of a range's body, that a round is gone so. -/
def Goes (P : Program) : Cal → List Value → World → (Ending → World → Prop) → Prop
  | .ext f, vargs, w, R => ∃ v w', (callFunc f vargs.toArray).run P w = .ok (.value v) w' ∧ R (.returned v) w'
  | .fn f, vargs, w, R => okFn P f ∧ Calls P f vargs.toArray w R
  | .dfn f false, vargs, w, R => okFn P f ∧ CallsDIn (WF none) 0 P f vargs.toArray .returning w fun e u' w' => (∃ v, e = .returned v) ∧ u' = .returning ∧ R (.returned (.tuple #[])) w'
  | .dfn f true, vargs, w, R => okFn P f ∧ ∃ vp rest, vargs = vp :: rest ∧ CallsDIn (WF none) 0 P f rest.toArray (.panicking [{ v := vp, recovered := false }]) w fun e u' w' => (∃ v, e = .returned v) ∧ u' = .panicking [{ v := vp, recovered := true }] ∧ R (.returned (.tuple #[])) w'
  | .yld, vargs, w, R => ∃ l rest fn tmps assign body, vargs = .func (.yield l) #[] #[] :: rest ∧ (Instr.yield l rest.toArray).run P w = .ok (.round l fn tmps assign body) w ∧ RoundIn (WF none) 0 P l fn tmps assign body w R
theorem Goes.mono {f : Cal} {vargs : List Value} {w : World} {R R' : Ending → World → Prop} (h : Goes P f vargs w R) (hr : ∀ e w', R e w' → R' e w') : Goes P f vargs w R' := by
  cases f with
  | ext f =>
    obtain ⟨v, w', h1, h2⟩ := h
    exact ⟨v, w', h1, hr _ _ h2⟩
  | fn f => exact ⟨h.1, h.2.mono hr⟩
  | dfn f pk =>
    cases pk with
    | false => exact ⟨h.1, CallsDIn.mono h.2 fun e u' w' ⟨h1, h2, h3⟩ => ⟨h1, h2, hr _ _ h3⟩⟩
    | true =>
      obtain ⟨h0, vp, rest, h1, h2⟩ := h
      exact ⟨h0, vp, rest, h1, CallsDIn.mono h2 fun e u' w' ⟨k1, k2, k3⟩ => ⟨k1, k2, hr _ _ k3⟩⟩
  | yld =>
    obtain ⟨l, rest, fn, tmps, assign, body, h1, h2, h3⟩ := h
    exact ⟨l, rest, fn, tmps, assign, body, h1, h2, h3.mono hr⟩
def CallSound (P : Program) (base : Nat) (call : CallF) : Prop :=
  ∀ f args objs out objs', call f args objs = some (out, objs') → ∀ w im g vargs, Sat P base w im g objs → RepL w im g objs args vargs →
    Goes P f vargs w fun e w' => ∃ im' g', Le w im g objs w' im' g' objs' ∧ Sat P base w' im' g' objs' ∧ OutOK w' im' g' objs' out e

/-! ### numbers -/
theorem nodup_iff : ∀ {l : List Nat}, nodup l = true → l.Nodup
  | [], _ => List.nodup_nil
  | i :: r, h => by
    simp only [nodup, Bool.and_eq_true, Bool.not_eq_true', List.contains_eq_mem, decide_eq_false_iff_not] at h
    exact List.nodup_cons.2 ⟨h.1, nodup_iff h.2⟩
theorem idxOf_get {l : List Nat} {i : Nat} (h : i ∈ l) : l[l.idxOf i]? = some i := by
  have hl := List.idxOf_lt_length_of_mem h
  rw [List.getElem?_eq_getElem hl, List.getElem_idxOf hl]
theorem idxOf_at {l : List Nat} (hn : l.Nodup) {j i : Nat} (h : l[j]? = some i) : l.idxOf i = j := by
  have hj := (List.getElem?_eq_some_iff.1 h).1
  have hm : i ∈ l := List.mem_of_getElem? h
  have := idxOf_get hm
  exact (List.getElem?_inj (List.idxOf_lt_length_of_mem hm) hn).1 (this.trans h.symm)
theorem isBuf_ren (f : Nat → Nat) (o : AObj) : (o.ren f).isBuf = o.isBuf := by cases o <;> rfl
theorem tag_ren (f : Nat → Nat) (o : AObj) : (o.ren f).tag = o.tag := by cases o <;> rfl
theorem ren_buf {f : Nat → Nat} {o : AObj} {e : TypeId} {n : Nat} : o.ren f = .buf e n ↔ o = .buf e n := by cases o <;> simp [AObj.ren]

theorem RepL_data {w : World} {im : Im} {g g' : List Value} {objs objs' : Objs} : ∀ {ds : List D} {vs : List Value}, RepL w im g objs (ds.map .d) vs → RepL w im g' objs' (ds.map .d) vs
  | [], [], _ => trivial
  | _ :: _, _ :: _, h => ⟨h.1, RepL_data h.2⟩
  | [], _ :: _, h => h.elim
  | _ :: _, [], h => h.elim
theorem RepE_ren {w : World} {im : Im} {g g' : List Value} {objs objs' : Objs} (f : Nat → Nat) : ∀ {es : List (D × PV)} {ents : List MapEntry}, (∀ i ∈ entsIds es, g'[f i]? = g[i]? ∧ ∀ o t, objs[i]? = some o → o.tag = some t → ∃ o', objs'[f i]? = some o' ∧ o'.tag = some t) → RepE w im g objs es ents → RepE w im g' objs' (entsRen f es) ents
  | [], [], _, _ => trivial
  | (k, p) :: r, e :: s, hi, h => by
    unfold RepE entsRen at *
    exact ⟨h.1, Rep_ren f p e.val (fun i hm => hi i (by simp only [entsIds, List.mem_append]; exact .inl hm)) h.2.1, RepE_ren f (fun i hm => hi i (by simp only [entsIds, List.mem_append]; exact .inr hm)) h.2.2⟩
  | [], _ :: _, _, h => h.elim
  | _ :: _, [], _, h => h.elim
theorem ObjOK_ren {w : World} {im : Im} {g g' : List Value} {objs objs' : Objs} (f : Nat → Nat) {o : AObj} {v : Value} (hi : ∀ i ∈ o.ids, g'[f i]? = g[i]? ∧ ∀ o t, objs[i]? = some o → o.tag = some t → ∃ o', objs'[f i]? = some o' ∧ o'.tag = some t) (h : ObjOK P base w im g objs o v) : ObjOK P base w im g' objs' (o.ren f) v := by
  cases o <;> unfold ObjOK AObj.ren at * <;> try exact h
  case cells ty cs =>
    obtain ⟨b, cur, h1, h2, h3, h4, h5⟩ := h
    exact ⟨b, cur, h1, h2, h3, RepL_ren f cs _ (by simpa only [AObj.ids] using hi) h4, h5⟩
  case map es =>
    obtain ⟨r, ents, c, h1, h2, h3, h4⟩ := h
    exact ⟨r, ents, c, h1, h2, h3, RepE_ren f (by simpa only [AObj.ids] using hi) h4⟩
  case loop =>
    obtain ⟨l, lr, h1, h2, h3, h4, h5⟩ := h
    exact ⟨l, lr, h1, h2, h3, RepL_ren f _ _ (by simpa only [AObj.ids] using hi) h4, h5⟩
  case vec e els =>
    obtain ⟨i, k, cap, cur, h1, h2, h3, hb, hh, h4, h5, h6, h7, hr⟩ := h
    exact ⟨i, k, cap, cur, h1, h2, h3, hb, hh, h4, h5, h6, h7, RepL_data hr⟩
theorem allIds_mem : ∀ {os : List AObj} {o : AObj} {i : Nat}, o ∈ os → i ∈ o.ids → i ∈ allIds os
  | q :: r, o, i, ho, hi => by
    unfold allIds
    rcases List.mem_cons.1 ho with rfl | ho
    · exact List.mem_append.2 (.inl hi)
    · exact List.mem_append.2 (.inr (allIds_mem ho hi))

/-- The part of a state that some numbers lead to. -/
theorem Sat.sub {w : World} {im : Im} {g : List Value} {objs : Objs} (hsat : Sat P base w im g objs) {rs : List Nat} (hn : rs.Nodup) (hlt : ∀ i ∈ rs, i < objs.length) (hcl : ∀ i ∈ allIds (rs.map fun i => objs.getD i .dead), i ∈ rs) :
    Sat P base w im (rs.map fun i => g.getD i default) ((rs.map fun i => objs.getD i .dead).map (AObj.ren fun i => rs.idxOf i)) := by
  have gat : ∀ (j : Nat) v, (rs.map fun i => g.getD i default)[j]? = some v → ∃ i, rs[j]? = some i ∧ g[i]? = some v := by
    intro j v h
    rw [List.getElem?_map] at h
    obtain ⟨i, hi, hv⟩ := Option.map_eq_some_iff.1 h
    have := hlt i (List.mem_of_getElem? hi)
    refine ⟨i, hi, ?_⟩
    rw [List.getD_eq_getElem?_getD, List.getElem?_eq_getElem (by rw [hsat.len]; exact this)] at hv
    rw [List.getElem?_eq_getElem (by rw [hsat.len]; exact this)]
    simpa using hv
  have oat : ∀ (j : Nat) o, ((rs.map fun i => objs.getD i .dead).map (AObj.ren fun i => rs.idxOf i))[j]? = some o → ∃ i q, rs[j]? = some i ∧ objs[i]? = some q ∧ o = q.ren (fun i => rs.idxOf i) := by
    intro j o h
    rw [List.getElem?_map, List.getElem?_map] at h
    obtain ⟨q, hq, ho⟩ := Option.map_eq_some_iff.1 h
    obtain ⟨i, hi, hv⟩ := Option.map_eq_some_iff.1 hq
    have := hlt i (List.mem_of_getElem? hi)
    refine ⟨i, q, hi, ?_, ho.symm⟩
    rw [List.getD_eq_getElem?_getD, List.getElem?_eq_getElem this] at hv
    rw [List.getElem?_eq_getElem this]
    simpa using hv
  refine ⟨by simp, hsat.low, hsat.glob, fun j o v ho hv => ?_, fun j1 j2 u v k h1 h2 hk1 hk2 => ?_, hsat.imm, fun b x h j v hv hk => ?_⟩
  · obtain ⟨i, q, hi, hq, rfl⟩ := oat j o ho
    obtain ⟨i', hi', hg⟩ := gat j v hv
    rw [hi] at hi'; injection hi' with hi'; subst hi'
    refine ObjOK_ren _ (fun n hm => ?_) (hsat.obj i q v hq hg)
    have hnr : n ∈ rs := hcl n (allIds_mem (o := q) (by
      refine List.mem_map.2 ⟨i, List.mem_of_getElem? hi, ?_⟩
      rw [List.getD_eq_getElem?_getD, hq]; rfl) hm)
    have hnl := hlt n hnr
    refine ⟨?_, fun o t hb ht => ⟨o.ren fun i => rs.idxOf i, ?_, by rw [tag_ren]; exact ht⟩⟩
    · rw [List.getElem?_map, idxOf_get hnr]
      simp only [Option.map_some]
      rw [List.getD_eq_getElem?_getD, List.getElem?_eq_getElem (by rw [hsat.len]; exact hnl)]
      rfl
    · rw [List.getElem?_map, List.getElem?_map, idxOf_get hnr]
      simp only [Option.map_some]
      rw [List.getD_eq_getElem?_getD, hb]
      rfl
  · obtain ⟨i1, a1, b1⟩ := gat j1 u h1
    obtain ⟨i2, a2, b2⟩ := gat j2 v h2
    have : i1 = i2 := hsat.dist i1 i2 u v k b1 b2 hk1 hk2
    subst this
    rw [← idxOf_at hn a1, ← idxOf_at hn a2]
  · obtain ⟨i, a1, b1⟩ := gat j v hv
    obtain ⟨e, n, inf, q1, q2, q3⟩ := hsat.immg b x h i v b1 hk
    refine ⟨e, n, inf, ?_, q2, q3⟩
    rw [List.getElem?_map, List.getElem?_map, a1]
    simp only [Option.map_some]
    rw [List.getD_eq_getElem?_getD, q1]
    rfl

def backI (rs ns : List Nat) (len : Nat) (i : Nat) : Nat := if i < rs.length then rs.getD i 0 else len + ns.idxOf i
def joinO (objs objs1 : Objs) (rs ns : List Nat) : Objs :=
  ((List.range objs.length).map fun i => if rs.contains i then (objs1.getD (rs.idxOf i) .dead).ren (backI rs ns objs.length) else objs.getD i .dead) ++ (ns.map fun i => objs1.getD i .dead).map (AObj.ren (backI rs ns objs.length))
def joinG (objs : Objs) (g g1 : List Value) (rs ns : List Nat) : List Value :=
  ((List.range objs.length).map fun i => if rs.contains i then g1.getD (rs.idxOf i) default else g.getD i default) ++ ns.map fun i => g1.getD i default

section
variable {w w' : World} {im im' : Im} {g g1 : List Value} {objs objs1 : Objs} {rs ns : List Nat}
theorem joinG_at (hlen : g.length = objs.length) {i : Nat} (hi : i < objs.length) : (joinG objs g g1 rs ns)[i]? = some (if rs.contains i then g1.getD (rs.idxOf i) default else g.getD i default) := by
  unfold joinG
  rw [List.getElem?_append_left (by simpa using hi)]
  simp [hi]
theorem joinO_at {i : Nat} (hi : i < objs.length) : (joinO objs objs1 rs ns)[i]? = some (if rs.contains i then (objs1.getD (rs.idxOf i) .dead).ren (backI rs ns objs.length) else objs.getD i .dead) := by
  unfold joinO
  rw [List.getElem?_append_left (by simpa using hi)]
  simp [hi]
theorem joinG_new (j : Nat) : (joinG objs g g1 rs ns)[objs.length + j]? = (ns[j]?).map fun i => g1.getD i default := by
  unfold joinG
  rw [List.getElem?_append_right (by simp)]
  simp
theorem joinO_new (j : Nat) : (joinO objs objs1 rs ns)[objs.length + j]? = (ns[j]?).map fun i => (objs1.getD i .dead).ren (backI rs ns objs.length) := by
  unfold joinO
  rw [List.getElem?_append_right (by simp)]
  simp [Function.comp_def]
/-- Where each object of the joined state comes from. -/
theorem join_from (hlen : g.length = objs.length) {i : Nat} {v : Value} {o : AObj} (hv : (joinG objs g g1 rs ns)[i]? = some v) (ho : (joinO objs objs1 rs ns)[i]? = some o) :
    (i < objs.length ∧ i ∈ rs ∧ v = g1.getD (rs.idxOf i) default ∧ o = (objs1.getD (rs.idxOf i) .dead).ren (backI rs ns objs.length)) ∨
    (i < objs.length ∧ i ∉ rs ∧ g[i]? = some v ∧ objs[i]? = some o) ∨
    ∃ j n, i = objs.length + j ∧ ns[j]? = some n ∧ v = g1.getD n default ∧ o = (objs1.getD n .dead).ren (backI rs ns objs.length) := by
  by_cases hi : i < objs.length
  · rw [joinG_at hlen hi] at hv
    rw [joinO_at hi] at ho
    injection hv with hv
    injection ho with ho
    by_cases hr : i ∈ rs
    · have hc : rs.contains i = true := by simpa using hr
      rw [hc] at hv ho
      exact .inl ⟨hi, hr, hv.symm, ho.symm⟩
    · have hc : rs.contains i = false := by simpa using hr
      rw [hc] at hv ho
      simp only [Bool.false_eq_true, if_false] at hv ho
      refine .inr (.inl ⟨hi, hr, ?_, ?_⟩)
      · rw [List.getElem?_eq_getElem (by omega), ← hv, List.getD_eq_getElem?_getD, List.getElem?_eq_getElem (by omega)]; rfl
      · rw [List.getElem?_eq_getElem hi, ← ho, List.getD_eq_getElem?_getD, List.getElem?_eq_getElem hi]; rfl
  · obtain ⟨j, rfl⟩ : ∃ j, i = objs.length + j := ⟨i - objs.length, by omega⟩
    rw [joinG_new] at hv
    rw [joinO_new] at ho
    obtain ⟨n, hn, hv⟩ := Option.map_eq_some_iff.1 hv
    obtain ⟨n', hn', ho⟩ := Option.map_eq_some_iff.1 ho
    rw [hn] at hn'; injection hn' with hn'; subst hn'
    exact .inr (.inr ⟨j, n, rfl, hn, hv.symm, ho.symm⟩)
end

theorem getD_at {α : Type} {l : List α} {d x : α} {i : Nat} (h : l[i]? = some x) : l.getD i d = x := by rw [List.getD_eq_getElem?_getD, h]; rfl
theorem at_getD {α : Type} {l : List α} (d : α) {i : Nat} (h : i < l.length) : l[i]? = some (l.getD i d) := by rw [List.getD_eq_getElem?_getD, List.getElem?_eq_getElem h]; rfl

/-- The joined state. -/
theorem join_sat {w w' : World} {im im' : Im} {g g1 : List Value} {objs objs1 : Objs} {rs ns : List Nat} (hsat : Sat P base w im g objs) (hn : rs.Nodup) (hlt : ∀ i ∈ rs, i < objs.length) (hns : ns.Nodup) (hnlt : ∀ i ∈ ns, rs.length ≤ i ∧ i < objs1.length)
    (hcl : ∀ i ∈ allIds (objs1.take rs.length) ++ allIds (ns.map fun i => objs1.getD i .dead), i < rs.length ∨ i ∈ ns)
    (hk : rs.length ≤ objs1.length)
    (hl : Le w im (rs.map fun i => g.getD i default) ((rs.map fun i => objs.getD i .dead).map (AObj.ren fun i => rs.idxOf i)) w' im' g1 objs1) (hs1 : Sat P base w' im' g1 objs1) :
    Le w im g objs w' im' (joinG objs g g1 rs ns) (joinO objs objs1 rs ns) ∧ Sat P base w' im' (joinG objs g g1 rs ns) (joinO objs objs1 rs ns) ∧
    ∀ i, i < rs.length ∨ i ∈ ns → (joinG objs g g1 rs ns)[backI rs ns objs.length i]? = g1[i]? ∧ ∀ o t, objs1[i]? = some o → o.tag = some t → ∃ o', (joinO objs objs1 rs ns)[backI rs ns objs.length i]? = some o' ∧ o'.tag = some t := by
  have hlen := hsat.len
  have hlen1 := hs1.len
  have gC : ∀ i ∈ rs, (rs.map fun i => g.getD i default)[rs.idxOf i]? = g[i]? := by
    intro i hi
    rw [List.getElem?_map, idxOf_get hi]
    simp only [Option.map_some]
    rw [at_getD default (by rw [hlen]; exact hlt i hi)]
  have oC : ∀ i ∈ rs, ∀ o, objs[i]? = some o → ((rs.map fun i => objs.getD i .dead).map (AObj.ren fun i => rs.idxOf i))[rs.idxOf i]? = some (o.ren fun i => rs.idxOf i) := by
    intro i hi o ho
    rw [List.getElem?_map, List.getElem?_map, idxOf_get hi]
    simp only [Option.map_some]
    rw [getD_at ho]
  have idxlt : ∀ i ∈ rs, rs.idxOf i < rs.length := fun i hi => List.idxOf_lt_length_of_mem hi
  /- the new numbers lead back -/
  have hback : ∀ i, i < rs.length ∨ i ∈ ns → (joinG objs g g1 rs ns)[backI rs ns objs.length i]? = g1[i]? ∧ ∀ o t, objs1[i]? = some o → o.tag = some t → ∃ o', (joinO objs objs1 rs ns)[backI rs ns objs.length i]? = some o' ∧ o'.tag = some t := by
    intro i hi
    by_cases hik : i < rs.length
    · have hri : rs[i]? = some rs[i] := List.getElem?_eq_getElem hik
      have hb : backI rs ns objs.length i = rs[i] := by unfold backI; rw [if_pos hik, getD_at hri]
      have hmem : rs[i] ∈ rs := List.getElem_mem hik
      have hidx : rs.idxOf rs[i] = i := idxOf_at hn hri
      have hc : rs.contains rs[i] = true := by simp
      rw [hb]
      refine ⟨?_, fun o t ho ht => ⟨o.ren (backI rs ns objs.length), ?_, by rw [tag_ren]; exact ht⟩⟩
      · rw [joinG_at hlen (hlt _ hmem), hc, if_pos rfl, hidx, at_getD default (by omega)]
      · rw [joinO_at (hlt _ hmem), hc, if_pos rfl, hidx, getD_at ho]
    · have hmem : i ∈ ns := hi.resolve_left hik
      have hb : backI rs ns objs.length i = objs.length + ns.idxOf i := by unfold backI; rw [if_neg hik]
      rw [hb]
      refine ⟨?_, fun o t ho ht => ⟨o.ren (backI rs ns objs.length), ?_, by rw [tag_ren]; exact ht⟩⟩
      · rw [joinG_new, idxOf_get hmem]
        simp only [Option.map_some]
        rw [at_getD default (by rw [hlen1]; exact (hnlt i hmem).2)]
      · rw [joinO_new, idxOf_get hmem]
        simp only [Option.map_some]
        rw [getD_at ho]
  have hle : Le w im g objs w' im' (joinG objs g g1 rs ns) (joinO objs objs1 rs ns) := by
    refine ⟨hl.pres, ⟨by simp [joinO], fun i o ho hb => ?_, fun i o e n bb ho ht => ?_⟩, hl.size, fun k hk hnk => ?_, fun i v k hv hbk => ?_, fun b x h => ?_, hl.os, hl.tape, hl.output⟩
    · have hi := (List.getElem?_eq_some_iff.1 ho).1
      by_cases hr : i ∈ rs
      · have hc : rs.contains i = true := by simpa using hr
        obtain ⟨e1, o', e2, e3⟩ := hl.evo.nb _ _ (oC i hr o ho) (by rw [isBuf_ren]; exact hb)
        refine ⟨?_, o'.ren (backI rs ns objs.length), ?_, by rw [isBuf_ren]; exact e3⟩
        · rw [joinG_at hlen hi, hc, if_pos rfl, ← gC i hr, ← e1, at_getD default (by rw [hlen1]; exact Nat.lt_of_lt_of_le (idxlt i hr) (by omega))]
        · rw [joinO_at hi, hc, if_pos rfl, getD_at e2]
      · have hc : rs.contains i = false := by simpa using hr
        refine ⟨?_, o, ?_, hb⟩
        · rw [joinG_at hlen hi, hc]
          simp only [Bool.false_eq_true, if_false]
          rw [at_getD default (by omega)]
        · rw [joinO_at hi, hc]
          simp only [Bool.false_eq_true, if_false]
          rw [getD_at ho]
    · have hi := (List.getElem?_eq_some_iff.1 ho).1
      by_cases hr : i ∈ rs
      · have hc : rs.contains i = true := by simpa using hr
        obtain ⟨o', n', e1, e1t, e2, e3⟩ := hl.evo.tags _ _ e n bb (oC i hr _ ho) (by rw [tag_ren]; exact ht)
        refine ⟨o'.ren (backI rs ns objs.length), n', ?_, by rw [tag_ren]; exact e1t, e2, fun he => ?_⟩
        · rw [joinO_at hi, hc, if_pos rfl, getD_at e1]
        · have hgi : (joinG objs g g1 rs ns)[i]? = g1[rs.idxOf i]? := by
            rw [joinG_at hlen hi, hc, if_pos rfl, at_getD default (by rw [hlen1]; exact Nat.lt_of_lt_of_le (idxlt i hr) (by omega))]
          rw [hgi, ← gC i hr]
          exact e3 he
      · have hc : rs.contains i = false := by simpa using hr
        refine ⟨o, n, ?_, ht, Nat.le_refl _, fun _ => .inl ?_⟩
        · rw [joinO_at hi, hc]
          simp only [Bool.false_eq_true, if_false]
          rw [getD_at ho]
        · rw [joinG_at hlen hi, hc]
          simp only [Bool.false_eq_true, if_false]
          rw [at_getD default (by omega)]
    · refine hl.frame k hk (fun j v hv => ?_)
      rw [List.getElem?_map] at hv
      obtain ⟨i, hi, hv⟩ := Option.map_eq_some_iff.1 hv
      have := hlt i (List.mem_of_getElem? hi)
      exact hnk i v (by rw [← hv, ← at_getD default (by omega)])
    · have from1 : ∀ c, c < g1.length → v = g1.getD c default → w.heap.size ≤ k ∨ ∃ (j : Nat), ∃ u, g[j]? = some u ∧ blk u = some k := by
        intro c hc hvc
        rcases hl.fresh c v k (by rw [hvc]; exact at_getD default hc) hbk with h | ⟨j, u, hj, hu⟩
        · exact .inl h
        · rw [List.getElem?_map] at hj
          obtain ⟨i', hi', hv'⟩ := Option.map_eq_some_iff.1 hj
          have := hlt i' (List.mem_of_getElem? hi')
          exact .inr ⟨i', u, by rw [← hv', ← at_getD default (by omega)], hu⟩
      have hio : i < (joinO objs objs1 rs ns).length := by
        have := (List.getElem?_eq_some_iff.1 hv).1
        simpa [joinG, joinO] using this
      rcases join_from hlen hv (List.getElem?_eq_getElem hio) with ⟨_, hr, hv', _⟩ | ⟨_, _, hv', _⟩ | ⟨j, n, _, hj, hv', _⟩
      · exact from1 _ (by rw [hlen1]; exact Nat.lt_of_lt_of_le (idxlt i hr) (by omega)) hv'
      · exact .inr ⟨i, v, hv', hbk⟩
      · exact from1 n (by rw [hlen1]; exact (hnlt n (List.mem_of_getElem? hj)).2) hv'
    · rcases hl.imn b x h with h | h | ⟨j, u, hj, hu⟩
      · exact .inl h
      · exact .inr (.inl h)
      · rw [List.getElem?_map] at hj
        obtain ⟨i', hi', hv'⟩ := Option.map_eq_some_iff.1 hj
        have := hlt i' (List.mem_of_getElem? hi')
        exact .inr (.inr ⟨i', u, by rw [← hv', ← at_getD default (by omega)], hu⟩)
  /- of an old object that was not handed over: its block is no other's -/
  have oldblk : ∀ i v k, i ∉ rs → g[i]? = some v → blk v = some k → k < w.heap.size ∧ (∀ (j : Nat) u, (rs.map fun i => g.getD i default)[j]? = some u → blk u ≠ some k) ∧ ∀ (c : Nat) u, g1[c]? = some u → blk u ≠ some k := by
    intro i v k hr hv hbk
    have hk := (hsat.blk_lt hv hbk).2
    have h1 : ∀ (j : Nat) u, (rs.map fun i => g.getD i default)[j]? = some u → blk u ≠ some k := by
      intro j u hj hu
      rw [List.getElem?_map] at hj
      obtain ⟨i', hi', hv'⟩ := Option.map_eq_some_iff.1 hj
      have hm := List.mem_of_getElem? hi'
      have := hlt i' hm
      have : i' = i := hsat.dist i' i u v k (by rw [← hv', ← at_getD default (by omega)]) hv hu hbk
      subst this
      exact hr hm
    refine ⟨hk, h1, fun c u hc hu => ?_⟩
    rcases hl.fresh c u k hc hu with h | ⟨j, u', hj, hu'⟩
    · omega
    · exact h1 j u' hj hu'
  have src : ∀ i v, (joinG objs g g1 rs ns)[i]? = some v → ∃ o, (joinO objs objs1 rs ns)[i]? = some o ∧ ((∃ c, g1[c]? = some v ∧ ∃ q, objs1[c]? = some q ∧ o = q.ren (backI rs ns objs.length) ∧ (c < rs.length ∨ c ∈ ns) ∧ i = backI rs ns objs.length c) ∨ (i ∉ rs ∧ i < objs.length ∧ g[i]? = some v ∧ objs[i]? = some o)) := by
    intro i v hv
    have hio : i < (joinO objs objs1 rs ns).length := by
      have := (List.getElem?_eq_some_iff.1 hv).1
      simpa [joinG, joinO] using this
    refine ⟨_, List.getElem?_eq_getElem hio, ?_⟩
    rcases join_from hlen hv (List.getElem?_eq_getElem hio) with ⟨_, hr, hv', ho'⟩ | ⟨hi, hr, hv', ho'⟩ | ⟨j, n, hj0, hj, hv', ho'⟩
    · have hc1 : rs.idxOf i < objs1.length := Nat.lt_of_lt_of_le (idxlt i hr) (by omega)
      refine .inl ⟨rs.idxOf i, by rw [hv']; exact at_getD default (by omega), _, at_getD .dead hc1, ho', .inl (idxlt i hr), ?_⟩
      unfold backI
      rw [if_pos (idxlt i hr), getD_at (idxOf_get hr)]
    · exact .inr ⟨hr, hi, hv', ho'⟩
    · have hm := List.mem_of_getElem? hj
      have hc1 := hnlt n hm
      refine .inl ⟨n, by rw [hv']; exact at_getD default (by omega), _, at_getD .dead hc1.2, ho', .inr hm, ?_⟩
      unfold backI
      rw [if_neg (by omega), hj0, idxOf_at hns hj]
  refine ⟨hle, ⟨by simp [joinG, joinO], hs1.low, hs1.glob, fun i o v ho hv => ?_, fun i j u v k hu hv hku hkv => ?_, hs1.imm, fun b x h i v hv hbk => ?_⟩, hback⟩
  · obtain ⟨o', ho', hcase⟩ := src i v hv
    rw [ho] at ho'; injection ho' with ho'; subst ho'
    rcases hcase with ⟨c, hc, q, hq, rfl, hin, _⟩ | ⟨hr, hi, hv', ho'⟩
    · refine ObjOK_ren _ (fun n hm => hback n ?_) (hs1.obj c q v hq hc)
      refine hcl n ?_
      rcases hin with h | h
      · refine List.mem_append.2 (.inl (allIds_mem (o := q) ?_ hm))
        refine List.mem_of_getElem? (i := c) ?_
        rw [List.getElem?_take_of_lt h, hq]
      · refine List.mem_append.2 (.inr (allIds_mem (o := q) ?_ hm))
        exact List.mem_map.2 ⟨c, h, getD_at hq⟩
    · exact ObjOK.keep hsat hle (hsat.obj i o v ho' hv') (fun k hk => let ⟨a, b, _⟩ := oldblk i v k hr hv' hk; hl.frame k a b)
  · obtain ⟨o1, _, h1⟩ := src i u hu
    obtain ⟨o2, _, h2⟩ := src j v hv
    rcases h1 with ⟨c1, hc1, _, _, _, _, e1⟩ | ⟨r1, _, q1, _⟩ <;> rcases h2 with ⟨c2, hc2, _, _, _, _, e2⟩ | ⟨r2, _, q2, _⟩
    · have := hs1.dist c1 c2 u v k hc1 hc2 hku hkv
      rw [e1, e2, this]
    · exact ((oldblk j v k r2 q2 hkv).2.2 c1 u hc1 hku).elim
    · exact ((oldblk i u k r1 q1 hku).2.2 c2 v hc2 hkv).elim
    · exact hsat.dist i j u v k q1 q2 hku hkv
  · obtain ⟨o1, ho1, h1⟩ := src i v hv
    rcases h1 with ⟨c, hc, q, hq, rfl, _, _⟩ | ⟨hr, _, q1, q2⟩
    · obtain ⟨e, n, inf, a1, a2, a3⟩ := hs1.immg b x h c v hc hbk
      rw [hq] at a1; injection a1 with a1; subst a1
      exact ⟨e, n, inf, ho1, a2, a3⟩
    · obtain ⟨hk, k1, k2⟩ := oldblk i v b hr q1 hbk
      rcases hl.imn b x h with h | h | ⟨j, u, hj, hu⟩
      · obtain ⟨e, n, inf, a1, a2, a3⟩ := hsat.immg b x h i v q1 hbk
        rw [q2] at a1; injection a1 with a1; subst a1
        exact ⟨e, n, inf, ho1, a2, a3⟩
      · omega
      · exact (k1 j u hj hu).elim

theorem doCall1_sound {call : CallF} (hcall : CallSound P base call) {f : Cal} {args : List PV} {objs objs' : Objs} {out : Out} (h : doCall1 call f args objs = some (out, objs')) {w : World} {im : Im} {g : List Value} {vargs : List Value} (hsat : Sat P base w im g objs) (hargs : RepL w im g objs args vargs) :
    Goes P f vargs w fun e w' => ∃ im' g', Le w im g objs w' im' g' objs' ∧ Sat P base w' im' g' objs' ∧ OutOK w' im' g' objs' out e := by
  unfold doCall1 at h
  simp only at h
  generalize hrs : reach objs reachFuel (PVs.ids args) [] = rs at h
  split at h
  · rename_i hc
    simp only [Bool.and_eq_true, List.all_eq_true] at hc
    obtain ⟨⟨c1, c2⟩, c3⟩ := hc
    have hn := nodup_iff c2
    have hlt : ∀ i ∈ rs, i < objs.length := fun i hi => of_decide_eq_true (c3 i hi)
    have hin : ∀ i ∈ PVs.ids args ++ allIds (rs.map fun i => objs.getD i .dead), i ∈ rs := fun i hi => by simpa using c1 i hi
    split at h
    · cases h
    · rename_i out1 objs1 hcl
      generalize hns : (reach objs1 reachFuel (out1.ids ++ allIds (objs1.take rs.length)) []).filter (fun i => rs.length ≤ i) = ns at h
      split at h
      · rename_i hd
        simp only [Bool.and_eq_true, List.all_eq_true] at hd
        obtain ⟨⟨d1, d2⟩, d3⟩ := hd
        injection h with h
        injection h with h1 h2
        have hsub := hsat.sub hn hlt (fun i hi => hin i (List.mem_append.2 (.inr hi)))
        have hra : RepL w im (rs.map fun i => g.getD i default) ((rs.map fun i => objs.getD i .dead).map (AObj.ren fun i => rs.idxOf i)) (PVs.ren (fun i => rs.idxOf i) args) vargs := by
          refine RepL_ren _ args vargs (fun i hi => ?_) hargs
          have hir := hin i (List.mem_append.2 (.inl hi))
          have hil := hlt i hir
          refine ⟨?_, fun o t hb ht => ⟨o.ren fun i => rs.idxOf i, ?_, by rw [tag_ren]; exact ht⟩⟩
          · rw [List.getElem?_map, idxOf_get hir]
            simp only [Option.map_some]
            rw [at_getD default (by rw [hsat.len]; exact hil)]
          · rw [List.getElem?_map, List.getElem?_map, idxOf_get hir]
            simp only [Option.map_some]
            rw [getD_at hb]
        have hc := hcall f _ _ out1 objs1 hcl w im _ vargs hsub hra
        refine hc.mono ?_
        rintro e w' ⟨im', g1, hl, hs1, ho⟩
        have hk : rs.length ≤ objs1.length := by
          have := hl.evo.len
          simpa using this
        have hin2 : ∀ i ∈ out1.ids ++ allIds (objs1.take rs.length) ++ allIds (ns.map fun i => objs1.getD i .dead), i < rs.length ∨ i ∈ ns := fun i hi => by
          have := d1 i hi
          simpa using this
        obtain ⟨j1, j2, j3⟩ := join_sat hsat hn hlt (nodup_iff d2) (fun i hi => ⟨by
            rw [← hns] at hi
            exact of_decide_eq_true (List.mem_filter.1 hi).2, of_decide_eq_true (d3 i hi)⟩) (fun i hi => hin2 i (by
            rcases List.mem_append.1 hi with hi | hi
            · exact List.mem_append.2 (.inl (List.mem_append.2 (.inr hi)))
            · exact List.mem_append.2 (.inr hi))) hk hl hs1
        have hjo : objs' = joinO objs objs1 rs ns := by rw [← h2]; rfl
        refine ⟨im', joinG objs g g1 rs ns, by rw [hjo]; exact j1, by rw [hjo]; exact j2, ?_⟩
        rw [hjo, ← h1]
        have hbk : ∀ i ∈ out1.ids, (joinG objs g g1 rs ns)[backI rs ns objs.length i]? = g1[i]? ∧ ∀ o t, objs1[i]? = some o → o.tag = some t → ∃ o', (joinO objs objs1 rs ns)[backI rs ns objs.length i]? = some o' ∧ o'.tag = some t :=
          fun i hi => j3 i (hin2 i (List.mem_append.2 (.inl (List.mem_append.2 (.inl hi)))))
        cases out1 with
        | ret p =>
          obtain ⟨v, he, hr⟩ := ho
          exact ⟨v, he, Rep_ren _ p v hbk hr⟩
        | panic p =>
          obtain ⟨v, he, hr⟩ := ho
          exact ⟨v, he, Rep_ren _ p v hbk hr⟩
      · cases h
  · cases h
theorem doCall_sound {po : Pol} {call : CallF} (hcall : CallSound P base call) {f : Cal} {args : List PV} {objs objs' : Objs} {out : Out} (h : doCall po call f args objs = some (out, objs')) {w : World} {im : Im} {g : List Value} {vargs : List Value} (hsat : Sat P base w im g objs) (hargs : RepL w im g objs args vargs) :
    Goes P f vargs w fun e w' => ∃ im' g', Le w im g objs w' im' g' objs' ∧ Sat P base w' im' g' objs' ∧ OutOK w' im' g' objs' out e := by
  unfold doCall at h
  split at h
  · split at h <;> first | (cases h; done) | skip
    rename_i out1 objs1 hd
    injection h with h; injection h with h1 h2; subst h1 h2
    obtain ⟨im0, g0, hl0, hs0⟩ := frzIds_sound (PVs.ids args) hsat
    refine (doCall1_sound hcall hd hs0 (purs_rep hs0 (hsat.monoL hl0 hargs))).mono ?_
    rintro e w' ⟨im', g', hl, hs, ho⟩
    obtain ⟨im2, g2, hl2, hs2⟩ := frzIds_sound out1.ids hs
    refine ⟨im2, g2, (hl0.trans hl).trans hl2, hs2, ?_⟩
    cases out1 with
    | ret p =>
      obtain ⟨v, he, hr⟩ := ho
      exact ⟨v, he, pur_rep hs2 (hs.mono hl2 hr)⟩
    | panic p =>
      obtain ⟨v, he, hr⟩ := ho
      exact ⟨v, he, hs.mono hl2 hr⟩
  · exact doCall1_sound hcall h hsat hargs
end
end Pi
end Go.Proofs.YthdgpejippohnaaGreatDoor
