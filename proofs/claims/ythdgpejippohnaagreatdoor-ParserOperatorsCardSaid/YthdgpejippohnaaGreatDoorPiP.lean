/-
  The evaluator's code is the machine's code: loops, bodies, calls. Condition: the called functions are.
-/
import Derived.Test.YthdgpejippohnaaGreatDoorPiO
import Derived.RecoverIn
namespace Go.Proofs.YthdgpejippohnaaGreatDoor
namespace Pi
set_option linter.unusedVariables false
section
variable {P : Program} {base : Nat} {w w' : World} {im im' : Im} {g g' : List Value} {objs objs' : Objs} {env : Env} {a : Act} {o : Oper}

theorem mask_rep (keep : List Nat) (henv : RepL w im g objs env a.tmps.toList) : RepL w im g objs (maskI keep env) a.tmps.toList := by
  rw [RepL_iff]
  refine ⟨by simp [maskI_eq]; have := henv.length; simpa using this, fun i p v hp hv => ?_⟩
  rw [maskI_eq] at hp
  rw [List.getElem?_map] at hp
  obtain ⟨j, hj, rfl⟩ := Option.map_eq_some_iff.1 hp
  have hji : j = i := by
    rw [List.getElem?_range (by
      have := (List.getElem?_eq_some_iff.1 hj).1
      simpa using this)] at hj
    injection hj with hj; exact hj.symm
  subst hji
  split
  · have hlt : j < env.length := by
      have := (List.getElem?_eq_some_iff.1 hj).1
      simpa using this
    obtain ⟨v', hv', hr⟩ := henv.get (List.getElem?_eq_getElem hlt)
    rw [hv] at hv'; injection hv' with hv'; subst hv'
    rw [List.getD_eq_getElem?_getD, List.getElem?_eq_getElem hlt]
    exact hr
  · trivial
theorem loop_sound (ro : Option Nat) {lo : Lo} {body : Env → Objs → Step} {c : Code} (hbody : ∀ env objs st, body env objs = some st → ∀ (w : World) (im : Im) (g : List Value) (a : Act), Sat P base w im g objs → RepL w im g objs env a.tmps.toList → Marks lo w g a.defers → c.wpIn (WF ro) 0 P (Post P base lo w im g objs st) a w)
    {w0 : World} {im0 : Im} {g0 : List Value} {objs0 : Objs} (h0 : g0.length = objs0.length) (keep : List Nat) : ∀ (n : Nat) (env : Env) (objs : Objs) (st : Ex × Env × Objs), loopI body keep objs0.length n env objs = some st → ∀ (w : World) (im : Im) (g : List Value) (a : Act), Le w0 im0 g0 objs0 w im g objs → Sat P base w im g objs → RepL w im g objs env a.tmps.toList → Marks lo w g a.defers →
      Code.roundsIn (WF ro) 0 P c (Post P base lo w0 im0 g0 objs0 st) n a w := by
  intro n
  induction n with
  | zero => intro env objs st h; unfold loopI at h; cases h
  | succ n ih =>
    intro env objs st h w im g a hl hsat henv hdef
    unfold loopI at h
    rw [roundsIn_succ]
    obtain ⟨g2, s1, s2, s3, s4⟩ := trunc_state hsat (mask_rep keep henv) h0 hl
    split at h
    · rename_i env' objs' hb
      refine wpIn_mono (hbody _ _ _ hb w im g2 a s1 s2 (hdef.sub s4)) ?_
      rintro e a' w' ⟨im', g', k1, k2, k3, k4, k5⟩
      have k5 : e = .normal := k5
      subst k5
      exact ih env' objs' st h w' im' g' a' (s3.trans k1) k2 k4 k3
    · rename_i hne
      cases hb : body (maskI keep env) (truncI objs0.length (maskI keep env) objs) with
      | none => rw [hb] at h; cases h
      | some st' =>
        rw [hb] at h
        injection h with h; subst h
        refine wpIn_mono (hbody _ _ _ hb w im g2 a s1 s2 (hdef.sub s4)) ?_
        rintro e a' w' ⟨im', g', k1, k2, k3, k4, k5⟩
        have post : Post P base lo w0 im0 g0 objs0 st' e a' w' := ⟨im', g', s3.trans k1, k2, k3, k4, k5⟩
        cases e with
        | normal =>
          exfalso
          obtain ⟨ex, env', objs'⟩ := st'
          cases ex with
          | normal => exact hne env' objs' hb
          | exit id => cases k5
          | ret => cases k5
          | panic p => obtain ⟨v, h, _⟩ := k5; cases h
        | exit id => exact post
        | goto l => exact post
        | ret => exact post
        | panic ch => exact post
        | outgrown => exact post
/-! ### marks are shut -/
theorem RepE_mono' (hp : Pres w im w' im') (he : Evo objs g objs' g') (hb : ∀ (i : Nat) k, g[i]? = some (Value.pointer (some k)) → ∃ o, objs[i]? = some o ∧ o.isBuf = false) (hm : ∀ (i : Nat) k, g[i]? = some (Value.map (some k)) → ∃ o, objs[i]? = some o ∧ o.isBuf = false) (hy : ∀ (i : Nat) x y z, g[i]? = some (Value.func (.yield x) y z) → ∃ o, objs[i]? = some o ∧ o.isBuf = false) :
    ∀ {es : List (D × PV)} {s}, RepE w im g objs es s → RepE w' im' g' objs' es s
  | [], [], _ => trivial
  | (k, p) :: r, e :: s, hr => ⟨RepD_mono hp k _ hr.1, Rep_mono hp he hb hm hy p _ hr.2.1, RepE_mono' hp he hb hm hy hr.2.2⟩
  | [], _ :: _, hr => hr.elim
  | _ :: _, [], hr => hr.elim
theorem putObj_keeps {D : Nat} {ds : Option (List Deferred)} {o : Obj} (h : w.heap[D]? = some (.deferred ds)) (ho : ∀ ds', o = .deferred ds' → True) : ∀ b q, b ≠ D → (w.putObj D o).cell? ⟨b, q, none⟩ = w.cell? ⟨b, q, none⟩ :=
  fun b q hb => World.cell?_of_block (World.putObj_heap_other hb)
theorem cell_deferred {D q : Nat} {ds : Option (List Deferred)} (h : w.heap[D]? = some (.deferred ds)) : w.cell? ⟨D, q, none⟩ = none := by
  unfold World.cell?
  simp [h]
theorem shut_pres {D : Nat} (h : w.heap[D]? = some (.deferred (some []))) : Pres w im (w.putObj D (.deferred none)) im := by
  intro b q hb
  refine ⟨hb, ?_⟩
  by_cases hbD : b = D
  · subst hbD
    rw [cell_deferred h, cell_deferred (World.putObj_heap_same (Array.getElem?_eq_some_iff.1 h).1)]
  · exact putObj_keeps h (fun _ _ => trivial) b q hbD
theorem shut_sat (hsat : Sat P base w im g objs) {D : Nat} (h : w.heap[D]? = some (.deferred (some []))) (hD : ∀ (i : Nat) v, g[i]? = some v → blk v ≠ some D) : Sat P base (w.putObj D (.deferred none)) im g objs := by
  have hp := shut_pres (im := im) h
  have he := Evo.refl objs g
  have hk : ∀ (i : Nat) v, g[i]? = some v → ∀ k, blk v = some k → (w.putObj D (.deferred none)).heap[k]? = w.heap[k]? := fun i v hv k hb => World.putObj_heap_other (fun e => hD i v hv (e ▸ hb))
  refine ⟨hsat.len, by rw [World.putObj_size]; exact hsat.low, hsat.glob.keep (fun q hq hd => World.putObj_heap_other (fun e => hd (some []) (by subst e; exact h))), fun i o v ho hv => ?_, hsat.dist, fun b x hb => by rw [World.putObj_size]; exact hsat.imm b x hb, hsat.immg⟩
  have hok := hsat.obj i o v ho hv
  have hk := hk i v hv
  cases o <;> unfold ObjOK at hok ⊢
  case cells =>
    obtain ⟨b, cur, rfl, hb, hh, hr, h1⟩ := hok
    exact ⟨b, cur, rfl, hb, by rw [hk b rfl]; exact hh, RepL_mono hp he hsat.nbp hsat.nbm hsat.nby _ _ hr, h1⟩
  case buf =>
    obtain ⟨i, xs, hi, hp, hown⟩ := hok
    refine ⟨i, xs, hi, hp, ?_⟩
    rcases hown with ⟨hx, hn | ⟨q, cap, cur, rfl, hb, hh, rest⟩⟩ | ⟨hbig, q, m, cap, cur, fr, rfl, hb, hh⟩
    · exact .inl ⟨hx, .inl hn⟩
    · exact .inl ⟨hx, .inr ⟨q, cap, cur, rfl, hb, by rw [hk q rfl]; exact hh, rest⟩⟩
    · exact .inr ⟨hbig, q, m, cap, cur, fr, rfl, hb, by rw [hk q rfl]; exact hh⟩
  case map =>
    obtain ⟨r, ents, c, rfl, hb, hh, hr⟩ := hok
    exact ⟨r, ents, c, rfl, hb, by rw [hk r rfl]; exact hh, RepE_mono' hp he hsat.nbp hsat.nbm hsat.nby hr⟩
  case bld => exact hok
  case dead => exact hok
  case loop =>
    obtain ⟨l, lr, rfl, hb, hh, hr, rest⟩ := hok
    exact ⟨l, lr, rfl, hb, by rw [hk l rfl]; exact hh, RepL_mono hp he hsat.nbp hsat.nbm hsat.nby _ _ hr, rest⟩
  case vec =>
    obtain ⟨i, k, cap, cur, h1, h2, rfl, h3, hh, h4, h5, h6, h7, hr⟩ := hok
    exact ⟨i, k, cap, cur, h1, h2, rfl, h3, by rw [hk k rfl]; exact hh, h4, h5, h6, h7, RepL_mono hp he hsat.nbp hsat.nbm hsat.nby _ _ hr⟩
  case frz =>
    obtain ⟨i, k, cap, h1, rfl, hr⟩ := hok
    exact ⟨i, k, cap, h1, rfl, RepEls_mono hp _ _ _ _ hr⟩
theorem shut_le {w0 : World} {im0 : Im} {g0 : List Value} {objs0 : Objs} (hl : Le w0 im0 g0 objs0 w im g objs) {D : Nat} (hlo : w0.heap.size ≤ D) (h : w.heap[D]? = some (.deferred (some []))) : Le w0 im0 g0 objs0 (w.putObj D (.deferred none)) im g objs :=
  ⟨hl.pres.trans (shut_pres h), hl.evo, by rw [World.putObj_size]; exact hl.size, fun k hk hn => by rw [World.putObj_heap_other (by omega)]; exact hl.frame k hk hn, hl.fresh, hl.imn, hl.os, hl.tape, hl.output⟩
theorem shut_rep (hsat : Sat P base w im g objs) {D : Nat} (h : w.heap[D]? = some (.deferred (some []))) {ps : List PV} {vs : List Value} (hr : RepL w im g objs ps vs) : RepL (w.putObj D (.deferred none)) im g objs ps vs :=
  RepL_mono (shut_pres h) (Evo.refl objs g) hsat.nbp hsat.nbm hsat.nby _ _ hr
theorem leaves_marks {w0 : World} {im0 : Im} {g0 : List Value} {objs0 : Objs} {fn : Func} {tmps : Array Value} {R : Ending → World → Prop} {u : FrameMode} (hu : u ≠ .run) {lo : Nat} {tl : List Deferred} (h0 : w0.heap.size ≤ lo) {env : Env} {p : PV} {pv : Value} :
    ∀ (ds : List Deferred) (w : World), Le w0 im0 g0 objs0 w im g objs → Sat P base w im g objs → Marks0 lo w g ds → RepL w im g objs env tmps.toList → Rep w im g objs p pv →
      (∀ w2, Le w0 im0 g0 objs0 w2 im g objs → Sat P base w2 im g objs → RepL w2 im g objs env tmps.toList → Rep w2 im g objs p pv → LeavesInM (WF none) 0 P fn tmps R tl u w2) → LeavesInM (WF none) 0 P fn tmps R (ds ++ tl) u w := by
  intro ds
  induction ds with
  | nil => intro w hl hs hm he hp h; exact h w hl hs he hp
  | cons d ds ih =>
    intro w hl hs hm he hp h
    obtain ⟨D, hd, h2, h3, h4⟩ := hm.each d (List.mem_cons_self ..)
    refine ⟨hu, .inl ⟨D, w.putObj D (.deferred none), by rw [hd], run_takeDeferred h3, ?_⟩⟩
    have hr2 := shut_rep hs h3 (ps := [p]) (vs := [pv]) ⟨hp, trivial⟩
    refine ih _ (shut_le hl (by omega) h3) (shut_sat hs h3 h4) ⟨by rw [World.putObj_size]; exact hm.low, fun d' hd' => ?_, (List.nodup_cons.1 hm.nodup).2⟩ (shut_rep hs h3 he) hr2.1 h
    obtain ⟨D', q1, q2, q3, q4⟩ := hm.each d' (List.mem_cons_of_mem _ hd')
    refine ⟨D', q1, q2, ?_, q4⟩
    rw [World.putObj_heap_other]
    · exact q3
    · rintro rfl
      exact (List.nodup_cons.1 hm.nodup).1 (by rw [hd, ← q1]; exact hd')

/-! ### a range's record -/
theorem set_same {α : Type} {l : List α} {i : Nat} {v : α} (h : l[i]? = some v) : l.set i v = l := by
  apply List.ext_getElem?
  intro j
  by_cases hj : i = j
  · subst hj
    rw [List.getElem?_set_self (List.getElem?_eq_some_iff.1 h).1, h]
  · rw [List.getElem?_set_ne hj]
theorem cell_loop {l q : Nat} {lr : Loop} (h : w.heap[l]? = some (.loop lr)) : w.cell? ⟨l, q, none⟩ = none := by
  unfold World.cell?
  simp [h]
theorem loop_at (hsat : Sat P base w im g objs) {id l st : Nat} {pd : Option (Option Nat)} {e : List PV} {ps : List Nat} {as bd : IC} (ho : objs[id]? = some (.loop st pd e ps as bd)) (hg : g[id]? = some (.func (.yield l) #[] #[])) :
    ∃ lr, base ≤ l ∧ w.heap[l]? = some (.loop lr) ∧ RepL w im g objs e lr.tmps.toList ∧ lr.state = stC st ∧ lr.pending = jmpC pd ∧ lr.params.toList = ps ∧ (∃ c, compC P lr.assign = some c ∧ Like c as) ∧ ∃ c, compC P lr.body = some c ∧ Like c bd := by
  have hok := hsat.obj id _ _ ho hg
  unfold ObjOK at hok
  obtain ⟨l', lr, hv, rest⟩ := hok
  injection hv with hv; injection hv with hv
  subst hv
  exact ⟨lr, rest⟩
theorem loop_turn (hsat : Sat P base w im g objs) {id l st : Nat} {pd : Option (Option Nat)} {e : List PV} {ps : List Nat} {as bd : IC} (ho : objs[id]? = some (.loop st pd e ps as bd)) (hg : g[id]? = some (.func (.yield l) #[] #[])) {lr : Loop} (hh : w.heap[l]? = some (.loop lr)) (st' : Nat) (pd' : Option (Option Nat)) :
    Le w im g objs (w.putObj l (.loop { lr with state := stC st', pending := jmpC pd' })) im g (objs.set id (.loop st' pd' e ps as bd)) ∧ Sat P base (w.putObj l (.loop { lr with state := stC st', pending := jmpC pd' })) im g (objs.set id (.loop st' pd' e ps as bd)) := by
  obtain ⟨lr2, hb, hh2, k1, k2, k3, k4, k5, k6⟩ := loop_at hsat ho hg
  rw [hh] at hh2; injection hh2 with hh2; injection hh2 with hh2; subst hh2
  have hlt := (Array.getElem?_eq_some_iff.1 hh).1
  have hnew := World.putObj_heap_same (o := .loop { lr with state := stC st', pending := jmpC pd' }) hlt
  have := hsat.turn (w' := w.putObj l (.loop { lr with state := stC st', pending := jmpC pd' })) (im' := im) id _ (.loop st' pd' e ps as bd) _ (.func (.yield l) #[] #[]) ho hg (by rw [World.putObj_size]; exact Nat.le_refl _) (fun k hk hn => World.putObj_heap_other (fun e => hn (by rw [e]; rfl))) rfl rfl rfl (fun _ _ h => h)
    (fun b x _ hb => by
      have : l = b := by injection hb
      subst this
      rw [cell_loop hh, cell_loop hnew]) (fun b x h => .inl h) (fun k h => .inl h) (.inl ⟨rfl, rfl, rfl⟩)
    (fun hl => by
      unfold ObjOK
      exact ⟨l, _, rfl, hb, hnew, hsat.monoL hl k1, rfl, rfl, k4, k5, k6⟩)
  rwa [set_same hg] at this
/-- The record of a range over a function is laid. -/
theorem loop_laid (hsat : Sat P base w im g objs) {e : List PV} {tmps : Array Value} (he : RepL w im g objs e tmps.toList) {ps : Array Tmp} {asc bdc : Code} {as bd as0 bd0 : IC} (h1 : compC P asc = some as0) (h2 : Like as0 as) (h3 : compC P bdc = some bd0) (h4 : Like bd0 bd) (fn : FuncId) {w1 : World} (hw1 : w1 = (w.alloc (.deferred (some []))).alloc (.loop { state := .ready, pending := none, fn, tmps, params := ps, assign := asc, body := bdc, defers := w.heap.size })) :
    Le w im g objs w1 im (g ++ [.func (.yield (w.heap.size + 1)) #[] #[]]) (objs ++ [.loop 0 none e ps.toList as bd]) ∧ Sat P base w1 im (g ++ [.func (.yield (w.heap.size + 1)) #[] #[]]) (objs ++ [.loop 0 none e ps.toList as bd]) ∧ w1.heap[w.heap.size]? = some (.deferred (some [])) := by
  have hD : w1.heap[w.heap.size]? = some (.deferred (some [])) := by
    rw [hw1]; exact (RowKit.Below.heap_alloc _ _ _ (by simp)).trans (World.alloc_heap_new w _)
  have hL : w1.heap[w.heap.size + 1]? = some (.loop { state := .ready, pending := none, fn, tmps, params := ps, assign := asc, body := bdc, defers := w.heap.size }) := by
    rw [hw1]
    have := World.alloc_heap_new (w.alloc (.deferred (some []))) (.loop { state := .ready, pending := none, fn, tmps, params := ps, assign := asc, body := bdc, defers := w.heap.size })
    rwa [World.size_alloc] at this
  have hold : ∀ k, k < w.heap.size → w1.heap[k]? = w.heap[k]? := fun k hk => by
    rw [hw1]
    exact (RowKit.Below.heap_alloc _ _ _ (by rw [World.size_alloc]; omega)).trans (RowKit.Below.heap_alloc _ _ _ hk)
  have := hsat.push (w' := w1) (im' := im) (.func (.yield (w.heap.size + 1)) #[] #[]) (.loop 0 none e ps.toList as bd) (by rw [hw1, World.size_alloc, World.size_alloc]; omega) hold (by rw [hw1]; rfl) (by rw [hw1]; rfl) (by rw [hw1]; rfl) (fun _ _ h => h) (fun _ _ h => .inl h)
    (fun k h => by
      have : w.heap.size + 1 = k := by injection h
      omega)
    (fun hl => by
      unfold ObjOK
      exact ⟨_, _, rfl, by have := hsat.low; omega, hL, hsat.monoL hl he, rfl, rfl, rfl, ⟨_, h1, h2⟩, ⟨_, h3, h4⟩⟩)
  exact ⟨this.1, this.2, hD⟩
theorem setPs_rep : ∀ (ps : List Nat) (vs : List PV) (us : List Value) {env : Env} {tmps : Array Value}, RepL w im g objs env tmps.toList → RepL w im g objs vs us → RepL w im g objs (setPs env ps vs) ((ps.zip us).foldl (fun t (x : Nat × Value) => t.setIfInBounds x.1 x.2) tmps).toList
  | [], vs, us, env, tmps, he, _ => by unfold setPs; simpa using he
  | p :: ps, [], [], env, tmps, he, _ => by unfold setPs; simpa using he
  | p :: ps, v :: vs, u :: us, env, tmps, he, hv => by
    unfold setPs
    rw [List.zip_cons_cons, List.foldl_cons]
    refine setPs_rep ps vs us ?_ hv.2
    rw [Array.toList_setIfInBounds]
    exact he.set p hv.1
  | p :: ps, [], _ :: _, env, tmps, _, hv => hv.elim
  | p :: ps, _ :: _, [], env, tmps, _, hv => hv.elim

theorem stC_ne : ∀ {n : Nat}, ¬ n = 1 → stC n ≠ .busy
  | 0, _ => by simp [stC]
  | 1, h => (h rfl).elim
  | 2, _ => by simp [stC]
  | n + 3, _ => by simp [stC]
/-- A range over a function. -/
theorem rf_sound {lo : Lo} (hlo : lo.rf = true) {po : Pol} {call : CallF} (hcall : CallSound P base call) {gg : Operand} {ps : Array Tmp} {asc bdc : Code} {x : Opnd} {as0 bd0 as bd : IC} {keep : List Nat} (hx : opndI gg = some x) (has : compC P asc = some as0) (l1 : Like as0 as) (hbd : compC P bdc = some bd0) (l2 : Like bd0 bd)
    {f : FuncId} {first caps : List PV} (hf : opnd env x = .clo f first caps) {pv : PV} (hcl : doCall po call (.fn f) (first ++ [.yld objs.length] ++ caps) (objs ++ [.loop 0 none (maskI keep env) ps.toList as bd]) = some (.ret pv, objs'))
    {st2 : Nat} {pd : Option (Option Nat)} {e2 : List PV} {ps2 : List Nat} {as2 bd2 : IC} (hob : objs'.getD objs.length .dead = .loop st2 pd e2 ps2 as2 bd2) (hst : ¬ st2 = 1) (hsat : Sat P base w im g objs) (henv : RepL w im g objs env a.tmps.toList) (hdef : Marks lo w g a.defers) :
    (Code.rangeFunc gg ps asc bdc).wpIn (WF none) 0 P (Post P base lo w im g objs (jmpEx pd, env, objs'.set objs.length (.loop 3 pd e2 ps2 as2 bd2))) a w := by
  have rx := opnd_rep henv hx
  rw [hf] at rx
  unfold Rep at rx
  obtain ⟨fv, cv, he, r1, r2⟩ := rx
  obtain ⟨Q, hQ⟩ : ∃ Q, Q = Post P base lo w im g objs (jmpEx pd, env, objs'.set objs.length (.loop 3 pd e2 ps2 as2 bd2)) := ⟨_, rfl⟩
  rw [← hQ]
  refine wpIn_rangeFunc ?_
  intro fn _
  obtain ⟨w1, hw1⟩ : ∃ w1, w1 = (w.alloc (.deferred (some []))).alloc (.loop { state := .ready, pending := none, fn, tmps := a.tmps, params := ps, assign := asc, body := bdc, defers := w.heap.size }) := ⟨_, rfl⟩
  obtain ⟨d1, d2, d3⟩ := loop_laid hsat (mask_rep keep henv) has l1 hbd l2 fn hw1
  have hargs : RepL w1 im (g ++ [Value.func (.yield (w.heap.size + 1)) #[] #[]]) (objs ++ [.loop 0 none (maskI keep env) ps.toList as bd]) (first ++ [.yld objs.length] ++ caps) (fv ++ [Value.func (.yield (w.heap.size + 1)) #[] #[]] ++ cv) := by
    have hy : RepL w1 im (g ++ [Value.func (.yield (w.heap.size + 1)) #[] #[]]) (objs ++ [.loop 0 none (maskI keep env) ps.toList as bd]) [.yld objs.length] [Value.func (.yield (w.heap.size + 1)) #[] #[]] := by
      refine ⟨?_, trivial⟩
      unfold Rep
      refine ⟨_, ?_, rfl⟩
      rw [← hsat.len]
      simp
    exact ((hsat.monoL d1 r1).app hy).app (hsat.monoL d1 r2)
  obtain ⟨hok, hcalls⟩ := doCall_sound hcall hcl d2 hargs
  have hR : Calls P f (fv ++ [Value.func (.yield (w.heap.size + 1)) #[] #[]] ++ cv).toArray w1 (rangePost (WF none) 0 P (w.heap.size + 1) Q { a with defers := [{ target := .collected w.heap.size, args := #[] }] ++ a.defers }) := by
    refine hcalls.mono ?_
    rintro e w3 ⟨im3, g3, hl3, hs3, v, rfl, hv⟩
    have hid := getD_some hob (by simp)
    have hg3 : g3[objs.length]? = some (.func (.yield (w.heap.size + 1)) #[] #[]) := by
      obtain ⟨e1, _⟩ := hl3.evo.nb objs.length (.loop 0 none (maskI keep env) ps.toList as bd) (by simp) rfl
      rw [e1, ← hsat.len]; simp
    obtain ⟨lr, _, hh, k1, k2, k3, _⟩ := loop_at hs3 hid hg3
    have hend := run_endLoop (P := P) hh (by rw [k2]; exact stC_ne hst)
    obtain ⟨t1, t2⟩ := loop_turn hs3 hid hg3 hh 3 pd
    rw [← k3] at t1 t2
    obtain ⟨W4, hW4⟩ : ∃ W4, W4 = w3.putObj (w.heap.size + 1) (.loop { lr with state := .exhausted }) := ⟨_, rfl⟩
    have t1 : Le w3 im3 g3 objs' W4 im3 g3 (objs'.set objs.length (.loop 3 pd e2 ps2 as2 bd2)) := by rw [hW4]; exact t1
    have t2 : Sat P base W4 im3 g3 (objs'.set objs.length (.loop 3 pd e2 ps2 as2 bd2)) := by rw [hW4]; exact t2
    refine ⟨_, W4, by rw [hW4]; exact hend, ?_⟩
    have m1 : Marks lo w1 (g ++ [Value.func (.yield (w.heap.size + 1)) #[] #[]]) ({ target := .collected w.heap.size, args := #[] } :: a.defers) := by
      obtain ⟨ms, hms, hdef, _⟩ := hdef
      rw [hms]
      refine ⟨{ target := .collected w.heap.size, args := #[] } :: ms, rfl, ?_, fun h => by rw [hlo] at h; cases h⟩
      have hm := hdef.le d1
      refine ⟨hm.low, fun d hd => ?_, List.nodup_cons.2 ⟨fun hd => ?_, hdef.nodup⟩⟩
      · rcases List.mem_cons.1 hd with rfl | hd
        · refine ⟨w.heap.size, rfl, hdef.low, d3, fun i u hu hb => ?_⟩
          rcases Nat.lt_or_ge i g.length with hi | hi
          · rw [List.getElem?_append_left hi] at hu
            have := (hsat.blk_lt hu hb).2
            omega
          · have hi2 : i = g.length := by
              have := (List.getElem?_eq_some_iff.1 hu).1
              simp at this
              omega
            subst hi2
            simp at hu
            subst hu
            simp [blk] at hb
        · exact hm.each d hd
      · obtain ⟨D, q1, _, q3, _⟩ := hdef.each _ hd
        injection q1 with q1 _
        injection q1 with q1
        subst q1
        have := (Array.getElem?_eq_some_iff.1 q3).1
        omega
    have hle := (d1.trans hl3).trans t1
    have post : ∀ e, ExOK W4 im3 g3 (objs'.set objs.length (.loop 3 pd e2 ps2 as2 bd2)) (jmpEx pd) e → Q e { a with defers := { target := .collected w.heap.size, args := #[] } :: a.defers } W4 := fun e he =>
      by rw [hQ]; exact ⟨im3, g3, hle, t2, (m1.le hl3).le t1, hsat.monoL hle henv, he⟩
    rw [k3]
    cases pd with
    | none => exact post .normal rfl
    | some j => cases j with
      | none => exact wpIn_ret (post .ret rfl)
      | some id => exact wpIn_exit (post (.exit id) rfl)
  refine ⟨w.heap.size + 1, [{ target := .collected w.heap.size, args := #[] }], w1, { target := .fn (.func f) cv.toArray, args := (fv ++ [Value.func (.yield (w.heap.size + 1)) #[] #[]]).toArray }, w1, f, (fv ++ [Value.func (.yield (w.heap.size + 1)) #[] #[]] ++ cv).toArray, w1, ?_, ?_, fun _ _ => trivial, ?_, (fun hd => by cases hd), (wf_calls (ro := none) (n := 0)).2 hR⟩
  · rw [hw1]; exact run_enterLoop_outer _ _ _ _ _
  · have hc : a.eval (.const (.func (.yield (w.heap.size + 1)) #[] #[])) = .func (.yield (w.heap.size + 1)) #[] #[] := rfl
    simp [resolve, he, hc, Deferred.ofValue]
  · simp [invoke, run_callFunc hok]

theorem code_sound (ro : Option Nat) (rd : Bool) (hro : rd = false → ro = none) {lo : Lo} (hlo : rd = false → lo.rf = true) {po : Pol} {call : CallF} (hcall : CallSound P base call) (n : Nat) : ∀ (c : Code) (ic0 ic : IC), compC P c = some ic0 → Like ic0 ic → ∀ (env : Env) (objs : Objs) (st : Ex × Env × Objs), codeI po call rd n ic env objs = some st →
    ∀ (w : World) (im : Im) (g : List Value) (a : Act), Sat P base w im g objs → RepL w im g objs env a.tmps.toList → Marks lo w g a.defers → c.wpIn (WF ro) 0 P (Post P base lo w im g objs st) a w := by
  intro c
  induction c with
  | skip =>
    intro ic0 ic hc hlk env objs st h w im g a hsat henv hdef
    unfold compC at hc; injection hc with hc; subst hc
    cases hlk
    unfold codeI at h; injection h with h; subst h
    exact wpIn_skip ⟨im, g, Le.refl w im g objs, hsat, hdef, henv, rfl⟩
  | region id ops draw =>
    intro ic0 ic hc hlk env objs st h w im g a hsat henv hdef
    cases draw with
    | true =>
      unfold compC at hc
      split at hc
      case h_2 => injection hc with hc; subst hc; cases hlk; unfold codeI at h; cases h
      rename_i ios hi
      split at hc
      case isFalse => injection hc with hc; subst hc; cases hlk; unfold codeI at h; cases h
      rename_i hmix
      split at hc
      case h_2 => injection hc with hc; subst hc; cases hlk; unfold codeI at h; cases h
      rename_i ap hap
      injection hc with hc; subst hc
      cases hlk
      unfold codeI at h
      exact wpIn_region_any hmix (draw_sound ro hcall hi hap h hsat henv hdef)
    | false =>
      unfold compC at hc
      split at hc
      case h_2 => injection hc with hc; subst hc; cases hlk; unfold codeI at h; cases h
      rename_i ios hi
      injection hc with hc; subst hc
      cases hlk
      unfold codeI at h
      refine wpIn_region ?_
      rw [List.range_eq_range']
      have := reg_sound ro hcall ops.toList 0 ios env objs st (fun i o h => by simpa using h) hi h w im g a hsat henv hdef
      simpa using this
  | seq x y ihx ihy =>
    intro ic0 ic hc hlk env objs st h w im g a hsat henv hdef
    unfold compC at hc
    split at hc <;> first | (cases hc; done) | skip
    rename_i x' y' hx hy
    injection hc with hc; subst hc
    cases hlk with
    | seq l1 l2 =>
      unfold codeI at h
      refine wpIn_seq ?_
      split at h
      · rename_i env' objs' hb
        refine wpIn_mono (ihx x' _ hx l1 _ _ _ hb w im g a hsat henv hdef) ?_
        rintro e a' w' ⟨im', g', k1, k2, k3, k4, k5⟩
        have k5 : e = .normal := k5
        subst k5
        refine wpIn_mono (ihy y' _ hy l2 _ _ _ h w' im' g' a' k2 k4 k3) ?_
        rintro e a2 w2 ⟨im2, g2, q1, q2⟩
        exact ⟨im2, g2, k1.trans q1, q2⟩
      · rename_i hne
        refine wpIn_mono (ihx x' _ hx l1 _ _ _ h w im g a hsat henv hdef) ?_
        intro e a' w' post
        have post' := post
        obtain ⟨im', g', k1, k2, k3, k4, k5⟩ := post
        cases e with
        | normal =>
          exfalso
          obtain ⟨ex, env', objs'⟩ := st
          cases ex with
          | normal => exact hne env' objs' h
          | exit id => cases k5
          | ret => cases k5
          | panic p => obtain ⟨v, h, _⟩ := k5; cases h
        | exit id => exact post'
        | goto l => exact post'
        | ret => exact post'
        | panic ch => exact post'
        | outgrown => exact post'
  | cond x c1 c2 ih1 ih2 =>
    intro ic0 ic hc hlk env objs st h w im g a hsat henv hdef
    unfold compC at hc
    split at hc
    case h_2 => injection hc with hc; subst hc; cases hlk; unfold codeI at h; cases h
    rename_i y a1 a2 hx h1 h2
    injection hc with hc; subst hc
    cases hlk with
    | cond l1 l2 =>
      unfold codeI at h
      have hr := opnd_rep henv hx
      split at h <;> first | (cases h; done) | skip
      · rename_i hb
        exact wpIn_cond_true (rep_bool hb hr) (ih1 _ _ h1 l1 _ _ _ h w im g a hsat henv hdef)
      · rename_i hb
        exact wpIn_cond_false (rep_bool hb hr) (ih2 _ _ h2 l2 _ _ _ h w im g a hsat henv hdef)
  | block id b ih =>
    intro ic0 ic hc hlk env objs st h w im g a hsat henv hdef
    unfold compC at hc
    obtain ⟨b', hb, rfl⟩ := Option.map_eq_some_iff.1 hc
    cases hlk with
    | block l =>
      unfold codeI at h
      refine wpIn_block ?_
      split at h
      · rename_i id' env' objs' hx
        refine wpIn_mono (ih _ _ hb l _ _ _ hx w im g a hsat henv hdef) ?_
        rintro e a' w' ⟨im', g', k1, k2, k3, k4, k5⟩
        have k5 : e = .exit id' := k5
        subst k5
        by_cases hid : id' = id
        · rw [if_pos hid] at h
          injection h with h; subst h
          simp only [Exit.inBlock, if_pos hid]
          exact ⟨im', g', k1, k2, k3, k4, rfl⟩
        · rw [if_neg hid] at h
          injection h with h; subst h
          simp only [Exit.inBlock, if_neg hid]
          exact ⟨im', g', k1, k2, k3, k4, rfl⟩
      · rename_i hne
        refine wpIn_mono (ih _ _ hb l _ _ _ h w im g a hsat henv hdef) ?_
        intro e a' w' post
        have post' := post
        obtain ⟨im', g', k1, k2, k3, k4, k5⟩ := post
        cases e with
        | exit id' =>
          exfalso
          obtain ⟨ex, env', objs'⟩ := st
          cases ex with
          | normal => cases k5
          | exit id => exact hne _ env' objs' h
          | ret => cases k5
          | panic p => obtain ⟨v, h, _⟩ := k5; cases h
        | normal => exact post'
        | goto l => exact post'
        | ret => exact post'
        | panic ch => exact post'
        | outgrown => exact post'
  | loop b ih =>
    intro ic0 ic hc hlk env objs st h w im g a hsat henv hdef
    unfold compC at hc
    obtain ⟨b', hb, rfl⟩ := Option.map_eq_some_iff.1 hc
    cases hlk with
    | loop l =>
      unfold codeI at h
      refine wpIn_loop_rounds n ?_
      exact loop_sound ro (fun env objs st hx w im g a h1 h2 h3 => ih _ _ hb l env objs st hx w im g a h1 h2 h3) hsat.len _ n env objs st h w im g a (Le.refl w im g objs) hsat henv hdef
  | exit id =>
    intro ic0 ic hc hlk env objs st h w im g a hsat henv hdef
    unfold compC at hc; injection hc with hc; subst hc
    cases hlk
    unfold codeI at h; injection h with h; subst h
    exact wpIn_exit ⟨im, g, Le.refl w im g objs, hsat, hdef, henv, rfl⟩
  | ret =>
    intro ic0 ic hc hlk env objs st h w im g a hsat henv hdef
    unfold compC at hc; injection hc with hc; subst hc
    cases hlk
    unfold codeI at h; injection h with h; subst h
    exact wpIn_ret ⟨im, g, Le.refl w im g objs, hsat, hdef, henv, rfl⟩
  | refuse why =>
    intro ic0 ic hc hlk env objs st h w im g a hsat henv hdef
    unfold compC at hc; injection hc with hc; subst hc
    cases hlk
    unfold codeI at h; cases h
  | rangeFunc gg ps asc bdc iha ihb =>
    intro ic0 ic hc hlk env objs st h w im g a hsat henv hdef
    unfold compC at hc
    split at hc
    case h_2 => injection hc with hc; subst hc; cases hlk; unfold codeI at h; cases h
    rename_i x as0 bd0 hx has hbd
    injection hc with hc; subst hc
    cases hlk with
    | rf l1 l2 =>
      rename_i keep as bd
      unfold codeI at h
      split at h <;> first | (cases h; done) | skip
      rename_i hrd
      have hro := hro (by simpa using hrd)
      subst hro
      split at h <;> first | (cases h; done) | skip
      rename_i f first caps hf
      split at h <;> first | (cases h; done) | skip
      rename_i pv objs' hcl
      split at h <;> first | (cases h; done) | skip
      rename_i st2 pd e2 ps2 as2 bd2 hob
      split at h <;> first | (cases h; done) | skip
      rename_i hst
      injection h with h; subst h
      exact rf_sound (hlo (by simpa using hrd)) hcall hx has l1 hbd l2 hf hcl hob hst hsat henv hdef
  | _ =>
    intro ic0 ic hc hlk env objs st h
    simp only [compC] at hc
    injection hc with hc; subst hc
    cases hlk
    unfold codeI at h; cases h

/-! ### results, bodies, calls -/
theorem run_loadVar_box {t : TypeId} {sz : Option Nat} (hz : lszOf P t = some sz) {b q : Nat} {v : PV} (h : (sz = none ∧ ∃ u, w.cell? ⟨b, q, none⟩ = some u ∧ Rep w im g objs v u) ∨ ∃ n ps us, sz = some n ∧ v = .agg ps ∧ us.length = n ∧ (∀ (j : Nat) u, us[j]? = some u → w.cell? ⟨b, q + j, none⟩ = some u) ∧ RepL w im g objs ps us) :
    ∃ u, (loadVar t ⟨b, q, none⟩).run P w = .ok u w ∧ Rep w im g objs v u := by
  rcases lszOf_cases hz with ⟨rfl, ha⟩ | ⟨n, rfl, ha, hs⟩
  · rcases h with ⟨_, u, hu, hr⟩ | ⟨_, _, _, hn, _⟩
    · exact ⟨u, by simp [loadVar, run_isAgg' ha, hu], hr⟩
    · cases hn
  · rcases h with ⟨hn, _⟩ | ⟨n', ps, us, hn, rfl, hl, hc, hr⟩
    · cases hn
    · injection hn with hn; subst hn
      refine ⟨.agg us.toArray, ?_, by unfold Rep; exact ⟨us, rfl, hr⟩⟩
      have := run_loadCells_list (P := P) w ⟨b, q, none⟩ us (fun j u hu => by rw [Addr.add_lit]; exact hc j u hu)
      rw [hl] at this
      simp [loadVar, run_isAgg' ha, run_sizeOf' hs, this]
theorem res_sound (hsat : Sat P base w im g objs) (henv : RepL w im g objs env a.tmps.toList) : ∀ {rv : List ResultVar} {rs : List ResI} {vs : List PV}, compRes P rv = some rs → resI env objs rs = some vs → ∃ us : List Value, (rv.mapM (m := Sem) fun
    | .tmp t => pure (a.tmps.getD t undef)
    | .cell q t => do loadVar t (← asAddr (a.tmps.getD q undef))).run P w = .ok us w ∧ RepL w im g objs vs us
  | [], rs, vs, hc, hr => by
    unfold compRes at hc; injection hc with hc; subst hc
    unfold resI at hr; injection hr with hr; subst hr
    exact ⟨[], rfl, trivial⟩
  | .tmp t :: r, rs, vs, hc, hr => by
    unfold compRes at hc
    obtain ⟨rs', hrs, rfl⟩ := Option.map_eq_some_iff.1 hc
    unfold resI at hr
    split at hr <;> first | (cases hr; done) | skip
    rename_i vs' hv
    injection hr with hr; subst hr
    obtain ⟨us, h1, h2⟩ := res_sound hsat henv hrs hv
    have ht := opnd_rep henv (x := .tmp t) (y := .t t) rfl
    refine ⟨a.tmps.getD t undef :: us, ?_, ht, h2⟩
    simp only [List.mapM_cons, Sem.run_bind, Sem.run_pure, Result.andThen_ok]
    rw [h1]
    rfl
  | .cell q t :: r, rs, vs, hc, hr => by
    unfold compRes at hc
    split at hc <;> first | (cases hc; done) | skip
    rename_i sz rs' hz hrs
    injection hc with hc; subst hc
    unfold resI at hr
    split at hr <;> first | (cases hr; done) | skip
    rename_i id off hx
    split at hr <;> first | (cases hr; done) | skip
    rename_i ty cs vs' hid hv
    have hid' := getD_some hid (by simp)
    obtain ⟨us, h1, h2⟩ := res_sound hsat henv hrs hv
    have ht := opnd_rep henv (x := .tmp q) (y := .t q) rfl
    have hx' : opnd env (.t q) = .box id off := hx
    rw [hx'] at ht
    unfold Rep at ht
    obtain ⟨k, hg, he⟩ := ht
    have he : a.tmps.getD q undef = _ := he
    have hok := hsat.obj id _ _ hid' hg
    unfold ObjOK at hok
    obtain ⟨k', cur, hk, hb, hh, hrr, _⟩ := hok
    injection hk with hk; injection hk with hk; injection hk with hk; subst hk
    have hlen := hrr.length
    have fin : ∀ v, ((sz = none ∧ cs[off]? = some v) ∨ ∃ n, sz = some n ∧ off + n ≤ cs.length ∧ v = .agg ((cs.drop off).take n)) → vs = v :: vs' → ∃ us : List Value, ((ResultVar.cell q t :: r).mapM (m := Sem) fun
        | .tmp t => pure (a.tmps.getD t undef)
        | .cell q t => do loadVar t (← asAddr (a.tmps.getD q undef))).run P w = .ok us w ∧ RepL w im g objs vs us := by
      intro v hv hvs
      subst hvs
      obtain ⟨u, hu, hru⟩ := run_loadVar_box (P := P) (im := im) (g := g) (objs := objs) hz (b := k) (q := off) (v := v) (by
        rcases hv with ⟨hn, hv⟩ | ⟨n, hn, hl, rfl⟩
        · obtain ⟨u, hu, hru⟩ := hrr.get hv
          refine .inl ⟨hn, u, ?_, hru⟩
          rw [cell_of_row w k off cur ty (0, 0) hh]
          simpa using hu
        · refine .inr ⟨n, _, (cur.toList.drop off).take n, hn, rfl, ?_, fun j u hu => ?_, (hrr.drop _).take _⟩
          · simp only [List.length_take, List.length_drop]; omega
          · rw [cell_of_row w k (off + j) cur ty (0, 0) hh]
            rw [List.getElem?_take] at hu
            split at hu
            · rw [List.getElem?_drop] at hu
              simpa using hu
            · cases hu)
      refine ⟨u :: us, ?_, hru, h2⟩
      have hload : (do loadVar t (← asAddr (a.tmps.getD q undef)) : Sem Value).run P w = .ok u w := by
        rw [he]; simp [asAddr, hu]
      rw [List.mapM_cons, Sem.run_bind]
      show ((do loadVar t (← asAddr (a.tmps.getD q undef)) : Sem Value).run P w).andThen _ = _
      rw [hload, Result.andThen_ok, Sem.run_bind, h1]
      rfl
    split at hr
    · split at hr <;> first | (cases hr; done) | skip
      injection hr with hr
      exact fin _ (.inl ⟨rfl, by assumption⟩) hr.symm
    · split at hr <;> first | (cases hr; done) | skip
      injection hr with hr
      exact fin _ (.inr ⟨_, rfl, by assumption, rfl⟩) hr.symm
theorem tup_rep {vs : List PV} {us : List Value} (h : RepL w im g objs vs us) : Rep w im g objs (tupI vs) (if h : us.toArray.size = 1 then us.toArray[0] else .tuple us.toArray) := by
  match vs, us, h with
  | [], [], _ => unfold tupI Rep; exact ⟨[], rfl, trivial⟩
  | [v], [u], h => exact h.1
  | v :: v2 :: r, u :: u2 :: s, h =>
    rw [dif_neg (by simp)]
    unfold tupI
    simp only
    unfold Rep
    exact ⟨_, rfl, h⟩
  | [_], _ :: _ :: _, h => exact h.2.elim
  | _ :: _ :: _, [_], h => exact h.2.elim
  | [], _ :: _, h => exact h.elim
  | _ :: _, [], h => exact h.elim
theorem results_run {fn : Func} {us : List Value} (h : (fn.results.toList.mapM (m := Sem) fun
    | .tmp t => pure (a.tmps.getD t undef)
    | .cell q t => do loadVar t (← asAddr (a.tmps.getD q undef))).run P w = .ok us w) : (results fn a.tmps).run P w = .ok (if h : us.toArray.size = 1 then us.toArray[0] else .tuple us.toArray) w := by
  unfold results
  rw [Sem.run_bind, Array.mapM_eq_mapM_toList, Sem.run_map]
  exact Eq.trans (congrArg (fun r : Result (List Value) => (r.andThen fun a w' => Result.ok a.toArray w').andThen fun a w' => Sem.run P (pure (if h : a.size = 1 then a[0] else Value.tuple a)) w') h) rfl

structure CtxOK (P : Program) (base : Nat) (K : Ctx) : Prop where
  dfn : ∀ f fd, K.dfn f = some fd → compD P f = some fd ∧ ∀ fn, P.funcs[f]? = some fn → fn.name ≠ "runtime.NumGoroutine"
  fn : ∀ f fi, K.fn f = some fi → compF P f = some fi ∧ ∀ fn, P.funcs[f]? = some fn → fn.name ≠ "runtime.NumGoroutine"
  sum : ∀ f s, K.sum f = some s → ∀ args objs out objs', s args objs = some (out, objs') → ∀ w im g vargs, Sat P base w im g objs → RepL w im g objs args vargs →
    okFn P f ∧ Calls P f vargs.toArray w fun e w' => ∃ im' g', Le w im g objs w' im' g' objs' ∧ Sat P base w' im' g' objs' ∧ OutOK w' im' g' objs' out e
  ext : ∀ f s, K.ext f = some s → ∀ args objs out objs', s args objs = some (out, objs') → ∀ w im g vargs, Sat P base w im g objs → RepL w im g objs args vargs →
    Goes P (.ext f) vargs w fun e w' => ∃ im' g', Le w im g objs w' im' g' objs' ∧ Sat P base w' im' g' objs' ∧ OutOK w' im' g' objs' out e

/-! ### a function's end -/
theorem fin_sound {fn : Func} {fi : FnI} (hrs : compRes P fn.results.toList = some fi.res) {st : Ex × Env × Objs} {out : Out} (h : finI fi (some st) = some (out, objs')) {w0 : World} {im0 : Im} {g0 : List Value} {objs0 : Objs} (hl0 : Le w0 im0 g0 objs0 w im g objs) {e : Exit} {a' : Act} (post : Post P base ⟨w0.heap.size, [], true⟩ w im g objs st e a' w') :
    bodyPostM (WF none) 0 P fn (fun e w' => ∃ im' g', Le w0 im0 g0 objs0 w' im' g' objs' ∧ Sat P base w' im' g' objs' ∧ OutOK w' im' g' objs' out e) e a' w' := by
  obtain ⟨im', g', k1, k2, ⟨ms, hms, k3, _⟩, k4, k5⟩ := post
  obtain ⟨ex, env', objs2⟩ := st
  simp only [List.append_nil] at hms
  subst hms
  simp only at k1 k2 k4 k5
  have hl := hl0.trans k1
  have ret : (match resI env' objs2 fi.res with | some vs => some (Out.ret (tupI vs), objs2) | none => none) = some (out, objs') → LeavesInM (WF none) 0 P fn a'.tmps (fun e w' => ∃ im' g', Le w0 im0 g0 objs0 w' im' g' objs' ∧ Sat P base w' im' g' objs' ∧ OutOK w' im' g' objs' out e) a'.defers .returning w' := by
    intro h
    split at h <;> first | (cases h; done) | skip
    rename_i vs hvs
    injection h with h; injection h with h1 h2; subst h1 h2
    have := leaves_marks (tl := []) (fn := fn) (R := fun e w' => ∃ im' g', Le w0 im0 g0 objs0 w' im' g' objs2 ∧ Sat P base w' im' g' objs2 ∧ OutOK w' im' g' objs2 (.ret (tupI vs)) e) (u := .returning) (by simp) (Nat.le_refl _) (p := .any) (pv := undef) a'.defers w' hl k2 k3 k4 trivial (fun w2 q1 q2 q3 _ => by
      obtain ⟨us, r1, r2⟩ := res_sound q2 q3 hrs hvs
      exact ⟨_, results_run r1, im', g', q1, q2, _, rfl, tup_rep r2⟩)
    simpa using this
  cases ex with
  | normal =>
    have k5 : e = .normal := k5
    subst k5
    exact ret h
  | ret =>
    have k5 : e = .ret := k5
    subst k5
    exact ret h
  | panic p =>
    obtain ⟨v, rfl, hr⟩ := k5
    injection h with h; injection h with h1 h2; subst h1 h2
    have := leaves_marks (tl := []) (fn := fn) (R := fun e w' => ∃ im' g', Le w0 im0 g0 objs0 w' im' g' objs2 ∧ Sat P base w' im' g' objs2 ∧ OutOK w' im' g' objs2 (.panic p) e) (u := .panicking [{ v := v, recovered := false }]) (by simp) (Nat.le_refl _) a'.defers w' hl k2 k3 k4 hr (fun w2 q1 q2 _ q4 => ⟨im', g', q1, q2, v, rfl, q4⟩)
    rw [List.append_nil] at this
    exact this
  | exit id => cases h
theorem uponIn_mono2 {F : Fence} {n : Nat} {next next' : Act → World → Prop} {Q Q' : Exit → Act → World → Prop} (hn : ∀ a w, next a w → next' a w) (hq : ∀ e a w, e ≠ .normal → Q e a w → Q' e a w) (r : Result Next) (h : o.uponIn F n P a next Q r) : o.uponIn F n P a next' Q' r := by
  cases r with
  | ok x w' =>
    cases x <;> simp only [Oper.uponIn] at h ⊢ <;> first
      | exact hn _ _ h
      | exact ⟨h.1, CallsIn.mono h.2 (fun e w'' hx => by cases e with | returned v => exact hn _ _ hx | panicked c => exact hq _ _ _ (by simp) hx | outgrown => obtain ⟨a2, w2, h2⟩ := hx; exact ⟨a2, w2, hq _ _ _ (by simp) h2⟩)⟩
      | exact ⟨h.1, RoundIn.mono h.2 (fun e w'' hx => by cases e with | returned v => exact hn _ _ hx | panicked c => exact hq _ _ _ (by simp) hx | outgrown => obtain ⟨a2, w2, h2⟩ := hx; exact ⟨a2, w2, hq _ _ _ (by simp) h2⟩)⟩
      | exact ⟨h.1, RowsIn.mono h.2 (fun _ _ hx => hn _ _ hx)⟩
  | halt x w' => cases x <;> simp only [Oper.uponIn] at h ⊢ <;> first | exact hq _ _ _ (by simp) h | exact h
theorem wpOpsIn_app {F : Fence} {n : Nat} {ops : Array Oper} {Q : Exit → Act → World → Prop} (l2 : List Nat) : ∀ {l1 : List Nat} {a : Act} {w : World}, wpOpsIn F n P ops (fun e a w => match e with | .normal => wpOpsIn F n P ops Q l2 a w | e => Q e a w) l1 a w → wpOpsIn F n P ops Q (l1 ++ l2) a w := by
  intro l1
  induction l1 with
  | nil => intro a w h; exact h
  | cons i r ih =>
    intro a w h
    rw [List.cons_append]
    unfold wpOpsIn at h ⊢
    split at h
    · exact ih h
    · split at h
      · rename_i hw
        rw [if_pos hw]
        refine ⟨h.1, uponIn_mono2 (fun _ _ => ih) (fun e a w he hq => ?_) _ h.2⟩
        cases e <;> first | (exact (he rfl).elim) | exact hq
      · rename_i hw
        rw [if_neg hw]
        exact ⟨h.1, ih h.2⟩
/-- The deferred call at a function's end. -/
theorem defer_sound {po : Pol} {call : CallF} (hcall : CallSound P base call) {fn : Func} {fi : FnI} (hrs : compRes P fn.results.toList = some fi.res) {f : FuncId} {vals : List PV} {st : Ex × Env × Objs} {out : Out} (h : deferI po call fi f vals (some st) = some (out, objs')) {w0 : World} {im0 : Im} {g0 : List Value} {objs0 : Objs} (hl0 : Le w0 im0 g0 objs0 w im g objs)
    (hsat : Sat P base w im g objs) {ms : List Deferred} (hm0 : Marks0 w0.heap.size w g ms) {fv cv : List Value} {args : List Value} (hv : RepL w im g objs vals (fv ++ args ++ cv)) {e : Exit} {a' : Act}
    (post : Post P base ⟨w.heap.size, { target := .fn (.func f) cv.toArray, args := fv.toArray ++ args.toArray } :: ms, true⟩ w im g objs st e a' w') :
    bodyPostM (WF none) 0 P fn (fun e w' => ∃ im' g', Le w0 im0 g0 objs0 w' im' g' objs' ∧ Sat P base w' im' g' objs' ∧ OutOK w' im' g' objs' out e) e a' w' := by
  obtain ⟨im1, g1, k1, k2, ⟨ms1, hms, k3, _⟩, k4, k5⟩ := post
  obtain ⟨ex, env1, objs1⟩ := st
  simp only at k1 k2 k4 k5 hms
  /- behind the deferred call: the older marks, the results -/
  have back : ∀ (w2 : World) (im2 : Im) (g2 : List Value) (objs2 : Objs), Le w im g objs w2 im2 g2 objs2 → Sat P base w2 im2 g2 objs2 → RepL w2 im2 g2 objs2 env1 a'.tmps.toList → (match resI env1 objs2 fi.res with | some vs => some (Out.ret (tupI vs), objs2) | none => none) = some (out, objs') →
      LeavesInM (WF none) 0 P fn a'.tmps (fun e w' => ∃ im' g', Le w0 im0 g0 objs0 w' im' g' objs' ∧ Sat P base w' im' g' objs' ∧ OutOK w' im' g' objs' out e) ms .returning w2 := by
    intro w2 im2 g2 objs2 q1 q2 q3 h
    split at h <;> first | (cases h; done) | skip
    rename_i vs hvs
    injection h with h; injection h with h1 h2; subst h1 h2
    have := leaves_marks (tl := []) (fn := fn) (R := fun e w' => ∃ im' g', Le w0 im0 g0 objs0 w' im' g' objs2 ∧ Sat P base w' im' g' objs2 ∧ OutOK w' im' g' objs2 (.ret (tupI vs)) e) (u := .returning) (by simp) (Nat.le_refl _) (p := .any) (pv := undef) ms w2 (hl0.trans q1) q2 (hm0.le q1) q3 trivial (fun w3 p1 p2 p3 _ => by
      obtain ⟨us, r1, r2⟩ := res_sound p2 p3 hrs hvs
      exact ⟨_, results_run r1, im2, g2, p1, p2, _, rfl, tup_rep r2⟩)
    simpa using this
  have ret : (match doCall po call (.dfn f false) vals objs1 with
      | some (.ret _, objs') => (match resI env1 objs' fi.res with | some vs => some (Out.ret (tupI vs), objs') | none => none)
      | _ => none) = some (out, objs') → LeavesInM (WF none) 0 P fn a'.tmps (fun e w' => ∃ im' g', Le w0 im0 g0 objs0 w' im' g' objs' ∧ Sat P base w' im' g' objs' ∧ OutOK w' im' g' objs' out e) a'.defers .returning w' := by
    intro h
    split at h <;> first | (cases h; done) | skip
    rename_i pv objs2 hd
    rw [hms]
    refine leaves_marks (by simp) (Nat.le_refl _) (p := .any) (pv := undef) ms1 w' k1 k2 k3 k4 trivial (fun w2 q1 q2 q3 _ => ?_)
    obtain ⟨hok, hc⟩ := doCall_sound hcall hd q2 (hsat.monoL q1 hv)
    refine ⟨by simp, .inr ⟨(fun h => by cases h), .func f, cv.toArray, f, (fv ++ args ++ cv).toArray, rfl, ?_, fun _ _ => trivial, ?_⟩⟩
    · show (callFunc f (fv.toArray ++ args.toArray ++ cv.toArray)).run P w2 = _
      rw [run_callFunc hok]
      simp
    · refine CallsDIn.mono hc ?_
      rintro e u' w3 ⟨⟨v, rfl⟩, rfl, im3, g3, p1, p2, _⟩
      exact back w3 im3 g3 objs2 (q1.trans p1) p2 (q2.monoL p1 q3) h
  cases ex with
  | normal =>
    have k5 : e = .normal := k5
    subst k5
    exact ret h
  | ret =>
    have k5 : e = .ret := k5
    subst k5
    exact ret h
  | panic p =>
    obtain ⟨v, rfl, hr⟩ := k5
    unfold deferI at h
    simp only at h
    split at h <;> first | (cases h; done) | skip
    rename_i pv objs2 hd
    show LeavesInM (WF none) 0 P fn a'.tmps _ a'.defers (.panicking [{ v := v, recovered := false }]) w'
    rw [hms]
    refine leaves_marks (by simp) (Nat.le_refl _) ms1 w' k1 k2 k3 k4 hr (fun w2 q1 q2 q3 q4 => ?_)
    obtain ⟨hok, vp, rest, hvr, hc⟩ := doCall_sound hcall hd q2 (vargs := v :: (fv ++ args ++ cv)) ⟨q4, hsat.monoL q1 hv⟩
    injection hvr with e1 e2
    subst e1 e2
    refine ⟨by simp, .inr ⟨(fun h => by cases h), .func f, cv.toArray, f, (fv ++ args ++ cv).toArray, rfl, ?_, fun _ _ => trivial, ?_⟩⟩
    · show (callFunc f (fv.toArray ++ args.toArray ++ cv.toArray)).run P w2 = _
      rw [run_callFunc hok]
      simp
    · refine CallsDIn.mono hc ?_
      rintro e u' w3 ⟨⟨v3, rfl⟩, rfl, im3, g3, p1, p2, _⟩
      exact back w3 im3 g3 objs2 (q1.trans p1) p2 (q2.monoL p1 q3) h
  | exit id => cases h
theorem evalB_sound {po : Pol} {call : CallF} (hcall : CallSound P base call) (n : Nat) {fn : Func} {fi : FnI} (hrs : compRes P fn.results.toList = some fi.res) {w0 : World} {im0 : Im} {g0 : List Value} {objs0 : Objs} {out : Out} : ∀ (c : Code) (ib0 ib : IB), compB P c = some ib0 → LikeB ib0 ib → ∀ (env : Env) (objs : Objs), evalB po call n fi ib env objs = some (out, objs') →
    ∀ (w : World) (im : Im) (g : List Value) (a : Act), Le w0 im0 g0 objs0 w im g objs → Sat P base w im g objs → RepL w im g objs env a.tmps.toList → Marks ⟨w0.heap.size, [], true⟩ w g a.defers →
      c.wpIn (WF none) 0 P (bodyPostM (WF none) 0 P fn (fun e w' => ∃ im' g', Le w0 im0 g0 objs0 w' im' g' objs' ∧ Sat P base w' im' g' objs' ∧ OutOK w' im' g' objs' out e)) a w := by
  have plain : ∀ (c : Code) (c0 ic : IC), compC P c = some c0 → Like c0 ic → ∀ (env : Env) (objs : Objs), finI fi (codeI po call false n ic env objs) = some (out, objs') →
      ∀ (w : World) (im : Im) (g : List Value) (a : Act), Le w0 im0 g0 objs0 w im g objs → Sat P base w im g objs → RepL w im g objs env a.tmps.toList → Marks ⟨w0.heap.size, [], true⟩ w g a.defers →
        c.wpIn (WF none) 0 P (bodyPostM (WF none) 0 P fn (fun e w' => ∃ im' g', Le w0 im0 g0 objs0 w' im' g' objs' ∧ Sat P base w' im' g' objs' ∧ OutOK w' im' g' objs' out e)) a w := by
    intro c c0 ic hc hlk env objs h w im g a hl hsat henv hm
    cases hcode : codeI po call false n ic env objs with
    | none => rw [hcode] at h; cases h
    | some st =>
      rw [hcode] at h
      exact wpIn_mono (code_sound none false (fun _ => rfl) (fun _ => rfl) hcall n c c0 ic hc hlk _ _ _ hcode w im g a hsat henv hm) (fun e a' w' post => fin_sound hrs h hl post)
  intro c
  induction c with
  | seq x y ihx ihy =>
    intro ib0 ib hc hlk env objs h w im g a hl hsat henv hm
    unfold compB at hc
    split at hc
    · /- a deferred call -/
      rename_i ios gg args hd
      split at hc <;> first | (cases hc; done) | skip
      rename_i rest hrest
      injection hc with hc; subst hc
      cases hlk with
      | dfr hlr =>
      rename_i rest'
      unfold evalB at h
      split at h <;> first | (cases h; done) | skip
      rename_i env1 objs1 hreg
      split at h <;> first | (cases h; done) | skip
      rename_i f first caps hf
      unfold deferAt at hd
      split at hd <;> first | (cases hd; done) | skip
      rename_i id ops
      split at hd <;> first | (cases hd; done) | skip
      rename_i o r hrev
      split at hd <;> first | (cases hd; done) | skip
      rename_i cl ho hog hod
      split at hd <;> first | (cases hd; done) | skip
      rename_i xf hcal
      split at hd <;> first | (cases hd; done) | skip
      rename_i ios2 g2 args2 hios hg2 hargs2
      injection hd with hd; injection hd with d1 hd; injection hd with d2 d3
      subst d1 d2 d3
      have hops : ops.toList = r.reverse ++ [o] := by
        have := congrArg List.reverse hrev
        simpa using this
      have hsz : ops.size = r.reverse.length + 1 := by
        rw [← Array.length_toList, hops]; simp
      have hok : ops[r.reverse.length]? = some o := by
        rw [← Array.getElem?_toList, hops]; simp
      refine wpIn_seq (wpIn_region ?_)
      rw [hsz, List.range_succ, List.range_eq_range']
      refine wpOpsIn_app _ ?_
      refine wpOpsIn_mono' ?_ (reg_sound none hcall r.reverse 0 _ env objs _ (fun i o' hi => by
        rw [Nat.zero_add, ← Array.getElem?_toList, hops]
        rw [List.getElem?_append_left (List.getElem?_eq_some_iff.1 hi).1]
        exact hi) hios hreg w im g a hsat henv hm)
      rintro e a1 w1 ⟨im1, g1, k1, k2, k3, k4, k5⟩
      have k5 : e = .normal := k5
      subst k5
      simp only at k1 k2 k4
      /- the deferred call is noted -/
      have rg := opnd_rep k4 hg2
      rw [hf] at rg
      unfold Rep at rg
      obtain ⟨fv, cv, hev, r1, r2⟩ := rg
      have ra := opnds_rep k4 hargs2
      have hrun : (execOp a1.eval o).run P w1 = .ok (.defer { target := .fn (.func f) cv.toArray, args := fv.toArray ++ (cl.args.toList.map a1.eval).toArray }) w1 := by
        simp only [execOp, ho, resolve, hcal, Deferred.ofValue, hev, Sem.run_bind, Sem.run_pure, Result.andThen_ok]
        congr 3
        congr 1
        apply Array.toList_inj.1
        simp
      show wpOpsIn (WF none) 0 P ops _ [r.reverse.length] a1 w1
      unfold wpOpsIn
      rw [hok]
      simp only
      have hwt : Region.wanted o (yielded ops a1.tmps) = true := by unfold Region.wanted; rw [hog]
      rw [hwt]
      simp only [if_true]
      refine ⟨fun _ _ => trivial, ?_⟩
      show o.uponIn (WF none) 0 P a1 _ _ ((Oper.semAt none a1.eval o).run P w1)
      rw [Oper.semAt_none, hrun, Oper.uponIn_defer, hod]
      unfold wpOpsIn
      obtain ⟨ms, hms, m0, _⟩ := k3
      simp only [List.append_nil] at hms
      cases hcode : codeI po call false n rest' env1 objs1 with
      | none => rw [hcode] at h; cases h
      | some st =>
        rw [hcode] at h
        refine wpIn_mono (code_sound none false (fun _ => rfl) (lo := ⟨w1.heap.size, { target := .fn (.func f) cv.toArray, args := fv.toArray ++ (cl.args.toList.map a1.eval).toArray } :: ms, true⟩) (fun _ => rfl) hcall n y rest rest' hrest hlr _ _ _ hcode w1 im1 g1 { a1 with defers := { target := .fn (.func f) cv.toArray, args := fv.toArray ++ (cl.args.toList.map a1.eval).toArray } :: a1.defers } k2 k4 ⟨[], by rw [hms]; rfl, ⟨Nat.le_refl _, by simp, List.nodup_nil⟩, fun _ => rfl⟩) ?_
        intro e a' w' post
        exact defer_sound hcall hrs h (hl.trans k1) k2 m0 ((r1.app ra).app r2) post
    · /- none yet -/
      split at hc
      · split at hc <;> first | (cases hc; done) | skip
        rename_i cc hcc
        injection hc with hc; subst hc
        cases hlk with
        | plain hlp => exact plain _ _ _ hcc hlp env objs h w im g a hl hsat henv hm
      · rename_i r0 hnp hr0
        split at hc <;> first | (cases hc; done) | skip
        rename_i x0 hx0
        injection hc with hc; subst hc
        cases hlk with
        | seq l1 l2 =>
          rename_i x1 r1
          unfold evalB at h
          refine wpIn_seq ?_
          cases hcode : codeI po call false n x1 env objs with
          | none => rw [hcode] at h; cases h
          | some st =>
            obtain ⟨ex, env1, objs1⟩ := st
            rw [hcode] at h
            refine wpIn_mono (code_sound none false (fun _ => rfl) (fun _ => rfl) hcall n x x0 x1 hx0 l1 _ _ _ hcode w im g a hsat henv hm) ?_
            intro e a1 w1 post
            cases ex with
            | normal =>
              simp only at h
              obtain ⟨im1, g1, k1, k2, k3, k4, k5⟩ := post
              have k5 : e = .normal := k5
              subst k5
              exact ihy _ _ hr0 l2 env1 objs1 h w1 im1 g1 a1 (hl.trans k1) k2 k4 k3
            | exit id => simp only at h; cases h
            | ret =>
              simp only at h
              have hb := fin_sound hrs h hl post
              obtain ⟨im1, g1, k1, k2, k3, k4, k5⟩ := post
              have k5 : e = .ret := k5
              subst k5
              exact hb
            | panic p =>
              simp only at h
              have hb := fin_sound hrs h hl post
              obtain ⟨im1, g1, k1, k2, k3, k4, v, rfl, _⟩ := post
              exact hb
      · cases hc
  | _ =>
    intro ib0 ib hc hlk env objs h
    unfold compB at hc
    split at hc <;> first | (cases hc; done) | skip
    rename_i cc hcc
    injection hc with hc; subst hc
    cases hlk with
    | plain hlp => exact plain _ _ _ hcc hlp env objs h
theorem body_sound {po : Pol} {call : CallF} (hcall : CallSound P base call) (n : Nat) {f : FuncId} {fi : FnI} (hc : compF P f = some fi) (hname : ∀ fn, P.funcs[f]? = some fn → fn.name ≠ "runtime.NumGoroutine") {args : List PV} {objs objs' : Objs} {out : Out} (h : bodyI po call n fi args objs = some (out, objs')) {w : World} {im : Im} {g : List Value} {vargs : List Value} (hsat : Sat P base w im g objs) (hargs : RepL w im g objs args vargs) :
    okFn P f ∧ Calls P f vargs.toArray w fun e w' => ∃ im' g', Le w im g objs w' im' g' objs' ∧ Sat P base w' im' g' objs' ∧ OutOK w' im' g' objs' out e := by
  unfold compF at hc
  split at hc <;> first | (cases hc; done) | skip
  rename_i fn hfn
  split at hc <;> first | (cases hc; done) | skip
  rename_i c hbody
  split at hc <;> first | (cases hc; done) | skip
  rename_i b rs hb hrs
  injection hc with hc
  refine ⟨⟨fn, c, hfn, hbody, hname fn hfn⟩, ?_⟩
  have hres : fi.res = rs := by rw [← hc]
  have hbd : fi.body = annotB (resT rs) b := by rw [← hc]
  have hnp : fi.nt = fn.ntmps := by rw [← hc]
  unfold bodyI at h
  split at h <;> first | (cases h; done) | skip
  rename_i hlen
  refine wf_calls.1 (callsIn_of_wp_marks (F := WF none) (n := 0) hfn hbody trivial ?_)
  have henv : RepL w im g objs (args ++ List.replicate (fi.nt - args.length) .any) ({ tmps := vargs.toArray ++ Array.replicate (fn.ntmps - vargs.toArray.size) undef, defers := [] } : Act).tmps.toList := by
    have hl := hargs.length
    rw [hnp]
    simp only [Array.toList_append, Array.toList_replicate, List.size_toArray]
    refine hargs.app ?_
    rw [← hl]
    rw [RepL_iff]
    refine ⟨by simp, fun i p v hp hv => ?_⟩
    have := List.mem_of_getElem? hp
    rw [(List.mem_replicate.1 this).2]
    trivial
  exact evalB_sound hcall n (by rw [hres]; exact hrs) c b _ hb (by rw [hbd]; exact like_annotB _ _) _ _ h w im g _ (Le.refl _ _ _ _) hsat henv ⟨[], rfl, ⟨Nat.le_refl _, by simp, List.nodup_nil⟩, fun _ => rfl⟩
/-! ### a deferred function -/
theorem movs_sound {ops : Array Oper} {Q : Exit → Act → List Frame → World → Prop} : ∀ (r : List Oper) (ms : List (Option Nat × Opnd)) (k : Nat), movsC r = some ms → (∀ (i : Nat) o, r[i]? = some o → ops[k + i]? = some o) → ∀ (env : Env) (a : Act) (cs : List Frame), RepL w im g objs env a.tmps.toList → (∀ a' : Act, RepL w im g objs (movsI ms env) a'.tmps.toList → a'.defers = a.defers → Q .normal a' cs w) → wpOpsSIn (WF none) 0 P ops Q (List.range' k r.length) a cs w
  | [], ms, k, hm, _, env, a, cs, henv, hq => by
    unfold movsC at hm
    injection hm with hm; subst hm
    exact hq a henv rfl
  | o :: r, ms, k, hm, hops, env, a, cs, henv, hq => by
    have key : ∀ (x : Operand) (y : Opnd) (ms' : List (Option Nat × Opnd)), (execOp a.eval o).run P w = .ok (.value (a.eval x)) w → o.guard = none → opndI x = some y → movsC r = some ms' → ms = (o.dst, y) :: ms' → wpOpsSIn (WF none) 0 P ops Q (List.range' k (r.length + 1)) a cs w := by
      intro x y ms' hrun hg hy hms he
      subst he
      rw [List.range'_succ]
      unfold wpOpsSIn
      have h0 : ops[k]? = some o := hops 0 o rfl
      rw [h0]
      simp only
      refine ⟨fun _ _ => trivial, ?_⟩
      have hw : Region.wanted o (yielded ops a.tmps) = true := by unfold Region.wanted; rw [hg]
      rw [hw, hrun]
      simp only [if_true]
      obtain ⟨p1, p2⟩ := put_rep henv o.dst (opnd_rep henv hy)
      exact movs_sound r ms' (k + 1) hms (fun i o' h => by
        have := hops (i + 1) o' (by simpa using h)
        rwa [show k + (i + 1) = k + 1 + i from by omega] at this) _ _ cs p1 (fun a' h1 h2 => hq a' h1 (h2.trans p2))
    unfold movsC at hm
    split at hm
    · rename_i x ms' ho hg hms
      split at hm <;> first | (cases hm; done) | skip
      rename_i y hy
      injection hm with hm
      exact key x y ms' (by simp [execOp, ho]) hg hy hms hm.symm
    · rename_i x ms' ho hg hms
      split at hm <;> first | (cases hm; done) | skip
      rename_i y hy
      injection hm with hm
      exact key x y ms' (by simp [execOp, ho]) hg hy hms hm.symm
    · cases hm
theorem bodyD_sound {po : Pol} {call : CallF} (hcall : CallSound P base call) (n : Nat) {f : FuncId} {fd : FnD} (hc : compD P f = some fd) (hname : ∀ fn, P.funcs[f]? = some fn → fn.name ≠ "runtime.NumGoroutine") {rv : PV} {args : List PV} {objs objs' : Objs} {out : Out} (h : bodyD po call n fd rv args objs = some (out, objs'))
    {w : World} {im : Im} {g : List Value} {vargs : List Value} (hsat : Sat P base w im g objs) (hargs : RepL w im g objs args vargs) {vr : Value} (hvr : Rep w im g objs rv vr) {u u' : FrameMode} (hrec : ∀ (c₀ : Frame) (cs : List Frame), c₀.mode = u → recoverD (c₀ :: cs) = some (vr, { c₀ with mode := u' } :: cs) ∨ (recoverD (c₀ :: cs) = none ∧ vr = .nilIface ∧ u' = u)) :
    okFn P f ∧ CallsDIn (WF none) 0 P f vargs.toArray u w fun e u2 w' => (∃ v, e = .returned v) ∧ u2 = u' ∧ ∃ im' g', Le w im g objs w' im' g' objs' ∧ Sat P base w' im' g' objs' ∧ OutOK w' im' g' objs' out (.returned (.tuple #[])) := by
  unfold compD at hc
  split at hc <;> first | (cases hc; done) | skip
  rename_i fn hfn
  split at hc <;> first | (cases hc; done) | skip
  rename_i id ops rest hbody
  split at hc <;> first | (cases hc; done) | skip
  rename_i o r c hopl hres hrest
  split at hc <;> first | (cases hc; done) | skip
  rename_i cargs tys ho hog
  split at hc <;> first | (cases hc; done) | skip
  rename_i ms hcargs hms
  injection hc with hc; subst hc
  refine ⟨⟨fn, _, hfn, hbody, hname fn hfn⟩, ?_⟩
  unfold bodyD at h
  simp only at h
  split at h <;> first | (cases h; done) | skip
  rename_i hlen
  refine callsDIn_of_wpSIn (F := WF none) (n := 0) hfn hbody trivial (fun c₀ cs hc0 => ?_)
  have henv : RepL w im g objs (args ++ List.replicate (fn.ntmps - args.length) .any) ({ tmps := vargs.toArray ++ Array.replicate (fn.ntmps - vargs.toArray.size) undef, defers := [] } : Act).tmps.toList := by
    have hl := hargs.length
    simp only [Array.toList_append, Array.toList_replicate, List.size_toArray]
    refine hargs.app ?_
    rw [← hl]
    rw [RepL_iff]
    refine ⟨by simp, fun i p v hp hv => ?_⟩
    have := List.mem_of_getElem? hp
    rw [(List.mem_replicate.1 this).2]
    trivial
  have hsz : ops.size = r.length + 1 := by
    rw [← Array.length_toList, hopl]; simp
  have h0 : ops[0]? = some o := by
    rw [← Array.getElem?_toList, hopl]; rfl
  have hrun : ∀ a : Act, (execOp a.eval o).run P w = .ok .recover w := by
    intro a
    simp [execOp, ho, resolve, invoke, builtin]
  /- behind the recover -/
  have rest_ok : ∀ (a : Act), RepL w im g objs (put (args ++ List.replicate (fn.ntmps - args.length) .any) o.dst rv) a.tmps.toList → a.defers = [] →
      wpOpsSIn (WF none) 0 P ops (Exit.thenS (Code.wpSIn (WF none) 0 P rest (bodyPostS P fn c₀ cs fun e u2 w' => (∃ v, e = .returned v) ∧ u2 = u' ∧ ∃ im' g', Le w im g objs w' im' g' objs' ∧ Sat P base w' im' g' objs' ∧ OutOK w' im' g' objs' out (.returned (.tuple #[])))) (bodyPostS P fn c₀ cs fun e u2 w' => (∃ v, e = .returned v) ∧ u2 = u' ∧ ∃ im' g', Le w im g objs w' im' g' objs' ∧ Sat P base w' im' g' objs' ∧ OutOK w' im' g' objs' out (.returned (.tuple #[])))) (List.range' 1 r.length) a ({ c₀ with mode := u' } :: cs) w := by
    intro a ha hd
    refine movs_sound r ms 1 hms (fun i o' hi => by
      rw [← Array.getElem?_toList, hopl, Nat.add_comm]
      simpa using hi) _ a _ ha (fun a' h1 h2 => ?_)
    show Code.wpSIn (WF none) 0 P rest _ a' _ w
    cases hcode : codeI po call true n (annot c [] [] []) (movsI ms (put (args ++ List.replicate (fn.ntmps - args.length) .any) o.dst rv)) objs with
    | none => rw [hcode] at h; cases h
    | some st =>
      obtain ⟨ex, env', objs2⟩ := st
      rw [hcode] at h
      refine wpSIn_of_wpIn rfl (wpIn_mono (code_sound none true (by intro h; cases h) (lo := ⟨w.heap.size, [], false⟩) (by intro h; cases h) hcall n rest c _ hrest (like_annot c _ _ _) _ _ _ hcode w im g a' hsat h1 ⟨[], by rw [h2, hd]; rfl, ⟨Nat.le_refl _, by simp, List.nodup_nil⟩, fun _ => rfl⟩) ?_)
      rintro e a2 w2 ⟨im2, g2, k1, k2, ⟨ms2, hms2, _, hnil⟩, k4, k5⟩
      have hd2 : a2.defers = [] := by rw [hms2, hnil rfl]; rfl
      have hres' : (results fn a2.tmps).run P w2 = .ok (.tuple #[]) w2 := by
        have := results_run (P := P) (w := w2) (a := a2) (fn := fn) (us := []) (by rw [hres]; rfl)
        simpa using this
      have fin : out = .ret (.tup []) ∧ objs2 = objs' → bodyPostS P fn c₀ cs (fun e u2 w' => (∃ v, e = .returned v) ∧ u2 = u' ∧ ∃ im' g', Le w im g objs w' im' g' objs' ∧ Sat P base w' im' g' objs' ∧ OutOK w' im' g' objs' out (.returned (.tuple #[]))) .ret a2 ({ c₀ with mode := u' } :: cs) w2 := by
        rintro ⟨rfl, rfl⟩
        refine ⟨hd2, u', rfl, _, hres', ⟨_, rfl⟩, rfl, im2, g2, k1, k2, _, rfl, ?_⟩
        unfold Rep
        exact ⟨[], rfl, trivial⟩
      cases ex with
      | normal =>
        have k5 : e = .normal := k5
        subst k5
        injection h with h; injection h with q1 q2
        exact fin ⟨q1.symm, q2⟩
      | ret =>
        have k5 : e = .ret := k5
        subst k5
        injection h with h; injection h with q1 q2
        exact fin ⟨q1.symm, q2⟩
      | exit id => cases h
      | panic p => cases h
  refine wpSIn_seq (wpSIn_region ?_)
  rw [hsz, List.range_eq_range', List.range'_succ]
  unfold wpOpsSIn
  rw [h0]
  simp only
  refine ⟨fun _ _ => trivial, ?_⟩
  have hw : Region.wanted o (yielded ops ({ tmps := vargs.toArray ++ Array.replicate (fn.ntmps - vargs.toArray.size) undef, defers := [] } : Act).tmps) = true := by unfold Region.wanted; rw [hog]
  rw [hw, hrun]
  simp only [if_true]
  rcases hrec c₀ cs hc0 with hr | ⟨hr, hv, hu⟩
  · rw [hr]
    simp only
    obtain ⟨p1, p2⟩ := put_rep henv o.dst hvr
    exact rest_ok _ p1 p2
  · rw [hr]
    simp only
    have : ({ c₀ with mode := u' } : Frame) = c₀ := by rw [hu, ← hc0]
    rw [this] at rest_ok
    obtain ⟨p1, p2⟩ := put_rep henv o.dst (by rw [hv] at hvr; exact hvr)
    exact rest_ok _ p1 p2
/-- A round. -/
theorem round_sound {po : Pol} {call : CallF} (hcall : CallSound P base call) (n : Nat) {id : Nat} {rest : List PV} {objs objs' : Objs} {out : Out} (h : roundI po call n id rest objs = some (out, objs')) {w : World} {im : Im} {g : List Value} {vargs : List Value} (hsat : Sat P base w im g objs) (hargs : RepL w im g objs (.yld id :: rest) vargs) :
    Goes P .yld vargs w fun e w' => ∃ im' g', Le w im g objs w' im' g' objs' ∧ Sat P base w' im' g' objs' ∧ OutOK w' im' g' objs' out e := by
  unfold roundI at h
  split at h <;> first | (cases h; done) | skip
  rename_i st pd0 env ps as bd hob
  split at h <;> first | (cases h; done) | skip
  rename_i hst
  obtain ⟨rfl, hlen⟩ := hst
  split at h <;> first | (cases h; done) | skip
  rename_i env1 objs1 hc1
  split at h <;> first | (cases h; done) | skip
  rename_i st1 pd1 e1 ps1 as1 bd1 hob1
  split at h <;> first | (cases h; done) | skip
  rename_i hst1
  subst hst1
  split at h <;> first | (cases h; done) | skip
  rename_i ex env2 objs2 hc2
  split at h <;> first | (cases h; done) | skip
  rename_i st2 pd2 e2 ps2 as2 bd2 hob2
  have hid := getD_some hob (by simp)
  have hid1 := getD_some hob1 (by simp)
  have hid2 := getD_some hob2 (by simp)
  cases vargs with
  | nil => exact hargs.elim
  | cons v0 vrest =>
    obtain ⟨hy, hrest⟩ := hargs
    unfold Rep at hy
    obtain ⟨l, hg, rfl⟩ := hy
    obtain ⟨lr, hb, hh, k1, k2, k3, k4, ⟨asc, k5, k5'⟩, ⟨bdc, k6, k6'⟩⟩ := loop_at hsat hid hg
    have hrl := hrest.length
    have hpl : ps.length = lr.params.size := by rw [← k4]; simp
    have hyl := run_yield (P := P) (args := vrest.toArray) hh (by simp; omega)
    refine ⟨l, vrest, lr.fn, _, lr.assign, lr.body, rfl, hyl, ?_⟩
    have htm : RepL w im g objs (setPs env ps rest) ((lr.params.zip vrest.toArray).foldl (fun tmps (x : Tmp × Value) => tmps.setIfInBounds x.1 x.2) lr.tmps).toList := by
      have := setPs_rep ps rest vrest k1 hrest
      rw [← Array.foldl_toList, Array.toList_zip, k4]
      exact this
    have hm0 : Marks ⟨0, [], true⟩ w g [] := ⟨[], rfl, ⟨Nat.zero_le _, by simp, List.nodup_nil⟩, fun _ => rfl⟩
    refine roundIn_of_wpIn (F := WF none) trivial ?_
    have c1 := code_sound (some l) true (by intro h; cases h) (lo := ⟨0, [], true⟩) (fun _ => rfl) hcall n lr.assign asc as k5 k5' _ _ _ hc1 w im g { tmps := (lr.params.zip vrest.toArray).foldl (fun tmps (x : Tmp × Value) => tmps.setIfInBounds x.1 x.2) lr.tmps, defers := [] } hsat htm hm0
    refine wpIn_mono c1 ?_
    rintro e a1 w1 ⟨im1, g1, q1, q2, q3, q4, q5⟩
    have q5 : e = .normal := q5
    subst q5
    have hg1 : g1[id]? = some (.func (.yield l) #[] #[]) := by
      obtain ⟨e1, _⟩ := q1.evo.nb id _ hid rfl
      rw [e1]; exact hg
    obtain ⟨lr1, _, hh1, _, p2, p3, _⟩ := loop_at q2 hid1 hg1
    obtain ⟨t1, t2⟩ := loop_turn q2 hid1 hg1 hh1 1 pd1
    have hbr := run_beginRound (P := P) hh1 p2
    rw [← p3] at t1 t2
    refine ⟨_, hbr, ?_⟩
    have c2 := code_sound (some l) true (by intro h; cases h) (lo := ⟨0, [], true⟩) (fun _ => rfl) hcall n lr.body bdc bd k6 k6' _ _ _ hc2 _ im1 g1 a1 t2 (q2.monoL t1 q4) (q3.le t1)
    refine wpIn_mono c2 ?_
    rintro e a2 w2 ⟨im2, g2, s1, s2, s3, s4, s5⟩
    have hg2 : g2[id]? = some (.func (.yield l) #[] #[]) := by
      obtain ⟨e1, _⟩ := ((q1.trans t1).trans s1).evo.nb id _ hid rfl
      rw [e1]; exact hg
    obtain ⟨lr2, _, hh2, _⟩ := loop_at s2 hid2 hg2
    have hle := (q1.trans t1).trans s1
    cases ex with
    | normal =>
      injection h with h; injection h with h1 h2; subst h1 h2
      have s5 : e = .normal := s5
      subst s5
      obtain ⟨u1, u2⟩ := loop_turn s2 hid2 hg2 hh2 0 none
      exact ⟨_, _, run_endRound (P := P) none hh2, im2, g2, hle.trans u1, u2, _, rfl, rfl⟩
    | exit j =>
      injection h with h; injection h with h1 h2; subst h1 h2
      have s5 : e = .exit j := s5
      subst s5
      obtain ⟨u1, u2⟩ := loop_turn s2 hid2 hg2 hh2 2 (some (some j))
      exact ⟨_, _, run_endRound (P := P) (some (.exit j)) hh2, im2, g2, hle.trans u1, u2, _, rfl, rfl⟩
    | ret =>
      injection h with h; injection h with h1 h2; subst h1 h2
      have s5 : e = .ret := s5
      subst s5
      obtain ⟨u1, u2⟩ := loop_turn s2 hid2 hg2 hh2 2 (some none)
      exact ⟨_, _, run_endRound (P := P) (some .ret) hh2, im2, g2, hle.trans u1, u2, _, rfl, rfl⟩
    | panic p => cases h
theorem call_sound {K : Ctx} (hK : CtxOK P base K) : ∀ n, CallSound P base (callI K n)
  | 0 => by intro f args objs out objs' h; unfold callI at h; cases h
  | n + 1 => by
    intro f args objs out objs' h w im g vargs hsat hargs
    cases f with
    | ext f =>
      unfold callI at h
      split at h <;> first | (cases h; done) | skip
      rename_i s hs
      exact hK.ext f s hs args objs out objs' h w im g vargs hsat hargs
    | dfn f pk =>
      cases pk with
      | false =>
        unfold callI at h
        split at h <;> first | (cases h; done) | skip
        rename_i fd hf
        obtain ⟨h1, h2⟩ := hK.dfn f fd hf
        exact bodyD_sound (call_sound hK n) n h1 h2 h hsat hargs (vr := .nilIface) rfl (u := .returning) (u' := .returning) (fun c₀ cs hc => .inr ⟨by simp [recoverD, hc], rfl, rfl⟩)
      | true =>
        unfold callI at h
        split at h <;> first | (cases h; done) | skip
        rename_i fd p rest hf
        obtain ⟨h1, h2⟩ := hK.dfn f fd hf
        cases vargs with
        | nil => exact hargs.elim
        | cons vp vrest =>
          obtain ⟨k1, k2⟩ := bodyD_sound (call_sound hK n) n h1 h2 h hsat hargs.2 (vr := vp) hargs.1 (u := .panicking [{ v := vp, recovered := false }]) (u' := .panicking [{ v := vp, recovered := true }]) (fun c₀ cs hc => .inl (by simp [recoverD, hc]))
          exact ⟨k1, vp, vrest, rfl, k2⟩
    | yld =>
      unfold callI at h
      split at h <;> first | (cases h; done) | skip
      exact round_sound (call_sound hK n) n h hsat hargs
    | fn f =>
      unfold callI at h
      split at h
      · rename_i s hs
        exact hK.sum f s hs args objs out objs' h w im g vargs hsat hargs
      · split at h <;> first | (cases h; done) | skip
        rename_i fi hf
        obtain ⟨h1, h2⟩ := hK.fn f fi hf
        exact body_sound (call_sound hK n) n h1 h2 h hsat hargs
end
end Pi
end Go.Proofs.YthdgpejippohnaaGreatDoor
