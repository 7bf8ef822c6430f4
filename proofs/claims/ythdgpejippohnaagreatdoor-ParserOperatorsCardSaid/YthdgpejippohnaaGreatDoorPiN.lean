/-
  The evaluator's code is the machine's code. Condition: the called functions are.
-/
import Derived.Test.YthdgpejippohnaaGreatDoorPiM
import Derived.LoopNIn
import Derived.OrdersIn
namespace Go.Proofs.YthdgpejippohnaaGreatDoor
namespace Pi
set_option linter.unusedVariables false
section
variable {P : Program} {base : Nat} {w w' : World} {im im' : Im} {g g' : List Value} {objs objs' : Objs} {env : Env} {a : Act} {o : Oper}

def ExOK (w : World) (im : Im) (g : List Value) (objs : Objs) : Ex → Exit → Prop
  | .normal, e => e = .normal
  | .exit id, e => e = .exit id
  | .ret, e => e = .ret
  | .panic p, e => ∃ v, e = .panic [{ v := v, recovered := false }] ∧ Rep w im g objs p v
/-- Since when; and what was deferred before. -/
structure Lo where
  n : Nat
  tl : List Deferred
  rf : Bool
/-- The marks of ranges over functions among the deferred calls: each an empty list that no object holds. -/
structure Marks0 (lo : Nat) (w : World) (g : List Value) (ds : List Deferred) : Prop where
  low : lo ≤ w.heap.size
  each : ∀ d ∈ ds, ∃ D, d = { target := .collected D, args := #[] } ∧ lo ≤ D ∧ w.heap[D]? = some (.deferred (some [])) ∧ ∀ (i : Nat) v, g[i]? = some v → blk v ≠ some D
  nodup : ds.Nodup
theorem Marks0.le {lo : Nat} {ds : List Deferred} (h : Marks0 lo w g ds) (hl : Le w im g objs w' im' g' objs') : Marks0 lo w' g' ds := by
  refine ⟨Nat.le_trans h.low hl.size, fun d hd => ?_, h.nodup⟩
  obtain ⟨D, h1, h2, h3, h4⟩ := h.each d hd
  have hlt := (Array.getElem?_eq_some_iff.1 h3).1
  refine ⟨D, h1, h2, by rw [hl.frame D hlt h4]; exact h3, fun i v hv hb => ?_⟩
  rcases hl.fresh i v D hv hb with hge | ⟨j, u, hu, hub⟩
  · omega
  · exact h4 j u hu hub
theorem Marks0.sub {lo : Nat} {ds : List Deferred} (h : Marks0 lo w g ds) (hs : ∀ (i : Nat) v, g'[i]? = some v → g[i]? = some v) : Marks0 lo w g' ds :=
  ⟨h.low, fun d hd => let ⟨D, h1, h2, h3, h4⟩ := h.each d hd; ⟨D, h1, h2, h3, fun i v hv => h4 i v (hs i v hv)⟩, h.nodup⟩
def Marks (lo : Lo) (w : World) (g : List Value) (ds : List Deferred) : Prop := ∃ ms, ds = ms ++ lo.tl ∧ Marks0 lo.n w g ms ∧ (lo.rf = false → ms = [])
theorem Marks.le {lo : Lo} {ds : List Deferred} (h : Marks lo w g ds) (hl : Le w im g objs w' im' g' objs') : Marks lo w' g' ds := let ⟨ms, h1, h2, h3⟩ := h; ⟨ms, h1, h2.le hl, h3⟩
theorem Marks.sub {lo : Lo} {ds : List Deferred} (h : Marks lo w g ds) (hs : ∀ (i : Nat) v, g'[i]? = some v → g[i]? = some v) : Marks lo w g' ds := let ⟨ms, h1, h2, h3⟩ := h; ⟨ms, h1, h2.sub hs, h3⟩
def Post (P : Program) (base : Nat) (lo : Lo) (w : World) (im : Im) (g : List Value) (objs : Objs) (st : Ex × Env × Objs) (e : Exit) (a' : Act) (w' : World) : Prop :=
  ∃ im' g', Le w im g objs w' im' g' st.2.2 ∧ Sat P base w' im' g' st.2.2 ∧ Marks lo w' g' a'.defers ∧ RepL w' im' g' st.2.2 st.2.1 a'.tmps.toList ∧ ExOK w' im' g' st.2.2 st.1 e

theorem uponIn_of_upon {o : Oper} {a : Act} {ro : Option Nat} {next : Act → World → Prop} {Q : Exit → Act → World → Prop} (r : Result Next) (h : o.upon P a next Q r) : o.uponIn (WF ro) 0 P a next Q r := by
  cases r with
  | ok x w' =>
    cases x <;> simp only [Oper.upon] at h <;> simp only [Oper.uponIn] <;> first
      | exact h
      | exact ⟨(fun hd => by cases hd), wf_calls.2 h⟩
      | exact ⟨(fun hd => by cases hd), fun c cs _ => let ⟨v, w', r, s⟩ := h c cs; ⟨v, w', r, stepsIn_wide.2 s⟩⟩
  | halt x w' => cases x <;> simp only [Oper.upon] at h <;> simp only [Oper.uponIn] <;> exact h
theorem uponIn_mono {F : Fence} {n : Nat} {next next' : Act → World → Prop} {Q Q' : Exit → Act → World → Prop} (hn : ∀ a w, next a w → next' a w) (hq : ∀ e a w, Q e a w → Q' e a w) (r : Result Next) (h : o.uponIn F n P a next Q r) : o.uponIn F n P a next' Q' r := by
  cases r with
  | ok x w' =>
    cases x <;> simp only [Oper.uponIn] at h ⊢ <;> first
      | exact hn _ _ h
      | exact ⟨h.1, CallsIn.mono h.2 (fun e w'' hx => by cases e with | returned v => exact hn _ _ hx | panicked c => exact hq _ _ _ hx | outgrown => obtain ⟨a2, w2, h2⟩ := hx; exact ⟨a2, w2, hq _ _ _ h2⟩)⟩
      | exact ⟨h.1, RoundIn.mono h.2 (fun e w'' hx => by cases e with | returned v => exact hn _ _ hx | panicked c => exact hq _ _ _ hx | outgrown => obtain ⟨a2, w2, h2⟩ := hx; exact ⟨a2, w2, hq _ _ _ h2⟩)⟩
      | exact ⟨h.1, RowsIn.mono h.2 (fun _ _ hx => hn _ _ hx)⟩
  | halt x w' => cases x <;> simp only [Oper.uponIn] at h ⊢ <;> first | exact hq _ _ _ h | exact h
theorem wpOpsIn_mono' {F : Fence} {n : Nat} {ops : Array Oper} {Q Q' : Exit → Act → World → Prop} (hq : ∀ e a w, Q e a w → Q' e a w) : ∀ {l : List Nat} {a : Act} {w : World}, wpOpsIn F n P ops Q l a w → wpOpsIn F n P ops Q' l a w := by
  intro l
  induction l with
  | nil => intro a w h; exact hq _ _ _ h
  | cons i r ih =>
    intro a w h
    unfold wpOpsIn at h ⊢
    split at h
    · exact ih h
    · split at h
      · rename_i hw
        rw [if_pos hw]
        exact ⟨h.1, uponIn_mono (fun _ _ => ih) hq _ h.2⟩
      · rename_i hw
        rw [if_neg hw]
        exact ⟨h.1, ih h.2⟩
def OpOKIn (P : Program) (base : Nat) (o : Oper) (a : Act) (w : World) (im : Im) (g : List Value) (objs : Objs) (r : Res) : Prop :=
  ∀ (ro : Option Nat) (next : Act → World → Prop) (Q : Exit → Act → World → Prop),
    (∀ v objs', r = .ok v objs' → ∀ v' w' im' g', Le w im g objs w' im' g' objs' → Sat P base w' im' g' objs' → Rep w' im' g' objs' v v' → next (a.put o.dst v') w') →
    (∀ v objs', r = .pan v objs' → ∀ v' w' im' g', Le w im g objs w' im' g' objs' → Sat P base w' im' g' objs' → Rep w' im' g' objs' v v' → Q (.panic [{ v := v', recovered := false }]) a w') →
    o.wpIn (WF ro) 0 P a w next Q
theorem OpOK.toIn {r : Res} (hno : ∀ c, o.op ≠ .defer c) (h : OpOK P base o a w im g objs r) : OpOKIn P base o a w im g objs r := by
  intro ro next Q h1 h2
  refine ⟨fun _ _ => trivial, ?_⟩
  rw [Oper.semAt_eq _ _ _ hno]
  rcases h next Q h1 h2 with h | ⟨l, f, tmps, assign, body, h, hr⟩
  · exact uponIn_of_upon _ h
  · rw [h]
    exact ⟨(fun hd => by cases hd), hr⟩
theorem compOp_no_defer {io : IOp} (h : compOp0 P o = some io) : ∀ c, o.op ≠ .defer c := by
  intro c hc
  unfold compOp0 at h
  rw [hc] at h
  cases h
theorem step_soundIn {po : Pol} {call : CallF} (hcall : CallSound P base call) {io : IOp} {r : Res} (hop : compOp P o = some io) (hs : stepI po call env objs io = some r) (hsat : Sat P base w im g objs) (henv : RepL w im g objs env a.tmps.toList) : OpOKIn P base o a w im g objs r := by
  rcases compOp_cases hop with h | rfl
  · exact (step_sound0 hcall h hs hsat henv).toIn (compOp_no_defer h)
  · cases hs
theorem put_rep (henv : RepL w im g objs env a.tmps.toList) (dst : Option Nat) {p : PV} {v : Value} (h : Rep w im g objs p v) : RepL w im g objs (put env dst p) (a.put dst v).tmps.toList ∧ (a.put dst v).defers = a.defers := by
  cases dst with
  | none => exact ⟨henv, rfl⟩
  | some d =>
    refine ⟨?_, rfl⟩
    rw [put_some]
    show RepL w im g objs (env.set d p) (a.tmps.setIfInBounds d v).toList
    rw [Array.toList_setIfInBounds]
    exact henv.set d h
theorem undI_rep : Rep w im g objs undI undef := by
  unfold undI Rep
  exact ⟨[], rfl, trivial⟩
theorem wanted_ok (henv : RepL w im g objs env a.tmps.toList) {ops : Array Oper} {o : Oper} {gd : Option (Nat × Bool)} (hgd : (match o.guard with | none => gd = none | some (j, want) => ∃ t, (ops[j]?).bind (·.dst) = some t ∧ gd = some (t, want))) {b : Bool} (h : wantedI env gd = some b) : Region.wanted o (yielded ops a.tmps) = b := by
  unfold Region.wanted
  cases hg : o.guard with
  | none =>
    rw [hg] at hgd
    simp only at hgd
    subst hgd
    simp only [wantedI, Option.some.injEq] at h
    exact h
  | some jw =>
    obtain ⟨j, want⟩ := jw
    rw [hg] at hgd
    obtain ⟨t, ht, rfl⟩ := hgd
    simp only [wantedI, getR_eq] at h
    have at_ : ∀ q : PV, q ≠ .any → env.getD t .any = q → ∃ v, a.tmps[t]? = some v ∧ Rep w im g objs q v := by
      intro q hq hc
      have hlt : t < env.length := by
        rcases Nat.lt_or_ge t env.length with hl | hl
        · exact hl
        · rw [List.getD_eq_getElem?_getD, List.getElem?_eq_none hl] at hc
          exact (hq hc.symm).elim
      obtain ⟨v, hv, hr⟩ := henv.get (List.getElem?_eq_getElem hlt)
      rw [List.getD_eq_getElem?_getD, List.getElem?_eq_getElem hlt] at hc
      have hc' : env[t] = q := hc
      rw [hc'] at hr
      exact ⟨v, by simpa using hv, hr⟩
    split at h <;> first | (cases h; done) | skip
    · rename_i c hc
      injection h with h
      obtain ⟨v, hv', hr⟩ := at_ _ (by simp) hc
      have hr : v = .bool c := hr
      subst hr
      simp only [yielded, ht, Option.bind_some, hv']
      rw [← h]
      cases c <;> cases want <;> rfl
    · rename_i hc
      injection h with h
      obtain ⟨v, hv', hr⟩ := at_ _ (by simp) hc
      unfold Rep at hr
      obtain ⟨vs, rfl, hr⟩ := hr
      simp only [yielded, ht, Option.bind_some, hv']
      rw [← h]
      rfl
theorem frzOp_sound (env : Env) (op : IOp) (hsat : Sat P base w im g objs) : ∃ im' g', Le w im g objs w im' g' (frzOp env objs op) ∧ Sat P base w im' g' (frzOp env objs op) := by
  unfold frzOp
  split
  · exact ⟨im, g, Le.refl _ _ _ _, hsat⟩
  · exact frzIds_sound _ hsat
theorem reg_sound (ro : Option Nat) {lo : Lo} {po : Pol} {call : CallF} (hcall : CallSound P base call) {ops : Array Oper} : ∀ (l : List Oper) (k : Nat) (ios : List OpI) (env : Env) (objs : Objs) (st : Ex × Env × Objs), (∀ (i : Nat) o, l[i]? = some o → ops[k + i]? = some o) → compOps P ops l = some ios → regZ po call ios env objs = some st →
    ∀ (w : World) (im : Im) (g : List Value) (a : Act), Sat P base w im g objs → RepL w im g objs env a.tmps.toList → Marks lo w g a.defers → wpOpsIn (WF ro) 0 P ops (Post P base lo w im g objs st) (List.range' k l.length) a w := by
  intro l
  induction l with
  | nil =>
    intro k ios env objs st hd hc hr w im g a hsat henv hdef
    unfold compOps at hc; injection hc with hc; subst hc
    unfold regZ at hr; injection hr with hr; subst hr
    exact ⟨im, g, Le.refl w im g objs, hsat, hdef, henv, rfl⟩
  | cons o r ih =>
    intro k ios env objs st hd hc hr w im g a hsat henv hdef
    have ho : ops[k]? = some o := hd 0 o rfl
    have hd' : ∀ (i : Nat) o, r[i]? = some o → ops[k + 1 + i]? = some o := fun i o' h => by
      have := hd (i + 1) o' (by simpa using h)
      rwa [show k + (i + 1) = k + 1 + i from by omega] at this
    unfold compOps at hc
    cases h1 : compOp P o with
    | none => simp [h1] at hc
    | some op => cases h2 : compOps P ops r with
      | none => simp [h1, h2] at hc
      | some os =>
        simp only [h1, h2] at hc
        obtain ⟨gd, hios, hgd⟩ : ∃ gd, ios = { dst := o.dst, guard := gd, op := op } :: os ∧ (match o.guard with | none => gd = none | some (j, want) => ∃ t, (ops[j]?).bind (·.dst) = some t ∧ gd = some (t, want)) := by
          cases hg : o.guard with
          | none => rw [hg] at hc; injection hc with hc; exact ⟨none, hc.symm, rfl⟩
          | some jw =>
            obtain ⟨j, want⟩ := jw
            rw [hg] at hc
            simp only at hc
            split at hc <;> first | (cases hc; done) | skip
            rename_i t ht
            injection hc with hc
            exact ⟨some (t, want), hc.symm, t, ht, rfl⟩
        subst hios
        rw [List.length_cons, List.range'_succ]
        unfold wpOpsIn
        rw [ho]
        simp only
        unfold regZ at hr
        simp only at hr
        have next : ∀ (env' : Env) (objs' : Objs), regZ po call os env' objs' = some st → ∀ (a' : Act) (w' : World) (im' : Im) (g' : List Value), Le w im g objs w' im' g' objs' → Sat P base w' im' g' objs' → RepL w' im' g' objs' env' a'.tmps.toList → Marks lo w' g' a'.defers → wpOpsIn (WF ro) 0 P ops (Post P base lo w im g objs st) (List.range' (k + 1) r.length) a' w' := by
          intro env' objs' hr' a' w' im' g' hl hs he hd2
          have := ih (k + 1) os env' objs' st hd' h2 hr' w' im' g' a' hs he hd2
          refine wpOpsIn_mono' ?_ this
          rintro e a2 w2 ⟨im2, g2, hl2, rest⟩
          exact ⟨im2, g2, hl.trans hl2, rest⟩
        split at hr
        · cases hr
        · rename_i hw
          rw [wanted_ok henv hgd hw]
          simp only [Bool.false_eq_true, if_false]
          obtain ⟨p1, p2⟩ := put_rep henv o.dst (p := undI) (v := undef) undI_rep
          exact ⟨fun _ _ => trivial, next _ _ hr _ w im g (Le.refl w im g objs) hsat p1 (by rw [p2]; exact hdef)⟩
        · rename_i hw
          rw [wanted_ok henv hgd hw]
          simp only [if_true]
          obtain ⟨im0, g0, l0, s0⟩ := frzOp_sound env op hsat
          split at hr
          · cases hr
          · rename_i v objs' hs
            refine step_soundIn hcall h1 hs s0 (hsat.monoL l0 henv) ro _ _ ?_ ?_
            · intro v2 objs2 heq v' w' im' g' hl hs' hrep
              injection heq with e1 e2; subst e1 e2
              have hl := l0.trans hl
              obtain ⟨p1, p2⟩ := put_rep (hsat.monoL hl henv) o.dst hrep
              exact next _ _ hr _ w' im' g' hl hs' p1 (by rw [p2]; exact hdef.le hl)
            · intro v2 objs2 heq; cases heq
          · rename_i v objs' hs
            injection hr with hr; subst hr
            refine step_soundIn hcall h1 hs s0 (hsat.monoL l0 henv) ro _ _ ?_ ?_
            · intro v2 objs2 heq; cases heq
            · intro v2 objs2 heq v' w' im' g' hl hs' hrep
              injection heq with e1 e2; subst e1 e2
              have hl := l0.trans hl
              exact ⟨im', g', hl, hs', hdef.le hl, hsat.monoL hl henv, v', rfl, hrep⟩

end
end Pi
end Go.Proofs.YthdgpejippohnaaGreatDoor
