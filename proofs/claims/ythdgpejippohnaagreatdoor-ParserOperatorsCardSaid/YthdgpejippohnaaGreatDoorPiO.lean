/-
  A region whose order is open, evaluated in the order of the text. Condition: the called functions are.
-/
import Derived.Test.YthdgpejippohnaaGreatDoorPiN
import Derived.Orders
namespace Go.Proofs.YthdgpejippohnaaGreatDoor
namespace Pi
set_option linter.unusedVariables false
section
variable {P : Program} {base : Nat}

/-! ### an operation depends on what it reads -/
theorem opnd_congr {env env' : Env} {x : Opnd} (h : ∀ t ∈ opndT x, env.getD t .any = env'.getD t .any) : opnd env x = opnd env' x := by
  cases x with
  | t i => rw [opnd_t, opnd_t]; exact h i (by simp [opndT])
  | c v => rfl
theorem opnds_congr {env env' : Env} {xs : List Opnd} (h : ∀ t ∈ opndsT xs, env.getD t .any = env'.getD t .any) : xs.map (opnd env) = xs.map (opnd env') := by
  apply List.map_congr_left
  intro x hx
  exact opnd_congr fun t ht => h t (List.mem_flatMap.2 ⟨x, hx, ht⟩)
theorem fillI_congr {env env' : Env} : ∀ {ps : List (Nat × Nat × Opnd)} {cs : List PV}, (∀ t ∈ ps.flatMap fun p => opndT p.2.2, env.getD t .any = env'.getD t .any) → fillI env cs ps = fillI env' cs ps
  | [], cs, _ => rfl
  | (off, sz, x) :: r, cs, h => by
    unfold fillI
    rw [opnd_congr (env := env) (env' := env') (x := x) fun t ht => h t (by simp [ht])]
    simp only
    split
    · exact fillI_congr fun t ht => h t (by rw [List.flatMap_cons]; exact List.mem_append.2 (.inr ht))
    · rfl
theorem fillD_congr {os : Objs} {env env' : Env} {sz : Nat} : ∀ {ps : List (Nat × Opnd)} {els : List (List D)}, (∀ t ∈ ps.flatMap fun p => opndT p.2, env.getD t .any = env'.getD t .any) → fillD os env sz els ps = fillD os env' sz els ps
  | [], cs, _ => rfl
  | (i, x) :: r, cs, h => by
    unfold fillD
    rw [opnd_congr (env := env) (env' := env') (x := x) fun t ht => h t (by simp [ht])]
    split
    · split
      · exact fillD_congr fun t ht => h t (by rw [List.flatMap_cons]; exact List.mem_append.2 (.inr ht))
      · rfl
    · rfl
theorem opt_congr {env env' : Env} {x : Option Opnd} (h : ∀ t ∈ opndsT x.toList, env.getD t .any = env'.getD t .any) : x.map (opnd env) = x.map (opnd env') := by
  cases x with
  | none => rfl
  | some y => simp only [Option.map_some]; rw [opnd_congr fun t ht => h t (by simp [opndsT, ht])]
theorem step_congr {po : Pol} {call : CallF} {env env' : Env} {objs : Objs} {op : IOp} (h : ∀ t ∈ op.reads, env.getD t .any = env'.getD t .any) : stepI po call env objs op = stepI po call env' objs op := by
  have one : ∀ {x : Opnd}, (∀ t ∈ opndT x, t ∈ op.reads) → opnd env x = opnd env' x := fun hx => opnd_congr fun t ht => h t (hx t ht)
  have many : ∀ {xs : List Opnd}, (∀ t ∈ opndsT xs, t ∈ op.reads) → xs.map (opnd env) = xs.map (opnd env') := fun hx => opnds_congr fun t ht => h t (hx t ht)
  have op' : ∀ {x : Option Opnd}, (∀ t ∈ opndsT x.toList, t ∈ op.reads) → x.map (opnd env) = x.map (opnd env') := fun hx => opt_congr fun t ht => h t (hx t ht)
  cases op <;> simp only [stepI]
  case mov x => rw [one (x := x) (by simp [IOp.reads])]
  case pick a b c => rw [one (x := a) (by simp [IOp.reads, opndsT]; intros; simp_all), one (x := b) (by simp [IOp.reads, opndsT]; intros; simp_all), one (x := c) (by simp [IOp.reads, opndsT]; intros; simp_all)]
  case box x => rw [one (x := x) (by simp [IOp.reads])]
  case convSB x => rw [one (x := x) (by simp [IOp.reads])]
  case tas t d k x => rw [one (x := x) (by simp [IOp.reads])]
  case chk x => rw [one (x := x) (by simp [IOp.reads])]
  case cvp x => rw [one (x := x) (by simp [IOp.reads])]
  case cvu tys x => rw [one (x := x) (by simp [IOp.reads])]
  case build zs ps => rw [fillI_congr (env := env) (env' := env') (fun t ht => h t (by simpa only [IOp.reads] using ht))]
  case lit len zs ps => rw [fillD_congr (env := env) (env' := env') (fun t ht => h t (by simpa only [IOp.reads] using ht))]
  case load sz x => rw [one (x := x) (by simp [IOp.reads])]
  case store sz a x => rw [one (x := a) (by simp [IOp.reads, opndsT]; intros; simp_all), one (x := x) (by simp [IOp.reads, opndsT]; intros; simp_all)]
  case bin o a x => rw [one (x := a) (by simp [IOp.reads, opndsT]; intros; simp_all), one (x := x) (by simp [IOp.reads, opndsT]; intros; simp_all)]
  case eq n t a x => rw [one (x := a) (by simp [IOp.reads, opndsT]; intros; simp_all), one (x := x) (by simp [IOp.reads, opndsT]; intros; simp_all)]
  case un o x => rw [one (x := x) (by simp [IOp.reads])]
  case faddr o x => rw [one (x := x) (by simp [IOp.reads])]
  case fld o s x => rw [one (x := x) (by simp [IOp.reads])]
  case iaddr s a x => rw [one (x := a) (by simp [IOp.reads, opndsT]; intros; simp_all), one (x := x) (by simp [IOp.reads, opndsT]; intros; simp_all)]
  case aaddr l s a x => rw [one (x := a) (by simp [IOp.reads, opndsT]; intros; simp_all), one (x := x) (by simp [IOp.reads, opndsT]; intros; simp_all)]
  case sidx a x => rw [one (x := a) (by simp [IOp.reads, opndsT]; intros; simp_all), one (x := x) (by simp [IOp.reads, opndsT]; intros; simp_all)]
  case aidx l s ag a x => rw [one (x := a) (by simp [IOp.reads, opndsT]; intros; simp_all), one (x := x) (by simp [IOp.reads, opndsT]; intros; simp_all)]
  case sslc x lo hi => rw [one (x := x) (by simp [IOp.reads]; intros; simp_all), op' (x := lo) (by simp only [IOp.reads, List.mem_append]; intros; simp_all), op' (x := hi) (by simp only [IOp.reads, List.mem_append]; intros; simp_all)]
  case slc s x lo hi => rw [one (x := x) (by simp [IOp.reads]; intros; simp_all), op' (x := lo) (by simp only [IOp.reads, List.mem_append]; intros; simp_all), op' (x := hi) (by simp only [IOp.reads, List.mem_append]; intros; simp_all)]
  case convI k x => rw [one (x := x) (by simp [IOp.reads])]
  case convSS x => rw [one (x := x) (by simp [IOp.reads])]
  case convBS x => rw [one (x := x) (by simp [IOp.reads])]
  case ext x i => rw [one (x := x) (by simp [IOp.reads])]
  case mkf f a b => rw [many (xs := a) (by simp only [IOp.reads, List.mem_append]; intros; simp_all), many (xs := b) (by simp only [IOp.reads, List.mem_append]; intros; simp_all)]
  case mki t x => rw [one (x := x) (by simp [IOp.reads])]
  case callx f a => rw [many (xs := a) (by simp only [IOp.reads]; intros; simp_all)]
  case call f a => rw [many (xs := a) (by simp only [IOp.reads]; intros; simp_all)]
  case callv f a => rw [one (x := f) (by simp only [IOp.reads, List.mem_append]; intros; simp_all), many (xs := a) (by simp only [IOp.reads, List.mem_append]; intros; simp_all)]
  case len k x => rw [one (x := x) (by simp [IOp.reads])]
  case apps e a x => rw [one (x := a) (by simp [IOp.reads, opndsT]; intros; simp_all), one (x := x) (by simp [IOp.reads, opndsT]; intros; simp_all)]
  case app e s a x => rw [one (x := a) (by simp [IOp.reads, opndsT]; intros; simp_all), one (x := x) (by simp [IOp.reads, opndsT]; intros; simp_all)]
  case mx xs => rw [many (xs := xs) (by simp only [IOp.reads]; intros; simp_all)]
  case mn xs => rw [many (xs := xs) (by simp only [IOp.reads]; intros; simp_all)]
  case pan x => rw [one (x := x) (by simp [IOp.reads])]
  case look kk d ok a x => rw [one (x := a) (by simp [IOp.reads, opndsT]; intros; simp_all), one (x := x) (by simp [IOp.reads, opndsT]; intros; simp_all)]
  case mks e zs a x => rw [one (x := a) (by simp [IOp.reads, opndsT]; intros; simp_all), one (x := x) (by simp [IOp.reads, opndsT]; intros; simp_all)]
  case upd kk a b c => rw [one (x := a) (by simp [IOp.reads, opndsT]; intros; simp_all), one (x := b) (by simp [IOp.reads, opndsT]; intros; simp_all), one (x := c) (by simp [IOp.reads, opndsT]; intros; simp_all)]

/-! ### what an operation turns -/
theorem noneff_same {po : Pol} {call : CallF} {env : Env} {objs : Objs} {op : IOp} {r : Res} (he : op.eff = false) (h : stepI po call env objs op = some r) : ∃ v, r = .ok v objs := by
  cases op <;> simp only [IOp.eff] at he <;> try contradiction
  all_goals
    simp only [stepI] at h
    repeat' (split at h)
    all_goals first
      | (cases h; done)
      | (injection h with h; exact ⟨_, h.symm⟩)
/-- The objects that an operation looks into. -/
noncomputable def looksI (env : Env) : IOp → List Nat
  | .load _ x => match opnd env x with | .box id _ => [id] | .ebox id _ _ _ _ => [id] | _ => []
  | .lit _ zs ps => if zs.any D.isRow then ps.flatMap (fun p => slIdss (opnd env p.2).cellsOf) else []
  | .convBS x => (opnd env x).slIds
  | .len 2 x => match opnd env x with | .map id => [id] | _ => []
  | .look _ _ _ m _ => match opnd env m with | .map id => [id] | _ => []
  | _ => []
theorem looks_foot {po : Pol} {env : Env} {objs : Objs} {op : IOp} : ∀ i ∈ looksI env op, i ∈ (footI po env objs op).1 ∧ op.looks = true := by
  intro i hi
  unfold looksI at hi
  split at hi
  · split at hi <;> simp only [List.mem_singleton, List.not_mem_nil] at hi
    all_goals
      rename_i hq
      subst hi
      simp [footI, hq, IOp.looks]
  · rename_i n zs ps
    split at hi
    · rename_i hz
      refine ⟨by simp only [footI, hz, if_true]; exact hi, hz⟩
    · cases hi
  · exact ⟨hi, rfl⟩
  · split at hi <;> simp only [List.mem_singleton, List.not_mem_nil] at hi
    rename_i hq
    subst hi
    simp [footI, hq, IOp.looks, PV.ids]
  · split at hi <;> simp only [List.mem_singleton, List.not_mem_nil] at hi
    rename_i hq
    subst hi
    simp [footI, hq, IOp.looks, PV.ids]
  · simp at hi
theorem looks_congr {env env' : Env} {op : IOp} (h : ∀ t ∈ op.reads, env.getD t .any = env'.getD t .any) : looksI env op = looksI env' op := by
  have hrd : ∀ x : Opnd, (∀ t ∈ opndT x, t ∈ op.reads) → opnd env x = opnd env' x := fun x hx => opnd_congr fun t ht' => h t (hx t ht')
  cases op <;> try rfl
  case load sz x => simp only [looksI]; rw [hrd x (fun t ht' => ht')]
  case lit n zs ps =>
    simp only [looksI]
    split
    · have : ∀ q ∈ ps, slIdss (opnd env q.2).cellsOf = slIdss (opnd env' q.2).cellsOf := fun q hq => by
        rw [hrd q.2 (fun t ht' => List.mem_flatMap.2 ⟨q, hq, ht'⟩)]
      clear h hrd
      induction ps with
      | nil => rfl
      | cons q r ih => rw [List.flatMap_cons, List.flatMap_cons, this q (by simp), ih (fun q hq => this q (by simp [hq]))]
    · rfl
  case convBS x => simp only [looksI]; rw [hrd x (fun t ht' => ht')]
  case len k x =>
    by_cases hk : k = 2
    · subst hk
      simp only [looksI]; rw [hrd x (fun t ht' => ht')]
    · have : ∀ env : Env, looksI env (.len k x) = [] := fun env => by
        unfold looksI
        split <;> first | rfl | skip
        all_goals rename_i heq; first | (cases heq; done) | (injection heq with q1 q2; exact (hk q1).elim)
      rw [this, this]
  case look kk d ok m k => simp only [looksI]; rw [hrd m (fun t ht' => by simp only [IOp.reads, opndsT, List.flatMap_cons]; exact List.mem_append.2 (.inl ht'))]
theorem toD_move {os os' : Objs} {p : PV} (h : ∀ i ∈ p.slIds, os'.getD i .dead = os.getD i .dead) : p.toD os' = p.toD os := by
  cases p <;> simp only [PV.toD]
  rename_i id ver sz lo n
  split
  · rfl
  · rename_i hn
    unfold rowAt
    rw [h id (by simp [PV.slIds, hn])]
theorem asRow_move {os os' : Objs} {p : PV} (h : ∀ i ∈ p.slIds, os'.getD i .dead = os.getD i .dead) : p.asRow os' = p.asRow os := by
  unfold PV.asRow
  split <;> try rfl
  split
  · rfl
  · rename_i hn
    unfold rowAt
    rw [h _ (by simp [PV.slIds, hn])]
theorem toDs_move {os os' : Objs} : ∀ {ps : List PV}, (∀ i ∈ slIdss ps, os'.getD i .dead = os.getD i .dead) → toDs os' ps = toDs os ps
  | [], _ => rfl
  | p :: r, h => by
    unfold toDs
    unfold slIdss at h
    rw [toD_move (p := p) (fun i hi => h i (by simp [hi])), toDs_move (ps := r) (fun i hi => h i (by rw [List.flatMap_cons]; exact List.mem_append.2 (.inr hi)))]
theorem fillD_move {os os' : Objs} {env : Env} {sz : Nat} : ∀ {ps : List (Nat × Opnd)} {els : List (List D)}, (∀ i ∈ ps.flatMap (fun p => slIdss (opnd env p.2).cellsOf), os'.getD i .dead = os.getD i .dead) → fillD os' env sz els ps = fillD os env sz els ps
  | [], _, _ => rfl
  | (i, x) :: r, els, h => by
    unfold fillD
    rw [toDs_move (os := os) (os' := os') (fun i hi => h i (by rw [List.flatMap_cons]; exact List.mem_append.2 (.inl hi)))]
    split
    · split
      · exact fillD_move fun i hi => h i (by rw [List.flatMap_cons]; exact List.mem_append.2 (.inr hi))
      · rfl
    · rfl
theorem noneff_move {po : Pol} {call : CallF} {env : Env} {objs objs' : Objs} {op : IOp} {v : PV} (he : op.eff = false) (h : stepI po call env objs op = some (.ok v objs)) (hl : ∀ i ∈ looksI env op, objs'.getD i .dead = objs.getD i .dead) : stepI po call env objs' op = some (.ok v objs') := by
  have key : ∀ {x : Option Res} , x = some (.ok v objs) → (∀ o, x = some (.ok v o) → True) := fun _ _ _ => trivial
  cases op <;> simp only [IOp.eff] at he <;> try contradiction
  case load sz x =>
    simp only [stepI] at h ⊢
    cases hx : opnd env x <;> simp only [hx] at h ⊢ <;> try (cases h; done)
    case box id off =>
      rw [hl id (by simp [looksI, hx])]
      split at h <;> first | (cases h; done) | skip
      split at h
      · split at h <;> first | (cases h; done) | skip
        injection h with h; injection h with h1 h2; subst h1; rfl
      · split at h <;> first | (cases h; done) | skip
        rename_i hc
        rw [if_pos hc]
        injection h with h; injection h with h1 h2; subst h1; rfl
    case ebox id ver ez j off =>
      have he : eboxI objs' id ver j = eboxI objs id ver j := by
        unfold eboxI
        rw [hl id (by simp [looksI, hx])]
      rw [he]
      split at h <;> first | (cases h; done) | skip
      split at h <;> first | (cases h; done) | skip
      rename_i hc
      rw [if_pos hc]
      split at h <;> first | (cases h; done) | skip
      injection h with h; injection h with h1 h2; subst h1; rfl
    case elem cs off =>
      split at h
      · split at h <;> first | (cases h; done) | skip
        injection h with h; injection h with h1 h2; subst h1; rfl
      · split at h <;> first | (cases h; done) | skip
        rename_i hc
        rw [if_pos hc]
        injection h with h; injection h with h1 h2; subst h1; rfl
  case lit len zs ps =>
    simp only [stepI] at h ⊢
    have he : fillD (if zs.any D.isRow = true then objs' else []) env zs.length (List.replicate len zs) ps = fillD (if zs.any D.isRow = true then objs else []) env zs.length (List.replicate len zs) ps := by
      by_cases hz : zs.any D.isRow = true
      · rw [if_pos hz, if_pos hz]
        exact fillD_move fun i hi => hl i (by simp only [looksI]; rw [if_pos hz]; exact hi)
      · rw [if_neg hz, if_neg hz]
    rw [he]
    split at h <;> first | (cases h; done) | skip
    injection h with h; injection h with h1 h2; subst h1; rfl
  case convBS x =>
    simp only [stepI] at h ⊢
    rw [asRow_move (os := objs) (os' := objs') (fun i hi => hl i hi)]
    split at h <;> first | (cases h; done) | skip
    split at h <;> first | (cases h; done) | skip
    injection h with h; injection h with h1 h2; subst h1; rfl
  case iaddr sz x i =>
    simp only [stepI] at h ⊢
    split at h <;> first | (cases h; done) | skip
    · split at h <;> first | (cases h; done) | skip
      rename_i hc
      rw [if_pos hc]
      injection h with h; injection h with h1 h2; subst h1; rfl
    · rename_i hj hn
      have he : (opnd env x).asRow objs' = (opnd env x).asRow objs := asRow_move fun i hi => by
        cases hx : opnd env x <;> rw [hx] at hi <;> first | (cases hi; done) | skip
        exact (hn _ _ _ _ _ hx).elim
      rw [he]
      split at h <;> first | (cases h; done) | skip
      split at h <;> first | (cases h; done) | skip
      rename_i hc
      rw [if_pos hc]
      split at h <;> first | (cases h; done) | skip
      split at h <;> first | (cases h; done) | skip
      rename_i hc
      rw [if_pos hc]
      injection h with h; injection h with h1 h2; subst h1; rfl
  case slc sz x lo hi =>
    simp only [stepI] at h ⊢
    split at h <;> first | (cases h; done) | skip
    · split at h <;> first | (cases h; done) | skip
      split at h <;> first | (cases h; done) | skip
      rename_i hc
      rw [if_pos hc]
      injection h with h; injection h with h1 h2; subst h1; rfl
    · rename_i hn
      have he : (opnd env x).asRow objs' = (opnd env x).asRow objs := asRow_move fun i hi => by
        cases hx : opnd env x <;> rw [hx] at hi <;> first | (cases hi; done) | skip
        exact (hn _ _ _ _ _ hx).elim
      rw [he]
      split at h <;> first | (cases h; done) | skip
      split at h <;> first | (cases h; done) | skip
      split at h <;> first | (cases h; done) | skip
      rename_i hc
      rw [if_pos hc]
      injection h with h; injection h with h1 h2; subst h1; rfl
  case len kd x =>
    by_cases hk : kd = 2
    · subst hk
      simp only [stepI] at h ⊢
      cases hx : opnd env x <;> simp only [hx] at h ⊢ <;> try (cases h; done)
      case map id =>
        rw [hl id (by simp [looksI, hx])]
        split at h <;> first | (cases h; done) | skip
        injection h with h; injection h with h1 h2; subst h1; rfl
      case nilm => injection h with h; injection h with h1 h2; subst h1; rfl
    · simp only [stepI] at h ⊢
      split at h <;> first | (cases h; done) | (exact (hk rfl).elim) | skip
      all_goals first
        | (injection h with h; injection h with h1 h2; subst h1; rfl)
        | (exfalso; exact hk rfl)
  case look kk d ok m k =>
    simp only [stepI] at h ⊢
    cases hk : opnd env k <;> simp only [hk] at h ⊢ <;> try (cases h; done)
    have he : mapOf objs' (opnd env m) = mapOf objs (opnd env m) := by
      cases hm : opnd env m <;> simp only [mapOf]
      rw [hl _ (by simp [looksI, hm])]
    rw [he]
    split at h <;> first | (cases h; done) | skip
    split at h <;> first | (cases h; done) | skip
    rename_i hc
    rw [if_pos hc]
    split at h <;> first | (cases h; done) | skip
    all_goals injection h with h; injection h with h1 h2; subst h1; rfl
  all_goals
    simp only [stepI] at h ⊢
    repeat' (split at h)
    all_goals first
      | (cases h; done)
      | (injection h with h; injection h with h1 h2; subst h1; simp_all; done)

/-- An operation keeps the objects that it does not write. -/
def Keeps (objs objs' : Objs) (ws : List Nat) : Prop := objs.length ≤ objs'.length ∧ ∀ i, i < objs.length → i ∉ ws → objs'.getD i .dead = objs.getD i .dead
theorem keeps_push (objs : Objs) (o : AObj) (ws : List Nat) : Keeps objs (objs ++ [o]) ws :=
  ⟨by simp, fun i hi _ => by rw [List.getD_eq_getElem?_getD, List.getD_eq_getElem?_getD, List.getElem?_append_left hi]⟩
theorem keeps_set (objs : Objs) (n : Nat) (o : AObj) (ws : List Nat) (h : n ∈ ws) : Keeps objs (objs.set n o) ws :=
  ⟨by simp, fun i hi hn => by
    rw [List.getD_eq_getElem?_getD, List.getD_eq_getElem?_getD, List.getElem?_set_ne]
    intro e
    subst e
    exact hn h⟩
theorem keeps_refl (objs : Objs) (ws : List Nat) : Keeps objs objs ws := ⟨Nat.le_refl _, fun _ _ _ => rfl⟩
mutual
theorem ids_ren (f : Nat → Nat) : ∀ p : PV, (p.ren f).ids = p.ids.map f
  | .agg cs => by simp only [PV.ren, PV.ids, idss_ren f cs]
  | .tup cs => by simp only [PV.ren, PV.ids, idss_ren f cs]
  | .clo q fs cs => by simp only [PV.ren, PV.ids, idss_ren f fs, idss_ren f cs, List.map_append]
  | .iface t p => by simp only [PV.ren, PV.ids, ids_ren f p]
  | .own _ _ | .box _ _ | .map _ | .d _ | .any | .full _ | .elem _ _ | .nilp | .nilf | .nilm | .nili | .yld _ | .sl _ _ _ _ _ | .ebox _ _ _ _ _ => rfl
theorem idss_ren (f : Nat → Nat) : ∀ ps : List PV, PVs.ids (PVs.ren f ps) = (PVs.ids ps).map f
  | [] => rfl
  | p :: r => by simp only [PVs.ren, PVs.ids, ids_ren f p, idss_ren f r, List.map_append]
end
theorem out_ids_ren (f : Nat → Nat) (o : Out) : (o.ren f).ids = o.ids.map f := by cases o <;> exact ids_ren f _
theorem frzOne_keep (objs : Objs) (id : Nat) : (frzOne objs id).length = objs.length ∧ ∀ i, i ≠ id → (frzOne objs id).getD i .dead = objs.getD i .dead := by
  unfold frzOne
  split
  · refine ⟨by simp, fun i hi => ?_⟩
    rw [List.getD_eq_getElem?_getD, List.getD_eq_getElem?_getD, List.getElem?_set_ne (Ne.symm hi)]
  · exact ⟨rfl, fun _ _ => rfl⟩
theorem frzIds_keep : ∀ (ids : List Nat) (objs : Objs), (frzIds objs ids).length = objs.length ∧ ∀ i, i ∉ ids → (frzIds objs ids).getD i .dead = objs.getD i .dead
  | [], objs => ⟨rfl, fun _ _ => rfl⟩
  | j :: r, objs => by
    obtain ⟨h1, h2⟩ := frzOne_keep objs j
    obtain ⟨h3, h4⟩ := frzIds_keep r (frzOne objs j)
    refine ⟨h3.trans h1, fun i hi => ?_⟩
    simp only [List.mem_cons, not_or] at hi
    exact (h4 i hi.2).trans (h2 i hi.1)
theorem keeps_call1 {call : CallF} {f : Cal} {args : List PV} {objs objs' : Objs} {out : Out} (h : doCall1 call f args objs = some (out, objs')) : Keeps objs objs' (reach objs reachFuel (PVs.ids args) []) ∧ ∀ i ∈ out.ids, i < objs.length → i ∈ reach objs reachFuel (PVs.ids args) [] := by
  unfold doCall1 at h
  simp only at h
  split at h <;> first | (cases h; done) | skip
  split at h <;> first | (cases h; done) | skip
  split at h <;> first | (cases h; done) | skip
  injection h with h; injection h with h1 h2
  rename_i hd
  simp only [Bool.and_eq_true, List.all_eq_true] at hd
  rw [← h2, ← h1]
  refine ⟨⟨by simp, fun i hi hn => ?_⟩, fun i hi hlt => ?_⟩
  · rw [List.getD_eq_getElem?_getD, List.getElem?_append_left (by simpa using hi), List.getElem?_map, List.getElem?_range hi]
    have hc : (reach objs reachFuel (PVs.ids args) []).contains i = false := by simpa using hn
    simp only [Option.map_some, hc, Bool.false_eq_true, if_false, Option.getD_some]
  · rw [out_ids_ren] at hi
    obtain ⟨j, hj, rfl⟩ := List.mem_map.1 hi
    have := hd.1.1 j (List.mem_append.2 (.inl (List.mem_append.2 (.inl hj))))
    simp only [Bool.or_eq_true, decide_eq_true_eq] at this
    split at hlt
    · rename_i hjk
      rw [if_pos hjk, List.getD_eq_getElem?_getD, List.getElem?_eq_getElem hjk]
      exact List.getElem_mem hjk
    · omega
theorem keeps_call {po : Pol} {call : CallF} {f : Cal} {args : List PV} {objs objs' : Objs} {out : Out} (h : doCall po call f args objs = some (out, objs')) : Keeps objs objs' (callFoot po f args objs) := by
  unfold doCall at h
  unfold callFoot
  split at h
  · rename_i hp
    rw [if_pos hp]
    split at h <;> first | (cases h; done) | skip
    rename_i out1 objs1 hd
    injection h with h; injection h with h1 h2; subst h1 h2
    obtain ⟨k1, k2⟩ := keeps_call1 hd
    obtain ⟨f1, f2⟩ := frzIds_keep (PVs.ids args) objs
    obtain ⟨f3, f4⟩ := frzIds_keep out1.ids objs1
    rw [f1] at k2
    refine ⟨by rw [f3, ← f1]; exact k1.1, fun i hi hn => ?_⟩
    rw [List.mem_append, not_or] at hn
    rw [f4 i (fun hm => hn.2 (k2 i hm hi)), k1.2 i (by rw [f1]; exact hi) hn.2, f2 i hn.1]
  · rename_i hp
    rw [if_neg hp]
    exact (keeps_call1 h).1
theorem eff_keep {po : Pol} {call : CallF} {env : Env} {objs objs' : Objs} {op : IOp} {v : PV} (h : stepI po call env objs op = some (.ok v objs')) : Keeps objs objs' (footI po env objs op).2 := by
  by_cases he : op.eff = false
  · obtain ⟨v', hv⟩ := noneff_same he h
    injection hv with h1 h2; subst h2
    exact keeps_refl _ _
  cases op <;> simp only [IOp.eff, not_true_eq_false, Bool.true_eq_false, not_false_eq_true] at he
  case alloc zs => simp only [stepI] at h; injection h with h; injection h with h1 h2; subst h2; exact keeps_push _ _ _
  case allocAt id e zs =>
    simp only [stepI] at h
    split at h <;> first | (cases h; done) | skip
    injection h with h; injection h with h1 h2; subst h2
    exact keeps_set _ _ _ _ (by simp [footI])
  case box x =>
    simp only [stepI] at h
    split at h <;> first | (cases h; done) | skip
    injection h with h; injection h with h1 h2; subst h2; exact keeps_push _ _ _
  case cvp x =>
    simp only [stepI] at h
    split at h <;> first | (cases h; done) | skip
    split at h <;> first | (cases h; done) | skip
    split at h <;> first | (cases h; done) | skip
    injection h with h; injection h with h1 h2; subst h2; exact keeps_refl _ _
  case cvu tys x =>
    simp only [stepI] at h
    split at h <;> first | (cases h; done) | skip
    split at h <;> first | (cases h; done) | skip
    split at h <;> first | (cases h; done) | skip
    injection h with h; injection h with h1 h2; subst h2; exact keeps_refl _ _
  case store sz a x =>
    simp only [stepI] at h
    cases hx : opnd env a <;> simp only [hx] at h <;> try (cases h; done)
    case box id off =>
      split at h <;> first | (cases h; done) | skip
      split at h <;> first | (cases h; done) | skip
      injection h with h; injection h with h1 h2; subst h2
      exact keeps_set _ _ _ _ (by simp [footI, hx])
    case ebox id ver ez j off =>
      split at h <;> first | (cases h; done) | skip
      split at h <;> first | (cases h; done) | skip
      split at h <;> first | (cases h; done) | skip
      injection h with h; injection h with h1 h2; subst h2
      exact keeps_set _ _ _ _ (by simp [footI, hx])
  case call f args =>
    simp only [stepI] at h
    obtain ⟨out, o2, h1, h2⟩ := outRes_ok h
    cases out with
    | panic p => cases h2
    | ret p =>
    simp only [outToRes] at h2
    injection h2 with e1 e2
    subst e2
    exact keeps_call h1
  case callx f args =>
    simp only [stepI] at h
    obtain ⟨out, o2, h1, h2⟩ := outRes_ok h
    cases out with
    | panic p => cases h2
    | ret p =>
    simp only [outToRes] at h2
    injection h2 with e1 e2
    subst e2
    exact keeps_call h1
  case callv f args =>
    simp only [stepI] at h
    cases hx : opnd env f <;> simp only [hx] at h <;> try (cases h; done)
    all_goals
      obtain ⟨out, o2, h1, h2⟩ := outRes_ok h
      cases out with
      | panic p => cases h2
      | ret p =>
      simp only [outToRes] at h2
      injection h2 with e1 e2
      subst e2
      simp only [footI, hx]
      exact keeps_call h1
  case app e sz s x =>
    simp only [stepI] at h
    split at h <;> first | (cases h; done) | skip
    unfold appI at h
    cases hs : opnd env s <;> simp only [hs] at h <;> try (cases h; done)
    case d y =>
      cases y <;> simp only at h <;> try (cases h; done)
      split at h <;> first | (cases h; done) | skip
      injection h with h; injection h with h1 h2; subst h2; exact keeps_refl _ _
    case full els =>
      split at h
      · injection h with h; injection h with h1 h2; subst h2; exact keeps_refl _ _
      · split at h
        · split at h <;> first | (cases h; done) | skip
          injection h with h; injection h with h1 h2; subst h2; exact keeps_push _ _ _
        · split at h <;> first | (cases h; done) | skip
          injection h with h; injection h with h1 h2; subst h2; exact keeps_push _ _ _
    case sl id ver sz' lo n =>
      split at h <;> first | (cases h; done) | skip
      split at h <;> first | (cases h; done) | skip
      split at h
      all_goals
        injection h with h; injection h with h1 h2; subst h2
        exact keeps_set _ _ _ _ (by simp [footI, hs, PV.ids])
    case own els b =>
      split at h <;> first | (cases h; done) | skip
      split at h <;> first | (cases h; done) | skip
      injection h with h; injection h with h1 h2; subst h2
      exact keeps_set _ _ _ _ (by simp [footI, hs, PV.ids])
  case apps e s x =>
    simp only [stepI] at h
    split at h <;> first | (cases h; done) | skip
    unfold appI at h
    cases hs : opnd env s <;> simp only [hs] at h <;> try (cases h; done)
    case d y =>
      cases y <;> simp only at h <;> try (cases h; done)
      split at h <;> first | (cases h; done) | skip
      injection h with h; injection h with h1 h2; subst h2; exact keeps_refl _ _
    case full els =>
      split at h
      · injection h with h; injection h with h1 h2; subst h2; exact keeps_refl _ _
      · split at h
        · split at h <;> first | (cases h; done) | skip
          injection h with h; injection h with h1 h2; subst h2; exact keeps_push _ _ _
        · split at h <;> first | (cases h; done) | skip
          injection h with h; injection h with h1 h2; subst h2; exact keeps_push _ _ _
    case sl id ver sz' lo n =>
      split at h <;> first | (cases h; done) | skip
      split at h <;> first | (cases h; done) | skip
      split at h
      all_goals
        injection h with h; injection h with h1 h2; subst h2
        exact keeps_set _ _ _ _ (by simp [footI, hs, PV.ids])
    case own els b =>
      split at h <;> first | (cases h; done) | skip
      split at h <;> first | (cases h; done) | skip
      injection h with h; injection h with h1 h2; subst h2
      exact keeps_set _ _ _ _ (by simp [footI, hs, PV.ids])
  case pan x =>
    simp only [stepI] at h
    split at h <;> cases h
  case mkm => simp only [stepI] at h; injection h with h; injection h with h1 h2; subst h2; exact keeps_push _ _ _
  case mks e zs n m =>
    simp only [stepI] at h
    split at h <;> first | (cases h; done) | skip
    split at h <;> first | (cases h; done) | skip
    injection h with h; injection h with h1 h2; subst h2; exact keeps_push _ _ _
  case upd kk m k v2 =>
    simp only [stepI] at h
    cases hm : opnd env m <;> simp only [hm] at h <;> try (cases h; done)
    cases hk : opnd env k <;> simp only [hk] at h <;> try (cases h; done)
    split at h <;> first | (cases h; done) | skip
    split at h <;> first | (cases h; done) | skip
    split at h <;> first | (cases h; done) | skip
    injection h with h; injection h with h1 h2; subst h2
    exact keeps_set _ _ _ _ (by simp [footI, hm, PV.ids])
/-! ### other objects may be otherwise -/
theorem getD_dead {objs : Objs} {id : Nat} (h : ¬ id < objs.length) : objs.getD id .dead = .dead := by
  rw [List.getD_eq_getElem?_getD, List.getElem?_eq_none (by omega)]; rfl
theorem lt_of_getD {objs : Objs} {id : Nat} {o : AObj} (h : objs.getD id .dead = o) (ho : o ≠ .dead) : id < objs.length := by
  rcases Nat.lt_or_ge id objs.length with hl | hl
  · exact hl
  · exact (ho (by rw [← h, getD_dead (by omega)])).elim
theorem getD_set_self {objs : Objs} {id : Nat} {o : AObj} (h : id < objs.length) : (objs.set id o).getD id .dead = o := by
  rw [List.getD_eq_getElem?_getD, List.getElem?_set_self h]; rfl
theorem getD_set_ne {objs : Objs} {id i : Nat} {o : AObj} (h : i ≠ id) : (objs.set id o).getD i .dead = objs.getD i .dead := by
  rw [List.getD_eq_getElem?_getD, List.getD_eq_getElem?_getD, List.getElem?_set_ne (Ne.symm h)]
theorem getElem?_getD {objs : Objs} {id : Nat} (h : id < objs.length) : objs[id]? = some (objs.getD id .dead) := by
  rw [List.getD_eq_getElem?_getD, List.getElem?_eq_getElem h]; rfl
/-- One object alone is turned. -/
theorem free_move {po : Pol} {call : CallF} {env : Env} {objs objs' objs2 : Objs} {op : IOp} {v : PV} (hf : op.free = true) (hna : ∀ e zs, op ≠ .alloc e zs) (h : stepI po call env objs op = some (.ok v objs')) (ha : ∀ i ∈ (footI po env objs op).1 ++ (footI po env objs op).2, objs2.getD i .dead = objs.getD i .dead)
    (hlt : ∀ i ∈ (footI po env objs op).2, i < objs2.length) :
    ∃ objs2', stepI po call env objs2 op = some (.ok v objs2') ∧ objs2'.length = objs2.length ∧ objs'.length = objs.length ∧ (∀ i, i ∈ (footI po env objs op).2 → objs2'.getD i .dead = objs'.getD i .dead) ∧ ∀ i, i ∉ (footI po env objs op).2 → objs2'.getD i .dead = objs2.getD i .dead := by
  have fin : ∀ (id : Nat) (o : AObj), (footI po env objs op).2 = [id] → objs' = objs.set id o → id < objs.length → stepI po call env objs2 op = some (.ok v (objs2.set id o)) →
      ∃ objs2', stepI po call env objs2 op = some (.ok v objs2') ∧ objs2'.length = objs2.length ∧ objs'.length = objs.length ∧ (∀ i, i ∈ (footI po env objs op).2 → objs2'.getD i .dead = objs'.getD i .dead) ∧ ∀ i, i ∉ (footI po env objs op).2 → objs2'.getD i .dead = objs2.getD i .dead := by
    intro id o hw ho hid hs
    refine ⟨_, hs, by simp, by rw [ho]; simp, fun i hi => ?_, fun i hi => ?_⟩
    · rw [hw, List.mem_singleton] at hi
      subst hi
      rw [ho, getD_set_self (hlt i (by rw [hw]; simp)), getD_set_self hid]
    · rw [hw, List.mem_singleton] at hi
      exact getD_set_ne hi
  cases op <;> simp only [IOp.free, Bool.false_eq_true] at hf
  case alloc e zs => exact (hna e zs rfl).elim
  case allocAt id e zs =>
    simp only [stepI] at h
    split at h <;> first | (cases h; done) | skip
    rename_i hd
    injection h with h; injection h with h1 h2
    have hid := (List.getElem?_eq_some_iff.1 hd).1
    refine fin id (.cells e zs) (by simp [footI]) h2.symm hid ?_
    have h2' := ha id (by simp [footI])
    have hl2 := hlt id (by simp [footI])
    have : objs2[id]? = some .dead := by
      rw [getElem?_getD hl2, h2', List.getD_eq_getElem?_getD, hd]; rfl
    simp only [stepI, this, h1]
  case store sz a x =>
    simp only [stepI] at h
    cases hx : opnd env a <;> simp only [hx] at h <;> try (cases h; done)
    case box id off =>
      split at h <;> first | (cases h; done) | skip
      rename_i ty cs hob
      split at h <;> first | (cases h; done) | skip
      rename_i hc
      injection h with h; injection h with h1 h2
      refine fin id _ (by simp [footI, hx]) h2.symm (lt_of_getD hob (by simp)) ?_
      have h2' := ha id (by simp [footI, hx])
      simp only [stepI, hx, h2', hob]
      rw [if_pos hc, h1]
    case ebox id ver ez j off =>
      split at h <;> first | (cases h; done) | skip
      rename_i e els hob
      split at h <;> first | (cases h; done) | skip
      rename_i el vs hel hvs
      split at h <;> first | (cases h; done) | skip
      rename_i hc
      injection h with h; injection h with h1 h2
      refine fin id _ (by simp [footI, hx]) h2.symm (lt_of_getD hob (by simp)) ?_
      have h2' := ha id (by simp [footI, hx])
      have hvs' : toDs objs2 (opnd env x).cellsOf = some vs := by
        rw [toDs_move (os := objs) (os' := objs2) (fun i hi => ha i (by simp [footI, hx, hi]))]
        exact hvs
      simp only [stepI, hx, h2', hob, hel, hvs']
      rw [if_pos hc, h1]
theorem reach_seen (objs : Objs) : ∀ (n : Nat) (todo seen : List Nat), ∀ x ∈ seen, x ∈ reach objs n todo seen
  | 0, _, _, _, h => h
  | _ + 1, [], _, _, h => h
  | n + 1, i :: todo, seen, x, h => by
    unfold reach
    split
    · exact reach_seen objs n todo seen x h
    · exact reach_seen objs n _ _ x (List.mem_append.2 (.inl h))
theorem reach_move {objs objs2 : Objs} : ∀ (n : Nat) (todo seen : List Nat), (∀ i ∈ reach objs n todo seen, objs2.getD i .dead = objs.getD i .dead) → reach objs2 n todo seen = reach objs n todo seen
  | 0, _, _, _ => rfl
  | _ + 1, [], _, _ => rfl
  | n + 1, i :: todo, seen, h => by
    unfold reach at h ⊢
    by_cases hc : seen.contains i = true
    · rw [if_pos hc] at h ⊢
      rw [if_pos hc]
      exact reach_move n todo seen h
    · rw [if_neg hc] at h ⊢
      rw [if_neg hc, h i (reach_seen _ _ _ _ _ (by simp))]
      exact reach_move n _ _ h
/-- So many objects, some of them the same. -/
structure Moved (objs objs' objs2 objs2' : Objs) (ws : List Nat) : Prop where
  len : objs2'.length = objs'.length
  same : ∀ i, i ∈ ws ∨ objs.length ≤ i → objs2'.getD i .dead = objs'.getD i .dead
  rest : ∀ i, i < objs.length → i ∉ ws → objs2'.getD i .dead = objs2.getD i .dead
theorem doCall1_move {call : CallF} {f : Cal} {args : List PV} {objs objs' objs2 : Objs} {out : Out} (h : doCall1 call f args objs = some (out, objs')) (hlen : objs2.length = objs.length) (ha : ∀ i ∈ reach objs reachFuel (PVs.ids args) [], objs2.getD i .dead = objs.getD i .dead) :
    ∃ objs2', doCall1 call f args objs2 = some (out, objs2') ∧ Moved objs objs' objs2 objs2' (reach objs reachFuel (PVs.ids args) []) := by
  unfold doCall1 at h ⊢
  simp only at h ⊢
  rw [reach_move _ _ _ ha, hlen]
  generalize reach objs reachFuel (PVs.ids args) [] = rs at *
  have hsub : (rs.map fun i => objs2.getD i .dead) = rs.map fun i => objs.getD i .dead := List.map_congr_left ha
  rw [hsub]
  split at h <;> first | (cases h; done) | skip
  rename_i hc
  rw [if_pos hc]
  split at h <;> first | (cases h; done) | skip
  rename_i out1 objs1 hcl
  split at h <;> first | (cases h; done) | skip
  rename_i hd
  rw [if_pos hd]
  injection h with h; injection h with h1 h2
  rw [h1]
  refine ⟨_, rfl, ?_⟩
  subst h2
  refine ⟨by simp, fun i hi => ?_, fun i hi hn => ?_⟩
  · by_cases hlt : i < objs.length
    · have hr : i ∈ rs := hi.resolve_right (by omega)
      have hcn : rs.contains i = true := by simpa using hr
      rw [List.getD_eq_getElem?_getD, List.getD_eq_getElem?_getD, List.getElem?_append_left (by simpa using hlt), List.getElem?_append_left (by simpa using hlt), List.getElem?_map, List.getElem?_map, List.getElem?_range hlt]
      simp only [Option.map_some, hcn, if_true]
    · rw [List.getD_eq_getElem?_getD, List.getD_eq_getElem?_getD, List.getElem?_append_right (by simp; omega), List.getElem?_append_right (by simp; omega)]
      simp
  · have hcn : rs.contains i = false := by simpa using hn
    rw [List.getD_eq_getElem?_getD, List.getElem?_append_left (by simpa using hi), List.getElem?_map, List.getElem?_range hi]
    simp only [Option.map_some, hcn, Bool.false_eq_true, if_false, Option.getD_some]
def frzV : AObj → AObj
  | .vec e els => .frz e els
  | o => o
theorem frzOne_at (objs : Objs) (id i : Nat) : (frzOne objs id).getD i .dead = if i = id then frzV (objs.getD i .dead) else objs.getD i .dead := by
  unfold frzOne
  split
  · rename_i e els hob
    by_cases hi : i = id
    · subst hi
      rw [if_pos rfl, getD_set_self (lt_of_getD hob (by simp)), hob]; rfl
    · rw [if_neg hi, getD_set_ne hi]
  · rename_i hn
    split
    · rename_i hi
      subst hi
      cases hob : objs.getD i .dead <;> first | rfl | skip
      exact (hn _ _ hob).elim
    · rfl
theorem frzV_idem (o : AObj) : frzV (frzV o) = frzV o := by cases o <;> rfl
theorem frzIds_at : ∀ (ids : List Nat) (objs : Objs) (i : Nat), (frzIds objs ids).getD i .dead = if i ∈ ids then frzV (objs.getD i .dead) else objs.getD i .dead
  | [], objs, i => by simp [frzIds]
  | j :: r, objs, i => by
    unfold frzIds
    rw [frzIds_at r, frzOne_at]
    by_cases h1 : i = j <;> by_cases h2 : i ∈ r <;> simp [h1, h2, frzV_idem]
    all_goals (subst h1; simp_all)
theorem pur1_move {os os' : Objs} {p : PV} (h : ∀ i ∈ p.ids, os'.getD i .dead = os.getD i .dead) : p.pur1 os' = p.pur1 os := by
  unfold PV.pur1
  split <;> try rfl
  rw [asRow_move (os := os) (os' := os') (fun i hi => h i (by
    simp only [PV.slIds] at hi
    split at hi
    · cases hi
    · exact hi))]
theorem ids_mem {p : PV} {ps : List PV} {i : Nat} (hp : p ∈ ps) (hi : i ∈ p.ids) : i ∈ PVs.ids ps := by
  induction ps with
  | nil => cases hp
  | cons q r ih =>
    unfold PVs.ids
    rcases List.mem_cons.1 hp with rfl | hp
    · exact List.mem_append.2 (.inl hi)
    · exact List.mem_append.2 (.inr (ih hp))
theorem pur2_move {os os' : Objs} {p : PV} (h : ∀ i ∈ p.ids, os'.getD i .dead = os.getD i .dead) : p.pur2 os' = p.pur2 os := by
  unfold PV.pur2
  split
  · rename_i cs
    congr 1
    exact List.map_congr_left fun q hq => pur1_move fun i hi => h i (by simp only [PV.ids]; exact ids_mem hq hi)
  · exact pur1_move h
theorem pur_move {os os' : Objs} {p : PV} (h : ∀ i ∈ p.ids, os'.getD i .dead = os.getD i .dead) : p.pur os' = p.pur os := by
  unfold PV.pur
  split
  · rename_i cs
    congr 1
    exact List.map_congr_left fun q hq => pur2_move fun i hi => h i (by simp only [PV.ids]; exact ids_mem hq hi)
  · exact pur2_move h
theorem doCall_move {po : Pol} {call : CallF} {f : Cal} {args : List PV} {objs objs' objs2 : Objs} {out : Out} (h : doCall po call f args objs = some (out, objs')) (hlen : objs2.length = objs.length) (ha : ∀ i ∈ callFoot po f args objs, objs2.getD i .dead = objs.getD i .dead) :
    ∃ objs2', doCall po call f args objs2 = some (out, objs2') ∧ Moved objs objs' objs2 objs2' (callFoot po f args objs) := by
  unfold doCall at h ⊢
  unfold callFoot at ha ⊢
  split at h
  · rename_i hp
    rw [if_pos hp] at ha ⊢
    rw [if_pos hp]
    split at h <;> first | (cases h; done) | skip
    rename_i out1 objs1 hd
    injection h with h; injection h with h1 h2
    have hag : ∀ i, objs2.getD i .dead = objs.getD i .dead → (frzIds objs2 (PVs.ids args)).getD i .dead = (frzIds objs (PVs.ids args)).getD i .dead := fun i hi => by rw [frzIds_at, frzIds_at, hi]
    have hpur : args.map (PV.pur (frzIds objs2 (PVs.ids args))) = args.map (PV.pur (frzIds objs (PVs.ids args))) :=
      List.map_congr_left fun q hq => pur_move fun i hi => hag i (ha i (List.mem_append.2 (.inl (ids_mem hq hi))))
    obtain ⟨hk, hk2⟩ := keeps_call1 hd
    have hl0 := (frzIds_keep (PVs.ids args) objs).1
    obtain ⟨o2, hm, m1, m2, m3⟩ := doCall1_move (objs2 := frzIds objs2 (PVs.ids args)) hd (by rw [(frzIds_keep _ _).1, hl0]; exact hlen) (fun i hi => hag i (ha i (List.mem_append.2 (.inr hi))))
    rw [hpur, hm]
    simp only
    rw [hl0] at m2 m3 hk2
    have hout : ∀ i ∈ out1.ids, o2.getD i .dead = objs1.getD i .dead := fun i hi => m2 i (by
      rcases Nat.lt_or_ge i objs.length with hl | hl
      · exact .inl (hk2 i hi hl)
      · exact .inr hl)
    have hpo : out1.pur (frzIds o2 out1.ids) = out1.pur (frzIds objs1 out1.ids) := by
      cases out1 with
      | ret p =>
        simp only [Out.pur]
        congr 1
        exact pur_move fun i hi => by rw [frzIds_at, frzIds_at, hout i hi]
      | panic p => rfl
    rw [hpo, h1]
    refine ⟨_, rfl, ?_⟩
    subst h2
    refine ⟨by rw [(frzIds_keep _ _).1, (frzIds_keep _ _).1, m1], fun i hi => ?_, fun i hi hn => ?_⟩
    · have key : o2.getD i .dead = objs1.getD i .dead := by
        rcases Nat.lt_or_ge i objs.length with hl | hl
        · by_cases hr : i ∈ reach (frzIds objs (PVs.ids args)) reachFuel (PVs.ids (args.map (PV.pur (frzIds objs (PVs.ids args))))) []
          · exact m2 i (.inl hr)
          · have hia : i ∈ PVs.ids args := by
              rcases hi with hi | hi
              · exact (List.mem_append.1 hi).resolve_right hr
              · omega
            rw [m3 i hl hr, hag i (ha i (List.mem_append.2 (.inl hia)))]
            exact (hk.2 i (by rw [hl0]; exact hl) hr).symm
        · exact m2 i (.inr hl)
      rw [frzIds_at, frzIds_at, key]
    · rw [List.mem_append, not_or] at hn
      rw [frzIds_at, if_neg (fun hm => hn.2 (hk2 i hm hi)), m3 i hi hn.2, frzIds_at, if_neg hn.1]
  · rename_i hp
    rw [if_neg hp] at ha ⊢
    rw [if_neg hp]
    exact doCall1_move h hlen ha
theorem getD_push {objs : Objs} {o : AObj} {i : Nat} (h : i < objs.length) : (objs ++ [o]).getD i .dead = objs.getD i .dead := by
  rw [List.getD_eq_getElem?_getD, List.getD_eq_getElem?_getD, List.getElem?_append_left h]
theorem moved_push {objs objs2 : Objs} (hlen : objs2.length = objs.length) (o : AObj) (ws : List Nat) (ha : ∀ i ∈ ws, objs2.getD i .dead = objs.getD i .dead) : Moved objs (objs ++ [o]) objs2 (objs2 ++ [o]) ws := by
  refine ⟨by simp [hlen], fun i hi => ?_, fun i hi _ => getD_push (by omega)⟩
  rcases Nat.lt_or_ge i objs.length with hl | hl
  · rw [getD_push hl, getD_push (by omega)]
    exact ha i (hi.resolve_right (by omega))
  · rw [List.getD_eq_getElem?_getD, List.getD_eq_getElem?_getD, List.getElem?_append_right hl, List.getElem?_append_right (by omega), hlen]
theorem moved_refl {objs objs2 : Objs} (hlen : objs2.length = objs.length) (ws : List Nat) (ha : ∀ i ∈ ws, objs2.getD i .dead = objs.getD i .dead) : Moved objs objs objs2 objs2 ws := by
  refine ⟨hlen, fun i hi => ?_, fun i hi _ => rfl⟩
  rcases Nat.lt_or_ge i objs.length with hl | hl
  · exact ha i (hi.resolve_right (by omega))
  · rw [getD_dead (by omega), getD_dead (by omega)]
theorem moved_set {objs objs2 : Objs} (hlen : objs2.length = objs.length) {id : Nat} (o : AObj) {ws : List Nat} (hid : id ∈ ws) (hlt : id < objs.length) (ha : ∀ i ∈ ws, objs2.getD i .dead = objs.getD i .dead) : Moved objs (objs.set id o) objs2 (objs2.set id o) ws := by
  refine ⟨by simp [hlen], fun i hi => ?_, fun i hi hn => getD_set_ne (fun e => hn (e ▸ hid))⟩
  by_cases he : i = id
  · subst he
    rw [getD_set_self hlt, getD_set_self (by omega)]
  · rw [getD_set_ne he, getD_set_ne he]
    rcases Nat.lt_or_ge i objs.length with hl | hl
    · exact ha i (hi.resolve_right (by omega))
    · rw [getD_dead (by omega), getD_dead (by omega)]
theorem appI_move {vt : List TypeId} {e : TypeId} {sz : Nat} {s : PV} {els' : List (List D)} {objs objs' objs2 : Objs} {v : PV} (h : appI vt e sz s els' objs = some (.ok v objs')) (hlen : objs2.length = objs.length) (ha : ∀ i ∈ s.ids, objs2.getD i .dead = objs.getD i .dead) :
    ∃ objs2', appI vt e sz s els' objs2 = some (.ok v objs2') ∧ Moved objs objs' objs2 objs2' s.ids := by
  unfold appI at h ⊢
  cases hs : s <;> simp only [hs] at h ha ⊢ <;> try (cases h; done)
  case d y =>
    cases y <;> simp only at h ⊢ <;> try (cases h; done)
    split at h <;> first | (cases h; done) | skip
    rename_i hc
    rw [if_pos hc]
    injection h with h; injection h with h1 h2; subst h1 h2
    exact ⟨_, rfl, moved_refl hlen _ ha⟩
  case full els =>
    split at h
    · rename_i hc
      rw [if_pos hc]
      injection h with h; injection h with h1 h2; subst h1 h2
      exact ⟨_, rfl, moved_refl hlen _ ha⟩
    · rename_i hc
      rw [if_neg hc]
      split at h
      · rename_i hv
        rw [if_pos hv]
        split at h <;> first | (cases h; done) | skip
        rename_i hb
        rw [if_pos hb]
        injection h with h; injection h with h1 h2; subst h1 h2
        exact ⟨_, by rw [hlen], moved_push hlen _ _ ha⟩
      · rename_i hv
        rw [if_neg hv]
        split at h <;> first | (cases h; done) | skip
        rename_i hb
        rw [if_pos hb]
        injection h with h; injection h with h1 h2; subst h1 h2
        exact ⟨_, by rw [hlen], moved_push hlen _ _ ha⟩
  case own els b =>
    have hb := ha b (by simp [PV.ids])
    rw [hb]
    split at h <;> first | (cases h; done) | skip
    rename_i hob
    split at h <;> first | (cases h; done) | skip
    rename_i hc
    rw [if_pos hc]
    injection h with h; injection h with h1 h2; subst h1 h2
    exact ⟨_, rfl, moved_set hlen _ (by simp [PV.ids]) (lt_of_getD hob (by simp)) ha⟩
  case sl id ver sz' lo n =>
    have hb := ha id (by simp [PV.ids])
    rw [hb]
    split at h <;> first | (cases h; done) | skip
    rename_i hob
    split at h <;> first | (cases h; done) | skip
    rename_i hc
    rw [if_pos hc]
    split at h
    · rename_i hn
      rw [if_pos hn]
      injection h with h; injection h with h1 h2; subst h1 h2
      exact ⟨_, rfl, moved_set hlen _ (by simp [PV.ids]) (lt_of_getD hob (by simp)) ha⟩
    · rename_i hn
      rw [if_neg hn]
      injection h with h; injection h with h1 h2; subst h1 h2
      exact ⟨_, rfl, moved_set hlen _ (by simp [PV.ids]) (lt_of_getD hob (by simp)) ha⟩
/-- As many objects; those that the operation touches are the same. -/
theorem hard_move {po : Pol} {call : CallF} {env : Env} {objs objs' objs2 : Objs} {op : IOp} {v : PV} (he : op.eff = true) (hf : op.free = false) (h : stepI po call env objs op = some (.ok v objs')) (hlen : objs2.length = objs.length) (ha : ∀ i ∈ (footI po env objs op).1 ++ (footI po env objs op).2, objs2.getD i .dead = objs.getD i .dead) :
    ∃ objs2', stepI po call env objs2 op = some (.ok v objs2') ∧ Moved objs objs' objs2 objs2' (footI po env objs op).2 := by
  have ha2 : ∀ i ∈ (footI po env objs op).2, objs2.getD i .dead = objs.getD i .dead := fun i hi => ha i (List.mem_append.2 (.inr hi))
  cases op <;> simp only [IOp.eff, IOp.free, Bool.false_eq_true, Bool.true_eq_false] at he hf
  case box x =>
    simp only [stepI] at h ⊢
    split at h <;> first | (cases h; done) | skip
    rename_i hc
    rw [if_pos hc]
    injection h with h; injection h with h1 h2; subst h1 h2
    exact ⟨_, by rw [hlen], moved_push hlen _ _ ha2⟩
  case mkm =>
    simp only [stepI] at h ⊢
    injection h with h; injection h with h1 h2; subst h1 h2
    exact ⟨_, by rw [hlen], moved_push hlen _ _ ha2⟩
  case mks e zs n m =>
    simp only [stepI] at h ⊢
    split at h <;> first | (cases h; done) | skip
    split at h <;> first | (cases h; done) | skip
    rename_i hc
    rw [if_pos hc]
    injection h with h; injection h with h1 h2; subst h1 h2
    exact ⟨_, by rw [hlen], moved_push hlen _ _ ha2⟩
  case cvp x =>
    simp only [stepI] at h ⊢
    cases hx : opnd env x <;> simp only [hx] at h ⊢ <;> try (cases h; done)
    rw [ha _ (List.mem_append.2 (.inl (by simp [footI, hx, PV.ids])))]
    split at h <;> first | (cases h; done) | skip
    split at h <;> first | (cases h; done) | skip
    rename_i hc
    rw [if_pos hc]
    injection h with h; injection h with h1 h2; subst h1 h2
    exact ⟨_, rfl, moved_refl hlen _ ha2⟩
  case cvu tys x =>
    simp only [stepI] at h ⊢
    cases hx : opnd env x <;> simp only [hx] at h ⊢ <;> try (cases h; done)
    rw [ha _ (List.mem_append.2 (.inl (by simp [footI, hx, PV.ids])))]
    split at h <;> first | (cases h; done) | skip
    split at h <;> first | (cases h; done) | skip
    rename_i hc
    rw [if_pos hc]
    injection h with h; injection h with h1 h2; subst h1 h2
    exact ⟨_, rfl, moved_refl hlen _ ha2⟩
  case call f args =>
    simp only [stepI] at h ⊢
    obtain ⟨out, o2, h1, h2⟩ := outRes_ok h
    cases out with
    | panic p => cases h2
    | ret p =>
      simp only [outToRes] at h2
      injection h2 with e1 e2; subst e1 e2
      obtain ⟨o3, hm, hmv⟩ := doCall_move h1 hlen ha2
      exact ⟨o3, by rw [hm]; rfl, hmv⟩
  case callx f args =>
    simp only [stepI] at h ⊢
    obtain ⟨out, o2, h1, h2⟩ := outRes_ok h
    cases out with
    | panic p => cases h2
    | ret p =>
      simp only [outToRes] at h2
      injection h2 with e1 e2; subst e1 e2
      obtain ⟨o3, hm, hmv⟩ := doCall_move h1 hlen ha2
      exact ⟨o3, by rw [hm]; rfl, hmv⟩
  case callv f args =>
    simp only [stepI] at h ⊢
    cases hx : opnd env f <;> simp only [hx] at h ⊢ <;> try (cases h; done)
    all_goals
      obtain ⟨out, o2, h1, h2⟩ := outRes_ok h
      cases out with
      | panic p => cases h2
      | ret p =>
        simp only [outToRes] at h2
        injection h2 with e1 e2; subst e1 e2
        simp only [footI, hx] at ha2
        obtain ⟨o3, hm, hmv⟩ := doCall_move h1 hlen ha2
        exact ⟨o3, by rw [hm]; rfl, by simpa only [footI, hx] using hmv⟩
  case app e sz s x =>
    simp only [stepI] at h ⊢
    rw [asRow_move (os := objs) (os' := objs2) (fun i hi => ha i (List.mem_append.2 (.inl (by simpa [footI] using hi))))]
    split at h <;> first | (cases h; done) | skip
    exact appI_move h hlen ha2
  case apps e s x =>
    simp only [stepI] at h ⊢
    split at h <;> first | (cases h; done) | skip
    exact appI_move h hlen ha2
  case pan x =>
    simp only [stepI] at h
    split at h <;> cases h
  case upd kk m k v2 =>
    simp only [stepI] at h ⊢
    cases hm : opnd env m <;> simp only [hm] at h ⊢ <;> try (cases h; done)
    cases hk : opnd env k <;> simp only [hk] at h ⊢ <;> try (cases h; done)
    rename_i id kd
    rw [ha2 id (by simp [footI, hm, PV.ids])]
    split at h <;> first | (cases h; done) | skip
    rename_i hob
    split at h <;> first | (cases h; done) | skip
    rename_i hc
    rw [if_pos hc]
    split at h <;> first | (cases h; done) | skip
    injection h with h; injection h with h1 h2; subst h1 h2
    exact ⟨_, rfl, moved_set hlen _ (by simp [footI, hm, PV.ids]) (lt_of_getD hob (by simp)) ha2⟩

/-! ### the run in the order of the text -/
structure Trace (po : Pol) (call : CallF) (ios : List OpI) (E : Nat → Env) (O : Nat → Objs) (V : Nat → PV) (kp : Nat → PV → Objs → Prop) : Prop where
  step : ∀ i io, ios[i]? = some io → ∃ b, wantedI (E i) io.guard = some b ∧ E (i + 1) = put (E i) io.dst (V i) ∧ ((b = true ∧ stepI po call (E i) (O i) io.op = some (.ok (V i) (O (i + 1)))) ∨ ((b = false ∨ b = true ∧ ∃ v ob, kp i v ob ∧ stepI po call (E i) (O i) io.op = some (.pan v ob)) ∧ V i = undI ∧ O (i + 1) = O i))
def consF {α : Type} (x : α) (f : Nat → α) : Nat → α
  | 0 => x
  | n + 1 => f n
/-- What an operation of the run turns. -/
noncomputable def wrt (po : Pol) (E : Nat → Env) (O : Nat → Objs) (i : Nat) (op : IOp) : List Nat := (footI po (E i) (O i) op).2 ++ newIds (O i) (O (i + 1))
theorem trace_of {po : Pol} {call : CallF} : ∀ {ios : List OpI} {env env' : Env} {objs objs' : Objs}, regI po call ios env objs = some (.normal, env', objs') → ∀ kp : Nat → PV → Objs → Prop, ∃ E O V, Trace po call ios E O V kp ∧ E 0 = env ∧ O 0 = objs ∧ E ios.length = env' ∧ O ios.length = objs' ∧
    ∀ st fs, regF po call ios env objs = some (st, fs) → ∀ i io, ios[i]? = some io → wantedI (E i) io.guard = some true → fs.getD i ([], []) = ((footI po (E i) (O i) io.op).1, wrt po E O i io.op)
  | [], env, env', objs, objs', h, kp => by
    unfold regI at h
    injection h with h; injection h with _ h; injection h with h1 h2
    exact ⟨fun _ => env, fun _ => objs, fun _ => .any, ⟨by simp⟩, rfl, rfl, h1, h2, by simp⟩
  | o :: r, env, env', objs, objs', h, kp => by
    unfold regI at h
    cases hw : wantedI env o.guard with
    | none => simp [hw] at h
    | some b =>
      cases b with
      | false =>
        simp only [hw] at h
        obtain ⟨E, O, V, ht, e0, o0, e1, o1, hf⟩ := trace_of h (fun i => kp (i + 1))
        refine ⟨consF env E, consF objs O, consF undI V, ⟨fun i io hi => ?_⟩, rfl, rfl, e1, o1, fun st fs hfs i io hi hwi => ?_⟩
        · cases i with
          | zero => simp at hi; subst hi; exact ⟨false, hw, e0, .inr ⟨.inl rfl, rfl, o0⟩⟩
          | succ i => exact ht.step i io (by simpa using hi)
        · unfold regF at hfs
          simp only [hw] at hfs
          split at hfs <;> first | (cases hfs; done) | skip
          rename_i st' fs' h1
          injection hfs with hfs; injection hfs with q1 q2; subst q1 q2
          cases i with
          | zero => simp at hi; subst hi; simp only [consF] at hwi; rw [hw] at hwi; cases hwi
          | succ i => exact hf _ fs' h1 i io (by simpa using hi) hwi
      | true =>
        simp only [hw] at h
        cases hs : stepI po call env objs o.op with
        | none => simp [hs] at h
        | some res =>
          cases res with
          | pan v o2 => simp only [hs] at h; injection h with h; injection h with h; cases h
          | ok v o2 =>
            simp only [hs] at h
            obtain ⟨E, O, V, ht, e0, o0, e1, o1, hf⟩ := trace_of h (fun i => kp (i + 1))
            refine ⟨consF env E, consF objs O, consF v V, ⟨fun i io hi => ?_⟩, rfl, rfl, e1, o1, fun st fs hfs i io hi hwi => ?_⟩
            · cases i with
              | zero => simp at hi; subst hi; exact ⟨true, hw, e0, .inl ⟨rfl, by simp only [consF]; rw [o0]; exact hs⟩⟩
              | succ i => exact ht.step i io (by simpa using hi)
            · unfold regF at hfs
              simp only [hw, hs] at hfs
              split at hfs <;> first | (cases hfs; done) | skip
              rename_i st' fs' h1
              injection hfs with hfs; injection hfs with q1 q2; subst q1 q2
              cases i with
              | zero => simp at hi; subst hi; simp only [wrt, consF, o0]; rfl
              | succ i => exact hf _ fs' h1 i io (by simpa using hi) hwi
/-- What a temporary holds behind some of the first n operations, in the order of the text. -/
def lookT (ios : List OpI) (V : Nat → PV) (e0 : Env) (S : Nat → Bool) (t : Nat) : Nat → PV
  | 0 => e0.getD t .any
  | n + 1 => if S n && (match ios[n]? with | some io => io.dst == some t | none => false) then V n else lookT ios V e0 S t n
theorem lookT_skip {ios : List OpI} {V : Nat → PV} {e0 : Env} {S : Nat → Bool} {t : Nat} : ∀ {n m : Nat}, n ≤ m → (∀ j io, n ≤ j → j < m → ios[j]? = some io → io.dst = some t → S j = false) → lookT ios V e0 S t m = lookT ios V e0 S t n := by
  intro n m h
  induction m with
  | zero => intro _; rw [Nat.le_zero.1 h]
  | succ m ih =>
    intro hs
    by_cases hnm : n = m + 1
    · rw [hnm]
    · have hle : n ≤ m := by omega
      rw [lookT, ih hle (fun j io h1 h2 => hs j io h1 (by omega))]
      rw [if_neg]
      intro hc
      simp only [Bool.and_eq_true] at hc
      cases hio : ios[m]? with
      | none => rw [hio] at hc; exact absurd hc.2 (by simp)
      | some io =>
        rw [hio] at hc
        have := hs m io hle (by omega) hio (by simpa using hc.2)
        rw [this] at hc
        cases hc.1
theorem lookT_congr {ios : List OpI} {V : Nat → PV} {e0 : Env} {S S' : Nat → Bool} {t : Nat} : ∀ {n : Nat}, (∀ j io, j < n → ios[j]? = some io → io.dst = some t → S j = S' j) → lookT ios V e0 S t n = lookT ios V e0 S' t n := by
  intro n
  induction n with
  | zero => intro _; rfl
  | succ n ih =>
    intro h
    rw [lookT, lookT, ih (fun j io hj => h j io (by omega))]
    cases hio : ios[n]? with
    | none => simp
    | some io =>
      by_cases hd : io.dst = some t
      · rw [h n io (by omega) hio hd]
      · have : (io.dst == some t) = false := by simpa using hd
        simp [this]
def envS (ios : List OpI) (V : Nat → PV) (e0 : Env) (S : Nat → Bool) : Env := (List.range e0.length).map fun t => lookT ios V e0 S t ios.length
theorem envS_get {ios : List OpI} {V : Nat → PV} {e0 : Env} {S : Nat → Bool} (t : Nat) : (envS ios V e0 S).getD t .any = if t < e0.length then lookT ios V e0 S t ios.length else .any := by
  unfold envS
  rw [List.getD_eq_getElem?_getD, List.getElem?_map]
  by_cases h : t < e0.length
  · rw [List.getElem?_range h, if_pos h]; rfl
  · rw [List.getElem?_eq_none (by simpa using h), if_neg h]; rfl
theorem put_len (env : Env) (d : Option Nat) (v : PV) : (put env d v).length = env.length := by
  cases d with
  | none => rfl
  | some d => rw [put_some]; simp
theorem put_get (env : Env) (d : Option Nat) (v : PV) (t : Nat) : (put env d v).getD t .any = if d = some t ∧ t < env.length then v else env.getD t .any := by
  cases d with
  | none => simp [put]
  | some d =>
    simp only [put_some, List.getD_eq_getElem?_getD, Option.some.injEq]
    by_cases h : d = t
    · subst h
      by_cases hl : d < env.length
      · rw [List.getElem?_set_self hl, if_pos ⟨rfl, hl⟩]; rfl
      · rw [if_neg (by simp [hl]), List.getElem?_eq_none (by simpa using hl), List.getElem?_eq_none (by simpa using hl)]
    · rw [List.getElem?_set_ne h, if_neg (by simp [h])]
theorem trace_env {po : Pol} {call : CallF} {ios : List OpI} {E : Nat → Env} {O : Nat → Objs} {V : Nat → PV} {kp : Nat → PV → Objs → Prop} (ht : Trace po call ios E O V kp) : ∀ i, i ≤ ios.length → (E i).length = (E 0).length ∧ ∀ t, (E i).getD t .any = if t < (E 0).length then lookT ios V (E 0) (fun _ => true) t i else .any := by
  intro i
  induction i with
  | zero =>
    intro _
    refine ⟨rfl, fun t => ?_⟩
    split
    · rfl
    · rename_i h
      rw [List.getD_eq_getElem?_getD, List.getElem?_eq_none (by simpa using h)]; rfl
  | succ i ih =>
    intro hi
    obtain ⟨h1, h2⟩ := ih (by omega)
    obtain ⟨b, _, he, _⟩ := ht.step i _ (List.getElem?_eq_getElem (by omega))
    refine ⟨by rw [he, put_len, h1], fun t => ?_⟩
    rw [he, put_get, h2, h1, lookT, List.getElem?_eq_getElem (by omega)]
    by_cases hd : ios[i].dst = some t
    · by_cases hl : t < (E 0).length
      · simp [hd, hl]
      · simp [hl]
    · have : (ios[i].dst == some t) = false := by simpa using hd
      simp [hd, this]
theorem list_ext_getD {l l' : Env} (h : l.length = l'.length) (hg : ∀ t, l.getD t .any = l'.getD t .any) : l = l' := by
  apply List.ext_getElem?
  intro t
  by_cases ht : t < l.length
  · have := hg t
    rw [List.getD_eq_getElem?_getD, List.getD_eq_getElem?_getD, List.getElem?_eq_getElem ht, List.getElem?_eq_getElem (by omega)] at this
    rw [List.getElem?_eq_getElem ht, List.getElem?_eq_getElem (by omega)]
    simpa using this
  · rw [List.getElem?_eq_none (by omega), List.getElem?_eq_none (by omega)]

/-! ### what goes ahead -/
theorem befs_ok (S : Nat → Bool) : ∀ (l : List Oper) (acc : List (List Nat)), (∀ i o, l[i]? = some o → S (acc.length + i) = true → ∀ j ∈ predsOf o, S j = true) → (∀ k j, j ∈ acc.getD k [] → S k = true → S j = true) → ∀ k j, j ∈ (befsOf l acc).getD k [] → S k = true → S j = true
  | [], acc, _, h2 => h2
  | o :: r, acc, h1, h2 => by
    unfold befsOf
    refine befs_ok S r _ (fun i o' hi hs => ?_) (fun k j hj hk => ?_)
    · have := h1 (i + 1) o' (by simpa using hi)
      rw [List.length_append, List.length_singleton] at hs
      exact this (by rwa [show acc.length + (i + 1) = acc.length + 1 + i from by omega])
    · by_cases hlt : k < acc.length
      · rw [List.getD_eq_getElem?_getD, List.getElem?_append_left hlt, ← List.getD_eq_getElem?_getD] at hj
        exact h2 k j hj hk
      · by_cases heq : k = acc.length
        · subst heq
          rw [List.getD_eq_getElem?_getD, List.getElem?_append_right (Nat.le_refl _)] at hj
          simp only [Nat.sub_self, List.getElem?_cons_zero, Option.getD_some] at hj
          rw [List.mem_eraseDups] at hj
          have h0 := h1 0 o rfl (by simpa using hk)
          rcases List.mem_append.1 hj with hj | hj
          · exact h0 j hj
          · obtain ⟨q, hq, hjq⟩ := List.mem_flatMap.1 hj
            exact h2 q j hjq (h0 q hq)
        · rw [List.getD_eq_getElem?_getD, List.getElem?_eq_none (by simp; omega)] at hj
          simp at hj
theorem pairs_mem {n i j : Nat} (h1 : i < j) (h2 : j < n) : (i, j) ∈ pairsOf n := by
  unfold pairsOf
  exact List.mem_flatMap.2 ⟨j, List.mem_range.2 h2, List.mem_map.2 ⟨i, List.mem_range.2 h1, rfl⟩⟩

def cnt (S : Nat → Bool) : Nat → Nat
  | 0 => 0
  | n + 1 => cnt S n + if S n then 0 else 1
theorem cnt_zero {S : Nat → Bool} : ∀ {m : Nat}, cnt S m = 0 → ∀ i, i < m → S i = true
  | m + 1, h, i, hi => by
    unfold cnt at h
    by_cases him : i = m
    · subst him
      cases hs : S i with
      | true => rfl
      | false => simp [hs] at h
    · have : cnt S m = 0 := by omega
      exact cnt_zero this i (by omega)
theorem cnt_all {S : Nat → Bool} : ∀ {m : Nat}, (∀ i, i < m → S i = true) → cnt S m = 0
  | 0, _ => rfl
  | m + 1, h => by
    unfold cnt
    rw [cnt_all (fun i hi => h i (by omega)), h m (by omega)]
    rfl
theorem cnt_congr {S S' : Nat → Bool} : ∀ {m : Nat}, (∀ i, i < m → S' i = S i) → cnt S' m = cnt S m
  | 0, _ => rfl
  | m + 1, h => by
    unfold cnt
    rw [cnt_congr (fun i hi => h i (by omega)), h m (by omega)]
theorem cnt_set {S S' : Nat → Bool} {i : Nat} (h1 : S i = false) (h2 : S' i = true) (h3 : ∀ j, j ≠ i → S' j = S j) : ∀ (m : Nat), i < m → cnt S' m + 1 = cnt S m
  | m + 1, h => by
    unfold cnt
    by_cases him : i = m
    · subst him
      rw [h1, h2, cnt_congr (fun j hj => h3 j (by omega))]
      simp
    · have hlt : i < m := by omega
      have := cnt_set h1 h2 h3 m hlt
      rw [h3 m (fun e => him e.symm)]
      omega
theorem compOps_at {ops : Array Oper} : ∀ {l : List Oper} {ios : List OpI}, compOps P ops l = some ios → ios.length = l.length ∧ ∀ (i : Nat) o, l[i]? = some o → ∃ io, ios[i]? = some io ∧ compOp P o = some io.op ∧ io.dst = o.dst ∧ (match o.guard with | none => io.guard = none | some (j, want) => ∃ t, (ops[j]?).bind (·.dst) = some t ∧ io.guard = some (t, want))
  | [], ios, h => by unfold compOps at h; injection h with h; subst h; exact ⟨rfl, by simp⟩
  | o :: r, ios, h => by
    unfold compOps at h
    cases h1 : compOp P o with
    | none => simp [h1] at h
    | some op => cases h2 : compOps P ops r with
      | none => simp [h1, h2] at h
      | some os =>
        obtain ⟨hl, ha⟩ := compOps_at h2
        simp only [h1, h2] at h
        obtain ⟨gd, hios, hgd⟩ : ∃ gd, ios = { dst := o.dst, guard := gd, op := op } :: os ∧ (match o.guard with | none => gd = none | some (j, want) => ∃ t, (ops[j]?).bind (·.dst) = some t ∧ gd = some (t, want)) := by
          cases hg : o.guard with
          | none => rw [hg] at h; injection h with h; exact ⟨none, h.symm, rfl⟩
          | some jw =>
            obtain ⟨j, want⟩ := jw
            rw [hg] at h
            simp only at h
            split at h <;> first | (cases h; done) | skip
            rename_i t ht
            injection h with h
            exact ⟨some (t, want), h.symm, t, ht, rfl⟩
        subst hios
        refine ⟨by simp [hl], fun i o' hi => ?_⟩
        cases i with
        | zero => simp at hi; subst hi; exact ⟨_, rfl, h1, rfl, hgd⟩
        | succ i => exact ha i o' (by simpa using hi)
theorem wanted_congr {env env' : Env} {gd : Option (Nat × Bool)} (h : ∀ t ∈ (match gd with | some (t, _) => [t] | none => []), env.getD t .any = env'.getD t .any) : wantedI env gd = wantedI env' gd := by
  cases gd with
  | none => rfl
  | some tw => obtain ⟨t, want⟩ := tw; simp only [wantedI, getR_eq]; rw [h t (by simp)]
theorem clash_eff {a b : OpI} (h : clash a b = false) : ¬ ((a.op.eff = true ∧ a.op.free = false) ∧ b.op.eff = true ∧ b.op.free = false) ∧ (∀ d, a.dst = some d → d ∉ b.reads ∧ b.dst ≠ some d) ∧ ∀ d, b.dst = some d → d ∉ a.reads := by
  unfold clash at h
  simp only [Bool.or_eq_false_iff] at h
  obtain ⟨⟨h1, h2⟩, h3⟩ := h
  refine ⟨fun ⟨⟨x, x'⟩, y, y'⟩ => by simp [x, x', y, y'] at h1, fun d hd => ?_, fun d hd => ?_⟩
  · rw [hd] at h2
    simp only [Bool.or_eq_false_iff] at h2
    exact ⟨by simpa using h2.1, by simpa using h2.2⟩
  · rw [hd] at h3
    simpa using h3
theorem wrt_keep {po : Pol} {call : CallF} {ios : List OpI} {E : Nat → Env} {O : Nat → Objs} {V : Nat → PV} {kp : Nat → PV → Objs → Prop} (ht : Trace po call ios E O V kp) {e : Nat} {io : OpI} (hio : ios[e]? = some io) (id : Nat) (h : io.op.eff = true → wantedI (E e) io.guard = some true → id ∉ wrt po E O e io.op) : (O (e + 1)).getD id .dead = (O e).getD id .dead := by
  obtain ⟨b, hw, _, hb⟩ := ht.step e io hio
  rcases hb with ⟨rfl, hs⟩ | ⟨_, _, ho⟩
  · cases heff : io.op.eff with
    | false =>
      obtain ⟨v, hv⟩ := noneff_same heff hs
      injection hv with _ hv
      rw [hv]
    | true =>
      have hn := h heff hw
      unfold wrt at hn
      rw [List.mem_append, not_or] at hn
      obtain ⟨k1, k2⟩ := eff_keep hs
      rcases Nat.lt_or_ge id (O e).length with hl | hl
      · exact k2 id hl hn.1
      · have : ¬ id < (O (e + 1)).length := fun hlt => hn.2 (by
          unfold newIds
          rw [List.mem_range'_1]
          omega)
        rw [getD_dead this, getD_dead (by omega)]
  · rw [ho]
theorem O_keep {po : Pol} {call : CallF} {ios : List OpI} {E : Nat → Env} {O : Nat → Objs} {V : Nat → PV} {kp : Nat → PV → Objs → Prop} (ht : Trace po call ios E O V kp) (id : Nat) : ∀ {x y : Nat}, x ≤ y → y ≤ ios.length → (∀ e io, x ≤ e → e < y → ios[e]? = some io → io.op.eff = true → wantedI (E e) io.guard = some true → id ∉ wrt po E O e io.op) → (O y).getD id .dead = (O x).getD id .dead := by
  intro x y hxy
  induction y with
  | zero => intro _ _; rw [Nat.le_zero.1 hxy]
  | succ y ih =>
    intro hy hne
    by_cases hx : x = y + 1
    · rw [← hx]
    · have hle : x ≤ y := by omega
      rw [wrt_keep ht (List.getElem?_eq_getElem (by omega)) id (fun h1 h2 => hne y _ hle (by omega) (List.getElem?_eq_getElem (by omega)) h1 h2)]
      exact ih hle (by omega) (fun e io h1 h2 => hne e io h1 (by omega))
theorem free_lt {po : Pol} {call : CallF} {env : Env} {objs objs' : Objs} {op : IOp} {v : PV} (hf : op.free = true) (hs : stepI po call env objs op = some (.ok v objs')) : ∀ i ∈ (footI po env objs op).2, i < objs.length ∧ (objs.getD i .dead ≠ .dead ∨ ∃ e zs, op = .allocAt i e zs) := by
  intro i hi
  cases op <;> simp only [IOp.free, Bool.false_eq_true] at hf
  case alloc => simp [footI] at hi
  case allocAt id e zs =>
    simp only [footI, List.mem_singleton] at hi
    subst hi
    simp only [stepI] at hs
    split at hs <;> first | (cases hs; done) | skip
    rename_i hd
    exact ⟨(List.getElem?_eq_some_iff.1 hd).1, .inr ⟨e, zs, rfl⟩⟩
  case store sz a x =>
    simp only [stepI] at hs
    simp only [footI] at hi
    cases hx : opnd env a <;> simp only [hx] at hs hi <;> first | (cases hs; done) | skip
    · simp only [List.mem_singleton] at hi
      subst hi
      split at hs <;> first | (cases hs; done) | skip
      rename_i hob
      exact ⟨lt_of_getD hob (by simp), .inl (by rw [hob]; simp)⟩
    · simp only [List.mem_singleton] at hi
      subst hi
      split at hs <;> first | (cases hs; done) | skip
      rename_i hob
      exact ⟨lt_of_getD hob (by simp), .inl (by rw [hob]; simp)⟩
theorem O_len {po : Pol} {call : CallF} {ios : List OpI} {E : Nat → Env} {O : Nat → Objs} {V : Nat → PV} {kp : Nat → PV → Objs → Prop} (ht : Trace po call ios E O V kp) (hna : ∀ io ∈ ios, ∀ e zs, io.op ≠ .alloc e zs) : ∀ {x y : Nat}, x ≤ y → y ≤ ios.length → (∀ e io, x ≤ e → e < y → ios[e]? = some io → io.op.eff = true → io.op.free = true) → (O y).length = (O x).length := by
  intro x y hxy
  induction y with
  | zero => intro _ _; rw [Nat.le_zero.1 hxy]
  | succ y ih =>
    intro hy hne
    by_cases hx : x = y + 1
    · rw [← hx]
    · have hle : x ≤ y := by omega
      have hih := ih hle (by omega) (fun e io h1 h2 => hne e io h1 (by omega))
      have hio := List.getElem?_eq_getElem (l := ios) (i := y) (by omega)
      obtain ⟨b, _, _, hb⟩ := ht.step y _ hio
      rw [← hih]
      rcases hb with ⟨rfl, hs⟩ | ⟨_, _, ho⟩
      · cases heff : ios[y].op.eff with
        | false =>
          obtain ⟨v, hv⟩ := noneff_same heff hs
          injection hv with _ hv
          rw [hv]
        | true =>
          have hf := hne y _ hle (by omega) hio heff
          obtain ⟨_, _, _, hl, _⟩ := free_move (objs2 := O y) hf (hna _ (List.mem_of_getElem? hio)) hs (fun _ _ => rfl) (fun i hi => (free_lt hf hs i hi).1)
          exact hl
      · rw [ho]
theorem ready_iff {ops : Array Oper} {listed : Array Bool} {i : Nat} : i ∈ Region.ready .any ops listed ↔ i < ops.size ∧ listed.getD i true = false ∧ ∃ o, ops[i]? = some o ∧ ∀ j ∈ predsOf o, listed.getD j false = true := by
  unfold Region.ready
  simp only [List.mem_filter, List.mem_range, Bool.and_eq_true, Bool.not_eq_true']
  constructor
  · rintro ⟨h1, h2, h3⟩
    refine ⟨h1, h2, ops[i], Array.getElem?_eq_getElem h1, fun j hj => ?_⟩
    rw [Array.getElem?_eq_getElem h1] at h3
    simp only [Option.map_some, Option.getD_some, Array.all_eq_true_iff_forall_mem] at h3
    unfold predsOf at hj
    obtain ⟨e, he, rfl⟩ := List.mem_map.1 hj
    obtain ⟨he1, he2⟩ := List.mem_filter.1 he
    have := h3 e (by simpa using he1)
    simpa [he2] using this
  · rintro ⟨h1, h2, o, ho, h3⟩
    refine ⟨h1, h2, ?_⟩
    rw [ho]
    simp only [Option.map_some, Option.getD_some, Array.all_eq_true_iff_forall_mem]
    intro e he
    cases hb : Region.binds .any e with
    | false => rfl
    | true =>
      have := h3 e.on (List.mem_map.2 ⟨e, List.mem_filter.2 ⟨by simpa using he, hb⟩, rfl⟩)
      simp [this]

theorem O_mono {po : Pol} {call : CallF} {ios : List OpI} {E : Nat → Env} {O : Nat → Objs} {V : Nat → PV} {kp : Nat → PV → Objs → Prop} (ht : Trace po call ios E O V kp) : ∀ {x y : Nat}, x ≤ y → y ≤ ios.length → (O x).length ≤ (O y).length := by
  intro x y hxy
  induction y with
  | zero => intro _; rw [Nat.le_zero.1 hxy]; exact Nat.le_refl _
  | succ y ih =>
    intro hy
    by_cases hx : x = y + 1
    · rw [← hx]; exact Nat.le_refl _
    · obtain ⟨b, _, _, hb⟩ := ht.step y _ (List.getElem?_eq_getElem (by omega))
      refine Nat.le_trans (ih (by omega) (by omega)) ?_
      rcases hb with ⟨rfl, hs⟩ | ⟨_, _, ho⟩
      · exact (eff_keep hs).1
      · rw [ho]; exact Nat.le_refl _
theorem getD_set {l : Array Bool} {i j : Nat} (d : Bool) (hi : i < l.size) : (l.setIfInBounds i true).getD j d = if j = i then true else l.getD j d := by
  rw [Array.getD_eq_getD_getElem?, Array.getD_eq_getD_getElem?]
  by_cases h : j = i
  · subst h; simp [hi]
  · rw [Array.getElem?_setIfInBounds_ne (Ne.symm h), if_neg h]
theorem regF_eq {po : Pol} {call : CallF} : ∀ {ios : List OpI} {env env' : Env} {objs objs' : Objs} {fs : List (List Nat × List Nat)}, regF po call ios env objs = some ((env', objs'), fs) → regI po call ios env objs = some (.normal, env', objs')
  | [], env, env', objs, objs', fs, h => by
    unfold regF at h
    injection h with h; injection h with h1 h2; injection h1 with h1 h3; subst h1 h2 h3
    rfl
  | o :: r, env, env', objs, objs', fs, h => by
    unfold regF at h
    unfold regI
    split at h <;> first | (cases h; done) | skip
    · split at h <;> first | (cases h; done) | skip
      rename_i st fs' hf
      injection h with h; injection h with h1 h2; subst h1 h2
      exact regF_eq hf
    · split at h <;> first | (cases h; done) | skip
      rename_i v o2 hs
      split at h <;> first | (cases h; done) | skip
      rename_i st fs' hf
      injection h with h; injection h with h1 h2; subst h1 h2
      simp only [hs]
      exact regF_eq hf
/-! ### variables that come to life -/
theorem compOp0_alloc {o : Oper} {e : TypeId} {zs : List PV} (h : compOp0 P o = some (.alloc e zs)) : o.op = .alloc e ∧ zeroI P e = some zs := by
  unfold compOp0 at h
  split at h
  case h_4 =>
    rename_i e' ho
    obtain ⟨zs', hz, h⟩ := Option.map_eq_some_iff.1 h
    injection h with h1 h2; subst h1 h2
    exact ⟨ho, hz⟩
  all_goals
    exfalso
    repeat' (first | (cases h; done) | split at h | (obtain ⟨_, _, h⟩ := Option.map_eq_some_iff.1 h))
theorem s_allocAt {w : World} {im : Im} {g : List Value} {objs : Objs} {a : Act} {o : Oper} {e : TypeId} {zs : List PV} {id : Nat} (hsat : Sat P base w im g objs) (ho : compOp P o = some (.alloc e zs)) (hid : objs[id]? = some .dead) : OpOKIn P base o a w im g objs (.ok (.box id 0) (objs.set id (.cells e zs))) := by
  have ho0 : compOp0 P o = some (.alloc e zs) := (compOp_cases ho).resolve_right (by simp)
  refine OpOK.toIn (compOp_no_defer ho0) ?_
  obtain ⟨ho1, hz⟩ := compOp0_alloc ho0
  obtain ⟨i, z, hi, hiz, hr, h1⟩ := zeroI_rep (w := w) (im := im) (g := g) (objs := objs) hz
  obtain ⟨v, hv, hok⟩ := hsat.get hid
  have hbv : blk v = none := hok
  obtain ⟨hl, hs⟩ := hsat.turn (w' := w.alloc (.cells z.cells e)) (im' := im) id .dead (.cells e zs) v (.pointer (some ⟨w.heap.size, 0, none⟩)) hid hv (by simp) (fun k hk _ => heap_alloc_old w _ k hk) rfl rfl rfl (fun _ _ h => h) (fun b x _ hb => by rw [hbv] at hb; cases hb) (fun b x h => .inl h) (fun k hk => .inr (by simp [blk] at hk; omega)) (.inr (.inr (.inr rfl))) (fun hl => by
    unfold ObjOK
    exact ⟨w.heap.size, z.cells, rfl, hsat.low, heap_alloc_new w _, hsat.monoL hl hr, all_one_cells hr h1⟩)
  refine opok_val (v' := .pointer (some ⟨w.heap.size, 0, none⟩)) ?_ hl hs ?_
  · simp [execOp, ho1, Instr.alloc, newVar, newRow, run_zero hi hiz]
  · unfold Rep
    exact ⟨w.heap.size, by rw [List.getElem?_set_self (List.getElem?_eq_some_iff.1 hv).1], rfl⟩
/-- The operations of a region, but for their new variables' numbers. -/
def Numd (n : Nat) : IOp → IOp → Prop := fun op0 op => op = op0 ∧ (∀ e zs, op0 ≠ .alloc e zs) ∨ ∃ e zs id, op0 = .alloc e zs ∧ op = .allocAt id e zs ∧ id < n
theorem compOp0_no_allocAt {o : Oper} {id : Nat} {e : TypeId} {zs : List PV} (h : compOp0 P o = some (.allocAt id e zs)) : False := by
  unfold compOp0 at h
  repeat' (first | (cases h; done) | split at h | (obtain ⟨_, _, h⟩ := Option.map_eq_some_iff.1 h))
theorem numA_at : ∀ (ops : List OpI) (k n : Nat), k + cntA ops ≤ n → (numA k ops).length = ops.length ∧ ∀ (i : Nat) io, (numA k ops)[i]? = some io → ∃ io0, ops[i]? = some io0 ∧ io.dst = io0.dst ∧ io.guard = io0.guard ∧ Numd n io0.op io.op
  | [], k, n, _ => ⟨rfl, by simp [numA]⟩
  | o :: r, k, n, h => by
    unfold cntA at h
    unfold numA
    split at h
    · rename_i e zs hop
      obtain ⟨h1, h2⟩ := numA_at r (k + 1) n (by omega)
      refine ⟨by simp [h1], fun i io hi => ?_⟩
      cases i with
      | zero => simp at hi; subst hi; exact ⟨o, rfl, rfl, rfl, .inr ⟨e, zs, k, hop, rfl, by omega⟩⟩
      | succ i => exact h2 i io (by simpa using hi)
    · rename_i hop
      obtain ⟨h1, h2⟩ := numA_at r k n h
      refine ⟨by simp [h1], fun i io hi => ?_⟩
      cases i with
      | zero => simp at hi; subst hi; exact ⟨o, rfl, rfl, rfl, .inl ⟨rfl, hop⟩⟩
      | succ i => exact h2 i io (by simpa using hi)
theorem Numd.reads {n : Nat} {a b : IOp} (h : Numd n a b) : b.reads = a.reads := by
  rcases h with ⟨rfl, _⟩ | ⟨e, zs, id, rfl, rfl, _⟩ <;> rfl
theorem Numd.eff {n : Nat} {a b : IOp} (h : Numd n a b) : b.eff = a.eff := by
  rcases h with ⟨rfl, _⟩ | ⟨e, zs, id, rfl, rfl, _⟩ <;> rfl
theorem Numd.free {n : Nat} {a b : IOp} (h : Numd n a b) : b.free = a.free := by
  rcases h with ⟨rfl, _⟩ | ⟨e, zs, id, rfl, rfl, _⟩ <;> rfl
theorem Numd.looks {n : Nat} {a b : IOp} (h : Numd n a b) : b.looks = a.looks := by
  rcases h with ⟨rfl, _⟩ | ⟨e, zs, id, rfl, rfl, _⟩ <;> rfl
theorem Numd.na {n : Nat} {a b : IOp} (h : Numd n a b) : ∀ e zs, b ≠ .alloc e zs := by
  rcases h with ⟨rfl, h⟩ | ⟨e, zs, id, rfl, rfl, _⟩
  · exact h
  · intro e zs h; cases h
theorem clash_num {n : Nat} {a b a' b' : OpI} (ha : a'.dst = a.dst ∧ a'.guard = a.guard ∧ Numd n a.op a'.op) (hb : b'.dst = b.dst ∧ b'.guard = b.guard ∧ Numd n b.op b'.op) : clash a' b' = clash a b := by
  obtain ⟨a1, a2, a3⟩ := ha
  obtain ⟨b1, b2, b3⟩ := hb
  unfold clash OpI.reads
  rw [a1, a2, b1, b2, a3.reads, b3.reads, a3.eff, b3.eff, a3.free, b3.free]
theorem push_dead {w : World} {im : Im} : ∀ (n : Nat) {g : List Value} {objs : Objs}, Sat P base w im g objs → ∃ g', Le w im g objs w im g' (objs ++ List.replicate n .dead) ∧ Sat P base w im g' (objs ++ List.replicate n .dead)
  | 0, g, objs, hsat => ⟨g, by simpa using Le.refl w im g objs, by simpa using hsat⟩
  | n + 1, g, objs, hsat => by
    obtain ⟨h1, h2⟩ := hsat.push (w' := w) (im' := im) (.bool false) .dead (Nat.le_refl _) (fun _ _ => rfl) rfl rfl rfl (fun _ _ h => h) (fun _ _ h => .inl h) (fun k hk => by cases hk) (fun _ => rfl)
    obtain ⟨g', k1, k2⟩ := push_dead n h2
    rw [List.append_assoc] at k1 k2
    exact ⟨g', h1.trans k1, k2⟩
section
variable {w w' : World} {im im' : Im} {g g' : List Value} {objs objs' : Objs} {env : Env} {a : Act} {o : Oper}
theorem ents_id : ∀ es : List (D × PV), entsRen (fun i => i) es = es
  | [] => rfl
  | (k, p) :: r => by simp only [entsRen, ren_id, ents_id r]
/-- Fewer objects, none of which leads to those that are gone. -/
theorem Sat.trunc (hsat : Sat P base w im g objs) {k : Nat} (hk : k ≤ objs.length) (hids : ∀ i ∈ allIds (objs.take k), i < k) : Sat P base w im (g.take k) (objs.take k) := by
  have hlen := hsat.len
  have keep : ∀ i, i < k → (g.take k)[i]? = g[i]? ∧ (objs.take k)[i]? = objs[i]? := fun i hi => ⟨List.getElem?_take_of_lt hi, List.getElem?_take_of_lt hi⟩
  have glt : ∀ {i : Nat} {v : Value}, (g.take k)[i]? = some v → i < k ∧ g[i]? = some v := by
    intro i v h
    rw [List.getElem?_take] at h
    split at h
    · exact ⟨by assumption, h⟩
    · cases h
  have olt : ∀ {i : Nat} {v : AObj}, (objs.take k)[i]? = some v → i < k ∧ objs[i]? = some v := by
    intro i v h
    rw [List.getElem?_take] at h
    split at h
    · exact ⟨by assumption, h⟩
    · cases h
  refine ⟨by simp [hlen], hsat.low, hsat.glob, fun i o v ho hv => ?_, fun i j u v q h1 h2 => hsat.dist i j u v q (glt h1).2 (glt h2).2, hsat.imm, fun b x h i v hv hb => ?_⟩
  · have hok := ObjOK_ren (P := P) (base := base) (g' := g.take k) (objs' := objs.take k) (fun i => i) (o := o) (fun n hn => ?_) (hsat.obj i o v (olt ho).2 (glt hv).2)
    · have hid : o.ren (fun i => i) = o := by
        cases o <;> simp only [AObj.ren, rens_id, ents_id]
      rwa [hid] at hok
    · have := hids n (allIds_mem (List.mem_of_getElem? ho) hn)
      obtain ⟨e1, e2⟩ := keep n this
      exact ⟨e1, fun o t h ht => ⟨o, by rw [e2]; exact h, ht⟩⟩
  · obtain ⟨e, n, inf, h1, h2⟩ := hsat.immg b x h i v (glt hv).2 hb
    exact ⟨e, n, inf, by rw [(keep i (glt hv).1).2]; exact h1, h2⟩
theorem Le.trunc {w0 : World} {im0 : Im} {g0 : List Value} {objs0 : Objs} (hl : Le w0 im0 g0 objs0 w im g objs) (h0 : g0.length = objs0.length) {k : Nat} (hk : objs0.length ≤ k) : Le w0 im0 g0 objs0 w im (g.take k) (objs.take k) := by
  refine ⟨hl.pres, ⟨by have := hl.evo.len; simp; omega, fun i o ho hb => ?_, fun i o e n bb ho ht => ?_⟩, hl.size, hl.frame, fun i v q hv => ?_, hl.imn, hl.os, hl.tape, hl.output⟩
  · have hi : i < k := Nat.lt_of_lt_of_le (List.getElem?_eq_some_iff.1 ho).1 hk
    obtain ⟨e1, o', e2, e3⟩ := hl.evo.nb i o ho hb
    exact ⟨by rw [List.getElem?_take_of_lt hi]; exact e1, o', by rw [List.getElem?_take_of_lt hi]; exact e2, e3⟩
  · have hi : i < k := Nat.lt_of_lt_of_le (List.getElem?_eq_some_iff.1 ho).1 hk
    obtain ⟨o', n', e1, e1t, e2, e3⟩ := hl.evo.tags i o e n bb ho ht
    exact ⟨o', n', by rw [List.getElem?_take_of_lt hi]; exact e1, e1t, e2, fun h => by rw [List.getElem?_take_of_lt hi]; exact e3 h⟩
  · rw [List.getElem?_take] at hv
    split at hv
    · exact hl.fresh i v q hv
    · cases hv
theorem trunc_state (hsat : Sat P base w im g objs) (henv : RepL w im g objs env a.tmps.toList) {w0 : World} {im0 : Im} {g0 : List Value} {objs0 : Objs} (h0 : g0.length = objs0.length) (hl : Le w0 im0 g0 objs0 w im g objs) :
    ∃ g2, Sat P base w im g2 (truncI objs0.length env objs) ∧ RepL w im g2 (truncI objs0.length env objs) env a.tmps.toList ∧ Le w0 im0 g0 objs0 w im g2 (truncI objs0.length env objs) ∧ ∀ (i : Nat) v, g2[i]? = some v → g[i]? = some v := by
  unfold truncI
  split
  · exact ⟨g, hsat, henv, hl, fun _ _ h => h⟩
  split
  · rename_i hc
    rw [List.all_eq_true] at hc
    have hids : ∀ i ∈ PVs.ids env ++ allIds (objs.take objs0.length), i < objs0.length := fun i hi => of_decide_eq_true (hc i hi)
    have hk : objs0.length ≤ objs.length := hl.evo.len
    refine ⟨g.take objs0.length, hsat.trunc hk (fun i hi => hids i (List.mem_append.2 (.inr hi))), ?_, hl.trunc h0 (Nat.le_refl _), fun i v h => by
      rw [List.getElem?_take] at h
      split at h
      · exact h
      · cases h⟩
    have := RepL_ren (g' := g.take objs0.length) (objs' := objs.take objs0.length) (fun i => i) env a.tmps.toList (fun i hi => by
      have := hids i (List.mem_append.2 (.inl hi))
      exact ⟨List.getElem?_take_of_lt this, fun o t h ht => ⟨o, by rw [List.getElem?_take_of_lt this]; exact h, ht⟩⟩) henv
    rwa [rens_id] at this
  · exact ⟨g, hsat, henv, hl, fun _ _ h => h⟩
end
def poisL : Nat → List OpI → List OpI
  | _, [] => []
  | 0, o :: r => o :: r.map poisO
  | k + 1, o :: r => o :: poisL k r
theorem poisL_at : ∀ {k : Nat} {ios : List OpI} {i : Nat} {io : OpI}, (poisL k ios)[i]? = some io → ∃ io1, ios[i]? = some io1 ∧ (i ≤ k ∧ io = io1 ∨ k < i ∧ io = poisO io1)
  | _, [], i, io, h => by unfold poisL at h; cases h
  | 0, o :: r, i, io, h => by
    unfold poisL at h
    cases i with
    | zero => exact ⟨o, rfl, .inl ⟨Nat.le_refl _, by simpa using h.symm⟩⟩
    | succ i =>
      simp only [List.getElem?_cons_succ, List.getElem?_map, Option.map_eq_some_iff] at h
      obtain ⟨x, h1, rfl⟩ := h
      exact ⟨x, by simpa using h1, .inr ⟨by omega, rfl⟩⟩
  | k + 1, o :: r, i, io, h => by
    unfold poisL at h
    cases i with
    | zero => exact ⟨o, rfl, .inl ⟨by omega, by simpa using h.symm⟩⟩
    | succ i =>
      obtain ⟨x, h1, h2⟩ := poisL_at (k := k) (ios := r) (by simpa using h)
      exact ⟨x, by simpa using h1, h2.imp (fun ⟨a, b⟩ => ⟨by omega, b⟩) (fun ⟨a, b⟩ => ⟨by omega, b⟩)⟩
theorem poisL_len : ∀ {k : Nat} {ios : List OpI}, (poisL k ios).length = ios.length
  | k, [] => by cases k <;> rfl
  | 0, o :: r => by simp [poisL]
  | k + 1, o :: r => by simp [poisL, poisL_len]
theorem traceP_of {po : Pol} {call : CallF} : ∀ {ios : List OpI} {env : Env} {objs : Objs} {k : Nat} {v : PV} {ob : Objs} {fs : List (List Nat × List Nat)}, regP po call ios env objs = some ((k, v, ob), fs) → ∀ kp : Nat → PV → Objs → Prop, kp k v ob → k < ios.length ∧ ∃ E O V, Trace po call (poisL k ios) E O V kp ∧ E 0 = env ∧ O 0 = objs ∧
    (∃ io, ios[k]? = some io ∧ wantedI (E k) io.guard = some true ∧ stepI po call (E k) (O k) io.op = some (.pan v ob)) ∧
    ∀ i io, (poisL k ios)[i]? = some io → wantedI (E i) io.guard = some true → fs.getD i ([], []) = ((footI po (E i) (O i) io.op).1, wrt po E O i io.op)
  | [], env, objs, k, v, ob, fs, h, kp, hkp => by unfold regP at h; cases h
  | o :: r, env, objs, k, v, ob, fs, h, kp, hkp => by
    unfold regP at h
    cases hw : wantedI env o.guard with
    | none => simp [hw] at h
    | some b =>
      cases b with
      | false =>
        simp only [hw] at h
        split at h <;> first | (cases h; done) | skip
        rename_i k1 v1 ob1 fs1 h1
        injection h with h; injection h with q1 q2; injection q1 with q1 q3; injection q3 with q3 q4; subst q1 q2 q3 q4
        obtain ⟨hlt, E, O, V, ht, e0, o0, ⟨iok, hk1, hk2, hk3⟩, hf⟩ := traceP_of h1 (fun i => kp (i + 1)) hkp
        refine ⟨by simp; omega, consF env E, consF objs O, consF undI V, ⟨fun i io hi => ?_⟩, rfl, rfl, ⟨iok, by simpa using hk1, hk2, hk3⟩, fun i io hi hwi => ?_⟩
        · unfold poisL at hi
          cases i with
          | zero => simp at hi; subst hi; exact ⟨false, hw, e0, .inr ⟨.inl rfl, rfl, o0⟩⟩
          | succ i => exact ht.step i io (by simpa using hi)
        · unfold poisL at hi
          cases i with
          | zero => simp at hi; subst hi; simp only [consF] at hwi; rw [hw] at hwi; cases hwi
          | succ i => exact hf i io (by simpa using hi) hwi
      | true =>
        simp only [hw] at h
        cases hs : stepI po call env objs o.op with
        | none => simp [hs] at h
        | some res =>
          cases res with
          | pan v2 o2 =>
            simp only [hs] at h
            split at h <;> first | (cases h; done) | skip
            rename_i st1 fs1 h1
            injection h with h; injection h with q1 q2; injection q1 with q1 q3; injection q3 with q3 q4; subst q1 q2 q3 q4
            obtain ⟨env1, objs1⟩ := st1
            obtain ⟨E, O, V, ht, e0, o0, e1, o1, hf⟩ := trace_of (regF_eq h1) (fun i => kp (i + 1))
            refine ⟨by simp, consF env E, consF objs O, consF undI V, ⟨fun i io hi => ?_⟩, rfl, rfl, ⟨o, rfl, hw, hs⟩, fun i io hi hwi => ?_⟩
            · unfold poisL at hi
              cases i with
              | zero => simp at hi; subst hi; exact ⟨true, hw, e0, .inr ⟨.inr ⟨rfl, _, _, hkp, hs⟩, rfl, o0⟩⟩
              | succ i => exact ht.step i io (by simpa using hi)
            · unfold poisL at hi
              cases i with
              | zero => simp at hi; subst hi; simp only [wrt, consF, o0]; rfl
              | succ i => exact hf _ fs1 h1 i io (by simpa using hi) hwi
          | ok v2 o2 =>
            simp only [hs] at h
            split at h <;> first | (cases h; done) | skip
            rename_i k1 v1 ob1 fs1 h1
            injection h with h; injection h with q1 q2; injection q1 with q1 q3; injection q3 with q3 q4; subst q1 q2 q3 q4
            obtain ⟨hlt, E, O, V, ht, e0, o0, ⟨iok, hk1, hk2, hk3⟩, hf⟩ := traceP_of h1 (fun i => kp (i + 1)) hkp
            refine ⟨by simp; omega, consF env E, consF objs O, consF v2 V, ⟨fun i io hi => ?_⟩, rfl, rfl, ⟨iok, by simpa using hk1, hk2, hk3⟩, fun i io hi hwi => ?_⟩
            · unfold poisL at hi
              cases i with
              | zero => simp at hi; subst hi; exact ⟨true, hw, e0, .inl ⟨rfl, by simp only [consF]; rw [o0]; exact hs⟩⟩
              | succ i => exact ht.step i io (by simpa using hi)
            · unfold poisL at hi
              cases i with
              | zero => simp at hi; subst hi; simp only [wrt, consF, o0]; rfl
              | succ i => exact hf i io (by simpa using hi) hwi
theorem appI_pan {vt : List TypeId} {e : TypeId} {sz : Nat} {s : PV} {els' : List (List D)} {objs ob : Objs} {v : PV} (h : appI vt e sz s els' objs = some (.pan v ob)) : False := by
  unfold appI at h
  repeat' split at h
  all_goals cases h
theorem pan_move {po : Pol} {call : CallF} {env : Env} {objs ob objs2 : Objs} {op : IOp} {v : PV} (h : stepI po call env objs op = some (.pan v ob)) (hlen : objs2.length = objs.length) (ha : ∀ i ∈ (footI po env objs op).1 ++ (footI po env objs op).2, objs2.getD i .dead = objs.getD i .dead) :
    op.eff = true ∧ op.free = false ∧ ∃ ob2, stepI po call env objs2 op = some (.pan v ob2) ∧ ob2.length = ob.length ∧ objs.length ≤ ob.length ∧ ∀ i, i < objs.length → objs2.getD i .dead = objs.getD i .dead → ob2.getD i .dead = ob.getD i .dead := by
  by_cases he : op.eff = false
  · obtain ⟨v', hv⟩ := noneff_same he h
    cases hv
  have ha2 : ∀ i ∈ (footI po env objs op).2, objs2.getD i .dead = objs.getD i .dead := fun i hi => ha i (List.mem_append.2 (.inr hi))
  have fin : ∀ {f : Cal} {args : List PV}, (∀ i ∈ callFoot po f args objs, objs2.getD i .dead = objs.getD i .dead) → outRes (doCall po call f args objs) = some (.pan v ob) →
      ∃ ob2, outRes (doCall po call f args objs2) = some (.pan v ob2) ∧ ob2.length = ob.length ∧ objs.length ≤ ob.length ∧ ∀ i, i < objs.length → objs2.getD i .dead = objs.getD i .dead → ob2.getD i .dead = ob.getD i .dead := by
    intro f args ha3 h
    obtain ⟨out, o2, h1, h2⟩ := outRes_ok h
    cases out with
    | ret p => cases h2
    | panic p =>
      simp only [outToRes] at h2
      injection h2 with e1 e2; subst e1 e2
      obtain ⟨o3, hm, hmv⟩ := doCall_move h1 hlen ha3
      obtain ⟨q1, q2⟩ := keeps_call h1
      refine ⟨o3, by rw [hm]; rfl, hmv.len, q1, fun i hi hg => ?_⟩
      by_cases hf : i ∈ callFoot po f args objs
      · exact hmv.same i (.inl hf)
      · rw [hmv.rest i hi hf, q2 i hi hf, hg]
  cases op <;> simp only [IOp.eff, not_true_eq_false, Bool.true_eq_false, not_false_eq_true] at he <;> refine ⟨rfl, ?_⟩
  case call f args => exact ⟨rfl, by simp only [stepI] at h ⊢; exact fin ha2 h⟩
  case callx f args => exact ⟨rfl, by simp only [stepI] at h ⊢; exact fin ha2 h⟩
  case callv f args =>
    refine ⟨rfl, ?_⟩
    simp only [stepI] at h ⊢
    cases hx : opnd env f <;> simp only [hx] at h ⊢ <;> try (cases h; done)
    all_goals
      simp only [footI, hx] at ha2
      exact fin ha2 h
  case pan x =>
    refine ⟨rfl, ?_⟩
    simp only [stepI] at h ⊢
    split at h <;> first | (cases h; done) | skip
    injection h with h; injection h with h1 h2; subst h1 h2
    exact ⟨objs2, rfl, hlen, Nat.le_refl _, fun i hi hg => hg⟩
  all_goals
    exfalso
    simp only [stepI] at h
    first
      | (cases h; done)
      | exact appI_pan h
      | (split at h <;> first | (cases h; done) | exact appI_pan h | (split at h <;> first | (cases h; done) | (split at h <;> first | (cases h; done) | (split at h <;> first | (cases h; done) | (split at h <;> first | (cases h; done) | (split at h <;> cases h))))))
/-- What a region's set temporaries, unknown, leave. -/
theorem maskD_len : ∀ (ios : List OpI) (env : Env), (maskD ios env).length = env.length
  | [], _ => rfl
  | o :: r, env => by unfold maskD; rw [maskD_len r, put_len]
theorem maskD_get : ∀ (ios : List OpI) (env : Env) (t : Nat), (maskD ios env).getD t .any = if (∃ o ∈ ios, o.dst = some t) then .any else env.getD t .any
  | [], env, t => by simp [maskD]
  | o :: r, env, t => by
    unfold maskD
    rw [maskD_get r, put_get]
    by_cases h : ∃ x ∈ r, x.dst = some t
    · rw [if_pos h, if_pos (by obtain ⟨x, h1, h2⟩ := h; exact ⟨x, List.mem_cons_of_mem _ h1, h2⟩)]
    · rw [if_neg h]
      by_cases ho : o.dst = some t
      · rw [if_pos (⟨o, List.mem_cons_self, ho⟩ : ∃ x ∈ o :: r, x.dst = some t)]
        by_cases ht : t < env.length
        · rw [if_pos ⟨ho, ht⟩]
        · rw [if_neg (fun h => ht h.2), List.getD_eq_getElem?_getD, List.getElem?_eq_none (by omega)]; rfl
      · rw [if_neg (fun h => ho h.1), if_neg]
        rintro ⟨x, h1, h2⟩
        rcases List.mem_cons.1 h1 with rfl | h1
        · exact ho h2
        · exact h ⟨x, h1, h2⟩
theorem foot_congr {po : Pol} {env env' : Env} {objs : Objs} {op : IOp} (h : ∀ t ∈ op.reads, env.getD t .any = env'.getD t .any) : footI po env objs op = footI po env' objs op := by
  have hrd : ∀ x : Opnd, (∀ t ∈ opndT x, t ∈ op.reads) → opnd env x = opnd env' x := fun x hx => opnd_congr fun t ht' => h t (hx t ht')
  have hrds : ∀ xs : List Opnd, (∀ t ∈ opndsT xs, t ∈ op.reads) → xs.map (opnd env) = xs.map (opnd env') := fun xs hx => opnds_congr fun t ht' => h t (hx t ht')
  cases op <;> simp only [footI]
  case lit len zs ps =>
    congr 1
    split
    · rw [List.flatMap_def, List.flatMap_def]
      congr 1
      exact List.map_congr_left fun p hp => by rw [hrd p.2 (fun t ht' => List.mem_flatMap.2 ⟨p, hp, ht'⟩)]
    · rfl
  case convBS x => rw [hrd x (fun t ht' => ht')]
  case load sz x => rw [hrd x (fun t ht' => ht')]
  case len k x => rw [hrd x (fun t ht' => ht')]
  case look kk d ok m k => rw [hrd m (fun t ht' => by simp [IOp.reads, opndsT, ht'])]
  case cvp x => rw [hrd x (fun t ht' => ht')]
  case cvu tys x => rw [hrd x (fun t ht' => ht')]
  case store sz a x => rw [hrd a (fun t ht' => by simp [IOp.reads, opndsT, ht']), hrd x (fun t ht' => by simp [IOp.reads, opndsT, ht'])]
  case call f args => rw [hrds args (fun t ht' => ht')]
  case callx f args => rw [hrds args (fun t ht' => ht')]
  case callv f args => rw [hrd f (fun t ht' => by simp only [IOp.reads, List.mem_append]; exact .inl ht'), hrds args (fun t ht' => by simp only [IOp.reads, List.mem_append]; exact .inr ht')]
  case app e sz s x => rw [hrd s (fun t ht' => by simp [IOp.reads, opndsT, ht']), hrd x (fun t ht' => by simp [IOp.reads, opndsT, ht'])]
  case apps e s x => rw [hrd s (fun t ht' => by simp [IOp.reads, opndsT, ht'])]
  case upd kk m k v => rw [hrd m (fun t ht' => by simp [IOp.reads, opndsT, ht'])]
theorem maskD_rep {w : World} {im : Im} {g : List Value} {objs : Objs} {vs : List Value} : ∀ (ios : List OpI) {env : Env}, RepL w im g objs env vs → RepL w im g objs (maskD ios env) vs
  | [], _, h => h
  | o :: r, env, h => by
    unfold maskD
    refine maskD_rep r ?_
    rw [RepL_iff] at h ⊢
    refine ⟨by rw [put_len]; exact h.1, fun i p v hp hv => ?_⟩
    have hlt := (List.getElem?_eq_some_iff.1 hp).1
    have hpg : p = (put env o.dst .any).getD i .any := by rw [List.getD_eq_getElem?_getD, hp]; rfl
    rw [put_get] at hpg
    rw [put_len] at hlt
    split at hpg
    · rw [hpg]; trivial
    · refine h.2 i p v ?_ hv
      rw [hpg, List.getD_eq_getElem?_getD, List.getElem?_eq_getElem hlt]; rfl
/-- The operation of a list that runs, against that of the region. -/
def Real (n : Nat) (io io0 : OpI) : Prop := io.dst = io0.dst ∧ io.guard = io0.guard ∧ Numd n io0.op io.op
def Weak (a a0 : OpI) : Prop := a.dst = a0.dst ∧ (∀ t ∈ a.reads, t ∈ a0.reads) ∧ (a.op.eff = true → a.op.free = false → a0.op.eff = true ∧ a0.op.free = false)
theorem Real.weak {n : Nat} {a a0 : OpI} (h : Real n a a0) : Weak a a0 := by
  obtain ⟨h1, h2, h3⟩ := h
  refine ⟨h1, fun t ht => ?_, fun e f => ?_⟩
  · unfold OpI.reads at ht ⊢
    rw [h3.reads, h2] at ht
    exact ht
  · rw [h3.eff] at e; rw [h3.free] at f; exact ⟨e, f⟩
theorem clash_weak {a b a0 b0 : OpI} (ha : Weak a a0) (hb : Weak b b0) (h : clash a0 b0 = false) : clash a b = false := by
  obtain ⟨h1, h2, h3⟩ := clash_eff h
  obtain ⟨a1, a2, a3⟩ := ha
  obtain ⟨b1, b2, b3⟩ := hb
  unfold clash
  rw [Bool.or_eq_false_iff, Bool.or_eq_false_iff]
  refine ⟨⟨?_, ?_⟩, ?_⟩
  · cases hc : (a.op.eff && !a.op.free && (b.op.eff && !b.op.free)) with
    | false => rfl
    | true =>
      simp only [Bool.and_eq_true, Bool.not_eq_true'] at hc
      exact (h1 ⟨a3 hc.1.1 hc.1.2, b3 hc.2.1 hc.2.2⟩).elim
  · cases hd : a.dst with
    | none => rfl
    | some d =>
      rw [a1] at hd
      obtain ⟨q1, q2⟩ := h2 d hd
      simp only [Bool.or_eq_false_iff]
      refine ⟨?_, ?_⟩
      · cases hc : b.reads.contains d with
        | false => rfl
        | true => exact (q1 (b2 d (by simpa using hc))).elim
      · rw [b1]
        cases hc : (b0.dst == some d) with
        | false => rfl
        | true => exact (q2 (by simpa using hc)).elim
  · cases hd : b.dst with
    | none => rfl
    | some d =>
      rw [b1] at hd
      have := h3 d hd
      simp only
      cases hc : a.reads.contains d with
      | false => rfl
      | true => exact (this (a2 d (by simpa using hc))).elim
theorem drawG_sound (ro : Option Nat) {lo : Lo} {po : Pol} {call : CallF} (hcall : CallSound P base call) {ops : Array Oper} {ios0 ios : List OpI} {ap : List (Nat × Nat)} (hi : compOps P ops ops.toList = some ios0) (hap : drawC ops.toList ios0 = some ap) {objs objs0 : Objs} {kq : Option (Nat × PV × Objs)}
    (hnum : ios.length = ios0.length ∧ ∀ (i : Nat) io, ios[i]? = some io → ∃ io0, ios0[i]? = some io0 ∧ (Real objs.length io io0 ∨ Weak io io0 ∧ io.op = .mov (.c undI) ∧ ∃ k v ob, kq = some (k, v, ob) ∧ isBef (befsOf ops.toList []) k i = true ∧ k ≠ i))
    {E : Nat → Env} {O : Nat → Objs} {V : Nat → PV} (ht : Trace po call ios E O V fun i v ob => kq = some (i, v, ob)) (o0 : O 0 = objs)
    (hfo : ap = [] ∨ ∃ fs, apartOK fs ap = true ∧ ∀ i io, ios[i]? = some io → wantedI (E i) io.guard = some true → fs.getD i ([], []) = ((footI po (E i) (O i) io.op).1, wrt po E O i io.op))
    {st : Ex × Env × Objs} (hst : kq = none → st = (.normal, E ops.size, O ops.size))
    (hpan : ∀ k v ob, kq = some (k, v, ob) → k < ops.size ∧ st = (.panic v, maskD ios (E 0), ob.take objs0.length) ∧ (∀ i ∈ v.ids ++ PVs.ids (maskD ios (E 0)) ++ allIds (ob.take objs0.length), i < objs0.length) ∧
      (∃ io, ios[k]? = some io ∧ wantedI (E k) io.guard = some true ∧ stepI po call (E k) (O k) io.op = some (.pan v ob)) ∧
      ∀ e x, ios[e]? = some x → x.op.eff = true → e ≠ k → (∃ id e' zs, x.op = .allocAt id e' zs ∧ objs0.length ≤ id) ∨ (e < k ∧ (isBef (befsOf ops.toList []) e k = true ∨ x.op.free = false)))
    {w : World} {im : Im} {g g0 : List Value} {a : Act} (hl0 : Le w im g0 objs0 w im g objs) (hg0 : g0.length = objs0.length) (hsat : Sat P base w im g objs) (henv : RepL w im g objs (E 0) a.tmps.toList) (hdef : Marks lo w g a.defers) :
    wpAnyIn (WF ro) 0 P .any ops (Post P base lo w im g0 objs0 st) ops.size (Array.replicate ops.size false) a { w with drawn := w.drawn + 1 } := by
  obtain ⟨hnl, hnum⟩ := hnum
  obtain ⟨hlen0, hat⟩ := compOps_at hi
  have hlen0' : ios0.length = ops.size := by simpa using hlen0
  have hlen : ios.length = ops.size := by omega
  have iat : ∀ (i : Nat) io io0, ios[i]? = some io → ios0[i]? = some io0 → Real objs.length io io0 → ∃ o io0, ops[i]? = some o ∧ compOp P o = some io0 ∧ Numd objs.length io0 io.op ∧ io.dst = o.dst ∧ (match o.guard with | none => io.guard = none | some (j, want) => ∃ t, (ops[j]?).bind (·.dst) = some t ∧ io.guard = some (t, want)) := by
    rintro i io io0 hio g1 ⟨g2, g3, g4⟩
    have hlt : i < ops.size := by rw [← hlen]; exact (List.getElem?_eq_some_iff.1 hio).1
    obtain ⟨io', h1, h2, h3, h4⟩ := hat i ops[i] (by simp [hlt])
    rw [g1] at h1; injection h1 with h1; subst h1
    exact ⟨_, io0.op, Array.getElem?_eq_getElem hlt, h2, g4, g2.trans h3, by rw [g3]; exact h4⟩
  have hna : ∀ io ∈ ios, ∀ e zs, io.op ≠ .alloc e zs := by
    intro io hio
    obtain ⟨i, hi⟩ := List.mem_iff_getElem?.1 hio
    obtain ⟨io0, _, h | ⟨_, h, _⟩⟩ := hnum i io hi
    · exact h.2.2.na
    · intro e zs h2; rw [h] at h2; cases h2
  /- the static check -/
  unfold drawC at hap
  simp only at hap
  split at hap <;> first | (cases hap; done) | skip
  rename_i hc
  injection hap with hap
  simp only [Bool.and_eq_true, List.all_eq_true] at hc
  obtain ⟨hp, hcl⟩ := hc
  have hpred : ∀ (i : Nat) o, ops[i]? = some o → ∀ j ∈ predsOf o, j < i := by
    intro i o ho j hj
    have := hp (o, i) (by
      rw [List.mem_zipIdx_iff_getElem?]
      simpa using ho)
    exact of_decide_eq_true (this j hj)
  have hord : ∀ i j x y, i < j → ios[i]? = some x → ios[j]? = some y → isBef (befsOf ops.toList []) i j = true ∨ clash x y = false := by
    intro i j x y hij hx hy
    obtain ⟨x0, hx0, hx1⟩ := hnum i x hx
    obtain ⟨y0, hy0, hy1⟩ := hnum j y hy
    have hx1 : Weak x x0 := hx1.elim Real.weak (fun h => h.1)
    have hy1 : Weak y y0 := hy1.elim Real.weak (fun h => h.1)
    have hj := (List.getElem?_eq_some_iff.1 hy0).1
    have := hcl (i, j) (pairs_mem hij hj)
    simp only [Bool.or_eq_true, Bool.not_eq_true'] at this
    rw [List.getD_eq_getElem?_getD, List.getD_eq_getElem?_getD, hx0, hy0] at this
    exact this.imp id (clash_weak hx1 hy1)
  /- what is apart -/
  have hapart : ∀ i e x y, i ≠ e → ios[i]? = some x → ios[e]? = some y → (x.op.looks = true ∨ x.op.eff = true) → y.op.eff = true → (i < e → isBef (befsOf ops.toList []) i e = false) → (e < i → isBef (befsOf ops.toList []) e i = false) → wantedI (E i) x.guard = some true → wantedI (E e) y.guard = some true →
      ∀ id, id ∈ (footI po (E i) (O i) x.op).1 ∨ id ∈ wrt po E O i x.op → id ∉ wrt po E O e y.op := by
    intro i e x y hie hx hy htx hey hb1 hb2 hwx hwy id hid hmem
    obtain ⟨x0, hx0, ⟨_, _, hx1⟩ | ⟨_, hxp, _⟩⟩ := hnum i x hx
    case inr => rw [hxp] at htx; simp [IOp.looks, IOp.eff] at htx
    obtain ⟨y0, hy0, ⟨_, _, hy1⟩ | ⟨_, hyp, _⟩⟩ := hnum e y hy
    case inr => rw [hyp] at hey; simp [IOp.eff] at hey
    have hil := (List.getElem?_eq_some_iff.1 hx0).1
    have hel := (List.getElem?_eq_some_iff.1 hy0).1
    have gi : ios0.getD i default = x0 := by rw [List.getD_eq_getElem?_getD, hx0]; rfl
    have ge : ios0.getD e default = y0 := by rw [List.getD_eq_getElem?_getD, hy0]; rfl
    rw [hx1.looks, hx1.eff] at htx
    rw [hy1.eff] at hey
    have htx' : (x0.op.looks || x0.op.eff) = true := by simpa using htx
    have hpair : (i, e) ∈ ap := by
      rw [← hap]
      refine List.mem_append.2 (.inl ?_)
      rcases Nat.lt_or_gt_of_ne hie with hlt | hgt
      · refine List.mem_flatMap.2 ⟨(i, e), pairs_mem hlt hel, ?_⟩
        simp only [hb1 hlt, gi, ge, htx', hey, Bool.and_self, if_true, Bool.false_eq_true, if_false]
        exact List.mem_append.2 (.inl (by simp))
      · refine List.mem_flatMap.2 ⟨(e, i), pairs_mem hgt hil, ?_⟩
        simp only [hb2 hgt, gi, ge, htx', hey, Bool.and_self, if_true, Bool.false_eq_true, if_false]
        exact List.mem_append.2 (.inr (by simp))
    rcases hfo with hfo | ⟨fs, hok, hfoot⟩
    · rw [hfo] at hpair; cases hpair
    · unfold apartOK at hok
      rw [List.all_eq_true] at hok
      have hdj := hok (i, e) hpair
      simp only at hdj
      rw [hfoot i x hx hwx, hfoot e y hy hwy] at hdj
      simp only [Bool.and_eq_true, disjoint, List.all_eq_true, Bool.not_eq_true'] at hdj
      rcases hid with hid | hid
      · have := hdj.1 id hid
        simp only [List.contains_eq_mem, decide_eq_false_iff_not] at this
        exact this hmem
      · have := hdj.2 id hid
        simp only [List.contains_eq_mem, decide_eq_false_iff_not] at this
        exact this hmem
  have hbef : ∀ (S : Nat → Bool), (∀ (i : Nat) o, ops[i]? = some o → S i = true → ∀ j ∈ predsOf o, S j = true) → ∀ i j, isBef (befsOf ops.toList []) i j = true → S j = true → S i = true := by
    intro S hd i j hij hs
    unfold isBef at hij
    exact befs_ok S ops.toList [] (fun i o ho hs => hd i o (by simpa using ho) (by simpa using hs)) (by simp) j i (by simpa using hij) hs
  have hE := trace_env ht
  /- the simulation -/
  have main : ∀ (fuel : Nat) (listed : Array Bool) (a : Act) (w' : World), listed.size = ops.size → (∀ (i : Nat) o, ops[i]? = some o → listed.getD i false = true → ∀ j ∈ predsOf o, listed.getD j false = true) → cnt (fun i => listed.getD i false) ops.size ≤ fuel →
      (∀ k v ob, kq = some (k, v, ob) → listed.getD k false = false) →
      (∃ (c : Nat) (os : Objs), c ≤ ops.size ∧ (∀ (i : Nat) io, ios[i]? = some io → io.op.eff = true → io.op.free = false → (listed.getD i false = true ↔ i < c)) ∧ os.length = (O c).length ∧
        (∀ id, ∃ t, t ≤ ops.size ∧ os.getD id .dead = (O t).getD id .dead ∧ ∀ e x, ios[e]? = some x → x.op.eff = true → wantedI (E e) x.guard = some true → id ∈ wrt po E O e x.op → (listed.getD e false = true ↔ e < t)) ∧
        ∃ im' g', Le w im g0 objs0 w' im' g' os ∧ Sat P base w' im' g' os ∧ Marks lo w' g' a.defers ∧ RepL w' im' g' os (envS ios V (E 0) fun i => listed.getD i false) a.tmps.toList) →
      wpAnyIn (WF ro) 0 P .any ops (Post P base lo w im g0 objs0 st) fuel listed a w' := by
    intro fuel
    have done : ∀ (listed : Array Bool) (a : Act) (w' : World), (∀ i, i < ops.size → listed.getD i false = true) → (∀ k v ob, kq = some (k, v, ob) → listed.getD k false = false) →
        (∃ (c : Nat) (os : Objs), c ≤ ops.size ∧ (∀ (i : Nat) io, ios[i]? = some io → io.op.eff = true → io.op.free = false → (listed.getD i false = true ↔ i < c)) ∧ os.length = (O c).length ∧
        (∀ id, ∃ t, t ≤ ops.size ∧ os.getD id .dead = (O t).getD id .dead ∧ ∀ e x, ios[e]? = some x → x.op.eff = true → wantedI (E e) x.guard = some true → id ∈ wrt po E O e x.op → (listed.getD e false = true ↔ e < t)) ∧
        ∃ im' g', Le w im g0 objs0 w' im' g' os ∧ Sat P base w' im' g' os ∧ Marks lo w' g' a.defers ∧ RepL w' im' g' os (envS ios V (E 0) fun i => listed.getD i false) a.tmps.toList) →
        Post P base lo w im g0 objs0 st .normal a w' := by
      rintro listed a w' hall hnk ⟨c, os, hcm, hce, hol, hot, im', g', k1, k2, hd, k3⟩
      have hkn : kq = none := by
        cases hkq : kq with
        | none => rfl
        | some q =>
          obtain ⟨k, v, ob⟩ := q
          have := hnk k v ob hkq
          rw [hall k (hpan k v ob hkq).1] at this
          cases this
      rw [hst hkn]
      have hL : (O ios.length).length = (O c).length := O_len ht hna (by omega) (Nat.le_refl _) (fun e io h1 h2 hio heff => by
        cases hf : io.op.free with
        | true => rfl
        | false =>
          have := (hce e io hio heff hf).1 (hall e (by omega))
          omega)
      have hO : os = O ios.length := by
        apply List.ext_getElem?
        intro id
        by_cases hid : id < os.length
        · obtain ⟨t, htl, hget, hwr⟩ := hot id
          have hk := O_keep ht id (x := t) (y := ios.length) (by omega) (Nat.le_refl _) (fun e x h1 h2 hx hex hwx hmem => by
            have := (hwr e x hx hex hwx hmem).1 (hall e (by omega))
            omega)
          rw [getElem?_getD hid, getElem?_getD (by omega), hget, hk]
        · rw [List.getElem?_eq_none (by omega), List.getElem?_eq_none (by omega)]
      have hEq : envS ios V (E 0) (fun i => listed.getD i false) = E ops.size := by
        rw [← hlen]
        obtain ⟨q1, q2⟩ := hE ios.length (Nat.le_refl _)
        refine list_ext_getD (by rw [q1]; simp [envS]) (fun t => ?_)
        rw [envS_get, q2]
        split
        · exact lookT_congr (fun j io hj _ _ => hall j (by omega))
        · rfl
      rw [hO, hlen] at k1 k2 k3
      rw [hEq] at k3
      exact ⟨im', g', k1, k2, hd, k3, rfl⟩
    have nil_all : ∀ (listed : Array Bool), listed.size = ops.size → Region.ready .any ops listed = [] → ∀ i, i < ops.size → listed.getD i false = true := by
      intro listed hsz hnil i
      induction i using Nat.strongRecOn with
      | _ i ih =>
        intro hi
        cases hs : listed.getD i false with
        | true => rfl
        | false =>
          exfalso
          have : i ∈ Region.ready .any ops listed := by
            rw [ready_iff]
            refine ⟨hi, ?_, ops[i], Array.getElem?_eq_getElem hi, fun j hj => ?_⟩
            · rw [Array.getD_eq_getD_getElem?, Array.getElem?_eq_getElem (by omega)] at hs ⊢
              exact hs
            · have hji := hpred i _ (Array.getElem?_eq_getElem hi) j hj
              exact ih j hji (by omega)
          rw [hnil] at this
          cases this
    induction fuel with
    | zero =>
      intro listed a w' hsz hdown hcnt hnk hinv
      have hall : ∀ i, i < ops.size → listed.getD i false = true := cnt_zero (by omega)
      refine ⟨?_, done listed a w' hall hnk hinv⟩
      rw [List.eq_nil_iff_forall_not_mem]
      intro i hir
      rw [ready_iff] at hir
      obtain ⟨h1, h2, _⟩ := hir
      have := hall i h1
      rw [Array.getD_eq_getD_getElem?, Array.getElem?_eq_getElem (by omega)] at this h2
      rw [Option.getD_some] at this h2
      rw [this] at h2
      cases h2
    | succ fuel ih =>
      intro listed a w' hsz hdown hcnt hnk hinv
      refine ⟨fun hnil => done listed a w' (nil_all listed hsz hnil) hnk hinv, fun i hir => ?_⟩
      have hir' := hir
      rw [ready_iff] at hir'
      obtain ⟨him, hun, o, ho, hpre⟩ := hir'
      have hun' : listed.getD i false = false := by
        rw [Array.getD_eq_getD_getElem?, Array.getElem?_eq_getElem (by omega)] at hun ⊢
        exact hun
      obtain ⟨io, hio⟩ : ∃ io, ios[i]? = some io := ⟨_, List.getElem?_eq_getElem (by omega)⟩
      obtain ⟨c, os, hcm, hce, hol, hot, im', g', k1, k2, hd, k3⟩ := hinv
      obtain ⟨b, hw, hE1, hstep⟩ := ht.step i io hio
      have hbl := hbef (fun i => listed.getD i false) hdown
      have hS : ∀ j, isBef (befsOf ops.toList []) j i = true → j ≠ i → listed.getD j false = true := by
        intro j hb hji
        have := hbef (fun n => listed.getD n false || n == i) (fun n q hq hs k hk => by
          simp only [Bool.or_eq_true, beq_iff_eq] at hs ⊢
          rcases hs with hs | rfl
          · exact .inl (hdown n q hq hs k hk)
          · rw [ho] at hq; injection hq with hq; subst hq
            exact .inl (hpre k hk)) j i hb (by simp)
        simp only [Bool.or_eq_true, beq_iff_eq] at this
        exact this.resolve_right hji
      obtain ⟨io0, hio0, hreal⟩ := hnum i io hio
      replace hreal : Real objs.length io io0 := hreal.resolve_right (by
        rintro ⟨_, _, k, v, ob, h1, h2, h3⟩
        have := hS k h2 h3
        rw [hnk k v ob h1] at this
        cases this)
      obtain ⟨o', op0, ho', hop, hnd, hdst, hgd⟩ := iat i io io0 hio hio0 hreal
      rw [ho] at ho'; injection ho' with ho'; subst ho'
      /- who stands where -/
      have before : ∀ j x, j < i → ios[j]? = some x → clash x io = true → listed.getD j false = true := by
        intro j x hj hx hcl
        rcases hord j i x io hj hx hio with h | h
        · exact hS j h (by omega)
        · rw [h] at hcl; cases hcl
      have behind : ∀ j x, i < j → ios[j]? = some x → clash io x = true → listed.getD j false = false := by
        intro j x hj hx hcl
        rcases hord i j io x hj hio hx with h | h
        · cases hs : listed.getD j false with
          | false => rfl
          | true =>
            have := hbl i j h hs
            rw [hun'] at this
            cases this
        · rw [h] at hcl; cases hcl
      /- its temporaries -/
      have hlook : ∀ t, (t ∈ io.reads ∨ io.dst = some t) → lookT ios V (E 0) (fun i => listed.getD i false) t ios.length = lookT ios V (E 0) (fun _ => true) t i := by
        intro t ht'
        rw [lookT_skip (n := i) (by omega) (fun j x h1 h2 hx hd => ?_)]
        · refine lookT_congr (fun j x hj hx hd => before j x hj hx ?_)
          cases hcl : clash x io with
          | true => rfl
          | false =>
            obtain ⟨_, q2, q3⟩ := clash_eff hcl
            rcases ht' with ht' | ht'
            · exact ((q2 t hd).1 ht').elim
            · exact ((q2 t hd).2 ht').elim
        · by_cases hji : j = i
          · subst hji; exact hun'
          · refine behind j x (by omega) hx ?_
            cases hcl : clash io x with
            | true => rfl
            | false =>
              obtain ⟨_, q2, q3⟩ := clash_eff hcl
              rcases ht' with ht' | ht'
              · exact (q3 t hd ht').elim
              · exact ((q2 t ht').2 hd).elim
      obtain ⟨l1, l2⟩ := hE i (by omega)
      have hread : ∀ t ∈ io.reads, (envS ios V (E 0) fun i => listed.getD i false).getD t .any = (E i).getD t .any := by
        intro t ht'
        rw [envS_get, l2]
        split
        · exact hlook t (.inl ht')
        · rfl
      have hw' : wantedI (envS ios V (E 0) fun i => listed.getD i false) io.guard = some b := by
        rw [wanted_congr (env' := E i) (fun t ht' => hread t (List.mem_append.2 (.inr ht')))]
        exact hw
      /- the next state -/
      have hsz' : (listed.setIfInBounds i true).size = ops.size := by simpa using hsz
      have hgs : ∀ j, (listed.setIfInBounds i true).getD j false = if j = i then true else listed.getD j false := fun j => getD_set false (by omega)
      have hdown' : ∀ (n : Nat) q, ops[n]? = some q → (listed.setIfInBounds i true).getD n false = true → ∀ j ∈ predsOf q, (listed.setIfInBounds i true).getD j false = true := by
        intro n q hq hs j hj
        rw [hgs] at hs ⊢
        split
        · rfl
        · split at hs
          · rename_i hn
            subst hn
            rw [ho] at hq; injection hq with hq; subst hq
            exact hpre j hj
          · exact hdown n q hq hs j hj
      have hcnt' : cnt (fun j => (listed.setIfInBounds i true).getD j false) ops.size ≤ fuel := by
        have := cnt_set (S := fun j => listed.getD j false) (S' := fun j => (listed.setIfInBounds i true).getD j false) (i := i) hun' (by simp only [hgs, if_true]) (fun j hj => by simp only [hgs, if_neg hj]) _ him
        omega
      have henv' : put (envS ios V (E 0) fun i => listed.getD i false) io.dst (V i) = envS ios V (E 0) fun j => (listed.setIfInBounds i true).getD j false := by
        refine list_ext_getD (by rw [put_len]; simp [envS]) (fun t => ?_)
        rw [put_get, envS_get, envS_get]
        have hel : (envS ios V (E 0) fun i => listed.getD i false).length = (E 0).length := by simp [envS]
        rw [hel]
        by_cases hl : t < (E 0).length
        · simp only [hl, if_true, and_true]
          by_cases hdt : io.dst = some t
          · rw [if_pos hdt]
            rw [lookT_skip (n := i + 1) (m := ios.length) (by omega) (fun j x h1 h2 hx hd => by
              rw [hgs, if_neg (by omega)]
              refine behind j x (by omega) hx ?_
              cases hcl : clash io x with
              | true => rfl
              | false => exact (((clash_eff hcl).2.1 t hdt).2 hd).elim)]
            rw [lookT, hio]
            have : (io.dst == some t) = true := by simpa using hdt
            simp [hgs, this]
          · rw [if_neg hdt]
            refine lookT_congr (fun j x hj hx hd => ?_)
            have hji : j ≠ i := by
              intro e
              subst e
              rw [hio] at hx; injection hx with hx; subst hx
              exact hdt hd
            rw [hgs, if_neg hji]
        · simp [hl]
      have hwd := wanted_ok k3 hgd hw'
      unfold wpOpIn
      rw [ho]
      simp only
      rw [hwd]
      have next : ∀ (c' : Nat) (os' : Objs) (a' : Act) (w2 : World) (im2 : Im) (g2 : List Value) (v' : Value), c' ≤ ops.size → (∀ (j : Nat) x, ios[j]? = some x → x.op.eff = true → x.op.free = false → ((listed.setIfInBounds i true).getD j false = true ↔ j < c')) → os'.length = (O c').length →
          (∀ id, ∃ t, t ≤ ops.size ∧ os'.getD id .dead = (O t).getD id .dead ∧ ∀ e x, ios[e]? = some x → x.op.eff = true → wantedI (E e) x.guard = some true → id ∈ wrt po E O e x.op → ((listed.setIfInBounds i true).getD e false = true ↔ e < t)) →
          (∀ k v ob, kq = some (k, v, ob) → k ≠ i) → Le w' im' g' os w2 im2 g2 os' → Sat P base w2 im2 g2 os' → Rep w2 im2 g2 os' (V i) v' → a' = a.put o.dst v' →
          wpAnyIn (WF ro) 0 P .any ops (Post P base lo w im g0 objs0 st) fuel (listed.setIfInBounds i true) a' w2 := by
        intro c' os' a' w2 im2 g2 v' hc' hce' hol' hot' hki hl2 hs2 hr2 ha'
        subst ha'
        obtain ⟨p1, p2⟩ := put_rep (k2.monoL hl2 k3) o.dst hr2
        refine ih (listed.setIfInBounds i true) _ w2 hsz' hdown' hcnt' (fun k v ob hk => by rw [hgs, if_neg (hki k v ob hk)]; exact hnk k v ob hk) ⟨c', os', hc', hce', hol', hot', im2, g2, k1.trans hl2, hs2, by rw [p2]; exact hd.le hl2, ?_⟩
        rw [← henv', hdst]
        exact p1
      /- whoever turns what it touches stands as it should -/
      have stand : b = true → (io.op.looks = true ∨ io.op.eff = true) → ∀ e x, ios[e]? = some x → x.op.eff = true → wantedI (E e) x.guard = some true → e ≠ i → ∀ id, id ∈ (footI po (E i) (O i) io.op).1 ∨ id ∈ wrt po E O i io.op → id ∈ wrt po E O e x.op → (listed.getD e false = true ↔ e < i) := by
        intro hb htx e x hx hex hwx hei id hid hmem
        subst hb
        constructor
        · intro hs
          rcases Nat.lt_or_gt_of_ne hei with hlt | hgt
          · exact hlt
          · exfalso
            refine hapart i e io x (fun h => hei h.symm) hio hx htx hex (fun _ => ?_) (fun h => by omega) hw hwx id hid hmem
            cases hb : isBef (befsOf ops.toList []) i e with
            | false => rfl
            | true =>
              have := hbl i e hb hs
              rw [hun'] at this
              cases this
        · intro hlt
          cases hs : listed.getD e false with
          | true => rfl
          | false =>
            exfalso
            refine hapart i e io x (fun h => hei h.symm) hio hx htx hex (fun h => by omega) (fun _ => ?_) hw hwx id hid hmem
            cases hb : isBef (befsOf ops.toList []) e i with
            | false => rfl
            | true =>
              have := hS e hb hei
              rw [hs] at this
              cases this
      /- what it touches is as it was in the order of the text -/
      have agree : b = true → (io.op.looks = true ∨ io.op.eff = true) → ∀ id, id ∈ (footI po (E i) (O i) io.op).1 ∨ id ∈ wrt po E O i io.op → os.getD id .dead = (O i).getD id .dead := by
        intro hb htx id hid
        obtain ⟨t, htl, hget, hwr⟩ := hot id
        rw [hget]
        rcases Nat.le_total t i with hle | hle
        · refine (O_keep ht id hle (by omega) (fun e x h1 h2 hx hex hwx hmem => ?_)).symm
          have h3 := hwr e x hx hex hwx hmem
          have h4 := stand hb htx e x hx hex hwx (by omega) id hid hmem
          have := h3.1 (h4.2 h2)
          omega
        · refine O_keep ht id hle (by omega) (fun e x h1 h2 hx hex hwx hmem => ?_)
          have h3 := hwr e x hx hex hwx hmem
          have hse := h3.2 h2
          by_cases hei : e = i
          · subst hei
            rw [hun'] at hse
            cases hse
          · have h4 := stand hb htx e x hx hex hwx hei id hid hmem
            have := h4.1 hse
            omega
      /- those that must keep their order -/
      have hard : io.op.eff = true → io.op.free = false → (∀ (j : Nat) x, ios[j]? = some x → x.op.eff = true → x.op.free = false → (listed.getD j false = true ↔ j < i)) ∧ os.length = (O i).length := by
        intro heff hfree
        have hjs : ∀ (j : Nat) x, ios[j]? = some x → x.op.eff = true → x.op.free = false → (listed.getD j false = true ↔ j < i) := by
          intro j x hx hex hfx
          have hcl1 : j < i → clash x io = true := fun _ => by unfold clash; simp [hex, heff, hfx, hfree]
          have hcl2 : i < j → clash io x = true := fun _ => by unfold clash; simp [hex, heff, hfx, hfree]
          constructor
          · intro hs'
            rcases Nat.lt_trichotomy j i with h | h | h
            · exact h
            · subst h; rw [hun'] at hs'; cases hs'
            · have := behind j x h hx (hcl2 h)
              rw [hs'] at this; cases this
          · intro hlt
            exact before j x hlt hx (hcl1 hlt)
        have hOl : os.length = (O i).length := by
          rw [hol]
          rcases Nat.le_total c i with hle | hle
          · refine (O_len ht hna hle (by omega) (fun e x h1 h2 hx hex => ?_)).symm
            cases hfx : x.op.free with
            | true => rfl
            | false =>
              have h3 := (hjs e x hx hex hfx).2 h2
              have := (hce e x hx hex hfx).1 h3
              omega
          · refine O_len ht hna hle (by omega) (fun e x h1 h2 hx hex => ?_)
            cases hfx : x.op.free with
            | true => rfl
            | false =>
              have h3 := (hce e x hx hex hfx).2 h2
              have := (hjs e x hx hex hfx).1 h3
              omega
        exact ⟨hjs, hOl⟩
      have hfe0 : footI po (envS ios V (E 0) fun i => listed.getD i false) (O i) io.op = footI po (E i) (O i) io.op := foot_congr fun t ht' => hread t (List.mem_append.2 (.inl ht'))
      rcases hstep with ⟨rfl, hs⟩ | ⟨hbb, hv, hO⟩
      · have hki : ∀ k v ob, kq = some (k, v, ob) → k ≠ i := by
          rintro k v ob hk rfl
          obtain ⟨_, _, _, ⟨x, q1, q2, q3⟩, _⟩ := hpan k v ob hk
          rw [hio] at q1; injection q1 with q1; subst q1
          rw [hs] at q3; cases q3
        simp only [if_true]
        have hsE : stepI po call (envS ios V (E 0) fun i => listed.getD i false) (O i) io.op = some (.ok (V i) (O (i + 1))) := by
          rw [step_congr (env' := E i) (fun t ht' => hread t (List.mem_append.2 (.inl ht')))]
          exact hs
        /- the machine's step, out of the evaluator's -/
        have go : ∀ (c' : Nat) (os' : Objs), stepI po call (envS ios V (E 0) fun i => listed.getD i false) os io.op = some (.ok (V i) os') → c' ≤ ops.size → (∀ (j : Nat) x, ios[j]? = some x → x.op.eff = true → x.op.free = false → ((listed.setIfInBounds i true).getD j false = true ↔ j < c')) → os'.length = (O c').length →
            (∀ id, ∃ t, t ≤ ops.size ∧ os'.getD id .dead = (O t).getD id .dead ∧ ∀ e x, ios[e]? = some x → x.op.eff = true → wantedI (E e) x.guard = some true → id ∈ wrt po E O e x.op → ((listed.setIfInBounds i true).getD e false = true ↔ e < t)) →
            o.wpIn (WF ro) 0 P a w' (wpAnyIn (WF ro) 0 P .any ops (Post P base lo w im g0 objs0 st) fuel (listed.setIfInBounds i true)) (Post P base lo w im g0 objs0 st) := by
          intro c' os' hs' hc' hce' hol' hot'
          have hok : OpOKIn P base o a w' im' g' os (.ok (V i) os') := by
            rcases hnd with ⟨rfl, _⟩ | ⟨e, zs, id, rfl, hopa, _⟩
            · exact step_soundIn hcall hop hs' k2 k3
            · rw [hopa] at hs'
              simp only [stepI] at hs'
              split at hs' <;> first | (cases hs'; done) | skip
              rename_i hdd
              injection hs' with hs'; injection hs' with q1 q2
              rw [← q1, ← q2]
              exact s_allocAt k2 hop hdd
          refine hok ro _ _ ?_ ?_
          · intro v2 objs2 heq v' w2 im2 g2 hl2 hs2 hr2
            injection heq with q1 q2; subst q1 q2
            exact next c' _ _ w2 im2 g2 v' hc' hce' hol' hot' hki hl2 hs2 hr2 rfl
          · intro v2 objs2 heq; cases heq
        cases heff : io.op.eff with
        | false =>
          obtain ⟨v2, hv2⟩ := noneff_same heff hsE
          injection hv2 with _ hv2
          rw [hv2] at hsE
          refine go c os (noneff_move heff hsE (fun id hid => ?_)) hcm (fun j x hx hex hfx => ?_) hol (fun id => ?_)
          · rw [looks_congr (env' := E i) (fun t ht' => hread t (List.mem_append.2 (.inl ht')))] at hid
            obtain ⟨hf1, hlk2⟩ := looks_foot (po := po) (objs := O i) id hid
            exact agree rfl (.inl hlk2) id (.inl hf1)
          · rw [hgs]
            split
            · rename_i hj
              subst hj
              rw [hio] at hx; injection hx with hx; subst hx
              rw [heff] at hex; cases hex
            · exact hce j x hx hex hfx
          · obtain ⟨t, htl, hget, hwr⟩ := hot id
            refine ⟨t, htl, hget, fun e x hx hex hwx hmem => ?_⟩
            rw [hgs]
            split
            · rename_i hj
              subst hj
              rw [hio] at hx; injection hx with hx; subst hx
              rw [heff] at hex; cases hex
            · exact hwr e x hx hex hwx hmem
        | true =>
          have hfe := hfe0
          have hag : ∀ id ∈ (footI po (envS ios V (E 0) fun i => listed.getD i false) (O i) io.op).1 ++ (footI po (envS ios V (E 0) fun i => listed.getD i false) (O i) io.op).2, os.getD id .dead = (O i).getD id .dead := by
            intro id hid
            rw [hfe] at hid
            refine agree rfl (.inr heff) id ?_
            rcases List.mem_append.1 hid with h | h
            · exact .inl h
            · exact .inr (List.mem_append.2 (.inl h))
          /- the times behind the operation -/
          have times : ∀ os' : Objs, (∀ id, id ∈ wrt po E O i io.op → os'.getD id .dead = (O (i + 1)).getD id .dead) → (∀ id, id ∉ wrt po E O i io.op → os'.getD id .dead = os.getD id .dead) →
              ∀ id, ∃ t, t ≤ ops.size ∧ os'.getD id .dead = (O t).getD id .dead ∧ ∀ e x, ios[e]? = some x → x.op.eff = true → wantedI (E e) x.guard = some true → id ∈ wrt po E O e x.op → ((listed.setIfInBounds i true).getD e false = true ↔ e < t) := by
            intro os' h1 h2 id
            by_cases hid : id ∈ wrt po E O i io.op
            · refine ⟨i + 1, by omega, h1 id hid, fun e x hx hex hwx hmem => ?_⟩
              rw [hgs]
              split
              · rename_i hei
                exact ⟨fun _ => by omega, fun _ => rfl⟩
              · rename_i hei
                have := stand rfl (.inr heff) e x hx hex hwx hei id (.inr hid) hmem
                rw [this]
                omega
            · obtain ⟨t, htl, hget, hwr⟩ := hot id
              refine ⟨t, htl, (h2 id hid).trans hget, fun e x hx hex hwx hmem => ?_⟩
              rw [hgs]
              split
              · rename_i hei
                subst hei
                rw [hio] at hx; injection hx with hx; subst hx
                exact (hid hmem).elim
              · exact hwr e x hx hex hwx hmem
          cases hfree : io.op.free with
          | true =>
            have hW : wrt po E O i io.op = (footI po (E i) (O i) io.op).2 := by
              obtain ⟨_, _, _, hl, _⟩ := free_move (objs2 := O i) hfree (hna io (List.mem_of_getElem? hio)) hs (fun _ _ => rfl) (fun j hj => (free_lt hfree hs j hj).1)
              unfold wrt newIds
              rw [hl, Nat.sub_self]
              simp
            have hmono : objs.length ≤ os.length := by
              rw [hol, ← o0]
              exact O_mono ht (Nat.zero_le _) (by omega)
            obtain ⟨os', m1, m2, m3, m4, m5⟩ := free_move hfree (hna io (List.mem_of_getElem? hio)) hsE hag (fun j hj => by
              have hj' := hj
              rw [hfe] at hj'
              rcases (free_lt hfree hsE j hj).2 with hnd' | ⟨e, zs, hopa⟩
              · have := hag j (List.mem_append.2 (.inr hj))
                exact lt_of_getD this hnd'
              · rcases hnd with ⟨rfl, hne⟩ | ⟨e', zs', id, _, hopa', hlt⟩
                · rw [hopa] at hop
                  have := (compOp_cases hop).resolve_right (by simp)
                  exact (compOp0_no_allocAt this).elim
                · rw [hopa] at hopa'
                  injection hopa' with q1; subst q1
                  omega)
            rw [hfe] at m4 m5
            refine go c os' m1 hcm (fun j x hx hex hfx => ?_) (m2.trans hol) (times os' (fun id hid => m4 id (by rwa [hW] at hid)) (fun id hid => m5 id (by rwa [hW] at hid)))
            rw [hgs]
            split
            · rename_i hj
              subst hj
              rw [hio] at hx; injection hx with hx; subst hx
              rw [hfree] at hfx; cases hfx
            · exact hce j x hx hex hfx
          | false =>
            obtain ⟨hjs, hOl⟩ := hard heff hfree
            obtain ⟨os', m1, m2⟩ := hard_move heff hfree hsE hOl hag
            rw [hfe] at m2
            refine go (i + 1) os' m1 (by omega) (fun j x hx hex hfx => ?_) m2.len (times os' (fun id hid => m2.same id ?_) (fun id hid => ?_))
            · rw [hgs]
              split
              · rename_i hj
                exact ⟨fun _ => by omega, fun _ => rfl⟩
              · rename_i hj
                rw [hjs j x hx hex hfx]
                omega
            · rcases List.mem_append.1 hid with h | h
              · exact .inl h
              · unfold newIds at h
                rw [List.mem_range'_1] at h
                exact .inr h.1
            · unfold wrt at hid
              rw [List.mem_append, not_or] at hid
              rcases Nat.lt_or_ge id (O i).length with hl | hl
              · exact m2.rest id hl hid.1
              · have : ¬ id < (O (i + 1)).length := fun hlt => hid.2 (by
                  unfold newIds
                  rw [List.mem_range'_1]
                  omega)
                rw [getD_dead (by rw [m2.len]; exact this), getD_dead (by omega)]
      rcases hbb with rfl | ⟨rfl, v, ob, hkq, hs⟩
      · have hki : ∀ k v ob, kq = some (k, v, ob) → k ≠ i := by
          rintro k v ob hk rfl
          obtain ⟨_, _, _, ⟨x, q1, q2, q3⟩, _⟩ := hpan k v ob hk
          rw [hio] at q1; injection q1 with q1; subst q1
          rw [hw] at q2; cases q2
        simp only [Bool.false_eq_true, if_false]
        have hot' : ∀ id, ∃ t, t ≤ ops.size ∧ os.getD id .dead = (O t).getD id .dead ∧ ∀ e x, ios[e]? = some x → x.op.eff = true → wantedI (E e) x.guard = some true → id ∈ wrt po E O e x.op → ((listed.setIfInBounds i true).getD e false = true ↔ e < t) := by
          intro id
          obtain ⟨t, htl, hget, hwr⟩ := hot id
          refine ⟨t, htl, hget, fun e x hx hex hwx hmem => ?_⟩
          rw [hgs]
          split
          · rename_i hei
            subst hei
            rw [hio] at hx; injection hx with hx; subst hx
            rw [hw] at hwx; cases hwx
          · exact hwr e x hx hex hwx hmem
        refine ⟨fun _ _ => trivial, ?_⟩
        cases hh : (io.op.eff && !io.op.free) with
        | true =>
          simp only [Bool.and_eq_true, Bool.not_eq_true'] at hh
          obtain ⟨hjs, hOl⟩ := hard hh.1 hh.2
          refine next (i + 1) os _ w' im' g' undef (by omega) (fun j x hx hex hfx => ?_) (by rw [hOl, hO]) hot' hki (Le.refl _ _ _ _) k2 (by rw [hv]; exact undI_rep) rfl
          rw [hgs]
          split
          · rename_i hj
            exact ⟨fun _ => by omega, fun _ => rfl⟩
          · rename_i hj
            rw [hjs j x hx hex hfx]
            omega
        | false =>
          refine next c os _ w' im' g' undef hcm (fun j x hx hex hfx => ?_) hol hot' hki (Le.refl _ _ _ _) k2 (by rw [hv]; exact undI_rep) rfl
          rw [hgs]
          split
          · rename_i hj
            subst hj
            rw [hio] at hx; injection hx with hx; subst hx
            simp [hex, hfx] at hh
          · exact hce j x hx hex hfx
      · /- it panics -/
        simp only [if_true]
        obtain ⟨hks, hstp, hids, _, hko⟩ := hpan i v ob hkq
        have hsE : stepI po call (envS ios V (E 0) fun i => listed.getD i false) (O i) io.op = some (.pan v ob) := by
          rw [step_congr (env' := E i) (fun t ht' => hread t (List.mem_append.2 (.inl ht')))]
          exact hs
        obtain ⟨heff, hfree, _⟩ := pan_move hsE (objs2 := O i) rfl (fun _ _ => rfl)
        obtain ⟨hjs, hOl⟩ := hard heff hfree
        obtain ⟨_, _, os', m1, m2, m3, m4⟩ := pan_move hsE hOl (fun id hid => by
          rw [hfe0] at hid
          refine agree rfl (.inr heff) id ?_
          rcases List.mem_append.1 hid with h | h
          · exact .inl h
          · exact .inr (List.mem_append.2 (.inl h)))
        have hk0 : objs0.length ≤ (O i).length := by
          have h1 := hl0.evo.len
          have h2 := O_mono ht (Nat.zero_le i) (by omega)
          rw [o0] at h2
          omega
        have hold : ∀ id, id < objs0.length → os.getD id .dead = (O i).getD id .dead := by
          intro id hid
          obtain ⟨t, htl, hget, hwr⟩ := hot id
          have none_al : ∀ e x, ios[e]? = some x → x.op.eff = true → id ∈ wrt po E O e x.op → wantedI (E e) x.guard = some true → e ≠ i → e < i ∧ (isBef (befsOf ops.toList []) e i = true ∨ x.op.free = false) := by
            intro e x hx hex hmem hwx hei
            rcases hko e x hx hex hei with ⟨id2, e', zs, h1, h2⟩ | h
            · exfalso
              have hle : (O (e + 1)).length = (O e).length := O_len ht hna (Nat.le_succ e) (by have := (List.getElem?_eq_some_iff.1 hx).1; omega) (fun e2 x2 q1 q2 q3 q4 => by
                have : e2 = e := by omega
                subst this
                rw [hx] at q3; injection q3 with q3; subst q3
                rw [h1]; rfl)
              unfold wrt newIds at hmem
              rw [hle, Nat.sub_self, h1] at hmem
              simp only [footI, List.range'_zero, List.append_nil, List.mem_singleton] at hmem
              omega
            · exact h
          have lst : ∀ e x, ios[e]? = some x → x.op.eff = true → id ∈ wrt po E O e x.op → wantedI (E e) x.guard = some true → (listed.getD e false = true ↔ e < i) := by
            intro e x hx hex hmem hwx
            by_cases hei : e = i
            · subst hei
              rw [hun']
              exact ⟨fun h => (by cases h), fun h => (by omega)⟩
            · obtain ⟨h1, h2⟩ := none_al e x hx hex hmem hwx hei
              refine ⟨fun _ => h1, fun _ => ?_⟩
              rcases h2 with h2 | h2
              · exact hS e h2 hei
              · exact (hjs e x hx hex h2).2 h1
          rw [hget]
          rcases Nat.le_total t i with hle | hle
          · refine (O_keep ht id hle (by omega) (fun e x h1 h2 hx hex hwx hmem => ?_)).symm
            have h3 := (hwr e x hx hex hwx hmem).1 ((lst e x hx hex hmem hwx).2 h2)
            omega
          · refine O_keep ht id hle (by omega) (fun e x h1 h2 hx hex hwx hmem => ?_)
            have h3 := (lst e x hx hex hmem hwx).1 ((hwr e x hx hex hwx hmem).2 h2)
            omega
        have htake : os'.take objs0.length = ob.take objs0.length := by
          apply List.ext_getElem?
          intro id
          rw [List.getElem?_take, List.getElem?_take]
          split
          · rename_i hid
            rw [getElem?_getD (by omega), getElem?_getD (by omega), m4 id (by omega) (hold id hid)]
          · rfl
        have hok : OpOKIn P base o a w' im' g' os (.pan v os') := by
          rcases hnd with ⟨rfl, _⟩ | ⟨e, zs, id, rfl, hopa, _⟩
          · exact step_soundIn hcall hop m1 k2 k3
          · rw [hopa] at m1
            simp only [stepI] at m1
            split at m1 <;> cases m1
        refine hok ro _ _ (fun v2 objs2 heq => by cases heq) ?_
        intro v2 objs2 heq v' w2 im2 g2 hl2 hs2 hr2
        injection heq with q1 q2; subst q1 q2
        rw [hstp]
        have hen : maskD ios (envS ios V (E 0) fun i => listed.getD i false) = maskD ios (E 0) := by
          refine list_ext_getD (by rw [maskD_len, maskD_len]; simp [envS]) (fun t => ?_)
          rw [maskD_get, maskD_get]
          by_cases hd : ∃ x ∈ ios, x.dst = some t
          · rw [if_pos hd, if_pos hd]
          · rw [if_neg hd, if_neg hd, envS_get]
            split
            · rw [lookT_skip (n := 0) (Nat.zero_le _) (fun j x _ _ hx hdx => (hd ⟨x, List.mem_of_getElem? hx, hdx⟩).elim)]; rfl
            · rename_i hge
              rw [List.getD_eq_getElem?_getD, List.getElem?_eq_none (by omega)]; rfl
        have hr3 : RepL w2 im2 g2 os' (maskD ios (E 0)) a.tmps.toList := by
          rw [← hen]
          exact maskD_rep ios (k2.monoL hl2 k3)
        have keep : ∀ n, n < objs0.length → (g2.take objs0.length)[n]? = g2[n]? ∧ ∀ o t, os'[n]? = some o → o.tag = some t → ∃ o', (ob.take objs0.length)[n]? = some o' ∧ o'.tag = some t := fun n hn => ⟨List.getElem?_take_of_lt hn, fun o t h ht => ⟨o, by rw [← htake, List.getElem?_take_of_lt hn]; exact h, ht⟩⟩
        refine ⟨im2, g2.take objs0.length, ?_, ?_, ?_, ?_, v', rfl, ?_⟩
        · rw [← htake]; exact (k1.trans hl2).trunc hg0 (Nat.le_refl _)
        · rw [← htake]; exact hs2.trunc (by omega) (fun n hn => hids n (List.mem_append.2 (.inr (by rwa [htake] at hn))))
        · exact (hd.le hl2).sub fun n u h => by
            rw [List.getElem?_take] at h
            split at h
            · exact h
            · cases h
        · have := RepL_ren (g' := g2.take objs0.length) (objs' := ob.take objs0.length) (fun i => i) (maskD ios (E 0)) a.tmps.toList (fun n hn => keep n (hids n (List.mem_append.2 (.inl (List.mem_append.2 (.inr hn)))))) hr3
          rwa [rens_id] at this
        · have := Rep_ren (g' := g2.take objs0.length) (objs' := ob.take objs0.length) (fun i => i) v v' (fun n hn => keep n (hids n (List.mem_append.2 (.inl (List.mem_append.2 (.inl hn)))))) hr2
          rwa [ren_id] at this
  /- the begin -/
  obtain ⟨d1, d2⟩ := hsat.more (w' := { w with drawn := w.drawn + 1 }) (im' := im) (Nat.le_refl _) (fun k hk => rfl) rfl rfl rfl (fun _ _ h => h) (fun _ _ h => .inl h)
  have hempty : ∀ j, (Array.replicate ops.size false).getD j false = false := by
    intro j
    rw [Array.getD_eq_getD_getElem?, Array.getElem?_replicate]
    split <;> rfl
  refine main ops.size _ a _ (by simp) (fun i o ho hs => by rw [hempty] at hs; cases hs) ?_ (fun k v ob _ => hempty k) ⟨0, objs, Nat.zero_le _, fun i io _ _ _ => by rw [hempty]; simp, by rw [o0], fun id => ⟨0, Nat.zero_le _, by rw [o0], fun e x _ _ _ _ => by rw [hempty]; simp⟩, im, g, hl0.trans d1, d2, hdef.le d1, ?_⟩
  · have : ∀ m, cnt (fun i => (Array.replicate ops.size false).getD i false) m ≤ m := by
      intro m
      induction m with
      | zero => exact Nat.le_refl _
      | succ m ih => unfold cnt; split <;> omega
    exact this _
  · have hen : envS ios V (E 0) (fun i => (Array.replicate ops.size false).getD i false) = E 0 := by
      refine list_ext_getD (by simp [envS]) (fun t => ?_)
      rw [envS_get]
      split
      · rw [lookT_skip (n := 0) (Nat.zero_le _) (fun j io _ _ _ _ => hempty j)]; rfl
      · rename_i hge
        rw [List.getD_eq_getElem?_getD, List.getElem?_eq_none (by simpa using hge)]; rfl
    rw [hen]
    exact hsat.monoL d1 henv
theorem drawJ_sound (ro : Option Nat) {lo : Lo} {po : Pol} {call : CallF} (hcall : CallSound P base call) {ops : Array Oper} {ios0 ios : List OpI} {ap : List (Nat × Nat)} (hi : compOps P ops ops.toList = some ios0) (hap : drawC ops.toList ios0 = some ap) {env : Env} {objs objs0 : Objs} {st : Ex × Env × Objs}
    (hnum : ios.length = ios0.length ∧ ∀ (i : Nat) io, ios[i]? = some io → ∃ io0, ios0[i]? = some io0 ∧ Real objs.length io io0 ∧ ∀ id e zs, io.op = .allocAt id e zs → objs0.length ≤ id) (h : regdJ po call objs0.length ios ap env objs = some st)
    {w : World} {im : Im} {g g0 : List Value} {a : Act} (hl0 : Le w im g0 objs0 w im g objs) (hg0 : g0.length = objs0.length) (hsat : Sat P base w im g objs) (henv : RepL w im g objs env a.tmps.toList) (hdef : Marks lo w g a.defers) :
    wpAnyIn (WF ro) 0 P .any ops (Post P base lo w im g0 objs0 st) ops.size (Array.replicate ops.size false) a { w with drawn := w.drawn + 1 } := by
  obtain ⟨hnl, hnum⟩ := hnum
  obtain ⟨hlen0, hat⟩ := compOps_at hi
  have hlen0' : ios0.length = ops.size := by simpa using hlen0
  have hlen : ios.length = ops.size := by omega
  have normal : ∀ {env' : Env} {objs' : Objs}, regI po call ios env objs = some (.normal, env', objs') → (ap = [] ∨ ∃ st fs, regF po call ios env objs = some (st, fs) ∧ apartOK fs ap = true) → st = (.normal, env', objs') → wpAnyIn (WF ro) 0 P .any ops (Post P base lo w im g0 objs0 st) ops.size (Array.replicate ops.size false) a { w with drawn := w.drawn + 1 } := by
    intro env' objs' hreg hfo hst
    obtain ⟨E, O, V, ht, e0, o0, e1, o1, hfoot⟩ := trace_of hreg (fun i v ob => (none : Option (Nat × PV × Objs)) = some (i, v, ob))
    refine drawG_sound ro hcall hi hap (objs := objs) (objs0 := objs0) (kq := none) ⟨hnl, fun i io hio => ?_⟩ ht o0 ?_ (fun _ => by rw [hst, ← e1, ← o1, hlen]) (fun k v ob h => by cases h) hl0 hg0 hsat (by rw [e0]; exact henv) hdef
    · obtain ⟨io0, h1, h2, _⟩ := hnum i io hio
      exact ⟨io0, h1, .inl h2⟩
    · exact hfo.imp id fun ⟨st, fs, h1, h2⟩ => ⟨fs, h2, hfoot st fs h1⟩
  unfold regdJ at h
  split at h
  · split at h <;> first | (cases h; done) | skip
    injection h with h
    exact normal (by assumption) (.inl rfl) h.symm
  · split at h
    · split at h <;> first | (cases h; done) | skip
      rename_i fs hfs _
      injection h with h
      exact normal (regF_eq hfs) (.inr ⟨_, fs, hfs, by assumption⟩) h.symm
    · unfold panJ at h
      split at h <;> first | (cases h; done) | skip
      rename_i k v ob fs hrp
      split at h <;> first | (cases h; done) | skip
      rename_i hc
      injection h with h
      simp only [Bool.and_eq_true, List.all_eq_true, decide_eq_true_eq] at hc
      obtain ⟨⟨hc1, hc2⟩, hc3⟩ := hc
      obtain ⟨hklt, E, O, V, ht, e0, o0, ⟨iok, hk1, hk2, hk3⟩, hfoot⟩ := traceP_of hrp (fun i v' ob' => some (k, v, ob) = some (i, v', ob')) rfl
      /- who may run ahead of it -/
      have hmay : mayPan (befsOf ops.toList []) ios0 k = true := by
        have hap' := hap
        unfold drawC at hap'
        simp only at hap'
        split at hap' <;> first | (cases hap'; done) | skip
        injection hap' with hap'
        rw [List.contains_eq_mem, decide_eq_true_eq, ← hap'] at hc2
        have hm := hc2
        rcases List.mem_append.1 hm with hm | hm
        · exfalso
          obtain ⟨⟨i, j⟩, hp, hm⟩ := List.mem_flatMap.1 hm
          simp only at hm
          have hb : i < ios0.length ∧ j < ios0.length := by
            unfold pairsOf at hp
            obtain ⟨x, h1, h2⟩ := List.mem_flatMap.1 hp
            obtain ⟨y, h3, h4⟩ := List.mem_map.1 h2
            injection h4 with h4 h5
            rw [List.mem_range] at h1 h3
            omega
          split at hm
          · cases hm
          · rcases List.mem_append.1 hm with hm | hm <;> (split at hm <;> first | (cases hm; done) | skip) <;> (simp only [List.mem_singleton, Prod.mk.injEq] at hm; omega)
        · obtain ⟨k', h1, h2⟩ := List.mem_map.1 hm
          injection h2 with h2 _
          have : k' = k := by omega
          subst this
          exact (List.mem_filter.1 h1).2
      have hmay' : ∀ e, e < ios0.length → e ≠ k → (e < k → isBef (befsOf ops.toList []) e k = true ∨ ¬ ((ios0.getD e default).op.eff = true ∧ (ios0.getD e default).op.free = true) ∨ (ios0.getD e default).op.isAl = true) ∧ (k < e → isBef (befsOf ops.toList []) k e = true ∨ ((ios0.getD e default).op.isAl = true ∧ (ios0.getD e default).guard = none)) := by
        intro e he hek
        unfold mayPan at hmay
        rw [List.all_eq_true] at hmay
        have := hmay e (List.mem_range.2 he)
        simp only [Bool.or_eq_true, beq_iff_eq, hek, false_or] at this
        constructor
        · intro hlt
          rw [if_pos hlt] at this
          simp only [Bool.or_eq_true, Bool.not_eq_true', Bool.and_eq_false_iff] at this
          rcases this with (h | h) | h
          · exact .inl h
          · refine .inr (.inl ?_)
            rintro ⟨q1, q2⟩
            rcases h with h | h
            · rw [h] at q1; cases q1
            · rw [h] at q2; cases q2
          · exact .inr (.inr h)
        · intro hlt
          rw [if_neg (by omega)] at this
          simp only [Bool.or_eq_true, Bool.and_eq_true, Option.isNone_iff_eq_none] at this
          exact this
      have hpl : (poisL k ios).length = ios.length := poisL_len
      have hmask : maskD (poisL k ios) (E 0) = maskD ios env := by
        rw [e0]
        refine list_ext_getD (by rw [maskD_len, maskD_len]) (fun t => ?_)
        rw [maskD_get, maskD_get]
        have hiff : (∃ x ∈ poisL k ios, x.dst = some t) ↔ ∃ x ∈ ios, x.dst = some t := by
          have hd : ∀ x : OpI, (poisO x).dst = x.dst := fun x => by unfold poisO; split <;> rfl
          constructor
          · rintro ⟨x, h1, h2⟩
            obtain ⟨i, hi⟩ := List.mem_iff_getElem?.1 h1
            obtain ⟨y, h3, h4⟩ := poisL_at hi
            refine ⟨y, List.mem_of_getElem? h3, ?_⟩
            rcases h4 with ⟨_, rfl⟩ | ⟨_, rfl⟩
            · exact h2
            · rw [hd] at h2; exact h2
          · rintro ⟨y, h1, h2⟩
            obtain ⟨i, hi⟩ := List.mem_iff_getElem?.1 h1
            have hil := (List.getElem?_eq_some_iff.1 hi).1
            obtain ⟨x, hx⟩ : ∃ x, (poisL k ios)[i]? = some x := ⟨_, List.getElem?_eq_getElem (by omega)⟩
            obtain ⟨y', h3, h4⟩ := poisL_at hx
            rw [hi] at h3; injection h3 with h3; subst h3
            refine ⟨x, List.mem_of_getElem? hx, ?_⟩
            rcases h4 with ⟨_, rfl⟩ | ⟨_, rfl⟩
            · exact h2
            · rw [hd]; exact h2
        by_cases hd : ∃ x ∈ ios, x.dst = some t
        · rw [if_pos hd, if_pos (hiff.2 hd)]
        · rw [if_neg hd, if_neg (fun h => hd (hiff.1 h))]
      have pois : ∀ (i : Nat) io, (poisL k ios)[i]? = some io → ∃ io1 io0, ios[i]? = some io1 ∧ ios0[i]? = some io0 ∧ Real objs.length io1 io0 ∧ (∀ id e zs, io1.op = .allocAt id e zs → objs0.length ≤ id) ∧ ((io = io1 ∧ (i ≤ k ∨ ∃ id e zs, io1.op = .allocAt id e zs)) ∨ (k < i ∧ io.dst = io1.dst ∧ io.guard = none ∧ io.op = .mov (.c undI) ∧ isBef (befsOf ops.toList []) k i = true)) := by
        intro i io hio
        obtain ⟨io1, h1, h2⟩ := poisL_at hio
        obtain ⟨io0, h3, h4, h5⟩ := hnum i io1 h1
        refine ⟨io1, io0, h1, h3, h4, h5, ?_⟩
        rcases h2 with ⟨h2, rfl⟩ | ⟨h2, rfl⟩
        · exact .inl ⟨rfl, .inl h2⟩
        · have hil := (List.getElem?_eq_some_iff.1 h3).1
          have hg0' : ios0.getD i default = io0 := by rw [List.getD_eq_getElem?_getD, h3]; rfl
          have hm := (hmay' i hil (by omega)).2 h2
          rw [hg0'] at hm
          obtain ⟨r1, r2, r3⟩ := h4
          unfold poisO
          split
          · rename_i q1 q2
            exact .inl ⟨rfl, .inr ⟨_, _, _, q1⟩⟩
          · rename_i hne
            refine .inr ⟨h2, rfl, rfl, rfl, hm.resolve_right ?_⟩
            rintro ⟨q1, q2⟩
            rcases r3 with ⟨q3, q4⟩ | ⟨e, zs, id, q3, q4, _⟩
            · cases hop : io0.op <;> rw [hop] at q1 <;> simp only [IOp.isAl, Bool.false_eq_true] at q1
              exact q4 _ _ hop
            · exact hne id e zs q4 (by rw [r2, q2])
      refine drawG_sound ro hcall hi hap (objs := objs) (objs0 := objs0) (kq := some (k, v, ob)) ⟨by omega, fun i io hio => ?_⟩ ht o0 (.inr ⟨fs, hc1, hfoot⟩) (fun h => by cases h) (fun k' v' ob' hq => ?_) hl0 hg0 hsat (by rw [e0]; exact henv) hdef
      · obtain ⟨io1, io0, h1, h2, h3, h4, h5⟩ := pois i io hio
        refine ⟨io0, h2, ?_⟩
        rcases h5 with ⟨rfl, _⟩ | ⟨q1, q2, q3, q4, q5⟩
        · exact .inl h3
        · refine .inr ⟨⟨q2.trans h3.1, fun t ht' => ?_, fun h => ?_⟩, q4, k, v, ob, rfl, q5, by omega⟩
          · unfold OpI.reads at ht'
            rw [q3, q4] at ht'
            simp [IOp.reads, opndT] at ht'
          · rw [q4] at h; cases h
      · injection hq with hq; injection hq with q1 q2; injection q2 with q2 q3; subst q1 q2 q3
        refine ⟨by omega, by rw [hmask, ← h], fun i hi2 => ?_, ⟨iok, ?_, hk2, hk3⟩, fun e x hx hex hek => ?_⟩
        · rw [hmask] at hi2
          exact hc3 i hi2
        · obtain ⟨x, hx⟩ : ∃ x, (poisL k ios)[k]? = some x := ⟨_, List.getElem?_eq_getElem (by omega)⟩
          obtain ⟨y, h3, h4⟩ := poisL_at hx
          rw [hk1] at h3; injection h3 with h3; subst h3
          rcases h4 with ⟨_, rfl⟩ | ⟨h4, _⟩
          · exact hx
          · omega
        · obtain ⟨io1, io0, h1, h2, h3, h4, h5⟩ := pois e x hx
          rcases h5 with ⟨rfl, h5⟩ | ⟨_, _, _, q4, _⟩
          · rcases h5 with h5 | ⟨id, e', zs, h5⟩
            · have hel := (List.getElem?_eq_some_iff.1 h2).1
              have hg0' : ios0.getD e default = io0 := by rw [List.getD_eq_getElem?_getD, h2]; rfl
              have hm := (hmay' e hel hek).1 (by omega)
              rw [hg0', ← h3.2.2.eff, ← h3.2.2.free] at hm
              rcases hm with hm | hm | hm
              · exact .inr ⟨by omega, .inl hm⟩
              · refine .inr ⟨by omega, .inr ?_⟩
                cases hf : x.op.free with
                | false => rfl
                | true => exact (hm ⟨hex, hf⟩).elim
              · rcases h3.2.2 with ⟨q3, q4⟩ | ⟨e2, zs, id, q3, q4, _⟩
                · cases hop : io0.op <;> rw [hop] at hm <;> simp only [IOp.isAl, Bool.false_eq_true] at hm
                  exact (q4 _ _ hop).elim
                · exact .inl ⟨id, e2, zs, q4, h4 _ _ _ q4⟩
            · exact .inl ⟨id, e', zs, h5, h4 _ _ _ h5⟩
          · rw [q4] at hex; cases hex
theorem wpOpIn_mono' {F : Fence} {n : Nat} {ops : Array Oper} {Q Q' : Exit → Act → World → Prop} (hq : ∀ e a w, Q e a w → Q' e a w) {i : Nat} {nx nx' : Act → World → Prop} (hn : ∀ a w, nx a w → nx' a w) {a : Act} {w : World} (h : wpOpIn F n P ops Q i nx a w) : wpOpIn F n P ops Q' i nx' a w := by
  unfold wpOpIn at h ⊢
  split at h
  · exact hn _ _ h
  · split at h
    · rename_i hw
      rw [if_pos hw]
      exact ⟨h.1, uponIn_mono hn hq _ h.2⟩
    · rename_i hw
      rw [if_neg hw]
      exact ⟨h.1, hn _ _ h.2⟩
theorem wpAnyIn_mono' {F : Fence} {n : Nat} {md : Region.Mode} {ops : Array Oper} {Q Q' : Exit → Act → World → Prop} (hq : ∀ e a w, Q e a w → Q' e a w) : ∀ {fuel : Nat} {listed : Array Bool} {a : Act} {w : World}, wpAnyIn F n P md ops Q fuel listed a w → wpAnyIn F n P md ops Q' fuel listed a w
  | 0, _, _, _, h => ⟨h.1, hq _ _ _ h.2⟩
  | _ + 1, _, _, _, h => ⟨fun h0 => hq _ _ _ (h.1 h0), fun i hi => wpOpIn_mono' hq (fun _ _ => wpAnyIn_mono' hq) (h.2 i hi)⟩
theorem numA_ge : ∀ (l : List OpI) (k i : Nat) (io : OpI), (numA k l)[i]? = some io → ∀ {io0 : OpI}, (∀ id e zs, io0.op = .allocAt id e zs → False) → l[i]? = some io0 → ∀ id e zs, io.op = .allocAt id e zs → k ≤ id
  | [], k, i, io, h, io0, hn, h0, id, e, zs, hop => by cases h0
  | o :: r, k, i, io, h, io0, hn, h0, id, e, zs, hop => by
    unfold numA at h
    split at h
    · cases i with
      | zero =>
        simp only [List.getElem?_cons_zero, Option.some.injEq] at h
        rw [← h] at hop
        simp only [IOp.allocAt.injEq] at hop
        omega
      | succ i =>
        have := numA_ge r (k + 1) i io (by simpa using h) hn (by simpa using h0) id e zs hop
        omega
    · cases i with
      | zero =>
        simp only [List.getElem?_cons_zero, Option.some.injEq] at h h0
        rw [← h, h0] at hop
        exact (hn id e zs hop).elim
      | succ i => exact numA_ge r k i io (by simpa using h) hn (by simpa using h0) id e zs hop
theorem draw_sound (ro : Option Nat) {lo : Lo} {po : Pol} {call : CallF} (hcall : CallSound P base call) {ops : Array Oper} {ios : List OpI} {ap : List (Nat × Nat)} (hi : compOps P ops ops.toList = some ios) (hap : drawC ops.toList ios = some ap) {env : Env} {objs : Objs} {st : Ex × Env × Objs} (h : regdI po call ios ap env objs = some st)
    {w : World} {im : Im} {g : List Value} {a : Act} (hsat : Sat P base w im g objs) (henv : RepL w im g objs env a.tmps.toList) (hdef : Marks lo w g a.defers) :
    wpAnyIn (WF ro) 0 P .any ops (Post P base lo w im g objs st) ops.size (Array.replicate ops.size false) a { w with drawn := w.drawn + 1 } := by
  unfold regdI at h
  split at h
  · rename_i h0
    have hna : ∀ (l : List OpI), cntA l = 0 → ∀ io ∈ l, ∀ e zs, io.op ≠ .alloc e zs := by
      intro l
      induction l with
      | nil => intro _ io hm; cases hm
      | cons o r ih =>
        intro hc io hm e zs hop
        unfold cntA at hc
        rcases List.mem_cons.1 hm with rfl | hm
        · rw [hop] at hc; cases hc
        · refine ih ?_ io hm e zs hop
          split at hc
          · cases hc
          · exact hc
    exact drawJ_sound ro hcall hi hap (objs0 := objs) ⟨rfl, fun i io hio => ⟨io, hio, ⟨rfl, rfl, .inl ⟨rfl, hna ios h0 io (List.mem_of_getElem? hio)⟩⟩, fun id e zs hop => by
      obtain ⟨_, hat⟩ := compOps_at hi
      obtain ⟨x, hx⟩ : ∃ x, ops.toList[i]? = some x := ⟨_, List.getElem?_eq_getElem (by have := (List.getElem?_eq_some_iff.1 hio).1; have := (compOps_at hi).1; omega)⟩
      obtain ⟨io', q1, q2, _⟩ := hat i x hx
      rw [hio] at q1; injection q1 with q1; subst q1
      rw [hop] at q2
      exact (compOp0_no_allocAt ((compOp_cases q2).resolve_right (by simp))).elim⟩⟩ h (Le.refl _ _ _ _) hsat.len hsat henv hdef
  · rename_i n hn
    obtain ⟨g', l1, s1⟩ := push_dead (n + 1) hsat
    obtain ⟨q1, q2⟩ := numA_at ios objs.length (objs ++ List.replicate (n + 1) AObj.dead).length (by simp [hn])
    refine drawJ_sound ro hcall hi hap (objs := objs ++ List.replicate (n + 1) .dead) (objs0 := objs) ⟨q1, fun i io hio => ?_⟩ h l1 hsat.len s1 (hsat.monoL l1 henv) (hdef.le l1)
    obtain ⟨io0, h1, h2, h3, h4⟩ := q2 i io hio
    refine ⟨io0, h1, ⟨h2, h3, h4⟩, fun id e zs hop => ?_⟩
    exact numA_ge ios objs.length i io hio (fun id e zs hx => by
      obtain ⟨_, hat⟩ := compOps_at hi
      obtain ⟨x, hx'⟩ : ∃ x, ops.toList[i]? = some x := ⟨_, List.getElem?_eq_getElem (by have := (List.getElem?_eq_some_iff.1 h1).1; have := (compOps_at hi).1; omega)⟩
      obtain ⟨io', q1, q2, _⟩ := hat i x hx'
      rw [h1] at q1; injection q1 with q1; subst q1
      rw [hx] at q2
      exact compOp0_no_allocAt ((compOp_cases q2).resolve_right (by simp))) h1 id e zs hop
end
end Pi
end Go.Proofs.YthdgpejippohnaaGreatDoor
