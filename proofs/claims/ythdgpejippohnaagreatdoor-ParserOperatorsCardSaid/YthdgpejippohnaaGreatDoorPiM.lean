/-
  Every operation of the evaluator is what the machine's operation does. Condition: the called functions are.
-/
import Derived.Test.YthdgpejippohnaaGreatDoorPiL
import Derived.Lib.Builder
import Derived.Laws.BytesString
import Derived.Laws.IdiomStrings
namespace Go.Proofs.YthdgpejippohnaaGreatDoor
namespace Pi
set_option linter.unusedVariables false
section
variable {P : Program} {base : Nat} {w w' : World} {im im' : Im} {g g' : List Value} {objs objs' : Objs} {env : Env} {a : Act} {o : Oper}

theorem run_max : ∀ {xs : List PV} {p q : PV} {v : Value} {vs : List Value}, maxI p xs = some q → Rep w im g objs p v → RepL w im g objs xs vs → ∃ u, (vs.foldlM Builtin.max2 v).run P w = .ok u w ∧ Rep w im g objs q u
  | [], p, q, v, [], h, hp, _ => by
    unfold maxI at h
    split at h <;> first | (cases h; done) | skip
    · injection h with h; subst h
      exact ⟨v, rfl, hp⟩
    · simp_all
  | x :: r, p, q, v, u :: s, h, hp, hx => by
    unfold maxI at h
    split at h <;> first | (cases h; done) | skip
    · simp_all
    · rename_i heq
      obtain ⟨rfl, rfl⟩ := List.cons.inj heq
      have e1 : v = _ := hp
      have e2 : u = _ := hx.1
      subst e1 e2
      simp only [List.foldlM_cons, Builtin.max2, pure_bind]
      exact run_max h rfl hx.2
  | [], _, _, _, _ :: _, _, _, hx => hx.elim
  | _ :: _, _, _, _, [], _, _, hx => hx.elim
theorem run_min : ∀ {xs : List PV} {p q : PV} {v : Value} {vs : List Value}, minI p xs = some q → Rep w im g objs p v → RepL w im g objs xs vs → ∃ u, (vs.foldlM Builtin.min2 v).run P w = .ok u w ∧ Rep w im g objs q u
  | [], p, q, v, [], h, hp, _ => by
    unfold minI at h
    split at h <;> first | (cases h; done) | skip
    · injection h with h; subst h
      exact ⟨v, rfl, hp⟩
    · simp_all
  | x :: r, p, q, v, u :: s, h, hp, hx => by
    unfold minI at h
    split at h <;> first | (cases h; done) | skip
    · simp_all
    · rename_i heq
      obtain ⟨rfl, rfl⟩ := List.cons.inj heq
      have e1 : v = _ := hp
      have e2 : u = _ := hx.1
      subst e1 e2
      simp only [List.foldlM_cons, Builtin.min2, pure_bind]
      exact run_min h rfl hx.2
  | [], _, _, _, _ :: _, _, _, hx => hx.elim
  | _ :: _, _, _, _, [], _, _, hx => hx.elim
theorem s_max {args : Array Operand} {tys : Array TypeId} {ys : List Opnd} {p q : PV} {r : List PV} (hsat : Sat P base w im g objs) (henv : RepL w im g objs env a.tmps.toList) (ho : o.op = .call { callee := .builtin .max, args := args, argTypes := tys }) (hy : opndsI args.toList = some ys) (hm : ys.map (opnd env) = p :: r) (hq : maxI p r = some q) : OpOK P base o a w im g objs (.ok q objs) := by
  have hr := opnds_rep henv hy
  rw [hm] at hr
  cases hl : args.toList.map a.eval with
  | nil => rw [hl] at hr; exact hr.elim
  | cons v vs =>
    rw [hl] at hr
    obtain ⟨u, hu, hru⟩ := run_max (P := P) hq hr.1 hr.2
    refine opok_same hsat (v' := u) ?_ hru
    refine exec_builtin ho (s := Builtin.max_ tys o.type (args.map a.eval)) (fun _ => by simp [builtin]) ?_
    unfold Builtin.max_
    rw [Array.toList_map, hl]
    exact hu
theorem s_min {args : Array Operand} {tys : Array TypeId} {ys : List Opnd} {p q : PV} {r : List PV} (hsat : Sat P base w im g objs) (henv : RepL w im g objs env a.tmps.toList) (ho : o.op = .call { callee := .builtin .min, args := args, argTypes := tys }) (hy : opndsI args.toList = some ys) (hm : ys.map (opnd env) = p :: r) (hq : minI p r = some q) : OpOK P base o a w im g objs (.ok q objs) := by
  have hr := opnds_rep henv hy
  rw [hm] at hr
  cases hl : args.toList.map a.eval with
  | nil => rw [hl] at hr; exact hr.elim
  | cons v vs =>
    rw [hl] at hr
    obtain ⟨u, hu, hru⟩ := run_min (P := P) hq hr.1 hr.2
    refine opok_same hsat (v' := u) ?_ hru
    refine exec_builtin ho (s := Builtin.min_ tys o.type (args.map a.eval)) (fun _ => by simp [builtin]) ?_
    unfold Builtin.min_
    rw [Array.toList_map, hl]
    exact hu

theorem opok_pan {p : PV} {v : Value} (hsat : Sat P base w im g objs) (hrun : (execOp a.eval o).run P w = .halt (.panic v) w) (hr : Rep w im g objs p v) : OpOK P base o a w im g objs (.pan p objs) := by
  intro next Q _ h
  left
  unfold Oper.wp
  rw [hrun, Oper.upon_panic]
  exact h p objs rfl v w im g (Le.refl w im g objs) hsat hr
theorem s_pan {x : Operand} {y : Opnd} {t : TypeId} {p : PV} (hsat : Sat P base w im g objs) (henv : RepL w im g objs env a.tmps.toList) (ho : o.op = .panic x) (hy : opndI x = some y) (hp : opnd env y = .iface t p) : OpOK P base o a w im g objs (.pan (.iface t p) objs) := by
  have hr := opnd_rep henv hy
  rw [hp] at hr
  have hr2 := hr
  unfold Rep at hr
  obtain ⟨u, he, _⟩ := hr
  refine opok_pan hsat ?_ hr2
  simp [execOp, ho, Instr.panic, he]
theorem s_panb {args : Array Operand} {tys : Array TypeId} {y : Opnd} {t : TypeId} {p : PV} (hsat : Sat P base w im g objs) (henv : RepL w im g objs env a.tmps.toList) (ho : o.op = .call { callee := .builtin .panic, args := args, argTypes := tys }) (hy : opndsI args.toList = some [y]) (hp : opnd env y = .iface t p) : OpOK P base o a w im g objs (.pan (.iface t p) objs) := by
  have hr := opnds_rep henv hy
  cases hl : args.toList with
  | nil => rw [hl] at hr; exact hr.elim
  | cons x r => cases r with
    | cons _ _ => rw [hl] at hr; exact hr.2.elim
    | nil =>
      rw [hl] at hr
      have ha : args = #[x] := toArray_one hl
      subst ha
      have hr1 : Rep w im g objs (opnd env y) (a.eval x) := hr.1
      rw [hp] at hr1
      have hr2 := hr1
      unfold Rep at hr1
      obtain ⟨u, he, _⟩ := hr1
      refine opok_pan hsat ?_ hr2
      simp [execOp, ho, resolve, invoke, builtin, Instr.panic, he]

theorem fold_push : ∀ (ns : List Int) (acc : ByteArray), ns.foldl (fun r n => r.push (UInt8.ofNat n.toNat)) acc = acc ++ ⟨(ns.map fun n => UInt8.ofNat n.toNat).toArray⟩
  | [], acc => by apply ByteArray.ext; simp
  | n :: r, acc => by
    rw [List.foldl_cons, fold_push r]
    apply ByteArray.ext
    simp
theorem bytes_ints {b : Nat} : ∀ {els : List (List D)} {l : List UInt8} {sz q : Nat}, bytesD els = some l → RepEls w im els sz b q → ∃ ns : List Int, ns.length = els.length ∧ (∀ (j : Nat) n, ns[j]? = some n → w.cell? ⟨b, q + j, none⟩ = some (.int .u8 n)) ∧ l = ns.map fun n => UInt8.ofNat n.toNat
  | [], l, sz, q, h, _ => by
    unfold bytesD at h; injection h with h; subst h
    exact ⟨[], rfl, by simp, rfl⟩
  | el :: r, l, sz, q, h, hr => by
    unfold RepEls at hr
    obtain ⟨h1, h2, h3⟩ := hr
    unfold bytesD at h
    split at h
    · cases ‹_ :: _ = []›
    · rename_i n r' heq
      obtain ⟨rfl, rfl⟩ := List.cons.inj heq
      cases hb2 : bytesD r with
      | none => simp [hb2] at h
      | some l2 =>
        simp [hb2] at h
        subst h
        have hsz1 : sz = 1 := by rw [← h1]; rfl
        subst hsz1
        obtain ⟨ns, k1, k2, k3⟩ := bytes_ints hb2 h3
        unfold RepRow at h2
        obtain ⟨_, ⟨u, hu, hd⟩, _⟩ := h2
        have hd : u = .int .u8 n := hd
        subst hd
        refine ⟨n :: ns, by simp [k1], fun j z hz => ?_, by rw [k3]; rfl⟩
        cases j with
        | zero => simp at hz; subst hz; exact hu
        | succ j => have := k2 j z (by simpa using hz); rwa [show q + (j + 1) = q + 1 + j from by omega]
    · cases h
theorem s_convBS {s t e : TypeId} {x : Operand} {y : Opnd} {els : List (List D)} {l : List UInt8} (hsat : Sat P base w im g objs) (henv : RepL w im g objs env a.tmps.toList) (ho : o.op = .convert s t x) (hy : opndI x = some y) (hs : P.underlying s = some (.slice e)) (ht : P.underlying t = some .string) (he : P.underlying e = some (.int .u8)) (hx : (opnd env y).asRow objs = some els) (hb : bytesD els = some l) : OpOK P base o a w im g objs (.ok (.d (.str l)) objs) := by
  have r := asRow_rep hsat hx (opnd_rep henv hy)
  refine opok_same hsat (v' := .string ⟨l.toArray⟩) ?_ rfl
  have hbs : (Conv.bytesToString (a.eval x)).run P w = .ok (.string ⟨l.toArray⟩) w := by
    cases els with
    | nil =>
      unfold bytesD at hb; injection hb with hb; subst hb
      obtain ⟨A, c, hv, _⟩ := row_slice r
      rw [hv]
      cases A with
      | none => rfl
      | some ad => exact run_bytesToString (P := P) w ad 0 c [] (by simp [loadCells, loadCellsFrom])
    | cons el rest =>
      obtain ⟨b, q, c, sz, hv, hc, hrow⟩ := row_at r (by simp)
      obtain ⟨ns, k1, k2, k3⟩ := bytes_ints hb hrow
      have hload := run_loadCells_list (P := P) w ⟨b, q, none⟩ (ns.map (Value.int .u8)) (fun j u hu => by
        rw [List.getElem?_map] at hu
        obtain ⟨n, hn, rfl⟩ := Option.map_eq_some_iff.1 hu
        rw [Addr.add_lit]; exact k2 j n hn)
      rw [List.length_map, k1] at hload
      rw [hv, run_bytesToString (P := P) w ⟨b, q, none⟩ _ c ns hload, fold_push, k3]
      congr 2
  obtain ⟨A, c, hv, _⟩ := row_slice r
  have := run_convert_bytes_string (P := P) w s t e A els.length c hs he ht
  rw [hv] at hbs
  rw [hbs] at this
  simp [execOp, ho, hv, this]

theorem s_convSB {s t e : TypeId} {x : Operand} {y : Opnd} {l : List UInt8} (hsat : Sat P base w im g objs) (henv : RepL w im g objs env a.tmps.toList) (ho : o.op = .convert s t x) (hy : opndI x = some y) (hs : P.underlying s = some .string) (ht : P.underlying t = some (.slice e)) (he : P.underlying e = some (.int .u8)) (hx : opnd env y = .d (.str l)) : OpOK P base o a w im g objs (.ok (.d (.row (bytesOf l))) objs) := by
  have ex := rep_str hx (opnd_rep henv hy)
  have hsz : (⟨l.toArray⟩ : ByteArray).size = l.length := by simp [ByteArray.size]
  have hrun := run_bytes_of_string (P := P) w s t e ⟨l.toArray⟩ hs ht he
  rw [hsz] at hrun
  have hge := grownCap_ge w l.length 0 e
  generalize hcap : grownCap w l.length 0 e = cap at *
  have hrow : (bytesRow ⟨l.toArray⟩ cap).toList.take l.length = Lib.strCells ⟨l.toArray⟩ := by
    unfold bytesRow Lib.strCells
    simp
  generalize hC : bytesRow ⟨l.toArray⟩ cap = C at *
  have hnew : (w.drew.alloc (.cells C e (C.size, C.size + 1))).heap[w.heap.size]? = some (.cells C e (C.size, C.size + 1)) := heap_alloc_new w.drew _
  have hlen : (bytesOf l).length = l.length := by simp [bytesOf]
  have hcl : (Lib.strCells ⟨l.toArray⟩).length = l.length := by rw [Lib.strCells_length, hsz]
  obtain ⟨hl, hs'⟩ := hsat.more (w' := w.drew.alloc (.cells C e (C.size, C.size + 1))) (im' := fun b x => im b x ∨ b = w.heap.size) (by simp) (fun k hk => heap_alloc_old w.drew _ k hk) rfl rfl rfl (fun b x h => .inl h) (fun b x h => by
    rcases h with h | h
    · exact .inl h
    · exact .inr ⟨by omega, by simp; omega⟩)
  refine opok_val (v' := .slice (some ⟨w.heap.size, 0, none⟩) l.length cap) (by simp [execOp, ho, ex, hrun]) hl hs' ?_
  show RepD _ _ _ _
  unfold RepD
  refine .inr ⟨w.heap.size, 0, cap, 1, by rw [hlen], by rw [hlen]; exact hge, rows_of (g := g) (objs := objs) (fun el hel => ?_) (bytes_rep l) (fun j u hu => ⟨.inr rfl, ?_⟩) (fun x v h => h)⟩
  · obtain ⟨b, _, rfl⟩ := List.mem_map.1 hel
    rfl
  · rw [Nat.zero_add, cells_at hnew]
    have hj : j < l.length := by rw [← hcl]; exact (List.getElem?_eq_some_iff.1 hu).1
    rw [← hrow, List.getElem?_take_of_lt hj] at hu
    simpa using hu
/-! ### calls -/
theorem opok_call {out : Out} {f : FuncId} {vargs : Array Value} (hrun : (execOp a.eval o).run P w = .ok (.enter f vargs) w)
    (hc : Calls P f vargs w fun e w' => ∃ im' g', Le w im g objs w' im' g' objs' ∧ Sat P base w' im' g' objs' ∧ OutOK w' im' g' objs' out e) :
    OpOK P base o a w im g objs (outToRes objs' out) := by
  intro next Q h1 h2
  left
  unfold Oper.wp
  rw [hrun, Oper.upon_enter]
  refine hc.mono ?_
  rintro e w' ⟨im', g', hl, hs, ho⟩
  cases out with
  | ret p =>
    obtain ⟨v, rfl, hr⟩ := ho
    exact h1 p objs' rfl v w' im' g' hl hs hr
  | panic p =>
    obtain ⟨v, rfl, hr⟩ := ho
    exact h2 p objs' rfl v w' im' g' hl hs hr
theorem run_callFunc {f : FuncId} (h : okFn P f) (args : Array Value) (w : World) : (callFunc f args).run P w = .ok (.enter f args) w := by
  obtain ⟨fn, c, h1, h2, h3⟩ := h
  simp [callFunc, h1, h2, h3]
theorem outRes_ok {x : Option (Out × Objs)} {r : Res} (h : outRes x = some r) : ∃ out objs', x = some (out, objs') ∧ r = outToRes objs' out := by
  unfold outRes at h
  split at h <;> first | (cases h; done) | (injection h with h; subst h; exact ⟨_, _, rfl, rfl⟩)
theorem s_call {po : Pol} {call : CallF} (hcall : CallSound P base call) {f : FuncId} {args : Array Operand} {tys : Array TypeId} {ys : List Opnd} {r : Res} (hsat : Sat P base w im g objs) (henv : RepL w im g objs env a.tmps.toList) (ho : o.op = .call { callee := .value (.func f), args := args, argTypes := tys }) (hy : opndsI args.toList = some ys)
    (h : outRes (doCall po call (.fn f) (ys.map (opnd env)) objs) = some r) : OpOK P base o a w im g objs r := by
  obtain ⟨out, objs', hx, rfl⟩ := outRes_ok h
  obtain ⟨hok, hc⟩ := doCall_sound hcall hx hsat (opnds_rep henv hy)
  refine opok_call (f := f) (vargs := (args.toList.map a.eval).toArray) ?_ hc
  have hmap : args.map a.eval = (args.toList.map a.eval).toArray := by apply Array.toList_inj.1; rw [Array.toList_map]
  simp only [execOp, ho, resolve, Act.eval, Deferred.ofValue, invoke, Sem.run_bind, Sem.run_pure, Result.andThen_ok]
  rw [run_callFunc hok]
  simp [← hmap]
theorem s_callx {po : Pol} {call : CallF} (hcall : CallSound P base call) {f : FuncId} {args : Array Operand} {tys : Array TypeId} {ys : List Opnd} {r : Res} (hsat : Sat P base w im g objs) (henv : RepL w im g objs env a.tmps.toList) (ho : o.op = .call { callee := .value (.func f), args := args, argTypes := tys }) (hy : opndsI args.toList = some ys)
    (h : outRes (doCall po call (.ext f) (ys.map (opnd env)) objs) = some r) : OpOK P base o a w im g objs r := by
  obtain ⟨out, objs', hx, rfl⟩ := outRes_ok h
  obtain ⟨v, w', hrun, im', g', hl, hs, hout⟩ := doCall_sound hcall hx hsat (opnds_rep henv hy)
  cases out with
  | panic p => obtain ⟨_, hv, _⟩ := hout; cases hv
  | ret p =>
    obtain ⟨v', hv, hr⟩ := hout
    injection hv with hv; subst hv
    refine opok_val (v' := v) ?_ hl hs hr
    have hmap : args.map a.eval = (args.toList.map a.eval).toArray := by apply Array.toList_inj.1; rw [Array.toList_map]
    simp only [execOp, ho, resolve, Act.eval, Deferred.ofValue, invoke, Sem.run_bind, Sem.run_pure, Result.andThen_ok]
    rw [← hmap] at hrun
    simpa using hrun
theorem s_callv {po : Pol} {call : CallF} (hcall : CallSound P base call) {x : Operand} {y : Opnd} {args : Array Operand} {tys : Array TypeId} {ys : List Opnd} {f : FuncId} {first caps : List PV} {r : Res} (hsat : Sat P base w im g objs) (henv : RepL w im g objs env a.tmps.toList) (ho : o.op = .call { callee := .value x, args := args, argTypes := tys }) (hx : opndI x = some y) (hy : opndsI args.toList = some ys)
    (hf : opnd env y = .clo f first caps) (h : outRes (doCall po call (.fn f) (first ++ ys.map (opnd env) ++ caps) objs) = some r) : OpOK P base o a w im g objs r := by
  have rx := opnd_rep henv hx
  rw [hf] at rx
  unfold Rep at rx
  obtain ⟨fv, cv, he, r1, r2⟩ := rx
  obtain ⟨out, objs', hd, rfl⟩ := outRes_ok h
  obtain ⟨hok, hc⟩ := doCall_sound hcall hd hsat ((r1.app (opnds_rep henv hy)).app r2)
  refine opok_call (f := f) (vargs := (fv ++ args.toList.map a.eval ++ cv).toArray) ?_ hc
  have hmap : args.map a.eval = (args.toList.map a.eval).toArray := by apply Array.toList_inj.1; rw [Array.toList_map]
  simp only [execOp, ho, resolve, he, Deferred.ofValue, invoke, Sem.run_bind, Sem.run_pure, Result.andThen_ok]
  rw [run_callFunc hok, hmap]
  simp
theorem cells_shape {id k : Nat} {ty : TypeId} {cs : List PV} (hsat : Sat P base w im g objs) (hid : objs[id]? = some (.cells ty cs)) (hg : g[id]? = some (.pointer (some ⟨k, 0, none⟩))) : w.shape? k = some (ty, cs.length) := by
  have hok := hsat.obj id _ _ hid hg
  unfold ObjOK at hok
  obtain ⟨k', cur, hk, _, hh, hr, _⟩ := hok
  injection hk with hk; injection hk with hk; injection hk with hk; subst hk
  have hl := hr.length
  simp [World.shape?, hh, hl]
theorem s_cvp {po : Pol} {call : CallF} {s t te : TypeId} {x : Operand} {y : Opnd} {j : TypeInfo} {r : Res} (hsat : Sat P base w im g objs) (henv : RepL w im g objs env a.tmps.toList) (ho : o.op = .convert s t x) (hx : opndI x = some y) (hs : P.underlying s = some (.pointer te)) (ht : P.underlying t = some .unsafePointer) (hj : P.info? te = some j) (hj0 : ¬ j.size = 0)
    (h : stepI po call env objs (.cvp y) = some r) : OpOK P base o a w im g objs r := by
  have rx := opnd_rep henv hx
  unfold stepI at h
  simp only at h
  split at h <;> first | (cases h; done) | skip
  rename_i i n hq
  split at h <;> first | (cases h; done) | skip
  rename_i ty cs hob
  split at h <;> first | (cases h; done) | skip
  rename_i hn
  injection h with h; subst h
  have hid := getD_some hob (by simp)
  rw [hq] at rx
  have rx0 := rx
  unfold Rep at rx
  obtain ⟨k, hg, he⟩ := rx
  refine opok_same hsat (v' := a.eval x) ?_ rx0
  have := Lib.run_to_unsafe (P := P) w ⟨k, n, none⟩ hs ht hj hj0 (cells_shape hsat hid hg) hn
  simp [execOp, ho, he, this]
theorem s_cvu {po : Pol} {call : CallF} {s t u : TypeId} {x : Operand} {y : Opnd} {j : TypeInfo} {r : Res} (hsat : Sat P base w im g objs) (henv : RepL w im g objs env a.tmps.toList) (ho : o.op = .convert s t x) (hx : opndI x = some y) (hs : P.underlying s = some .unsafePointer) (ht : P.underlying t = some (.pointer u)) (hj : P.info? u = some j)
    (h : stepI po call env objs (.cvu (liesL P u) y) = some r) : OpOK P base o a w im g objs r := by
  have rx := opnd_rep henv hx
  unfold stepI at h
  simp only at h
  split at h <;> first | (cases h; done) | skip
  rename_i i n hq
  split at h <;> first | (cases h; done) | skip
  rename_i ty cs hob
  split at h <;> first | (cases h; done) | skip
  rename_i hn
  obtain ⟨rfl, hc⟩ := hn
  injection h with h; subst h
  have hid := getD_some hob (by simp)
  rw [hq] at rx
  have rx0 := rx
  unfold Rep at rx
  obtain ⟨k, hg, he⟩ := rx
  have hm : (ty, cs.length) ∈ liesL P u := by simpa using hc
  unfold liesL at hm
  obtain ⟨ty', _, hm⟩ := List.mem_filterMap.1 hm
  split at hm <;> first | (cases hm; done) | skip
  rename_i hl
  injection hm with hm; injection hm with hm1 hm2; subst hm1
  simp only [Bool.and_eq_true, decide_eq_true_eq] at hl
  refine opok_same hsat (v' := a.eval x) ?_ rx0
  have := Lib.run_from_unsafe (P := P) w ⟨k, 0, none⟩ hs ht hj (cells_shape hsat hid hg) (by rw [← hm2, Nat.div_self hl.1]; exact hl.2)
  simp [execOp, ho, he, this]
theorem s_chk {po : Pol} {call : CallF} {x : Operand} {y : Opnd} {r : Res} (hsat : Sat P base w im g objs) (henv : RepL w im g objs env a.tmps.toList) (ho : o.op = .nilCheck x) (hx : opndI x = some y) (h : stepI po call env objs (.chk y) = some r) : OpOK P base o a w im g objs r := by
  have rx := opnd_rep henv hx
  unfold stepI at h
  simp only at h
  split at h <;> first | (cases h; done) | skip
  all_goals
    rename_i hq
    injection h with h; subst h
    have rx0 := rx
    rw [hq] at rx0
    rw [hq] at rx
    unfold Rep at rx0
  · obtain ⟨k, _, he⟩ := rx0
    exact opok_same hsat (v' := a.eval x) (by simp [execOp, ho, he]) rx
  · obtain ⟨b, n, he, _⟩ := rx0
    exact opok_same hsat (v' := a.eval x) (by simp [execOp, ho, he]) rx
  · obtain ⟨k, he, _⟩ := rx0
    exact opok_same hsat (v' := a.eval x) (by simp [execOp, ho, he]) rx
  · obtain ⟨fv, cv, he, _⟩ := rx0
    exact opok_same hsat (v' := a.eval x) (by simp [execOp, ho, he]) rx
theorem s_yld {po : Pol} {call : CallF} (hcall : CallSound P base call) {x : Operand} {y : Opnd} {args : Array Operand} {tys : Array TypeId} {ys : List Opnd} {id : Nat} {r : Res} (hsat : Sat P base w im g objs) (henv : RepL w im g objs env a.tmps.toList) (ho : o.op = .call { callee := .value x, args := args, argTypes := tys }) (hx : opndI x = some y) (hy : opndsI args.toList = some ys)
    (hf : opnd env y = .yld id) (h : outRes (doCall po call .yld (.yld id :: ys.map (opnd env)) objs) = some r) : OpOK P base o a w im g objs r := by
  have rx := opnd_rep henv hx
  rw [hf] at rx
  have rx0 := rx
  unfold Rep at rx
  obtain ⟨l, hg, he⟩ := rx
  obtain ⟨out, objs', hd, rfl⟩ := outRes_ok h
  obtain ⟨l', rest, fn, tmps, assign, body, h1, h2, h3⟩ := doCall_sound hcall hd hsat (vargs := a.eval x :: args.toList.map a.eval) ⟨rx0, opnds_rep henv hy⟩
  injection h1 with h1 h4
  rw [he] at h1
  injection h1 with h1; injection h1 with h1
  subst h1 h4
  intro next Q n1 n2
  right
  refine ⟨l, fn, tmps, assign, body, ?_, h3.mono ?_⟩
  · have hmap : args.map a.eval = (args.toList.map a.eval).toArray := by apply Array.toList_inj.1; rw [Array.toList_map]
    simp only [execOp, ho, resolve, he, Deferred.ofValue, invoke, Sem.run_bind, Sem.run_pure, Result.andThen_ok]
    rw [hmap]
    simpa using h2
  · rintro e w' ⟨im', g', hl, hs, ho⟩
    cases out with
    | ret p =>
      obtain ⟨v, rfl, hr⟩ := ho
      exact n1 p objs' rfl v w' im' g' hl hs hr
    | panic p =>
      obtain ⟨v, rfl, hr⟩ := ho
      exact n2 p objs' rfl v w' im' g' hl hs hr

theorem RepE_len : ∀ {es : List (D × PV)} {ents : List MapEntry}, RepE w im g objs es ents → es.length = ents.length
  | [], [], _ => rfl
  | (k, p) :: r, e :: s, h => by rw [List.length_cons, List.length_cons, RepE_len h.2.2]
  | [], _ :: _, h => h.elim
  | _ :: _, [], h => h.elim
theorem s_len_map {args : Array Operand} {tys : Array TypeId} {t kt et : TypeId} {y : Opnd} {i : Nat} {es : List (D × PV)} (hsat : Sat P base w im g objs) (henv : RepL w im g objs env a.tmps.toList) (ho : o.op = .call { callee := .builtin .len, args := args, argTypes := tys }) (hy : opndsI args.toList = some [y])
    (ht : tys[0]? = some t) (hu : P.underlying t = some (.map kt et)) (hm : opnd env y = .map i) (hob : objs[i]? = some (.map es)) : OpOK P base o a w im g objs (.ok (.d (.int .i64 es.length)) objs) := by
  have hr := opnds_rep henv hy
  cases hl : args.toList with
  | nil => simp [hl, RepL] at hr
  | cons x r => cases r with
    | cons _ _ => simp [hl, RepL] at hr
    | nil =>
      rw [hl] at hr
      have hr1 : Rep w im g objs (opnd env y) (a.eval x) := hr.1
      have ha : args = #[x] := toArray_one hl
      subst ha
      rw [hm] at hr1
      unfold Rep at hr1
      obtain ⟨q, hg, he⟩ := hr1
      have hok := hsat.obj i _ _ hob hg
      unfold ObjOK at hok
      obtain ⟨q', ents, c, hq, hb, hh, hre⟩ := hok
      injection hq with hq; injection hq with hq; subst hq
      refine opok_same hsat (v' := .int .i64 es.length) ?_ rfl
      refine exec_builtin ho (s := Builtin.len_ tys o.type #[a.eval x]) (fun _ => by simp [builtin]) ?_
      have hlen := RepE_len hre
      simp only [Array.length_toList] at hlen
      simp [Builtin.len_, ht, run_underlying hu, he, run_getM hh, hlen, goInt]
theorem len_str {p : PV} {s : List UInt8} (hp : p = .d (.str s)) : ∀ v, Rep w im g objs p v → lenOK .string v s.length := by
  intro v h
  have := rep_str hp h
  subst this
  simp [lenOK, size_mk]
theorem len_row {p : PV} {els : List (List D)} {e : TypeId} (hp : p = .d (.row els) ∨ p = .full els ∨ ∃ b, p = .own els b) : ∀ v, Rep w im g objs p v → lenOK (.slice e) v els.length := by
  intro v h
  have hr : RepD w im (.row els) v := by
    rcases hp with rfl | rfl | ⟨b, rfl⟩
    · exact h
    · unfold Rep at h; exact h.1
    · unfold Rep at h; exact h.1
  obtain ⟨A, c, rfl, _⟩ := row_slice hr
  rfl
theorem len_sl {p : PV} {id ver sz lo n : Nat} {e : TypeId} (hp : p = .sl id ver sz lo n) : ∀ v, Rep w im g objs p v → lenOK (.slice e) v n := by
  intro v h
  subst hp
  unfold Rep at h
  obtain ⟨k, c, rfl, _⟩ := h
  rfl
theorem step_sound0 {po : Pol} {call : CallF} (hcall : CallSound P base call) {io : IOp} {r : Res} (hop : compOp0 P o = some io) (hs : stepI po call env objs io = some r) (hsat : Sat P base w im g objs) (henv : RepL w im g objs env a.tmps.toList) : OpOK P base o a w im g objs r := by
  unfold compOp0 at hop
  split at hop
  · -- move
    rename_i x ho
    obtain ⟨y, hy, rfl⟩ := Option.map_eq_some_iff.1 hop
    unfold stepI at hs; injection hs with hs; subst hs
    exact s_mov hsat henv (.inl ho) hy
  · rename_i x ho
    obtain ⟨y, hy, rfl⟩ := Option.map_eq_some_iff.1 hop
    unfold stepI at hs; injection hs with hs; subst hs
    exact s_mov hsat henv (.inr ho) hy
  · -- pick
    rename_i c x y ho
    split at hop <;> first | (cases hop; done) | skip
    injection hop with hop; subst hop
    unfold stepI at hs
    simp only at hs
    split at hs <;> first | (cases hs; done) | skip
    injection hs with hs; subst hs
    exact s_pick hsat henv ho (by assumption) (by assumption) (by assumption) (by assumption)
  · -- alloc
    rename_i e ho
    obtain ⟨zs, hz, rfl⟩ := Option.map_eq_some_iff.1 hop
    unfold stepI at hs; injection hs with hs; subst hs
    exact s_alloc hsat ho hz
  · -- box
    rename_i e x ho
    obtain ⟨y, hy, rfl⟩ := Option.map_eq_some_iff.1 hop
    unfold stepI at hs
    simp only at hs
    split at hs <;> first | (cases hs; done) | skip
    injection hs with hs; subst hs
    exact s_box hsat henv ho hy (by assumption)
  · -- nilCheck
    rename_i x ho
    obtain ⟨y, hy, rfl⟩ := Option.map_eq_some_iff.1 hop
    exact s_chk hsat henv ho hy hs
  · -- build
    rename_i t parts ho
    split at hop
    · rename_i fields hu
      split at hop <;> first | (cases hop; done) | skip
      injection hop with hop; subst hop
      unfold stepI at hs
      simp only at hs
      split at hs <;> first | (cases hs; done) | skip
      injection hs with hs; subst hs
      exact s_build_struct hsat henv ho hu (by assumption) (by assumption) (by assumption) (by assumption)
    · rename_i n e hu
      split at hop <;> first | (cases hop; done) | skip
      injection hop with hop; subst hop
      unfold stepI at hs
      simp only at hs
      split at hs <;> first | (cases hs; done) | skip
      injection hs with hs; subst hs
      exact s_build_array hsat henv ho hu (by assumption) (by assumption) (by assumption) (by assumption)
    · cases hop
  · -- buildSlice
    rename_i t len parts ho
    split at hop <;> first | (cases hop; done) | skip
    rename_i e hu
    split at hop <;> first | (cases hop; done) | skip
    rename_i zs s hz hsz
    split at hop <;> first | (cases hop; done) | skip
    rename_i zd ps hd hp
    split at hop <;> first | (cases hop; done) | skip
    rename_i hc
    injection hop with hop; subst hop
    unfold stepI at hs
    simp only at hs
    split at hs <;> first | (cases hs; done) | skip
    injection hs with hs; subst hs
    rename_i hfd
    exact s_lit hsat henv ho hu hz hsz hd hp hc.1 hc.2.1 hc.2.2 (os := if zd.any D.isRow = true then objs else []) (by split <;> simp) hfd
  · -- load
    rename_i t x ho
    split at hop <;> first | (cases hop; done) | skip
    rename_i sz y hz hy
    injection hop with hop; subst hop
    unfold stepI at hs
    simp only at hs
    split at hs
    · rename_i id off hx
      split at hs <;> first | (cases hs; done) | skip
      rename_i cs hid
      have hid' := getD_some hid (by simp)
      split at hs
      · split at hs <;> first | (cases hs; done) | skip
        injection hs with hs; subst hs
        exact s_load_box hsat henv ho hy hz hx hid' (.inl ⟨rfl, by assumption⟩)
      · split at hs <;> first | (cases hs; done) | skip
        injection hs with hs; subst hs
        exact s_load_box hsat henv ho hy hz hx hid' (.inr ⟨_, rfl, by assumption, rfl⟩)
    · rename_i cs off hx
      split at hs
      · split at hs <;> first | (cases hs; done) | skip
        injection hs with hs; subst hs
        exact s_load_elem hsat henv ho hy hz hx (.inl ⟨rfl, _, by assumption, rfl⟩)
      · split at hs <;> first | (cases hs; done) | skip
        injection hs with hs; subst hs
        exact s_load_elem hsat henv ho hy hz hx (.inr ⟨_, rfl, by assumption, rfl⟩)
    · rename_i id ver ez j off hx
      split at hs <;> first | (cases hs; done) | skip
      rename_i el hel
      split at hs <;> first | (cases hs; done) | skip
      rename_i hez
      split at hs <;> first | (cases hs; done) | skip
      injection hs with hs; subst hs
      exact s_load_ebox hsat henv ho hy hz hx hel hez (by assumption)
    · cases hs
  · -- store
    rename_i t x y ho
    split at hop <;> first | (cases hop; done) | skip
    rename_i sz x' y' hz hx hy
    injection hop with hop; subst hop
    unfold stepI at hs
    simp only at hs
    split at hs <;> first | (cases hs; done) | skip
    · rename_i id off hb
      split at hs <;> first | (cases hs; done) | skip
      rename_i cs hid
      have hid' := getD_some hid (by simp)
      split at hs <;> first | (cases hs; done) | skip
      rename_i hc
      injection hs with hs; subst hs
      simp only [Bool.and_eq_true, decide_eq_true_eq] at hc
      exact s_store hsat henv ho hz hx hy hb hid' hc.1.1 hc.1.2 hc.2
    · rename_i id ver ez j off hb
      split at hs <;> first | (cases hs; done) | skip
      rename_i e els hid
      have hid' := getD_some hid (by simp)
      split at hs <;> first | (cases hs; done) | skip
      rename_i el vs hel hvs
      split at hs <;> first | (cases hs; done) | skip
      rename_i hc
      injection hs with hs; subst hs
      exact s_store_ebox hsat henv ho hz hx hy hb hid' hel hvs hc.1 hc.2.1 hc.2.2.1 hc.2.2.2
  · -- binOp
    rename_i op t x y t2 ho
    split at hop <;> first | (cases hop; done) | skip
    rename_i x' y' hx hy
    have bin : ∀ {op}, o.op = .binOp op t x y t2 → stepI po call env objs (.bin op x' y') = some r → OpOK P base o a w im g objs r := by
      intro op ho hs
      unfold stepI at hs
      simp only at hs
      split at hs <;> first | (cases hs; done) | skip
      injection hs with hs; subst hs
      exact s_bin hsat henv ho hx hy (by assumption)
    have eqq : ∀ (neg : Bool), o.op = .binOp (if neg then .neq else .eql) t x y t2 → stepI po call env objs (.eq neg (eqTC P t x y) x' y') = some r → OpOK P base o a w im g objs r := by
      intro neg ho hs
      unfold stepI at hs
      simp only at hs
      split at hs <;> first | (cases hs; done) | skip
      injection hs with hs; subst hs
      exact s_eq hsat henv ho hx hy (by assumption)
    split at hop
    · split at hop <;> (injection hop with hop; subst hop)
      · exact bin ho hs
      · exact bin ho hs
      · exact eqq false ho hs
    · split at hop <;> (injection hop with hop; subst hop)
      · exact bin ho hs
      · exact bin ho hs
      · exact eqq true ho hs
    · injection hop with hop; subst hop
      exact bin ho hs
  · -- unOp
    rename_i op t x ho
    obtain ⟨y, hy, rfl⟩ := Option.map_eq_some_iff.1 hop
    unfold stepI at hs
    simp only at hs
    split at hs <;> first | (cases hs; done) | skip
    injection hs with hs; subst hs
    exact s_un hsat henv ho hy (by assumption)
  · -- convert
    rename_i s t x ho
    split at hop <;> first | (cases hop; done) | skip
    · rename_i k0 k y hs0 ht hy
      injection hop with hop; subst hop
      unfold stepI at hs
      simp only at hs
      split at hs <;> first | (cases hs; done) | skip
      injection hs with hs; subst hs
      exact s_convI hsat henv ho hy hs0 ht (by assumption)
    · rename_i y hs0 ht hy
      injection hop with hop; subst hop
      unfold stepI at hs
      simp only at hs
      split at hs <;> first | (cases hs; done) | skip
      injection hs with hs; subst hs
      exact s_convS hsat henv ho hy hs0 ht (by assumption)
    · rename_i te y hs0 ht hy
      split at hop <;> first | (cases hop; done) | skip
      rename_i j hj
      split at hop <;> first | (cases hop; done) | skip
      rename_i hj0
      injection hop with hop; subst hop
      exact s_cvp hsat henv ho hy hs0 ht hj hj0 hs
    · rename_i u y hs0 ht hy
      split at hop <;> first | (cases hop; done) | skip
      rename_i j hj
      injection hop with hop; subst hop
      exact s_cvu hsat henv ho hy hs0 ht hj hs
    · rename_i e y hs0 ht hy
      split at hop <;> first | (cases hop; done) | skip
      rename_i he
      injection hop with hop; subst hop
      unfold stepI at hs
      simp only at hs
      split at hs <;> first | (cases hs; done) | skip
      rename_i els hx
      split at hs <;> first | (cases hs; done) | skip
      injection hs with hs; subst hs
      exact s_convBS hsat henv ho hy hs0 ht he hx (by assumption)
    · rename_i e y hs0 ht hy
      split at hop <;> first | (cases hop; done) | skip
      rename_i he
      injection hop with hop; subst hop
      unfold stepI at hs
      simp only at hs
      split at hs <;> first | (cases hs; done) | skip
      injection hs with hs; subst hs
      exact s_convSB hsat henv ho hy hs0 ht he (by assumption)
  · -- makeInterface
    rename_i t x ho
    split at hop <;> first | (cases hop; done) | skip
    rename_i d y hn hu hy
    injection hop with hop; subst hop
    unfold stepI at hs
    simp only at hs
    injection hs with hs; subst hs
    exact s_mki hsat henv ho hy hu (fun ms h => hn ms h)
  · -- makeFunc
    rename_i f xs ys ho
    split at hop <;> first | (cases hop; done) | skip
    injection hop with hop; subst hop
    unfold stepI at hs
    simp only at hs
    injection hs with hs; subst hs
    exact s_mkf hsat henv ho (by assumption) (by assumption)
  · -- makeMap
    rename_i t ho
    injection hop with hop; subst hop
    unfold stepI at hs
    simp only at hs
    injection hs with hs; subst hs
    exact s_mkm hsat ho
  · -- makeSlice
    rename_i t x y ho
    split at hop <;> first | (cases hop; done) | skip
    split at hop <;> first | (cases hop; done) | skip
    split at hop <;> first | (cases hop; done) | skip
    split at hop <;> first | (cases hop; done) | skip
    rename_i hc
    injection hop with hop; subst hop
    unfold stepI at hs
    simp only at hs
    split at hs <;> first | (cases hs; done) | skip
    split at hs <;> first | (cases hs; done) | skip
    rename_i hc2
    injection hs with hs; subst hs
    obtain ⟨c1, rfl, c3, c4⟩ := hc2
    exact s_mks hsat henv ho (by assumption) (by assumption) (by assumption) (by assumption) (by assumption) (by assumption) (by assumption) hc.1 hc.2.1 hc.2.2.1 hc.2.2.2 (by assumption) (by assumption) c1 c3
  · -- slice
    rename_i t x lo hi ho
    split at hop <;> first | (cases hop; done) | skip
    rename_i y lo' hi' hy h1 h2
    split at hop <;> first | (cases hop; done) | skip
    · rename_i hu
      injection hop with hop; subst hop
      unfold stepI at hs
      simp only at hs
      split at hs <;> first | (cases hs; done) | skip
      split at hs <;> first | (cases hs; done) | skip
      injection hs with hs; subst hs
      exact s_sslc hsat henv ho hy h1 h2 hu (by assumption) (by assumption)
    · rename_i e hu
      obtain ⟨s, hz, rfl⟩ := Option.map_eq_some_iff.1 hop
      unfold stepI at hs
      simp only at hs
      split at hs
      · rename_i hx
        split at hs <;> first | (cases hs; done) | skip
        split at hs <;> first | (cases hs; done) | skip
        rename_i hez
        subst hez
        injection hs with hs; subst hs
        exact s_slc_sl hsat henv ho hy h1 h2 hu hz hx (by assumption)
      split at hs <;> first | (cases hs; done) | skip
      split at hs <;> first | (cases hs; done) | skip
      split at hs <;> first | (cases hs; done) | skip
      injection hs with hs; subst hs
      exact s_slc hsat henv ho hy h1 h2 hu hz (by assumption) (by assumption) (by assumption)
  · -- fieldAddr
    rename_i s x f ho
    split at hop <;> first | (cases hop; done) | skip
    rename_i fields hu
    split at hop <;> first | (cases hop; done) | skip
    rename_i fd y hf hy
    split at hop <;> first | (cases hop; done) | skip
    rename_i n hz
    injection hop with hop; subst hop
    have key := s_faddr (P := P) (base := base) hsat henv ho hy hu hf hz rfl
    unfold stepI at hs
    simp only at hs
    split at hs <;> first | (cases hs; done) | skip
    · injection hs with hs; subst hs
      exact key.1 _ _ (by assumption)
    · injection hs with hs; subst hs
      exact key.2 _ _ (by assumption)
    · injection hs with hs; subst hs
      exact s_faddr_ebox hsat henv ho hy hu hf hz rfl (by assumption)
  · -- field
    rename_i s x f ho
    split at hop <;> first | (cases hop; done) | skip
    rename_i fields hu
    split at hop <;> first | (cases hop; done) | skip
    rename_i fd y hf hy
    obtain ⟨sz, hz, rfl⟩ := Option.map_eq_some_iff.1 hop
    unfold stepI at hs
    simp only at hs
    split at hs <;> first | (cases hs; done) | skip
    split at hs
    · split at hs <;> first | (cases hs; done) | skip
      injection hs with hs; subst hs
      exact s_fld hsat henv ho hy hu hf hz (by assumption) (.inl ⟨rfl, by assumption⟩)
    · split at hs <;> first | (cases hs; done) | skip
      injection hs with hs; subst hs
      exact s_fld hsat henv ho hy hu hf hz (by assumption) (.inr ⟨_, rfl, by assumption, rfl⟩)
  · -- indexAddr
    rename_i t x i ho
    split at hop <;> first | (cases hop; done) | skip
    · rename_i e y i' hu hy hi
      obtain ⟨s, hz, rfl⟩ := Option.map_eq_some_iff.1 hop
      unfold stepI at hs
      simp only at hs
      split at hs <;> first | (cases hs; done) | skip
      · rename_i hx hj
        split at hs <;> first | (cases hs; done) | skip
        rename_i hc
        obtain ⟨c1, c2, rfl⟩ := hc
        injection hs with hs; subst hs
        exact s_iaddr_sl hsat henv ho hy hi hu hz hx hj c1 c2
      split at hs <;> first | (cases hs; done) | skip
      split at hs <;> first | (cases hs; done) | skip
      split at hs <;> first | (cases hs; done) | skip
      split at hs <;> first | (cases hs; done) | skip
      injection hs with hs; subst hs
      exact s_iaddr hsat henv ho hy hi hu hz (by assumption) (by assumption) (by assumption) (by assumption) (by assumption)
    · rename_i len e y i' hu hy hi
      obtain ⟨s, hz, rfl⟩ := Option.map_eq_some_iff.1 hop
      exact s_aaddr hsat henv ho hy hi hu hz hs
  · -- index
    rename_i t x i ho
    split at hop <;> first | (cases hop; done) | skip
    · rename_i y i' hu hy hi
      injection hop with hop; subst hop
      unfold stepI at hs
      simp only at hs
      split at hs <;> first | (cases hs; done) | skip
      split at hs <;> first | (cases hs; done) | skip
      split at hs <;> first | (cases hs; done) | skip
      injection hs with hs; subst hs
      exact s_sidx hsat henv ho hy hi hu (by assumption) (by assumption) (by assumption) (by assumption)
    · rename_i len e y i' hu hy hi
      split at hop <;> first | (cases hop; done) | skip
      rename_i ag s hag hz
      injection hop with hop; subst hop
      unfold stepI at hs
      simp only at hs
      split at hs <;> first | (cases hs; done) | skip
      split at hs <;> first | (cases hs; done) | skip
      rename_i hb
      split at hs
      · split at hs <;> first | (cases hs; done) | skip
        injection hs with hs; subst hs
        exact s_aidx hsat henv ho hy hi hu hag hz (by assumption) (by assumption) hb.1 hb.2 (.inr ⟨by assumption, rfl⟩)
      · rename_i hag2
        split at hs <;> first | (cases hs; done) | skip
        injection hs with hs; subst hs
        exact s_aidx hsat henv ho hy hi hu hag hz (by assumption) (by assumption) hb.1 hb.2 (.inl ⟨by simpa using hag2, by assumption⟩)
  · -- lookup
    rename_i t m k ok ho
    split at hop <;> first | (cases hop; done) | skip
    rename_i kt et hu
    split at hop <;> first | (cases hop; done) | skip
    rename_i kk d m' k' hk hz hm hkk
    injection hop with hop; subst hop
    unfold stepI at hs
    simp only at hs
    split at hs <;> first | (cases hs; done) | skip
    rename_i kd hkd
    split at hs <;> first | (cases hs; done) | skip
    rename_i es hes
    split at hs <;> first | (cases hs; done) | skip
    rename_i hok
    have hmm : (opnd env m' = .nilm ∧ es = []) ∨ ∃ i, opnd env m' = .map i ∧ objs[i]? = some (.map es) := by
      unfold mapOf at hes
      split at hes <;> first | (cases hes; done) | skip
      · split at hes <;> first | (cases hes; done) | skip
        rename_i i hq _ _ hob
        injection hes with hes; subst hes
        exact .inr ⟨i, hq, getD_some hob (by simp)⟩
      · injection hes with hes; subst hes
        exact .inl ⟨by assumption, rfl⟩
    split at hs <;> first | (cases hs; done) | skip
    · injection hs with hs; subst hs
      exact s_look hsat henv ho hu hk hz hm hkk hkd hok hmm (by assumption)
    · injection hs with hs; subst hs
      exact s_look hsat henv ho hu hk hz hm hkk hkd hok hmm (by assumption)
  · -- mapUpdate
    rename_i t m k v ho
    split at hop <;> first | (cases hop; done) | skip
    split at hop <;> first | (cases hop; done) | skip
    injection hop with hop; subst hop
    unfold stepI at hs
    simp only at hs
    split at hs <;> first | (cases hs; done) | skip
    split at hs <;> first | (cases hs; done) | skip
    rename_i hob
    split at hs <;> first | (cases hs; done) | skip
    split at hs <;> first | (cases hs; done) | skip
    injection hs with hs; subst hs
    exact s_upd hsat henv (.inl ho) (by assumption) (by assumption) (by assumption) (by assumption) (by assumption) (by assumption) (by assumption) (by assumption) (getD_some hob (by simp)) (by assumption)
  · -- insert
    rename_i t m k v ho
    split at hop <;> first | (cases hop; done) | skip
    split at hop <;> first | (cases hop; done) | skip
    injection hop with hop; subst hop
    unfold stepI at hs
    simp only at hs
    split at hs <;> first | (cases hs; done) | skip
    split at hs <;> first | (cases hs; done) | skip
    rename_i hob
    split at hs <;> first | (cases hs; done) | skip
    split at hs <;> first | (cases hs; done) | skip
    injection hs with hs; subst hs
    exact s_upd hsat henv (.inr ho) (by assumption) (by assumption) (by assumption) (by assumption) (by assumption) (by assumption) (by assumption) (by assumption) (getD_some hob (by simp)) (by assumption)
  · -- extract
    rename_i x i ho
    obtain ⟨y, hy, rfl⟩ := Option.map_eq_some_iff.1 hop
    unfold stepI at hs
    simp only at hs
    split at hs <;> first | (cases hs; done) | skip
    split at hs <;> first | (cases hs; done) | skip
    injection hs with hs; subst hs
    exact s_ext hsat henv ho hy (by assumption) (by assumption)
  · -- typeAssert
    rename_i x xt t ok ho
    split at hop <;> first | (cases hop; done) | skip
    rename_i d dflt y hn hu hz hy
    injection hop with hop; subst hop
    exact s_tas hsat henv ho hy hu (fun ms h => hn ms h) hz hs
  · -- panic
    rename_i x ho
    obtain ⟨y, hy, rfl⟩ := Option.map_eq_some_iff.1 hop
    unfold stepI at hs
    simp only at hs
    split at hs <;> first | (cases hs; done) | skip
    injection hs with hs; subst hs
    exact s_pan hsat henv ho hy (by assumption)
  · -- call
    rename_i c ho
    obtain ⟨cal, args, tys⟩ := c
    simp only at hop ho
    split at hop
    · rename_i f
      split at hop <;> first | (cases hop; done) | skip
      split at hop
      · obtain ⟨ys, hy, rfl⟩ := Option.map_eq_some_iff.1 hop
        unfold stepI at hs
        exact s_callx hcall hsat henv ho hy hs
      · obtain ⟨ys, hy, rfl⟩ := Option.map_eq_some_iff.1 hop
        unfold stepI at hs
        exact s_call hcall hsat henv ho hy hs
    · rename_i x hx
      split at hop <;> first | (cases hop; done) | skip
      injection hop with hop; subst hop
      unfold stepI at hs
      simp only at hs
      split at hs <;> first | (cases hs; done) | skip
      · exact s_callv hcall hsat henv ho (by assumption) (by assumption) (by assumption) hs
      · exact s_yld hcall hsat henv ho (by assumption) (by assumption) (by assumption) hs
    · -- len
      split at hop <;> first | (cases hop; done) | skip
      rename_i t ht
      split at hop <;> first | (cases hop; done) | skip
      all_goals
        rename_i hu hy
        injection hop with hop; subst hop
        unfold stepI at hs
        simp only at hs
      · split at hs <;> first | (cases hs; done) | (exfalso; simp_all; done) | skip
        injection hs with hs; subst hs
        exact s_len hsat henv ho hy ht hu (len_str (by assumption))
      · split at hs <;> first | (cases hs; done) | (exfalso; simp_all; done) | skip
        · rename_i hq
          injection hs with hs; subst hs
          exact s_len hsat henv ho hy ht hu (len_row (.inl hq))
        · rename_i hq
          injection hs with hs; subst hs
          exact s_len hsat henv ho hy ht hu (len_row (.inr (.inl hq)))
        · rename_i hq
          injection hs with hs; subst hs
          exact s_len hsat henv ho hy ht hu (len_row (.inr (.inr ⟨_, hq⟩)))
        · rename_i hq
          injection hs with hs; subst hs
          exact s_len hsat henv ho hy ht hu (len_sl hq)
      · split at hs <;> first | (cases hs; done) | (exfalso; simp_all; done) | skip
        · rename_i hq
          split at hs <;> first | (cases hs; done) | skip
          rename_i hob
          injection hs with hs; subst hs
          exact s_len_map hsat henv ho hy ht hu hq (getD_some hob (by simp))
        · rename_i hq
          injection hs with hs; subst hs
          refine s_len (n := 0) hsat henv ho hy ht hu (fun v hv => ?_)
          rw [hq] at hv
          unfold Rep at hv
          subst hv
          rfl
    · -- append
      split at hop <;> first | (cases hop; done) | skip
      rename_i t u s x h1 h2
      split at hop
      · rename_i htu
        subst htu
        split at hop <;> first | (cases hop; done) | skip
        split at hop <;> first | (cases hop; done) | skip
        split at hop <;> first | (cases hop; done) | skip
        split at hop <;> first | (cases hop; done) | skip
        rename_i hc
        injection hop with hop; subst hop
        unfold stepI at hs
        simp only at hs
        split at hs <;> first | (cases hs; done) | skip
        have htys : tys = #[t, t] := by apply Array.toList_inj.1; simpa using h1
        subst htys
        exact s_app hsat henv ho h2 (by assumption) (by assumption) (by assumption) hc.1 hc.2.1 hc.2.2 (by assumption) hs
      · split at hop <;> first | (cases hop; done) | skip
        split at hop <;> first | (cases hop; done) | skip
        split at hop <;> first | (cases hop; done) | skip
        split at hop <;> first | (cases hop; done) | skip
        rename_i hc
        injection hop with hop; subst hop
        unfold stepI at hs
        simp only at hs
        split at hs <;> first | (cases hs; done) | skip
        have htys : tys = #[t, u] := by apply Array.toList_inj.1; simpa using h1
        subst htys
        exact s_apps hsat henv ho h2 (by assumption) (by assumption) (by assumption) (by assumption) hc.1 hc.2.1 hc.2.2 (by assumption) hs
    · -- max
      obtain ⟨ys, hy, rfl⟩ := Option.map_eq_some_iff.1 hop
      unfold stepI at hs
      simp only at hs
      split at hs <;> first | (cases hs; done) | skip
      split at hs <;> first | (cases hs; done) | skip
      injection hs with hs; subst hs
      exact s_max hsat henv ho hy (by assumption) (by assumption)
    · obtain ⟨ys, hy, rfl⟩ := Option.map_eq_some_iff.1 hop
      unfold stepI at hs
      simp only at hs
      split at hs <;> first | (cases hs; done) | skip
      split at hs <;> first | (cases hs; done) | skip
      injection hs with hs; subst hs
      exact s_min hsat henv ho hy (by assumption) (by assumption)
    · split at hop <;> first | (cases hop; done) | skip
      injection hop with hop; subst hop
      unfold stepI at hs
      simp only at hs
      split at hs <;> first | (cases hs; done) | skip
      injection hs with hs; subst hs
      exact s_panb hsat henv ho (by assumption) (by assumption)
    · cases hop
  · cases hop
theorem compOp_cases {io : IOp} (hop : compOp P o = some io) : compOp0 P o = some io ∨ io = .nope := by
  unfold compOp at hop
  split at hop
  · rename_i h
    injection hop with hop; subst hop
    exact .inl h
  · injection hop with hop; exact .inr hop.symm
theorem step_sound {po : Pol} {call : CallF} (hcall : CallSound P base call) {io : IOp} {r : Res} (hop : compOp P o = some io) (hs : stepI po call env objs io = some r) (hsat : Sat P base w im g objs) (henv : RepL w im g objs env a.tmps.toList) : OpOK P base o a w im g objs r := by
  rcases compOp_cases hop with h | rfl
  · exact step_sound0 hcall h hs hsat henv
  · cases hs
end
end Pi
end Go.Proofs.YthdgpejippohnaaGreatDoor
