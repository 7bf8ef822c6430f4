/-
  One operation of the evaluator is what the machine's operation does: maps, max, min, panic, bytes. No condition.
-/
import Derived.Test.YthdgpejippohnaaGreatDoorPiJ
namespace Go.Proofs.YthdgpejippohnaaGreatDoor
namespace Pi
set_option linter.unusedVariables false
section
variable {P : Program} {base : Nat} {w w' : World} {im im' : Im} {g g' : List Value} {objs objs' : Objs} {env : Env} {a : Act} {o : Oper}

theorem keyT_cases {t : TypeId} {kk : KeyK} (h : keyT P t = some kk) : ∃ d, P.underlying t = some d ∧ ((kk = .str ∧ d = .string) ∨ (kk = .bool ∧ d = .bool) ∨ (kk = .int ∧ ∃ k, d = .int k)) := by
  unfold keyT at h
  split at h <;> first | (cases h; done) | (injection h with h; subst h)
  · exact ⟨_, by assumption, .inl ⟨rfl, rfl⟩⟩
  · exact ⟨_, by assumption, .inr (.inl ⟨rfl, rfl⟩)⟩
  · exact ⟨_, by assumption, .inr (.inr ⟨rfl, _, rfl⟩)⟩
theorem mk_beq (s t : List UInt8) : ((⟨s.toArray⟩ : ByteArray) == ⟨t.toArray⟩) = (s == t) := by
  change (s.toArray == t.toArray) = (s == t)
  simp
theorem run_getM {q : Nat} {ents : Array MapEntry} {c : Nat} (hh : w.heap[q]? = some (.map ents c)) : (getObj q).run P w = .ok (.map ents c) w := by simp [getObj, Sem.run, hh]
theorem run_setM {q : Nat} {ents : Array MapEntry} {c : Nat} (ob : Obj) (hh : w.heap[q]? = some (.map ents c)) : (setObj q ob).run P w = .ok () { w with heap := w.heap.setIfInBounds q ob } := by simp [setObj, Sem.run, hh]
theorem sameNow_eq {kk : KeyK} {d : TypeDesc} (hd : (kk = .str ∧ d = .string) ∨ (kk = .bool ∧ d = .bool) ∨ (kk = .int ∧ ∃ k, d = .int k)) {x y : D} {u v : Value} (hx : RepD w im x u) (hy : RepD w im y v) (hk : kk.ok x = true) {b : Bool} (he : eqD x y = some b) : Instr.sameNow d u v = some b := by
  rcases hd with ⟨rfl, rfl⟩ | ⟨rfl, rfl⟩ | ⟨rfl, k, rfl⟩
  · cases x <;> simp [KeyK.ok] at hk
    cases y <;> simp [eqD] at he
    unfold RepD at hx hy
    subst hx hy he
    simp [Instr.sameNow, mk_beq]
  · cases x <;> simp [KeyK.ok] at hk
    cases y <;> simp [eqD] at he
    unfold RepD at hx hy
    subst hx hy he
    simp [Instr.sameNow]
  · cases x <;> simp [KeyK.ok] at hk
    cases y <;> simp [eqD] at he
    unfold RepD at hx hy
    obtain ⟨h1, h2⟩ := he
    subst hx hy h1 h2
    simp [Instr.sameNow]
theorem findNow_eq {kk : KeyK} {d : TypeDesc} (hd : (kk = .str ∧ d = .string) ∨ (kk = .bool ∧ d = .bool) ∨ (kk = .int ∧ ∃ k, d = .int k)) {x : D} {u : Value} (hx : RepD w im x u) (hk : kk.ok x = true) : ∀ {es : List (D × PV)} {ents : List MapEntry} (n : Nat) {r : Option PV}, RepE w im g objs es ents → findE x es = some r →
    (r = none ∧ Instr.findNow d u ents n = some none ∧ ∀ p, setE x p es = es ++ [(x, p)]) ∨ ∃ p i v e, r = some p ∧ Instr.findNow d u ents n = some (some (n + i, v)) ∧ Rep w im g objs p v ∧ ents[i]? = some e ∧ RepD w im x e.key ∧ (∀ q, ∃ y, es[i]? = some (y, p) ∧ eqD x y = some true ∧ setE x q es = es.set i (x, q))
  | [], [], n, r, _, h => by unfold findE at h; injection h with h; subst h; exact .inl ⟨rfl, rfl, fun _ => rfl⟩
  | (y, p) :: s, e :: t, n, r, hr, h => by
    unfold RepE at hr
    obtain ⟨h1, h2, h3⟩ := hr
    unfold findE at h
    cases hq : eqD x y with
    | none => simp [hq] at h
    | some b =>
      have hs := sameNow_eq hd hx h1 hk hq
      cases b with
      | true =>
        simp [hq] at h
        subst h
        right
        refine ⟨p, 0, e.val, e, rfl, ?_, h2, rfl, ?_, fun q => ⟨y, rfl, hq, ?_⟩⟩
        · simp [Instr.findNow, hs]
        · cases x <;> cases y <;> simp [eqD] at hq
          · obtain ⟨ha, hb⟩ := hq; subst ha hb; exact h1
          · subst hq; exact h1
          · subst hq; exact h1
        · simp [setE, hq]
      | false =>
        simp [hq] at h
        rcases findNow_eq hd hx hk (n + 1) h3 h with ⟨e1, e2, e3⟩ | ⟨p', i, v, e', e1, e2, e3, e4, e5, e6⟩
        · refine .inl ⟨e1, by simp [Instr.findNow, hs, e2], fun q => by simp [setE, hq, e3]⟩
        · refine .inr ⟨p', i + 1, v, e', e1, ?_, e3, by simpa using e4, e5, fun q => ?_⟩
          · simp only [Instr.findNow, hs, e2]
            rw [show n + 1 + i = n + (i + 1) from by omega]
          · obtain ⟨y', f1, f2, f3⟩ := e6 q
            exact ⟨y', by simpa using f1, f2, by simp [setE, hq, f3]⟩
  | [], _ :: _, _, _, hr, _ => hr.elim
  | _ :: _, [], _, _, hr, _ => hr.elim
theorem run_checkKey {kk : KeyK} {t : TypeId} {d : TypeDesc} (ht : P.underlying t = some d) (hd : (kk = .str ∧ d = .string) ∨ (kk = .bool ∧ d = .bool) ∨ (kk = .int ∧ ∃ k, d = .int k)) (e : Bool) (v : Value) (w : World) : (Instr.checkKey e 10000 t v).run P w = .ok () w := by
  have : Instr.checkKey e 10000 t v = Instr.checkKey e (9999 + 1) t v := rfl
  rw [this]
  unfold Instr.checkKey
  rw [Sem.run_bind, run_underlying ht, Result.andThen_ok]
  rcases hd with ⟨_, rfl⟩ | ⟨_, rfl⟩ | ⟨_, k, rfl⟩ <;> rfl
theorem run_findKey {t : TypeId} {d : TypeDesc} (ht : P.underlying t = some d) {u : Value} {ents : List MapEntry} {r : Option (Nat × Value)} (h : Instr.findNow d u ents 0 = some r) (w : World) : (Instr.findKey t u ents).run P w = .ok r w := by
  simp [Instr.findKey, run_underlying ht, h]
theorem zeroV_rep {t : TypeId} {p : PV} (h : zeroV P t = some p) : ∃ z, (∀ w, (zeroValue t).run P w = .ok z w) ∧ Rep w im g objs p z := by
  unfold zeroV at h
  split at h
  · rename_i i hi
    split at h
    · rename_i z hz
      exact ⟨z, fun w => run_zero hi hz w, constI_rep h⟩
    · cases h
  · cases h
theorem s_look {t kt et : TypeId} {m k : Operand} {m' k' : Opnd} {ok : Bool} {kk : KeyK} {dflt : PV} {kd : D} {es : List (D × PV)} {r : Option PV} (hsat : Sat P base w im g objs) (henv : RepL w im g objs env a.tmps.toList) (ho : o.op = .lookup t m k ok) (hu : P.underlying t = some (.map kt et)) (hk : keyT P kt = some kk) (hz : zeroV P et = some dflt)
    (h1 : opndI m = some m') (h2 : opndI k = some k') (hkd : opnd env k' = .d kd) (hkk : kk.ok kd = true) (hm : (opnd env m' = .nilm ∧ es = []) ∨ ∃ i, opnd env m' = .map i ∧ objs[i]? = some (.map es)) (hf : findE kd es = some r) :
    OpOK P base o a w im g objs (.ok (match r with | some v => if ok then .tup [v, .d (.bool true)] else v | none => if ok then .tup [dflt, .d (.bool false)] else dflt) objs) := by
  have rk := opnd_rep henv h2
  rw [hkd] at rk
  have rk : RepD w im kd (a.eval k) := rk
  obtain ⟨d, hud, hd⟩ := keyT_cases hk
  obtain ⟨z, hz1, hz2⟩ := zeroV_rep (w := w) (im := im) (g := g) (objs := objs) hz
  have rm := opnd_rep henv h1
  obtain ⟨ents, hre, fin⟩ : ∃ ents : Array MapEntry, RepE w im g objs es ents.toList ∧ ∀ (x : Option (Nat × Value)) (v : Value) (b : Bool), Instr.findNow d (a.eval k) ents.toList 0 = some x → (x = none → v = z ∧ b = false) → (∀ i u, x = some (i, u) → v = u ∧ b = true) → (execOp a.eval o).run P w = .ok (.value (if ok then .tuple #[v, .bool b] else v)) w := by
    rcases hm with ⟨hm, rfl⟩ | ⟨i, hm, hob⟩
    · rw [hm] at rm
      unfold Rep at rm
      refine ⟨#[], trivial, fun x v b hx h0 h1 => ?_⟩
      cases x with
      | none =>
        obtain ⟨rfl, rfl⟩ := h0 rfl
        have hf := run_findKey (P := P) hud (ents := []) hx w
        simp [execOp, ho, Instr.lookup, run_underlying hu, rm, run_checkKey hud hd, hf, hz1]
      | some y => simp [Instr.findNow] at hx
    · rw [hm] at rm
      unfold Rep at rm
      obtain ⟨q, hg, he⟩ := rm
      have hok := hsat.obj i _ _ hob hg
      unfold ObjOK at hok
      obtain ⟨q', ents, c, hq, hb, hh, hr⟩ := hok
      injection hq with hq; injection hq with hq; subst hq
      refine ⟨ents, hr, fun x v b hx h0 h1 => ?_⟩
      have hf := run_findKey (P := P) hud hx w
      cases x with
      | none =>
        obtain ⟨rfl, rfl⟩ := h0 rfl
        simp [execOp, ho, Instr.lookup, run_underlying hu, he, run_getM hh, run_checkKey hud hd, hf, hz1]
      | some y =>
        obtain ⟨i, u⟩ := y
        obtain ⟨rfl, rfl⟩ := h1 i u rfl
        simp [execOp, ho, Instr.lookup, run_underlying hu, he, run_getM hh, run_checkKey hud hd, hf]
  rcases findNow_eq hd rk hkk 0 hre hf with ⟨rfl, e2, _⟩ | ⟨p, i, v, e, rfl, e2, e3, _⟩
  · refine opok_same hsat (fin none z false e2 (fun _ => ⟨rfl, rfl⟩) (fun _ _ h => by cases h)) ?_
    cases ok
    · exact hz2
    · simp only [if_true]
      unfold Rep
      exact ⟨[z, .bool false], rfl, hz2, rfl, trivial⟩
  · refine opok_same hsat (fin _ v true e2 (fun h => by cases h) (fun i' u h => by injection h with h; injection h with _ h; exact ⟨h, rfl⟩)) ?_
    cases ok
    · exact e3
    · simp only [if_true]
      unfold Rep
      exact ⟨[v, .bool true], rfl, e3, rfl, trivial⟩

theorem s_tas {t xt : TypeId} {x : Operand} {y : Opnd} {d : TypeDesc} {dflt : PV} {ok : Bool} {r : Res} {po : Pol} {call : CallF} (hsat : Sat P base w im g objs) (henv : RepL w im g objs env a.tmps.toList) (ho : o.op = .typeAssert x xt t ok) (hy : opndI x = some y) (hu : P.underlying t = some d) (hd : ∀ ms, d ≠ .interface ms) (hz : zeroV P t = some dflt)
    (h : stepI po call env objs (.tas t dflt ok y) = some r) : OpOK P base o a w im g objs r := by
  have rx := opnd_rep henv hy
  obtain ⟨z, hrun, hrz⟩ := zeroV_rep (w := w) (im := im) (g := g) (objs := objs) hz
  have fails : ∀ v, a.eval x = v → (v = .nilIface ∨ ∃ t' u, v = .iface t' u ∧ t' ≠ t) → ok = true → OpOK P base o a w im g objs (.ok (.tup [dflt, .d (.bool false)]) objs) := by
    intro v hv hk hok
    subst hok
    refine opok_same hsat (v' := .tuple #[z, .bool false]) ?_ ?_
    · rcases hk with rfl | ⟨t', u, rfl, hne⟩
      · simp only [execOp, ho, Instr.typeAssert, hv, Sem.run_bind, run_underlying hu, Result.andThen_ok]
        cases d <;> first | (exact (hd _ rfl).elim) | simp [hrun]
      · simp only [execOp, ho, Instr.typeAssert, hv, Sem.run_bind, run_underlying hu, Result.andThen_ok]
        cases d <;> first | (exact (hd _ rfl).elim) | simp [hrun, hne]
    · unfold Rep
      exact ⟨[z, .bool false], rfl, hrz, rfl, trivial⟩
  unfold stepI at h
  simp only at h
  split at h <;> first | (cases h; done) | skip
  · rename_i t' v hq
    rw [hq] at rx
    unfold Rep at rx
    obtain ⟨u, hev, hr⟩ := rx
    split at h
    · rename_i htt
      subst htt
      injection h with h; subst h
      cases ok with
      | true =>
        refine opok_same hsat (v' := .tuple #[u, .bool true]) ?_ ?_
        · simp only [execOp, ho, Instr.typeAssert, hev, Sem.run_bind, run_underlying hu, Result.andThen_ok]
          cases d <;> first | (exact (hd _ rfl).elim) | simp
        · simp only [if_true]
          unfold Rep
          exact ⟨[u, .bool true], rfl, hr, rfl, trivial⟩
      | false =>
        refine opok_same hsat (v' := u) ?_ (by simpa using hr)
        simp only [execOp, ho, Instr.typeAssert, hev, Sem.run_bind, run_underlying hu, Result.andThen_ok]
        cases d <;> first | (exact (hd _ rfl).elim) | simp
    · rename_i hne
      split at h <;> first | (cases h; done) | skip
      rename_i hok
      injection h with h; subst h
      exact fails _ rfl (.inr ⟨t', u, hev, hne⟩) hok
  · rename_i hq
    rw [hq] at rx
    have rx : a.eval x = .nilIface := rx
    split at h <;> first | (cases h; done) | skip
    rename_i hok
    injection h with h; subst h
    exact fails _ rfl (.inl rx) hok
theorem s_mkm {t : TypeId} (hsat : Sat P base w im g objs) (ho : o.op = .makeMap t none) : OpOK P base o a w im g objs (.ok (.map objs.length) (objs ++ [.map []])) := by
  obtain ⟨hl, hs⟩ := hsat.push (w' := w.alloc (.map #[] 0)) (im' := im) (.map (some w.heap.size)) (.map []) (by simp) (fun k hk => heap_alloc_old w _ k hk) rfl rfl rfl (fun _ _ h => h) (fun b x h => .inl h) (fun k hk => by simp [blk] at hk; omega) (fun hl => by
    unfold ObjOK
    exact ⟨w.heap.size, #[], 0, rfl, hsat.low, heap_alloc_new w _, trivial⟩)
  refine opok_val (v' := .map (some w.heap.size)) ?_ hl hs ?_
  · simp [execOp, ho, Instr.makeMap]
  · unfold Rep
    exact ⟨w.heap.size, by rw [← hsat.len]; simp, rfl⟩
theorem wrap_i64m (n : Int) : IntKind.i64.wrap n = (n + 9223372036854775808) % 18446744073709551616 - 9223372036854775808 := by
  unfold IntKind.wrap
  simp only [show IntKind.i64.bits = 64 from rfl, show IntKind.i64.signed = true from rfl, Bool.true_and, decide_eq_true_eq]
  rw [show (2 : Int) ^ 64 = 18446744073709551616 from rfl, show (2 : Int) ^ (64 - 1) = 9223372036854775808 from rfl]
  split <;> omega
theorem flat_zeros {z : Value} {zd : List D} {s : Nat} (hrd : RepL w im g objs (zd.map .d) z.cells.toList) (hzs : z.cells.size = s) : ∀ n : Nat, (Array.map (fun x => z.cells[x % z.cells.size]!) (Array.range (n * s))).toList = (List.replicate n z.cells.toList).flatten ∧ RepL w im g objs ((List.replicate n zd).flatten.map .d) (List.replicate n z.cells.toList).flatten := by
  intro n
  constructor
  · rw [Array.toList_map, Array.toList_range, hzs]
    induction n with
    | zero => simp
    | succ n ih =>
      rw [List.replicate_succ', List.flatten_append, Nat.add_mul, Nat.one_mul, List.range_add, List.map_append, ih]
      congr 1
      simp only [List.flatten_cons, List.flatten_nil, List.append_nil, List.map_map]
      apply List.ext_getElem?
      intro j
      by_cases hj : j < s
      · simp only [List.getElem?_map, List.getElem?_range hj, Option.map_some, Function.comp]
        rw [Nat.mul_comm, Nat.mul_add_mod, Nat.mod_eq_of_lt hj, Array.getElem?_toList]
        rw [getElem!_pos z.cells j (by omega), Array.getElem?_eq_getElem (by omega)]
      · rw [List.getElem?_eq_none (by simp; omega), List.getElem?_eq_none (by simp; omega)]
  · induction n with
    | zero => simp [RepL]
    | succ n ih =>
      rw [List.replicate_succ, List.replicate_succ, List.flatten_cons, List.flatten_cons, List.map_append]
      exact hrd.app ih
/-- A new row that may be written, of zeros. -/
theorem s_mks {t e : TypeId} {x y : Operand} {x' y' : Opnd} {zs : List PV} {zd : List D} {s : Nat} {i0 : TypeInfo} {k l : IntKind} {n : Int} (hsat : Sat P base w im g objs) (henv : RepL w im g objs env a.tmps.toList) (ho : o.op = .makeSlice t x y)
    (hu : P.underlying t = some (.slice e)) (hx : opndI x = some x') (hy : opndI y = some y') (hz : zeroI P e = some zs) (hs : szOf P e = some s) (hi0 : P.info? e = some i0) (hd : toDs [] zs = some zd) (hzl : zd.length = s) (hs0 : 0 < s) (his : i0.size = s) (hby : i0.bytes ≤ 1024)
    (h1 : opnd env x' = .d (.int k n)) (h2 : opnd env y' = .d (.int l n)) (hn0 : 0 ≤ n) (hn : n < 16777216) :
    OpOK P base o a w im g objs (.ok (.sl objs.length n.toNat zd.length 0 n.toNat) (objs ++ [.vec e (List.replicate n.toNat zd)])) := by
  obtain ⟨i, z, hi, hiz, hr, hone⟩ := zeroI_rep (w := w) (im := im) (g := g) (objs := objs) hz
  rw [hi0] at hi; injection hi with hi; subst hi
  have hrd := toDs_rep hsat (.inr rfl) hd hr
  have hzs : z.cells.size = s := by have := hrd.length; simp at this; omega
  obtain ⟨m, rfl⟩ : ∃ m : Nat, n = m := ⟨n.toNat, by omega⟩
  have hm : m < 16777216 := by omega
  rw [Int.toNat_natCast, hzl]
  obtain ⟨f1, f2⟩ := flat_zeros (w := w) (im := im) (g := g) (objs := objs) (s := s) hrd hzs m
  have hall : ∀ el ∈ List.replicate m zd, el.length = i0.size := fun el hm => by rw [(List.mem_replicate.1 hm).2, hzl, his]
  have hvl : (List.replicate m z.cells.toList).flatten.length = (List.replicate m zd).length * i0.size := by
    rw [← f2.length, List.length_map]; exact flat_len _ _ hall
  have hlen : (List.replicate m zd).length = m := List.length_replicate ..
  have hC : ((Array.range (m * s)).map fun x => z.cells[x % z.cells.size]!).size = m * i0.size := by simp [his]
  have hnew : (w.alloc (.cells ((Array.range (m * s)).map fun x => z.cells[x % z.cells.size]!) e)).heap[w.heap.size]? = some (.cells ((Array.range (m * s)).map fun x => z.cells[x % z.cells.size]!) e (0, 0)) := heap_alloc_new w _
  obtain ⟨hl, hs'⟩ := hsat.push (w' := w.alloc (.cells ((Array.range (m * s)).map fun x => z.cells[x % z.cells.size]!) e)) (im' := im) (hdV w.heap.size m) (.vec e (List.replicate m zd)) (by simp) (fun k hk => heap_alloc_old w _ k hk) rfl rfl rfl
    (fun b x h => h) (fun b x h => .inl h)
    (fun k hk => by simp [hdV, blk] at hk; omega)
    (fun hl => by
      unfold ObjOK
      refine ⟨i0, w.heap.size, m, _, hi0, by omega, rfl, hsat.low, hnew, by rw [hlen]; exact Nat.le_refl _, by unfold maxLen; omega, hC, hall, ?_⟩
      rw [f1, List.take_of_length_le (by rw [hvl]; exact Nat.le_refl _)]
      exact hsat.monoL hl f2)
  have hw1 : IntKind.i64.wrap (m : Int) = m := by
    rw [wrap_i64m]
    omega
  have e1 : a.eval x = .int k m := by
    have := opnd_rep henv hx; rw [h1] at this; exact this
  have e2 : a.eval y = .int l m := by
    have := opnd_rep henv hy; rw [h2] at this; exact this
  refine opok_val (v' := .slice (some ⟨w.heap.size, 0, none⟩) m m) ?_ hl hs' ?_
  · have hb48 : i0.bytes * m ≤ 1024 * 16777216 := Nat.mul_le_mul hby (by omega)
    have hbz : ¬ ((i0.bytes : Int) * (m : Int) > 2 ^ 48) := by
      have : ((i0.bytes * m : Nat) : Int) ≤ ((1024 * 16777216 : Nat) : Int) := Int.ofNat_le.2 hb48
      rw [Int.natCast_mul] at this
      omega
    have hroom : ¬ (m * i0.bytes > roomBytes) := by unfold roomBytes; rw [Nat.mul_comm]; omega
    have r1 : ∀ k', (asInt (.int k' (m : Int))).run P w = .ok (m : Int) w := fun k' => by simp [asInt, asIntOf]
    have r2 : (typeInfo e).run P w = .ok i0 w := by simp [typeInfo, hi0]
    have hcond : ¬ ((decide ((m : Int) < 0) || decide ((i0.bytes : Int) * (m : Int) > 2 ^ 48) || decide ((m : Int) < 0) || decide ((m : Int) > (m : Int))) = true) := by
      simp only [Bool.or_eq_true, decide_eq_true_eq]
      rintro (((h | h) | h) | h)
      · omega
      · exact hbz h
      · omega
      · omega
    simp only [execOp, ho, Instr.makeSlice, Sem.run_bind, run_underlying hu, Result.andThen_ok, e1, e2, r1, r2, hw1]
    rw [if_neg hcond]
    simp only [Sem.run_bind, Sem.run_pure, Result.andThen_ok, askRoom, Int.toNat_natCast, if_neg hroom, run_sizeOf' hs]
    by_cases h0 : m * s = 0
    · have hcells : ∀ F G : Nat → Value, (Array.range (m * s)).map F = (Array.range (m * s)).map G := by intro F G; rw [h0]; simp
      rw [if_pos h0]
      simp only [Sem.run_bind, Sem.run_pure, Result.andThen_ok]
      rw [hcells _ (fun x => z.cells[x % z.cells.size]!)]
      simp [newRow]
    · rw [if_neg h0]
      simp only [Sem.run_bind, run_zero hi0 hiz, Sem.run_pure, Result.andThen_ok]
      simp [newRow]
  · unfold Rep
    refine ⟨w.heap.size, m, by rw [Nat.zero_mul], Nat.le_refl _, .vec e (List.replicate m zd), e, m, by simp, by simp [AObj.tag], Nat.le_refl _, fun _ => ⟨hdV w.heap.size m, m, by rw [← hsat.len]; simp, .inl rfl, fun _ => rfl, by omega⟩⟩
theorem RepE_append {es fs : List (D × PV)} {xs ys : List MapEntry} (h1 : RepE w im g objs es xs) (h2 : RepE w im g objs fs ys) : RepE w im g objs (es ++ fs) (xs ++ ys) := by
  induction es generalizing xs with
  | nil => cases xs with
    | nil => exact h2
    | cons => exact h1.elim
  | cons e r ih => obtain ⟨k, p⟩ := e; cases xs with
    | nil => exact h1.elim
    | cons x s => exact ⟨h1.1, h1.2.1, ih h1.2.2⟩
theorem RepE_set {es : List (D × PV)} {xs : List MapEntry} (h1 : RepE w im g objs es xs) (i : Nat) {k : D} {p : PV} {e : MapEntry} (hk : RepD w im k e.key) (hp : Rep w im g objs p e.val) : RepE w im g objs (es.set i (k, p)) (xs.set i e) := by
  induction es generalizing xs i with
  | nil => cases xs with
    | nil => exact h1
    | cons => exact h1.elim
  | cons e r ih => obtain ⟨k', p'⟩ := e; cases xs with
    | nil => exact h1.elim
    | cons x s => cases i with
      | zero => exact ⟨hk, hp, h1.2.2⟩
      | succ i => exact ⟨h1.1, h1.2.1, ih h1.2.2 i⟩
theorem sameBits_rep {kk : KeyK} {x : D} {u v : Value} (h1 : RepD w im x u) (h2 : RepD w im x v) (hk : kk.ok x = true) : Instr.sameBits 10000 u v = true := by
  cases x <;> (cases kk <;> simp [KeyK.ok] at hk) <;> (unfold RepD at h1 h2; subst h1 h2; simp [Instr.sameBits, mk_beq])
theorem s_upd {t kt et : TypeId} {m k v : Operand} {m' k' v' : Opnd} {kk : KeyK} {kd : D} {es : List (D × PV)} {i : Nat} {r : Option PV} (hsat : Sat P base w im g objs) (henv : RepL w im g objs env a.tmps.toList) (ho : o.op = .mapUpdate t m k v ∨ o.op = .insert t m k v) (hu : P.underlying t = some (.map kt et)) (hk : keyT P kt = some kk)
    (h1 : opndI m = some m') (h2 : opndI k = some k') (h3 : opndI v = some v') (hkd : opnd env k' = .d kd) (hkk : kk.ok kd = true) (hm : opnd env m' = .map i) (hob : objs[i]? = some (.map es)) (hf : findE kd es = some r) :
    OpOK P base o a w im g objs (.ok .any (objs.set i (.map (setE kd (opnd env v') es)))) := by
  have rk := opnd_rep henv h2
  rw [hkd] at rk
  have rk : RepD w im kd (a.eval k) := rk
  have rv := opnd_rep henv h3
  obtain ⟨d, hud, hd⟩ := keyT_cases hk
  have rm := opnd_rep henv h1
  rw [hm] at rm
  unfold Rep at rm
  obtain ⟨q, hg, he⟩ := rm
  have hok := hsat.obj i _ _ hob hg
  unfold ObjOK at hok
  obtain ⟨q', ents, c, hq, hb, hh, hre⟩ := hok
  injection hq with hq; injection hq with hq; subst hq
  have hqlt : q < w.heap.size := (Array.getElem?_eq_some_iff.1 hh).1
  have fin : ∀ (ents' : Array MapEntry) (c' : Nat), (execOp a.eval o).run P w = .ok .skip { w with heap := w.heap.setIfInBounds q (.map ents' c') } → RepE w im g objs (setE kd (opnd env v') es) ents'.toList → OpOK P base o a w im g objs (.ok .any (objs.set i (.map (setE kd (opnd env v') es)))) := by
    intro ents' c' hrun hr
    have hother : ∀ j, j ≠ q → (w.heap.setIfInBounds q (.map ents' c'))[j]? = w.heap[j]? := fun j hj => Array.getElem?_setIfInBounds_ne (Ne.symm hj)
    obtain ⟨hl, hs⟩ := hsat.turn (w' := { w with heap := w.heap.setIfInBounds q (.map ents' c') }) (im' := im) i (.map es) (.map (setE kd (opnd env v') es)) _ (.map (some q)) hob hg (by simp) (fun j hj hn => hother j (fun h => hn (by rw [h]; rfl))) rfl rfl rfl (fun _ _ h => h)
      (fun b x hi hbk => by
        obtain ⟨e', n, inf, q1, _⟩ := hsat.immg b x hi i _ hg hbk
        rw [hob] at q1; cases q1)
      (fun b x h => .inl h) (fun _ h => .inl h) (.inl ⟨rfl, rfl, rfl⟩) (fun hle => by
        unfold ObjOK
        exact ⟨q, ents', c', rfl, hb, by simp [hqlt], hsat.monoE hle hr⟩)
    exact opok_skip hrun hl hs
  have hgo := run_getM (P := P) hh
  have hso := fun ob => run_setM (P := P) (w := w) ob hh
  rcases findNow_eq hd rk hkk 0 hre hf with ⟨rfl, e2, e3⟩ | ⟨p, j, u, e, rfl, e2, e3, e4, e5, e6⟩
  · refine fin (ents.push { key := a.eval k, val := a.eval v, born := c }) (c + 1) ?_ ?_
    · rcases ho with ho | ho <;> simp [execOp, ho, Instr.mapUpdate, run_underlying hu, he, hgo, run_checkKey hud hd, run_findKey hud e2, hso]
    · rw [e3, Array.toList_push]
      exact RepE_append hre ⟨rk, rv, trivial⟩
  · obtain ⟨y, f1, f2, f3⟩ := e6 (opnd env v')
    have hjlt : j < ents.size := by
      have := (List.getElem?_eq_some_iff.1 e4).1
      simpa using this
    have hek : ents[j]? = some e := by simpa using e4
    have hstay : (Instr.keyThatStays e.key (a.eval k)).run P w = .ok (a.eval k) w := by
      simp [Instr.keyThatStays, sameBits_rep e5 rk hkk]
    refine fin (ents.modify j fun e => { e with key := a.eval k, val := a.eval v }) c ?_ ?_
    · rcases ho with ho | ho <;> simp [execOp, ho, Instr.mapUpdate, run_underlying hu, he, hgo, run_checkKey hud hd, run_findKey hud e2, hso, hek, hstay]
    · have : (ents.modify j fun e => { e with key := a.eval k, val := a.eval v }).toList = ents.toList.set j { e with key := a.eval k, val := a.eval v } := by
        apply List.ext_getElem?
        intro n
        rw [Array.getElem?_toList, Array.getElem?_modify]
        by_cases hn : j = n
        · subst hn
          rw [if_pos rfl, hek, List.getElem?_set_self (by simpa using hjlt)]
          rfl
        · rw [if_neg hn, List.getElem?_set_ne hn, Array.getElem?_toList]
      rw [f3, this]
      exact RepE_set hre j (e := { e with key := a.eval k, val := a.eval v }) rk rv
end
end Pi
end Go.Proofs.YthdgpejippohnaaGreatDoor
