/-
  New objects and turned objects: the relation between the evaluator's state and memory is kept. No condition.
-/
import Derived.Test.YthdgpejippohnaaGreatDoorPiC
import Derived.Laws.NewBlocks
namespace Go.Proofs.YthdgpejippohnaaGreatDoor
namespace Pi
set_option linter.unusedVariables false
section
variable {P : Program} {base : Nat} {w w' : World} {im im' : Im} {g g' : List Value} {objs objs' : Objs}

theorem ObjOK.keep (hsat : Sat P base w im g objs) (hl : Le w im g objs w' im' g' objs') {o : AObj} {v : Value} (h : ObjOK P base w im g objs o v) (hk : ∀ k, blk v = some k → w'.heap[k]? = w.heap[k]?) : ObjOK P base w' im' g' objs' o v := by
  cases o <;> unfold ObjOK at h ⊢
  case cells =>
    obtain ⟨b, cur, rfl, hb, hh, hr, h1⟩ := h
    exact ⟨b, cur, rfl, hb, by rw [hk b rfl]; exact hh, hsat.monoL hl hr, h1⟩
  case buf =>
    obtain ⟨i, xs, hi, hp, hown⟩ := h
    refine ⟨i, xs, hi, hp, ?_⟩
    rcases hown with ⟨hx, hn | ⟨q, cap, cur, rfl, hb, hh, rest⟩⟩ | ⟨hbig, q, m, cap, cur, fr, rfl, hb, hh⟩
    · exact .inl ⟨hx, .inl hn⟩
    · exact .inl ⟨hx, .inr ⟨q, cap, cur, rfl, hb, by rw [hk q rfl]; exact hh, rest⟩⟩
    · exact .inr ⟨hbig, q, m, cap, cur, fr, rfl, hb, by rw [hk q rfl]; exact hh⟩
  case map =>
    obtain ⟨r, ents, c, rfl, hb, hh, hr⟩ := h
    exact ⟨r, ents, c, rfl, hb, by rw [hk r rfl]; exact hh, hsat.monoE hl hr⟩
  case bld => exact h
  case dead => exact h
  case vec =>
    obtain ⟨i, k, cap, cur, h1, h2, rfl, h3, hh, h4, h5, h6, h7, hr⟩ := h
    exact ⟨i, k, cap, cur, h1, h2, rfl, h3, by rw [hk k rfl]; exact hh, h4, h5, h6, h7, hsat.monoL hl hr⟩
  case frz =>
    obtain ⟨i, k, cap, h1, rfl, hr⟩ := h
    exact ⟨i, k, cap, h1, rfl, RepEls_mono hl.pres _ _ _ _ hr⟩
  case loop =>
    obtain ⟨l, lr, rfl, hb, hh, hr, rest⟩ := h
    exact ⟨l, lr, rfl, hb, by rw [hk l rfl]; exact hh, hsat.monoL hl hr, rest⟩

theorem evo_push (hlen : g.length = objs.length) (v : Value) (o : AObj) : Evo objs g (objs ++ [o]) (g ++ [v]) := by
  refine ⟨by simp, fun i o' h hb => ?_, fun i o' e n b h ht => ?_⟩
  · have hi := (List.getElem?_eq_some_iff.1 h).1
    exact ⟨List.getElem?_append_left (by omega), o', by rw [List.getElem?_append_left hi]; exact h, hb⟩
  · have hi := (List.getElem?_eq_some_iff.1 h).1
    exact ⟨o', n, by rw [List.getElem?_append_left hi]; exact h, ht, Nat.le_refl _, fun _ => .inl (List.getElem?_append_left (by omega))⟩

/-- Memory has new blocks alone, and one object more. -/
theorem Sat.push (hsat : Sat P base w im g objs) (v : Value) (o : AObj) (hsize : w.heap.size ≤ w'.heap.size) (hheap : ∀ k, k < w.heap.size → w'.heap[k]? = w.heap[k]?) (hos : w'.os = w.os) (htape : w'.tape = w.tape) (hout : w'.output = w.output)
    (him : ∀ b o, im b o → im' b o) (hnew : ∀ b x, im' b x → im b x ∨ (w.heap.size ≤ b ∧ b < w'.heap.size ∧ (blk v = some b → ∃ e n inf, AObj.buf e n = o ∧ P.info? e = some inf ∧ x < n * inf.size)))
    (hv : ∀ k, blk v = some k → w.heap.size ≤ k) (hobj : Le w im g objs w' im' (g ++ [v]) (objs ++ [o]) → ObjOK P base w' im' (g ++ [v]) (objs ++ [o]) o v) :
    Le w im g objs w' im' (g ++ [v]) (objs ++ [o]) ∧ Sat P base w' im' (g ++ [v]) (objs ++ [o]) := by
  have hl : Le w im g objs w' im' (g ++ [v]) (objs ++ [o]) := by
    refine ⟨fun b o h => ⟨him b o h, ?_⟩, evo_push hsat.len v o, hsize, fun k hk _ => hheap k hk, fun i u k hu hk => ?_, fun b x h => ?_, hos, htape, hout⟩
    · exact World.cell?_of_block (hheap b (hsat.imm b o h))
    · by_cases hi : i < g.length
      · rw [List.getElem?_append_left hi] at hu
        exact .inr ⟨i, u, hu, hk⟩
      · rw [List.getElem?_append_right (by omega)] at hu
        have hi0 : i - g.length = 0 := by
          have := (List.getElem?_eq_some_iff.1 hu).1
          simp at this
          omega
        rw [hi0] at hu
        simp at hu
        subst hu
        exact .inl (hv k hk)
    · rcases hnew b x h with h | ⟨h, _⟩
      · exact .inl h
      · exact .inr (.inl h)
  refine ⟨hl, ⟨by simp [hsat.len], Nat.le_trans hsat.low hsize, hsat.glob.keep (fun q hq _ => hheap q (Nat.lt_of_lt_of_le hq hsat.low)), fun i o' u ho hu => ?_, fun i j u1 u2 k h1 h2 hk1 hk2 => ?_, fun b x h => ?_, fun b x h i u hu hk => ?_⟩⟩
  · by_cases hi : i < objs.length
    · rw [List.getElem?_append_left hi] at ho
      rw [List.getElem?_append_left (by rw [hsat.len]; exact hi)] at hu
      exact ObjOK.keep hsat hl (hsat.obj i o' u ho hu) (fun k hk => hheap k (hsat.blk_lt hu hk).2)
    · rw [List.getElem?_append_right (by omega)] at ho
      have hi0 : i - objs.length = 0 := by
        have := (List.getElem?_eq_some_iff.1 ho).1
        simp at this
        omega
      rw [List.getElem?_append_right (by rw [hsat.len]; omega), hsat.len, hi0] at hu
      rw [hi0] at ho
      simp at ho hu
      subst ho hu
      exact hobj hl
  · have key : ∀ (i : Nat) (u : Value), (g ++ [v])[i]? = some u → ∀ k, blk u = some k → (i < g.length ∧ g[i]? = some u ∧ k < w.heap.size) ∨ (i = g.length ∧ w.heap.size ≤ k) := by
      intro i u hu k hk
      by_cases hi : i < g.length
      · rw [List.getElem?_append_left hi] at hu
        exact .inl ⟨hi, hu, (hsat.blk_lt hu hk).2⟩
      · rw [List.getElem?_append_right (by omega)] at hu
        have hi0 : i - g.length = 0 := by
          have := (List.getElem?_eq_some_iff.1 hu).1
          simp at this
          omega
        rw [hi0] at hu
        simp at hu
        subst hu
        exact .inr ⟨by omega, hv k hk⟩
    rcases key i u1 h1 k hk1 with ⟨a1, a2, a3⟩ | ⟨a1, a2⟩ <;> rcases key j u2 h2 k hk2 with ⟨b1, b2, b3⟩ | ⟨b1, b2⟩
    · exact hsat.dist i j u1 u2 k a2 b2 hk1 hk2
    · omega
    · omega
    · omega
  · rcases hnew b x h with h' | ⟨_, h', _⟩
    · exact Nat.lt_of_lt_of_le (hsat.imm b x h') hsize
    · exact h'
  · rcases hnew b x h with h' | ⟨h1, h2, h3⟩
    · by_cases hi : i < g.length
      · rw [List.getElem?_append_left hi] at hu
        obtain ⟨e, n, inf, ho, r⟩ := hsat.immg b x h' i u hu hk
        exact ⟨e, n, inf, by rw [List.getElem?_append_left (List.getElem?_eq_some_iff.1 ho).1]; exact ho, r⟩
      · rw [List.getElem?_append_right (by omega)] at hu
        have hi0 : i - g.length = 0 := by
          have := (List.getElem?_eq_some_iff.1 hu).1
          simp at this
          omega
        rw [hi0] at hu
        simp at hu
        subst hu
        have := hv b hk
        have := hsat.imm b x h'
        omega
    · by_cases hi : i < g.length
      · rw [List.getElem?_append_left hi] at hu
        have := (hsat.blk_lt hu hk).2
        omega
      · have hu' := hu
        rw [List.getElem?_append_right (by omega)] at hu
        have hi0 : i - g.length = 0 := by
          have := (List.getElem?_eq_some_iff.1 hu).1
          simp at this
          omega
        rw [hi0] at hu
        simp at hu
        subst hu
        obtain ⟨e, n, inf, ho, r⟩ := h3 hk
        refine ⟨e, n, inf, ?_, r⟩
        have : i = objs.length := by rw [← hsat.len]; omega
        subst this
        simp
        exact ho.symm

/-- One object turns; memory turns in its block alone, and has new blocks. -/
theorem Sat.turn (hsat : Sat P base w im g objs) (i : Nat) (o o' : AObj) (v v' : Value) (ho : objs[i]? = some o) (hv : g[i]? = some v) (hsize : w.heap.size ≤ w'.heap.size) (hheap : ∀ k, k < w.heap.size → blk v ≠ some k → w'.heap[k]? = w.heap[k]?) (hos : w'.os = w.os) (htape : w'.tape = w.tape) (hout : w'.output = w.output)
    (him : ∀ b x, im b x → im' b x) (hcell : ∀ b x, im b x → blk v = some b → w'.cell? ⟨b, x, none⟩ = w.cell? ⟨b, x, none⟩)
    (hnew : ∀ b x, im' b x → im b x ∨ (b < w'.heap.size ∧ blk v' = some b ∧ ∃ e n inf, AObj.buf e n = o' ∧ P.info? e = some inf ∧ x < n * inf.size) ∨ (b < w'.heap.size ∧ blk v = some b ∧ blk v' = none))
    (hv' : ∀ k, blk v' = some k → blk v = some k ∨ w.heap.size ≤ k)
    (hkind : (o.isBuf = false ∧ o'.isBuf = false ∧ v' = v) ∨ (∃ e n n', o = .buf e n ∧ o' = .buf e n' ∧ n ≤ n' ∧ (n' = n → v' = v)) ∨ (∃ e els els', o = .vec e els ∧ (o' = .vec e els' ∨ o' = .frz e els') ∧ els.length ≤ els'.length ∧ (els'.length = els.length → v' = v ∨ ∃ k cap, v = hdV k cap ∧ v' = .agg #[hdV k cap])) ∨ o = .dead)
    (hobj : Le w im g objs w' im' (g.set i v') (objs.set i o') → ObjOK P base w' im' (g.set i v') (objs.set i o') o' v') :
    Le w im g objs w' im' (g.set i v') (objs.set i o') ∧ Sat P base w' im' (g.set i v') (objs.set i o') := by
  have hig : i < g.length := (List.getElem?_eq_some_iff.1 hv).1
  have hio : i < objs.length := (List.getElem?_eq_some_iff.1 ho).1
  have gother : ∀ j, j ≠ i → (g.set i v')[j]? = g[j]? := fun j hj => List.getElem?_set_ne (Ne.symm hj)
  have oother : ∀ j, j ≠ i → (objs.set i o')[j]? = objs[j]? := fun j hj => List.getElem?_set_ne (Ne.symm hj)
  have gself : (g.set i v')[i]? = some v' := by rw [List.getElem?_set_self hig]
  have oself : (objs.set i o')[i]? = some o' := by rw [List.getElem?_set_self hio]
  have hl : Le w im g objs w' im' (g.set i v') (objs.set i o') := by
    refine ⟨fun b x h => ⟨him b x h, ?_⟩, ⟨by simp, fun j q hq hb => ?_, fun j q e n bb hq ht => ?_⟩, hsize, fun k hk hn => hheap k hk (hn i v hv), fun j u k hu hk => ?_, fun b x h => ?_, hos, htape, hout⟩
    · by_cases hb : blk v = some b
      · exact hcell b x h hb
      · exact World.cell?_of_block (hheap b (hsat.imm b x h) hb)
    · by_cases hj : j = i
      · subst hj
        rw [ho] at hq; injection hq with hq; subst hq
        rcases hkind with ⟨_, h2, h3⟩ | ⟨e, n, n', h1, _⟩ | ⟨e, els, els', h1, _⟩ | h1
        · exact ⟨by rw [gself, hv, h3], o', oself, h2⟩
        · subst h1; simp [AObj.isBuf] at hb
        · subst h1; simp [AObj.isBuf] at hb
        · subst h1; simp [AObj.isBuf] at hb
      · exact ⟨gother j hj, q, by rw [oother j hj]; exact hq, hb⟩
    · by_cases hj : j = i
      · subst hj
        rw [ho] at hq; injection hq with hq; subst hq
        rcases hkind with ⟨h1, _⟩ | ⟨e', m, n', h1, h2, h3, h4⟩ | ⟨e', els, els', h1, h2, h3, h4⟩ | h1
        · rw [isBuf_tag h1] at ht; cases ht
        · subst h1
          injection ht with ht; injection ht with t1 ht; injection ht with t2 t3; subst t1 t2 t3
          exact ⟨_, n', by rw [oself, h2], rfl, h3, fun he => .inl (by rw [gself, hv, h4 he])⟩
        · subst h1
          injection ht with ht; injection ht with t1 ht; injection ht with t2 t3; subst t1 t2 t3
          refine ⟨o', els'.length, oself, by rcases h2 with rfl | rfl <;> rfl, h3, fun he => ?_⟩
          rcases h4 he with h | ⟨k, cap, h, h'⟩
          · exact .inl (by rw [gself, hv, h])
          · exact .inr ⟨rfl, k, cap, by rw [hv, h], by rw [gself, h']⟩
        · subst h1; cases ht
      · exact ⟨q, n, by rw [oother j hj]; exact hq, ht, Nat.le_refl _, fun _ => .inl (gother j hj)⟩
    · by_cases hj : j = i
      · subst hj
        rw [gself] at hu; injection hu with hu; subst hu
        rcases hv' k hk with h | h
        · exact .inr ⟨j, v, hv, h⟩
        · exact .inl h
      · rw [gother j hj] at hu
        exact .inr ⟨j, u, hu, hk⟩
    · rcases hnew b x h with h | ⟨_, h, _⟩ | ⟨_, h, _⟩
      · exact .inl h
      · rcases hv' b h with h | h
        · exact .inr (.inr ⟨i, v, hv, h⟩)
        · exact .inr (.inl h)
      · exact .inr (.inr ⟨i, v, hv, h⟩)
  have other : ∀ j u k, j ≠ i → g[j]? = some u → blk u = some k → blk v ≠ some k ∧ k < w.heap.size :=
    fun j u k hj hu hk => ⟨fun h => hj (hsat.dist j i u v k hu hv hk h), (hsat.blk_lt hu hk).2⟩
  refine ⟨hl, ⟨by simp [hsat.len], Nat.le_trans hsat.low hsize, hsat.glob.keep (fun q hq _ => hheap q (Nat.lt_of_lt_of_le hq hsat.low) (fun hb => Nat.lt_irrefl q (Nat.lt_of_lt_of_le hq (hsat.blk_lt hv hb).1))), fun j q u hq hu => ?_, fun j1 j2 u1 u2 k h1 h2 hk1 hk2 => ?_, fun b x h => ?_, fun b x h j u hu hk => ?_⟩⟩
  · by_cases hj : j = i
    · subst hj
      rw [oself] at hq; rw [gself] at hu; injection hq with hq; injection hu with hu; subst hq hu
      exact hobj hl
    · rw [oother j hj] at hq; rw [gother j hj] at hu
      exact ObjOK.keep hsat hl (hsat.obj j q u hq hu) (fun k hk => let ⟨a, b⟩ := other j u k hj hu hk; hheap k b a)
  · by_cases hj1 : j1 = i <;> by_cases hj2 : j2 = i
    · rw [hj1, hj2]
    · subst hj1
      rw [gself] at h1; injection h1 with h1; subst h1
      rw [gother j2 hj2] at h2
      obtain ⟨a, b⟩ := other j2 u2 k hj2 h2 hk2
      rcases hv' k hk1 with h | h
      · exact (a h).elim
      · omega
    · subst hj2
      rw [gself] at h2; injection h2 with h2; subst h2
      rw [gother j1 hj1] at h1
      obtain ⟨a, b⟩ := other j1 u1 k hj1 h1 hk1
      rcases hv' k hk2 with h | h
      · exact (a h).elim
      · omega
    · rw [gother j1 hj1] at h1; rw [gother j2 hj2] at h2
      exact hsat.dist j1 j2 u1 u2 k h1 h2 hk1 hk2
  · rcases hnew b x h with h' | ⟨h', _⟩ | ⟨h', _⟩
    · exact Nat.lt_of_lt_of_le (hsat.imm b x h') hsize
    · exact h'
    · exact h'
  · by_cases hj : j = i
    · subst hj
      rw [gself] at hu; injection hu with hu; subst hu
      rcases hnew b x h with h' | ⟨_, _, e, n, inf, h1, h2, h3⟩ | ⟨_, _, h'⟩
      · rcases hv' b hk with hb | hb
        · obtain ⟨e, n, inf, q1, q2, q3⟩ := hsat.immg b x h' j v hv hb
          rw [ho] at q1; injection q1 with q1; subst q1
          rcases hkind with ⟨h1, _⟩ | ⟨e', m, n', h1, h2, h3, h4⟩ | ⟨e', els, els', h1, _⟩ | h1
          · simp [AObj.isBuf] at h1
          · injection h1 with h1 h1'; subst h1 h1'
            exact ⟨e, n', inf, by rw [oself, h2], q2, Nat.lt_of_lt_of_le q3 (Nat.mul_le_mul_right _ h3)⟩
          · cases h1
          · cases h1
        · have := hsat.imm b x h'
          omega
      · exact ⟨e, n, inf, by rw [oself, h1], h2, h3⟩
      · rw [h'] at hk; cases hk
    · rw [gother j hj] at hu
      rcases hnew b x h with h' | ⟨_, h1, _⟩ | ⟨_, h1, _⟩
      · obtain ⟨e, n, inf, q1, q2, q3⟩ := hsat.immg b x h' j u hu hk
        exact ⟨e, n, inf, by rw [oother j hj]; exact q1, q2, q3⟩
      · obtain ⟨a, b'⟩ := other j u b hj hu hk
        rcases hv' b h1 with h2 | h2
        · exact (a h2).elim
        · omega
      · exact ((other j u b hj hu hk).1 h1).elim

/-- Memory has new blocks alone, no object turns; some of the new cells are held fast. -/
theorem Sat.more (hsat : Sat P base w im g objs) (hsize : w.heap.size ≤ w'.heap.size) (hheap : ∀ k, k < w.heap.size → w'.heap[k]? = w.heap[k]?) (hos : w'.os = w.os) (htape : w'.tape = w.tape) (hout : w'.output = w.output)
    (him : ∀ b x, im b x → im' b x) (hnew : ∀ b x, im' b x → im b x ∨ (w.heap.size ≤ b ∧ b < w'.heap.size)) :
    Le w im g objs w' im' g objs ∧ Sat P base w' im' g objs := by
  have hl : Le w im g objs w' im' g objs :=
    ⟨fun b x h => ⟨him b x h, World.cell?_of_block (hheap b (hsat.imm b x h))⟩, Evo.refl objs g, hsize, fun k hk _ => hheap k hk, fun i u k hu hk => .inr ⟨i, u, hu, hk⟩, fun b x h => (hnew b x h).imp id (fun h => .inl h.1), hos, htape, hout⟩
  refine ⟨hl, ⟨hsat.len, Nat.le_trans hsat.low hsize, hsat.glob.keep (fun q hq _ => hheap q (Nat.lt_of_lt_of_le hq hsat.low)), fun i o v ho hv => ObjOK.keep hsat hl (hsat.obj i o v ho hv) (fun k hk => hheap k (hsat.blk_lt hv hk).2), hsat.dist, fun b x h => ?_, fun b x h i u hu hk => ?_⟩⟩
  · rcases hnew b x h with h' | ⟨_, h'⟩
    · exact Nat.lt_of_lt_of_le (hsat.imm b x h') hsize
    · exact h'
  · rcases hnew b x h with h' | ⟨h', _⟩
    · exact hsat.immg b x h' i u hu hk
    · have := (hsat.blk_lt hu hk).2
      omega
theorem cells_at {k : Nat} {cur : Array Value} {e : TypeId} {fr : Nat × Nat} (h : w.heap[k]? = some (.cells cur e fr)) (j : Nat) : w.cell? ⟨k, j, none⟩ = cur[j]? := by
  have := cell_of_row w k j cur e fr h
  simpa using this
theorem rows_of : ∀ {els : List (List D)} {cur : List Value} {sz k q : Nat}, (∀ el ∈ els, el.length = sz) → RepL w im g objs (els.flatten.map .d) cur → (∀ (j : Nat) u, cur[j]? = some u → im' k (q + j) ∧ w.cell? ⟨k, q + j, none⟩ = some u) → (∀ x v, RepD w im x v → RepD w im' x v) → RepEls w im' els sz k q
  | [], _, _, _, _, _, _, _, _ => trivial
  | el :: r, cur, sz, k, q, hall, hr, hc, hm => by
    unfold RepEls
    have hl := hall el (by simp)
    rw [List.flatten_cons, List.map_append] at hr
    have hsplit : cur = cur.take el.length ++ cur.drop el.length := (List.take_append_drop _ _).symm
    have hlen := hr.length
    simp only [List.length_append, List.length_map] at hlen
    have h1 := hr.take el.length
    have h2 := hr.drop el.length
    rw [List.take_left' (by simp)] at h1
    rw [List.drop_left' (by simp)] at h2
    refine ⟨hl, ?_, rows_of (fun x hx => hall x (by simp [hx])) h2 (fun j u hu => ?_) hm⟩
    · rw [RepRow_iff]
      intro j x hx
      obtain ⟨v, hv, hrv⟩ := h1.get (i := j) (by rw [List.getElem?_map, hx]; rfl)
      have hj : j < el.length := (List.getElem?_eq_some_iff.1 hx).1
      rw [List.getElem?_take_of_lt hj] at hv
      obtain ⟨c1, c2⟩ := hc j v hv
      exact ⟨c1, v, c2, hm x v hrv⟩
    · rw [List.getElem?_drop] at hu
      have := hc _ u hu
      rwa [hl, show q + (sz + j) = q + sz + j from by omega] at this
/-- A row that may be written is frozen. -/
theorem frz_sound (hsat : Sat P base w im g objs) {id : Nat} {e : TypeId} {els : List (List D)} (ho : objs[id]? = some (.vec e els)) : ∃ im' g', Le w im g objs w im' g' (objs.set id (.frz e els)) ∧ Sat P base w im' g' (objs.set id (.frz e els)) := by
  obtain ⟨v, hv, hok⟩ := hsat.get ho
  have hok' := hok
  unfold ObjOK at hok
  obtain ⟨i, k, cap, cur, hi, hs0, rfl, hb, hh, h4, h5, h6, h7, hr⟩ := hok
  have hmul : els.length * i.size ≤ cap * i.size := Nat.mul_le_mul_right _ h4
  refine ⟨fun b x => im b x ∨ (b = k ∧ x < els.length * i.size), g.set id (.agg #[hdV k cap]), ?_⟩
  refine hsat.turn id _ (.frz e els) _ (.agg #[hdV k cap]) ho hv (Nat.le_refl _) (fun _ _ _ => rfl) rfl rfl rfl (fun _ _ h => .inl h) (fun _ _ _ _ => rfl) (fun b x h => ?_) (fun k' hk' => by cases hk') (.inr (.inr (.inl ⟨e, els, els, rfl, .inr rfl, Nat.le_refl _, fun _ => .inr ⟨k, cap, rfl, rfl⟩⟩))) (fun hl => ?_)
  · rcases h with h | ⟨rfl, h⟩
    · exact .inl h
    · exact .inr (.inr ⟨(Array.getElem?_eq_some_iff.1 hh).1, rfl, rfl⟩)
  · unfold ObjOK
    refine ⟨i, k, cap, hi, rfl, ?_⟩
    refine rows_of h7 (hsat.monoL hl hr) (fun j u hu => ?_) (fun x v h => h)
    have hj : j < els.length * i.size := by
      have := (List.getElem?_eq_some_iff.1 hu).1
      simp at this
      omega
    rw [List.getElem?_take_of_lt hj] at hu
    rw [Nat.zero_add, cells_at hh]
    exact ⟨.inr ⟨rfl, hj⟩, by simpa using hu⟩
theorem frzOne_sound (hsat : Sat P base w im g objs) (id : Nat) : ∃ im' g', Le w im g objs w im' g' (frzOne objs id) ∧ Sat P base w im' g' (frzOne objs id) := by
  unfold frzOne
  split
  · rename_i e els hob
    exact frz_sound hsat (getD_some hob (by simp))
  · exact ⟨im, g, Le.refl _ _ _ _, hsat⟩
theorem frzIds_sound : ∀ (ids : List Nat) {im : Im} {g : List Value} {objs : Objs}, Sat P base w im g objs → ∃ im' g', Le w im g objs w im' g' (frzIds objs ids) ∧ Sat P base w im' g' (frzIds objs ids)
  | [], im, g, objs, hsat => ⟨im, g, Le.refl _ _ _ _, hsat⟩
  | i :: r, im, g, objs, hsat => by
    obtain ⟨im1, g1, l1, s1⟩ := frzOne_sound hsat i
    obtain ⟨im2, g2, l2, s2⟩ := frzIds_sound r s1
    exact ⟨im2, g2, l1.trans l2, s2⟩
/-! ### slices as data -/
theorem pur1_rep (hsat : Sat P base w im g objs) {p : PV} {v : Value} (h : Rep w im g objs p v) : Rep w im g objs (p.pur1 objs) v := by
  unfold PV.pur1
  split
  · unfold Rep at h; exact h.1
  · unfold Rep at h; exact h.1
  · split
    · rename_i he
      exact asRow_rep hsat he h
    · exact h
  · exact h
theorem pur1s_rep (hsat : Sat P base w im g objs) : ∀ {ps : List PV} {vs : List Value}, RepL w im g objs ps vs → RepL w im g objs (ps.map (PV.pur1 objs)) vs
  | [], [], h => h
  | _ :: _, _ :: _, h => ⟨pur1_rep hsat h.1, pur1s_rep hsat h.2⟩
  | [], _ :: _, h => h.elim
  | _ :: _, [], h => h.elim
theorem pur2_rep (hsat : Sat P base w im g objs) {p : PV} {v : Value} (h : Rep w im g objs p v) : Rep w im g objs (p.pur2 objs) v := by
  unfold PV.pur2
  split
  · unfold Rep at h ⊢
    obtain ⟨vs, hv, hl⟩ := h
    exact ⟨vs, hv, pur1s_rep hsat hl⟩
  · exact pur1_rep hsat h
theorem pur2s_rep (hsat : Sat P base w im g objs) : ∀ {ps : List PV} {vs : List Value}, RepL w im g objs ps vs → RepL w im g objs (ps.map (PV.pur2 objs)) vs
  | [], [], h => h
  | _ :: _, _ :: _, h => ⟨pur2_rep hsat h.1, pur2s_rep hsat h.2⟩
  | [], _ :: _, h => h.elim
  | _ :: _, [], h => h.elim
theorem pur_rep (hsat : Sat P base w im g objs) {p : PV} {v : Value} (h : Rep w im g objs p v) : Rep w im g objs (p.pur objs) v := by
  unfold PV.pur
  split
  · unfold Rep at h ⊢
    obtain ⟨vs, hv, hl⟩ := h
    exact ⟨vs, hv, pur2s_rep hsat hl⟩
  · exact pur2_rep hsat h
theorem purs_rep (hsat : Sat P base w im g objs) : ∀ {ps : List PV} {vs : List Value}, RepL w im g objs ps vs → RepL w im g objs (ps.map (PV.pur objs)) vs
  | [], [], h => h
  | _ :: _, _ :: _, h => ⟨pur_rep hsat h.1, purs_rep hsat h.2⟩
  | [], _ :: _, h => h.elim
  | _ :: _, [], h => h.elim
end
end Pi
end Go.Proofs.YthdgpejippohnaaGreatDoor
