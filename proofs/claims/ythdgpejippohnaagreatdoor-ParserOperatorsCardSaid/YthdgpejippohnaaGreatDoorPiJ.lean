/-
  One operation of the evaluator is what the machine's operation does: appends. No condition.
-/
import Derived.Test.YthdgpejippohnaaGreatDoorPiI
import Derived.Lib.AppendStr
namespace Go.Proofs.YthdgpejippohnaaGreatDoor
namespace Pi
set_option linter.unusedVariables false
section
variable {P : Program} {base : Nat} {w w' : World} {im im' : Im} {g g' : List Value} {objs objs' : Objs} {env : Env} {a : Act} {o : Oper}

/-- The cells of a row, in order. -/
theorem row_vals (g : List Value) (objs : Objs) : ∀ {els : List (List D)} {sz b q : Nat}, RepEls w im els sz b q → ∃ vals : List Value, vals.length = els.length * sz ∧ (∀ (j : Nat) u, vals[j]? = some u → im b (q + j) ∧ w.cell? ⟨b, q + j, none⟩ = some u) ∧ RepL w im g objs (els.flatten.map .d) vals
  | [], sz, b, q, _ => ⟨[], by simp, by simp, by simp [RepL]⟩
  | el :: r, sz, b, q, h => by
    unfold RepEls at h
    obtain ⟨h1, h2, h3⟩ := h
    obtain ⟨vs, k1, k2, k3⟩ := row_vals g objs h3
    have key : ∀ (ds : List D) (q : Nat), RepRow w im ds b q → ∃ us : List Value, us.length = ds.length ∧ (∀ (j : Nat) u, us[j]? = some u → im b (q + j) ∧ w.cell? ⟨b, q + j, none⟩ = some u) ∧ RepL w im g objs (ds.map .d) us := by
      intro ds
      induction ds with
      | nil => intro q _; exact ⟨[], rfl, by simp, by simp [RepL]⟩
      | cons d s ih =>
        intro q hq
        unfold RepRow at hq
        obtain ⟨i1, ⟨u, hu, hd⟩, i3⟩ := hq
        obtain ⟨us, a1, a2, a3⟩ := ih (q + 1) i3
        refine ⟨u :: us, by simp [a1], fun j z hz => ?_, ⟨hd, a3⟩⟩
        cases j with
        | zero => simp at hz; subst hz; exact ⟨i1, hu⟩
        | succ j => have := a2 j z (by simpa using hz); rwa [show q + (j + 1) = q + 1 + j from by omega]
    obtain ⟨us, a1, a2, a3⟩ := key el q h2
    refine ⟨us ++ vs, by rw [List.length_append, a1, k1, h1, List.length_cons, Nat.add_mul]; omega, fun j u hj => ?_, ?_⟩
    · by_cases hl : j < us.length
      · rw [List.getElem?_append_left hl] at hj; exact a2 j u hj
      · rw [List.getElem?_append_right (by omega)] at hj
        have := k2 _ u hj
        rwa [show q + sz + (j - us.length) = q + j from by omega] at this
    · rw [List.flatten_cons, List.map_append]
      exact a3.app k3
theorem els_all : ∀ {els : List (List D)} {sz b q : Nat}, RepEls w im els sz b q → ∀ el ∈ els, el.length = sz
  | [], _, _, _, _ => by simp
  | el :: r, sz, b, q, h => by
    unfold RepEls at h
    intro x hx
    rcases List.mem_cons.1 hx with rfl | hx
    · exact h.1
    · exact els_all h.2.2 x hx
/-- A value's row: its cells, the size of its elements. -/
theorem row_cells (g : List Value) (objs : Objs) {els : List (List D)} {v : Value} {sz : Nat} (h : RepD w im (.row els) v) (hh : hdOk sz els = true) : ∃ A c, ∃ vals : List Value, v = .slice A els.length c ∧ els.length ≤ c ∧ vals.length = els.length * sz ∧ RepL w im g objs (els.flatten.map .d) vals ∧ (∀ el ∈ els, el.length = sz) ∧
    (els ≠ [] → ∃ b q, A = some ⟨b, q, none⟩ ∧ ∀ (j : Nat) u, vals[j]? = some u → im b (q + j) ∧ w.cell? ⟨b, q + j, none⟩ = some u) := by
  cases els with
  | nil =>
    obtain ⟨A, c, rfl, hc⟩ := row_slice h
    exact ⟨A, c, [], rfl, hc, by simp, by simp [RepL], by simp, fun h => (h rfl).elim⟩
  | cons el r =>
    obtain ⟨b, q, c, sz', rfl, hc, hr⟩ := row_at h (by simp)
    have hs : sz' = sz := by
      have := (RepEls_at hr (j := 0) rfl).1
      simp only [hdOk, beq_iff_eq] at hh
      omega
    subst hs
    obtain ⟨vals, k1, k2, k3⟩ := row_vals g objs hr
    exact ⟨_, c, vals, rfl, hc, k1, k3, els_all hr, fun _ => ⟨b, q, rfl, k2⟩⟩

theorem run_app_nothing {t ty e : TypeId} {i : TypeInfo} (ht : P.underlying t = some (.slice e)) (hi : P.info? e = some i) (A B : Option Addr) (n c c2 : Nat) (hc : n ≤ c) (w : World) :
    (Builtin.append_ #[t, t] ty #[.slice A n c, .slice B 0 c2]).run P w = .ok (.slice A n c) w := by
  cases A <;> cases B <;> simp [Builtin.append_, run_underlying ht, sizeOf, typeInfo, hi, Builtin.lenOf, Builtin.firstCells, hc, loadCells, loadCellsFrom, storeCells]

/-- A new buffer with a row's cells at its head. -/
theorem new_buf (hsat : Sat P base w im g objs) {e : TypeId} {i : TypeInfo} (hi : P.info? e = some i) (hs0 : 0 < i.size) {els : List (List D)} {vals : List Value} {cap : Nat} {C : Array Value} (hne : els ≠ []) (hall : ∀ el ∈ els, el.length = i.size) (hlv : vals.length = els.length * i.size) (hr : RepL w im g objs (els.flatten.map .d) vals)
    (hC : C.size = cap * i.size) (htake : C.toList.take (els.length * i.size) = vals) (hcap : els.length ≤ cap) (hmax : cap ≤ maxLen) :
    Le w im g objs (w.drew.alloc (.cells C e)) (fun b x => im b x ∨ (b = w.heap.size ∧ x < els.length * i.size)) (g ++ [.slice (some ⟨w.heap.size, 0, none⟩) els.length cap]) (objs ++ [.buf e els.length]) ∧
    Sat P base (w.drew.alloc (.cells C e)) (fun b x => im b x ∨ (b = w.heap.size ∧ x < els.length * i.size)) (g ++ [.slice (some ⟨w.heap.size, 0, none⟩) els.length cap]) (objs ++ [.buf e els.length]) ∧
    Rep (w.drew.alloc (.cells C e)) (fun b x => im b x ∨ (b = w.heap.size ∧ x < els.length * i.size)) (g ++ [.slice (some ⟨w.heap.size, 0, none⟩) els.length cap]) (objs ++ [.buf e els.length]) (.own els objs.length) (.slice (some ⟨w.heap.size, 0, none⟩) els.length cap) := by
  have hnew : (w.drew.alloc (.cells C e)).heap[w.heap.size]? = some (.cells C e (0, 0)) := heap_alloc_new w.drew _
  obtain ⟨hl, hs⟩ := hsat.push (w' := w.drew.alloc (.cells C e)) (im' := fun b x => im b x ∨ (b = w.heap.size ∧ x < els.length * i.size)) (.slice (some ⟨w.heap.size, 0, none⟩) els.length cap) (.buf e els.length) (by simp) (fun k hk => heap_alloc_old w.drew _ k hk) rfl rfl rfl
    (fun b x h => .inl h) (fun b x h => by
      rcases h with h | ⟨rfl, h⟩
      · exact .inl h
      · exact .inr ⟨Nat.le_refl _, by simp, fun _ => ⟨e, els.length, i, rfl, hi, h⟩⟩)
    (fun k hk => by simp [blk] at hk; omega)
    (fun hl => by
      unfold ObjOK
      exact ⟨i, vals, hi, hs0, .inl ⟨hlv, .inr ⟨w.heap.size, cap, C, rfl, hsat.low, hnew, hcap, hmax, hC, htake⟩⟩⟩)
  refine ⟨hl, hs, ?_⟩
  unfold Rep
  refine ⟨?_, e, els.length, ?_, Nat.le_refl _, fun _ => ?_⟩
  · unfold RepD
    refine .inr ⟨w.heap.size, 0, cap, i.size, rfl, hcap, rep_els (g := g) (objs := objs) i.size _ (fun x u h => RepD_mono hl.pres x u h) 0 hall hr (fun j u hu => ?_)⟩
    rw [Nat.zero_add]
    have hj : j < els.length * i.size := by rw [← hlv]; exact (List.getElem?_eq_some_iff.1 hu).1
    refine ⟨.inr ⟨rfl, hj⟩, ?_⟩
    rw [cell_of_row _ _ j C e (0, 0) hnew]
    rw [← htake, List.getElem?_take_of_lt hj] at hu
    simpa using hu
  · simp
  · rw [← hsat.len]; simp
theorem grown_room {e : TypeId} {i : TypeInfo} {z : Value} (hzs : z.cells.size = i.size) (n old : Nat) (vals : List Value) (hlv : vals.length = n * i.size) (hn : n ≤ maxLen) (w : World) :
    ((vals.toArray ++ Builtin.zeroCells z.cells (grownCap w n old e - n)).size = grownCap w n old e * i.size) ∧ (vals.toArray ++ Builtin.zeroCells z.cells (grownCap w n old e - n)).toList.take (n * i.size) = vals ∧ n ≤ grownCap w n old e ∧ grownCap w n old e ≤ maxLen := by
  have hge := grownCap_ge w n old e
  refine ⟨?_, ?_, hge, grownCap_le_maxLen w n old e hn⟩
  · simp only [Array.size_append, List.size_toArray, size_zeroCells, hzs, hlv, ← Nat.add_mul]
    congr 1
    omega
  · simp only [Array.toList_append]
    rw [← hlv]
    exact List.take_left
theorem isEmpty_false {α : Type} {l : List α} (h : l.isEmpty = false) : l ≠ [] := by cases l <;> simp_all
theorem app_all {els els' : List (List D)} {n : Nat} (h1 : ∀ el ∈ els, el.length = n) (h2 : ∀ el ∈ els', el.length = n) : ∀ el ∈ els ++ els', el.length = n := by
  intro el h
  rcases List.mem_append.1 h with h | h
  · exact h1 el h
  · exact h2 el h
theorem two_args {args : Array Operand} {x' y' : Opnd} (h : opndsI args.toList = some [x', y']) : ∃ x y, args = #[x, y] ∧ opndI x = some x' ∧ opndI y = some y' := by
  cases hl : args.toList with
  | nil => simp [hl, opndsI] at h
  | cons x r =>
    rw [hl] at h
    unfold opndsI at h
    cases h1 : opndI x with
    | none => simp [h1] at h
    | some p => cases h2 : opndsI r with
      | none => simp [h1, h2] at h
      | some ps =>
        simp [h1, h2] at h
        obtain ⟨rfl, rfl⟩ := h
        cases r with
        | nil => simp [opndsI] at h2
        | cons y r2 =>
          unfold opndsI at h2
          cases h3 : opndI y with
          | none => simp [h3] at h2
          | some p2 => cases h4 : opndsI r2 with
            | none => simp [h3, h4] at h2
            | some ps2 =>
              simp [h3, h4] at h2
              obtain ⟨rfl, rfl⟩ := h2
              cases r2 with
              | nil =>
                refine ⟨x, y, ?_, h1, h3⟩
                apply Array.toList_inj.1
                simpa using hl
              | cons z r3 =>
                unfold opndsI at h4
                cases h5 : opndI z <;> cases h6 : opndsI r3 <;> simp [h5, h6] at h4
/-- What is appended, at each of the three ways of a row. -/
structure AppArg (P : Program) (t u ty e : TypeId) (i : TypeInfo) (z vx : Value) (n : Nat) (news : List Value) (w : World) : Prop where
  nl : 0 < n → n ≤ maxLen → n * i.bytes ≤ 281474976710656 → (Builtin.append_ #[t, u] ty #[.slice none 0 0, vx]).run P w = .ok (.slice (some ⟨w.heap.size, 0, none⟩) n (grownCap w n 0 e)) (w.drew.alloc (.cells (news.toArray ++ Builtin.zeroCells z.cells (grownCap w n 0 e - n)) e))
  room : ∀ (g sLen sCap : Nat) (cur : Array Value), w.heap[g]? = some (.cells cur e (0, 0)) → (∀ u ∈ news, u.oneCell' = true) → sLen + n ≤ sCap → sLen * i.size + news.length ≤ cur.size →
    (Builtin.append_ #[t, u] ty #[.slice (some ⟨g, 0, none⟩) sLen sCap, vx]).run P w = .ok (.slice (some ⟨g, 0, none⟩) (sLen + n) sCap) (w.setRow g (cur.toList.take (sLen * i.size) ++ news ++ cur.toList.drop (sLen * i.size + news.length)).toArray)
  grow : ∀ (b : Addr) (sLen sCap : Nat) (olds : List Value), olds.length = sLen * i.size → (∀ (j : Nat) v, olds[j]? = some v → w.cell? (b.add j) = some v) → sCap < sLen + n → ((sLen + n : Nat) : Int) ≤ 9223372036854775807 → Builtin.nextslicecap (sLen + n) sCap * i.bytes ≤ 281474976710656 →
    (Builtin.append_ #[t, u] ty #[.slice (some b) sLen sCap, vx]).run P w = .ok (.slice (some ⟨w.heap.size, 0, none⟩) (sLen + n) (grownCap w (sLen + n) sCap e)) (w.drew.alloc (.cells (olds.toArray ++ news.toArray ++ Builtin.zeroCells z.cells (grownCap w (sLen + n) sCap e - (sLen + n))) e))
theorem app_own {t e : TypeId} {i : TypeInfo} {z : Value} {els els' : List (List D)} {b : Nat} {vs vx : Value} {xs olds news : List Value} {u : TypeId} {A : Option Addr} {c : Nat} (hsat : Sat P base w im g objs)
    (hexec : ∀ {v : Value} {w' : World}, (Builtin.append_ #[t, u] o.type #[vs, vx]).run P w = .ok v w' → (execOp a.eval o).run P w = .ok (.value v) w')
    (hu : P.underlying t = some (.slice e)) (hi : P.info? e = some i) (hz : i.zero = some z) (hzs : z.cells.size = i.size) (hs0 : 0 < i.size) (hob : objs[b]? = some (.buf e els.length)) (hg : g[b]? = some vs) (hown : w.ownsRow base e i.size vs els.length xs)
    (hv : vs = .slice A els.length c) (hol : olds.length = els.length * i.size) (hoa : ∀ el ∈ els, el.length = i.size) (hop : els ≠ [] → ∃ b q, A = some ⟨b, q, none⟩ ∧ ∀ (j : Nat) u, olds[j]? = some u → im b (q + j) ∧ w.cell? ⟨b, q + j, none⟩ = some u)
    (hnl : news.length = els'.length * i.size) (harg : AppArg P t u o.type e i z vx els'.length news w)
    (hpos : 0 < els'.length) (hbytes : (els.length + els'.length) * i.bytes ≤ 140737488355328) (hmax : els.length + els'.length ≤ maxLen) (hall : ∀ el ∈ els ++ els', el.length = i.size) (hlv : (olds ++ news).length = (els ++ els').length * i.size) (hrl : RepL w im g objs ((els ++ els').flatten.map .d) (olds ++ news)) :
    OpOK P base o a w im g objs (.ok (.own (els ++ els') b) (objs.set b (.buf e (els.length + els'.length)))) := by
  have hne : els ++ els' ≠ [] := by
    intro h
    have := congrArg List.length h
    rw [List.length_append, List.length_nil] at this
    omega
  have hglt : b < g.length := (List.getElem?_eq_some_iff.1 hg).1
  have holt : b < objs.length := (List.getElem?_eq_some_iff.1 hob).1
  have hlen2 : (els ++ els').length = els.length + els'.length := List.length_append
  /- where the row moves to a new block -/
  have grown : ∀ old, (Builtin.append_ #[t, u] o.type #[vs, vx]).run P w = .ok (.slice (some ⟨w.heap.size, 0, none⟩) (els.length + els'.length) (grownCap w (els.length + els'.length) old e)) (w.drew.alloc (.cells ((olds ++ news).toArray ++ Builtin.zeroCells z.cells (grownCap w (els.length + els'.length) old e - (els.length + els'.length))) e)) →
      OpOK P base o a w im g objs (.ok (.own (els ++ els') b) (objs.set b (.buf e (els.length + els'.length)))) := by
    intro old hrun
    rw [hlen2] at hlv
    obtain ⟨g1, g2, g3, g4⟩ := grown_room (e := e) hzs (els.length + els'.length) old (olds ++ news) hlv hmax w
    generalize hC : (olds ++ news).toArray ++ Builtin.zeroCells z.cells (grownCap w (els.length + els'.length) old e - (els.length + els'.length)) = C at *
    generalize hcap : grownCap w (els.length + els'.length) old e = cap at *
    have hnew : (w.drew.alloc (.cells C e)).heap[w.heap.size]? = some (.cells C e (0, 0)) := heap_alloc_new w.drew _
    obtain ⟨hl, hs'⟩ := hsat.turn (w' := w.drew.alloc (.cells C e)) (im' := fun b x => im b x ∨ (b = w.heap.size ∧ x < (els.length + els'.length) * i.size)) b _ (.buf e (els.length + els'.length)) vs (.slice (some ⟨w.heap.size, 0, none⟩) (els.length + els'.length) cap) hob hg (by simp) (fun k hk _ => heap_alloc_old w.drew _ k hk) rfl rfl rfl
      (fun _ _ h => .inl h) (fun k x h _ => World.cell?_of_block (heap_alloc_old w.drew _ k (hsat.imm k x h))) (fun k x h => by
        rcases h with h | ⟨rfl, h⟩
        · exact .inl h
        · exact .inr (.inl ⟨by simp, rfl, e, _, i, rfl, hi, h⟩))
      (fun k hk => by simp [blk] at hk; exact .inr (by omega)) (.inr (.inl ⟨e, _, _, rfl, rfl, by omega, fun h => by omega⟩)) (fun hle => by
        unfold ObjOK
        exact ⟨i, olds ++ news, hi, hs0, .inl ⟨hlv, .inr ⟨w.heap.size, cap, C, rfl, hsat.low, hnew, g3, g4, g1, g2⟩⟩⟩)
    refine opok_val (hexec hrun) hl hs' ?_
    unfold Rep
    refine ⟨?_, e, els.length + els'.length, by rw [List.getElem?_set_self holt], by rw [hlen2]; exact Nat.le_refl _, fun _ => by rw [List.getElem?_set_self hglt]⟩
    unfold RepD
    refine .inr ⟨w.heap.size, 0, cap, i.size, by rw [hlen2], by rw [hlen2]; exact g3, rep_els (g := g) (objs := objs) i.size _ (fun x u h => RepD_mono hl.pres x u h) 0 hall hrl (fun j u hu => ?_)⟩
    rw [Nat.zero_add]
    have hj : j < (els.length + els'.length) * i.size := by rw [← hlv]; exact (List.getElem?_eq_some_iff.1 hu).1
    refine ⟨.inr ⟨rfl, hj⟩, ?_⟩
    rw [cell_of_row _ _ j C e (0, 0) hnew]
    rw [← g2, List.getElem?_take_of_lt hj] at hu
    simpa using hu
  rcases hown.2 with ⟨hvn, hn0⟩ | ⟨gk, cap, cur, hvs, hbase, hgk, hnc, hcm, hcs, htake⟩
  · have h0 : els = [] := List.eq_nil_of_length_eq_zero hn0
    subst h0
    have hol0 : olds = [] := List.eq_nil_of_length_eq_zero (by simpa using hol)
    subst hol0
    refine grown 0 ?_
    rw [hvn]
    have := harg.nl hpos (by simpa using hmax) (by simp at hbytes; omega)
    simpa using this
  · have hox : olds = cur.toList.take (els.length * i.size) := by
      by_cases h0 : els = []
      · subst h0
        have hol0 : olds = [] := List.eq_nil_of_length_eq_zero (by simpa using hol)
        rw [hol0]; simp
      · obtain ⟨b0, q0, hA, hc0⟩ := hop h0
        rw [hvs] at hv
        injection hv with hA2
        rw [hA] at hA2
        injection hA2 with hA2
        injection hA2 with e1 e2
        subst e1 e2
        apply List.ext_getElem?
        intro j
        by_cases hj : j < els.length * i.size
        · obtain ⟨_, hcell⟩ := hc0 j olds[j] (List.getElem?_eq_getElem (by omega))
          rw [Nat.zero_add, cell_of_row w gk j cur e (0, 0) hgk] at hcell
          rw [List.getElem?_take_of_lt hj, List.getElem?_eq_getElem (by omega), Array.getElem?_toList, hcell]
        · rw [List.getElem?_eq_none (by omega), List.getElem?_eq_none (by rw [List.length_take]; omega)]
    have hcurl : cur.toList.length = cap * i.size := by simpa using hcs
    by_cases hroom : els.length + els'.length ≤ cap
    · have hfit : els.length * i.size + news.length ≤ cur.size := by rw [hnl, hcs, ← Nat.add_mul]; exact Nat.mul_le_mul_right _ hroom
      have hone : ∀ u ∈ news, u.oneCell' = true := by
        intro u hu'
        obtain ⟨j, hj⟩ := List.mem_iff_getElem?.1 hu'
        have hr := hrl.drop olds.length
        rw [List.drop_left] at hr
        obtain ⟨x, hx⟩ : ∃ p, (((els ++ els').flatten.map PV.d).drop olds.length)[j]? = some p := by
          refine ⟨_, List.getElem?_eq_getElem ?_⟩
          rw [hr.length]
          exact (List.getElem?_eq_some_iff.1 hj).1
        obtain ⟨v', hv', hrv⟩ := hr.get hx
        rw [hj] at hv'; injection hv' with hv'; subst hv'
        rw [List.getElem?_drop, List.getElem?_map] at hx
        obtain ⟨d, _, rfl⟩ := Option.map_eq_some_iff.1 hx
        exact Rep_one rfl hrv
      have hrun := harg.room gk els.length cap cur hgk hone hroom hfit
      rw [← hvs] at hrun
      generalize hC : (cur.toList.take (els.length * i.size) ++ news ++ cur.toList.drop (els.length * i.size + news.length)).toArray = C at *
      have hnew : (w.setRow gk C).heap[gk]? = some (.cells C e (0, 0)) := setRow_heap w gk cur C e _ hgk
      have hCl : C.toList = olds ++ news ++ cur.toList.drop (els.length * i.size + news.length) := by rw [← hC, hox]
      have hCtake : C.toList.take ((els.length + els'.length) * i.size) = olds ++ news := by
        rw [hCl, ← hlen2, ← hlv]; exact List.take_left
      have hCsize : C.size = cap * i.size := by
        rw [← Array.length_toList, hCl, List.length_append, List.length_append, List.length_drop, hol, hcurl]
        rw [hcs] at hfit
        omega
      obtain ⟨hl, hs'⟩ := hsat.turn (w' := w.setRow gk C) (im' := fun b x => im b x ∨ (b = gk ∧ x < (els.length + els'.length) * i.size)) b _ (.buf e (els.length + els'.length)) vs (.slice (some ⟨gk, 0, none⟩) (els.length + els'.length) cap) hob hg (by simp) (fun k hk hn => setRow_other w gk k C (fun h => hn (by rw [hvs, h]; rfl))) rfl rfl rfl
        (fun _ _ h => .inl h) (fun k x h hbk => by
          rw [hvs] at hbk
          simp only [blk, Option.some.injEq] at hbk
          subst hbk
          obtain ⟨e', n', inf, q1, q2, q3⟩ := hsat.immg gk x h b vs hg (by rw [hvs]; rfl)
          rw [hob] at q1; injection q1 with q1; injection q1 with q1 q1'; subst q1 q1'
          rw [hi] at q2; injection q2 with q2; subst q2
          rw [cell_of_row _ gk x C e (0, 0) hnew, cell_of_row w gk x cur e (0, 0) hgk, ← Array.getElem?_toList, ← Array.getElem?_toList, hCl, List.append_assoc, List.getElem?_append_left (by omega), hox, List.getElem?_take_of_lt q3])
        (fun k x h => by
          rcases h with h | ⟨rfl, h⟩
          · exact .inl h
          · exact .inr (.inl ⟨by rw [size_setRow]; exact (Array.getElem?_eq_some_iff.1 hgk).1, rfl, e, _, i, rfl, hi, h⟩))
        (fun k hk => .inl (by rw [hvs]; exact hk)) (.inr (.inl ⟨e, _, _, rfl, rfl, by omega, fun h => by omega⟩)) (fun hle => by
          unfold ObjOK
          exact ⟨i, olds ++ news, hi, hs0, .inl ⟨by rw [← hlen2]; exact hlv, .inr ⟨gk, cap, C, rfl, hbase, hnew, hroom, hcm, hCsize, hCtake⟩⟩⟩)
      refine opok_val (hexec hrun) hl hs' ?_
      unfold Rep
      refine ⟨?_, e, els.length + els'.length, by rw [List.getElem?_set_self holt], by rw [hlen2]; exact Nat.le_refl _, fun _ => by rw [List.getElem?_set_self hglt]⟩
      unfold RepD
      refine .inr ⟨gk, 0, cap, i.size, by rw [hlen2], by rw [hlen2]; exact hroom, rep_els (g := g) (objs := objs) i.size _ (fun x u h => RepD_mono hl.pres x u h) 0 hall hrl (fun j u hu => ?_)⟩
      rw [Nat.zero_add]
      have hj : j < (els.length + els'.length) * i.size := by rw [← hlen2, ← hlv]; exact (List.getElem?_eq_some_iff.1 hu).1
      refine ⟨.inr ⟨rfl, hj⟩, ?_⟩
      rw [cell_of_row _ _ j C e (0, 0) hnew]
      rw [← hCtake, List.getElem?_take_of_lt hj] at hu
      simpa using hu
    · refine grown cap ?_
      rw [hvs]
      have := harg.grow ⟨gk, 0, none⟩ els.length cap olds hol (fun j u hj => by
        rw [Addr.add_lit, Nat.zero_add, cell_of_row w gk j cur e (0, 0) hgk]
        rw [hox, List.getElem?_take] at hj
        split at hj
        · simpa using hj
        · cases hj) (by omega) (by unfold maxLen at hmax; omega) (growslice_fits (by omega) hbytes)
      rw [this, show olds.toArray ++ news.toArray = (olds ++ news).toArray from by simp]
/-- A new row that may be written. -/
theorem new_vec (hsat : Sat P base w im g objs) {e : TypeId} {i : TypeInfo} (hi : P.info? e = some i) (hs0 : 0 < i.size) {els : List (List D)} {vals : List Value} {cap : Nat} {C : Array Value} (hall : ∀ el ∈ els, el.length = i.size) (hlv : vals.length = els.length * i.size) (hr : RepL w im g objs (els.flatten.map .d) vals)
    (hC : C.size = cap * i.size) (htake : C.toList.take (els.length * i.size) = vals) (hcap : els.length ≤ cap) (hmax : cap ≤ maxLen) :
    Le w im g objs (w.drew.alloc (.cells C e)) im (g ++ [hdV w.heap.size cap]) (objs ++ [.vec e els]) ∧ Sat P base (w.drew.alloc (.cells C e)) im (g ++ [hdV w.heap.size cap]) (objs ++ [.vec e els]) ∧
    Rep (w.drew.alloc (.cells C e)) im (g ++ [hdV w.heap.size cap]) (objs ++ [.vec e els]) (.sl objs.length els.length i.size 0 els.length) (.slice (some ⟨w.heap.size, 0, none⟩) els.length cap) := by
  have hnew : (w.drew.alloc (.cells C e)).heap[w.heap.size]? = some (.cells C e (0, 0)) := heap_alloc_new w.drew _
  obtain ⟨hl, hs⟩ := hsat.push (w' := w.drew.alloc (.cells C e)) (im' := im) (hdV w.heap.size cap) (.vec e els) (by simp) (fun k hk => heap_alloc_old w.drew _ k hk) rfl rfl rfl
    (fun b x h => h) (fun b x h => .inl h)
    (fun k hk => by simp [hdV, blk] at hk; omega)
    (fun hl => by
      unfold ObjOK
      exact ⟨i, w.heap.size, cap, C, hi, hs0, rfl, hsat.low, hnew, hcap, hmax, hC, hall, by rw [htake]; exact hsat.monoL hl hr⟩)
  refine ⟨hl, hs, ?_⟩
  unfold Rep
  refine ⟨w.heap.size, cap, by rw [Nat.zero_mul], hcap, .vec e els, e, els.length, by simp, rfl, Nat.le_refl _, fun _ => ⟨hdV w.heap.size cap, cap, by rw [← hsat.len]; simp, .inl rfl, fun _ => rfl, by omega⟩⟩
theorem flatten_take (sz : Nat) : ∀ (els : List (List D)) (n : Nat), (∀ el ∈ els, el.length = sz) → (els.take n).flatten = els.flatten.take (n * sz)
  | [], n, _ => by simp
  | x :: r, 0, _ => by simp
  | x :: r, n + 1, h => by
    have hl := h x (by simp)
    rw [List.take_succ_cons, List.flatten_cons, List.flatten_cons, flatten_take sz r n (fun y hy => h y (by simp [hy])), List.take_append, hl, List.take_of_length_le (l := x) (by rw [hl, Nat.add_mul]; omega), show (n + 1) * sz - sz = n * sz from by rw [Nat.add_mul]; omega]
theorem flatten_drop (sz : Nat) : ∀ (els : List (List D)) (n : Nat), (∀ el ∈ els, el.length = sz) → (els.drop n).flatten = els.flatten.drop (n * sz)
  | [], n, _ => by simp
  | x :: r, 0, _ => by simp
  | x :: r, n + 1, h => by
    have hl := h x (by simp)
    rw [List.drop_succ_cons, List.flatten_cons, flatten_drop sz r n (fun y hy => h y (by simp [hy])), List.drop_append, hl, List.drop_of_length_le (l := x) (by rw [hl, Nat.add_mul]; omega), List.nil_append, show (n + 1) * sz - sz = n * sz from by rw [Nat.add_mul]; omega]
/-- Elements onto a part of a row that may be written. -/
theorem app_vec {t e : TypeId} {i : TypeInfo} {z : Value} {els els' : List (List D)} {id n : Nat} {vs vx : Value} {news : List Value} {u : TypeId} (hsat : Sat P base w im g objs)
    (hexec : ∀ {v : Value} {w' : World}, (Builtin.append_ #[t, u] o.type #[vs, vx]).run P w = .ok v w' → (execOp a.eval o).run P w = .ok (.value v) w')
    (hi : P.info? e = some i) (hzs : z.cells.size = i.size) (hby : i.bytes ≤ 1024) (hob : objs[id]? = some (.vec e els)) (hr : Rep w im g objs (.sl id els.length i.size 0 n) vs) (hn : n ≤ els.length)
    (hna : ∀ el ∈ els', el.length = i.size) (hnl : news.length = els'.length * i.size) (hnr : RepL w im g objs (els'.flatten.map .d) news) (harg : AppArg P t u o.type e i z vx els'.length news w) (hpos : 0 < els'.length) (hbig : n + els'.length < bigLen) :
    OpOK P base o a w im g objs (.ok (.sl id (if n + els'.length ≤ els.length then els.length else n + els'.length) i.size 0 (n + els'.length)) (objs.set id (.vec e (if n + els'.length ≤ els.length then els.take n ++ els' ++ els.drop (n + els'.length) else els.take n ++ els')))) := by
  unfold Rep at hr
  obtain ⟨k, c, hv, hnc, hr⟩ := hr
  obtain ⟨uu, cap, hu, hh, hcap, _⟩ := hr.at hob (e := e) rfl
  have hok := hsat.obj id _ uu hob hu
  unfold ObjOK at hok
  obtain ⟨i', k', cap', cur, hi', hs0, rfl, hb', hheap, h4, h5, h6, h7, hrep⟩ := hok
  obtain ⟨rfl, rfl⟩ := isHd_vec hh
  rw [hi] at hi'; injection hi' with hi'; subst hi'
  have hc := hcap rfl
  subst hc
  rw [Nat.zero_mul] at hv
  subst hv
  have hglt : id < g.length := (List.getElem?_eq_some_iff.1 hu).1
  have holt : id < objs.length := (List.getElem?_eq_some_iff.1 hob).1
  have hone : ∀ v ∈ news, v.oneCell' = true := all_one_cells hnr (by simp [PV.one])
  have hm1 : els.length * i.size ≤ c * i.size := Nat.mul_le_mul_right _ h4
  have hm2 : n * i.size ≤ els.length * i.size := Nat.mul_le_mul_right _ hn
  have hol : RepL w im g objs ((els.take n).flatten.map .d) (cur.toList.take (n * i.size)) := by
    have := hrep.take (n * i.size)
    rwa [← List.map_take, ← flatten_take i.size els n h7, List.take_take, Nat.min_eq_left hm2] at this
  have htk : ∀ el ∈ els.take n ++ els', el.length = i.size := fun el h => by
    rcases List.mem_append.1 h with h | h
    · exact h7 el (List.mem_of_mem_take h)
    · exact hna el h
  have hlt : (els.take n).length = n := by simp; omega
  by_cases hroom : n + els'.length ≤ c
  · /- in its block -/
    have hm3 : (n + els'.length) * i.size ≤ c * i.size := Nat.mul_le_mul_right _ hroom
    rw [Nat.add_mul] at hm3
    have hrun := harg.room k n c cur hheap hone hroom (by rw [hnl, h6]; exact hm3)
    generalize hC : (cur.toList.take (n * i.size) ++ news ++ cur.toList.drop (n * i.size + news.length)).toArray = C at hrun
    have hCl : C.toList = cur.toList.take (n * i.size) ++ news ++ cur.toList.drop (n * i.size + news.length) := by rw [← hC]
    have hCs : C.size = c * i.size := by
      rw [← Array.length_toList, hCl]
      simp only [List.length_append, List.length_take, List.length_drop, Array.length_toList, hnl, h6]
      omega
    have hnew : (w.setRow k C).heap[k]? = some (.cells C e (0, 0)) := setRow_heap w k cur C e _ hheap
    have hcl : RepL w im g objs ((els.take n ++ els').flatten.map .d) (cur.toList.take (n * i.size) ++ news) := by
      rw [List.flatten_append, List.map_append]; exact hol.app hnr
    have hcl0 : (cur.toList.take (n * i.size) ++ news).length = (n + els'.length) * i.size := by
      simp only [List.length_append, List.length_take, Array.length_toList, hnl, h6, Nat.add_mul]; omega
    have fin : ∀ (els2 : List (List D)) (ver2 : Nat), ver2 = els2.length → els.length ≤ els2.length → els2.length ≤ c → n + els'.length ≤ els2.length → (∀ el ∈ els2, el.length = i.size) → RepL w im g objs (els2.flatten.map .d) (C.toList.take (els2.length * i.size)) →
        OpOK P base o a w im g objs (.ok (.sl id ver2 i.size 0 (n + els'.length)) (objs.set id (.vec e els2))) := by
      intro els2 ver2 hver hle2 hlc hnle hall2 hrep2
      obtain ⟨hl', hs'⟩ := hsat.turn (w' := w.setRow k C) (im' := im) id (.vec e els) (.vec e els2) _ (hdV k c) hob hu (by simp)
        (fun q hq hn => setRow_other w k q _ (fun h => hn (by subst h; rfl))) rfl rfl rfl (fun _ _ h => h)
        (fun b x hi' hbk => by
          obtain ⟨e', n, inf, q1, _⟩ := hsat.immg b x hi' id _ hu hbk
          rw [hob] at q1; cases q1)
        (fun b x h => .inl h) (fun _ h => .inl h) (.inr (.inr (.inl ⟨e, els, els2, rfl, .inl rfl, hle2, fun _ => .inl rfl⟩))) (fun hle => by
          unfold ObjOK
          exact ⟨i, k, c, C, hi, hs0, rfl, hb', hnew, hlc, h5, hCs, hall2, hsat.monoL hle hrep2⟩)
      refine opok_val (hexec hrun) hl' hs' ?_
      unfold Rep
      exact ⟨k, c, by rw [Nat.zero_mul], hroom, .vec e els2, e, els2.length, by rw [List.getElem?_set_self holt], rfl, by omega, fun _ => ⟨hdV k c, c, by rw [List.getElem?_set_self hglt], .inl rfl, fun _ => rfl, by omega⟩⟩
    by_cases hin : n + els'.length ≤ els.length
    · rw [if_pos hin, if_pos hin]
      have hlen2 : (els.take n ++ els' ++ els.drop (n + els'.length)).length = els.length := by
        simp only [List.length_append, hlt, List.length_drop]; omega
      refine fin _ _ hlen2.symm (by omega) (by omega) (by omega) (fun el h => ?_) ?_
      · rcases List.mem_append.1 h with h | h
        · exact htk el h
        · exact h7 el (List.mem_of_mem_drop h)
      · rw [hlen2, hCl, List.flatten_append, List.map_append]
        have hm4 : (n + els'.length) * i.size ≤ els.length * i.size := Nat.mul_le_mul_right _ hin
        rw [List.take_append, List.take_of_length_le (l := cur.toList.take (n * i.size) ++ news) (by rw [hcl0]; exact hm4), hcl0]
        refine hcl.app ?_
        have := hrep.drop ((n + els'.length) * i.size)
        rw [← List.map_drop, ← flatten_drop i.size els _ h7, List.drop_take] at this
        rwa [hnl, ← Nat.add_mul]
    · rw [if_neg hin, if_neg hin]
      have hlen2 : (els.take n ++ els').length = n + els'.length := by rw [List.length_append, hlt]
      refine fin _ _ hlen2.symm (by omega) (by omega) (by omega) htk ?_
      rw [hlen2, hCl, List.take_append, List.take_of_length_le (l := cur.toList.take (n * i.size) ++ news) (by rw [hcl0]; exact Nat.le_refl _), hcl0, Nat.sub_self]
      simpa using hcl
  · /- in a new block -/
    have hin : ¬ n + els'.length ≤ els.length := by omega
    rw [if_neg hin, if_neg hin]
    have hlen2 : (els.take n ++ els').length = n + els'.length := by rw [List.length_append, hlt]
    have hmax : n + els'.length ≤ maxLen := by unfold maxLen; unfold bigLen at hbig; omega
    have hbytes : (n + els'.length) * i.bytes ≤ 140737488355328 := by
      unfold bigLen at hbig
      have := Nat.mul_le_mul (Nat.le_of_lt hbig) hby
      omega
    have hoL : (cur.toList.take (n * i.size)).length = n * i.size := by simp; omega
    have hrun := harg.grow ⟨k, 0, none⟩ n c (cur.toList.take (n * i.size)) hoL (fun j u hj => by
      rw [Addr.add_lit, Nat.zero_add, cells_at hheap]
      rw [List.getElem?_take] at hj
      split at hj
      · simpa using hj
      · cases hj) (by omega) (by unfold maxLen at hmax; omega) (growslice_fits (by omega) hbytes)
    have hlv : (cur.toList.take (n * i.size) ++ news).length = (n + els'.length) * i.size := by rw [List.length_append, hoL, hnl, Nat.add_mul]
    obtain ⟨g1, g2, g3, g4⟩ := grown_room (e := e) hzs (n + els'.length) c (cur.toList.take (n * i.size) ++ news) hlv hmax w
    rw [show (cur.toList.take (n * i.size)).toArray ++ news.toArray = (cur.toList.take (n * i.size) ++ news).toArray from by simp] at hrun
    generalize hC : (cur.toList.take (n * i.size) ++ news).toArray ++ Builtin.zeroCells z.cells (grownCap w (n + els'.length) c e - (n + els'.length)) = C at *
    generalize hcap2 : grownCap w (n + els'.length) c e = cap2 at *
    have hnew : (w.drew.alloc (.cells C e)).heap[w.heap.size]? = some (.cells C e (0, 0)) := heap_alloc_new w.drew _
    obtain ⟨hl, hs'⟩ := hsat.turn (w' := w.drew.alloc (.cells C e)) (im' := im) id _ (.vec e (els.take n ++ els')) _ (hdV w.heap.size cap2) hob hu (by simp) (fun k hk _ => heap_alloc_old w.drew _ k hk) rfl rfl rfl
      (fun _ _ h => h) (fun k x h _ => World.cell?_of_block (heap_alloc_old w.drew _ k (hsat.imm k x h))) (fun k x h => .inl h)
      (fun k hk => by simp [hdV, blk] at hk; exact .inr (by omega)) (.inr (.inr (.inl ⟨e, els, _, rfl, .inl rfl, by omega, fun h => by omega⟩))) (fun hle => by
        unfold ObjOK
        refine ⟨i, w.heap.size, cap2, C, hi, hs0, rfl, hsat.low, hnew, by omega, g4, g1, htk, ?_⟩
        rw [hlen2, g2, List.flatten_append, List.map_append]
        exact hsat.monoL hle (hol.app hnr))
    refine opok_val (hexec hrun) hl hs' ?_
    unfold Rep
    exact ⟨w.heap.size, cap2, by rw [Nat.zero_mul], by omega, .vec e (els.take n ++ els'), e, (els.take n ++ els').length, by rw [List.getElem?_set_self holt], rfl, by omega, fun _ => ⟨hdV w.heap.size cap2, cap2, by rw [List.getElem?_set_self hglt], .inl rfl, fun _ => rfl, by omega⟩⟩
theorem s_app_gen {t u e : TypeId} {i : TypeInfo} {z vs vx : Value} {s' : Opnd} {els' : List (List D)} {r : Res} (hsat : Sat P base w im g objs) (rs : Rep w im g objs (opnd env s') vs)
    (hexec : ∀ {v : Value} {w' : World}, (Builtin.append_ #[t, u] o.type #[vs, vx]).run P w = .ok v w' → (execOp a.eval o).run P w = .ok (.value v) w')
    (empty : ∀ {A : Option Addr} {n c : Nat}, els'.isEmpty = true → vs = .slice A n c → n ≤ c → (Builtin.append_ #[t, u] o.type #[vs, vx]).run P w = .ok vs w)
    (hu : P.underlying t = some (.slice e)) (hi : P.info? e = some i) (hz : i.zero = some z) (hzs : z.cells.size = i.size) (hs0 : 0 < i.size) (hby : i.bytes ≤ 1024)
    (harg : els' ≠ [] → hdOk i.size els' = true → ∃ news : List Value, news.length = els'.length * i.size ∧ RepL w im g objs (els'.flatten.map .d) news ∧ (∀ el ∈ els', el.length = i.size) ∧ AppArg P t u o.type e i z vx els'.length news w)
    {vt : List TypeId} (hr : appI vt e i.size (opnd env s') els' objs = some r) : OpOK P base o a w im g objs r := by
  have emp : ∀ {els : List (List D)}, els'.isEmpty = true → RepD w im (.row els) vs → (Builtin.append_ #[t, u] o.type #[vs, vx]).run P w = .ok vs w := fun he hrd => let ⟨A, c, hv, hc⟩ := row_slice hrd; empty he hv hc
  unfold appI at hr
  split at hr
  · rename_i els hs
    rw [hs] at rs
    unfold Rep at rs
    split at hr
    · rename_i he
      injection hr with hr; subst hr
      exact opok_same hsat (hexec (emp he rs.1)) (by unfold Rep; exact rs)
    · rename_i he
      split at hr
      case isTrue =>
        split at hr
        case isFalse => cases hr
        rename_i hc
        injection hr with hr; subst hr
        simp only [Bool.and_eq_true] at hc
        obtain ⟨⟨hlen, hd1⟩, hd2⟩ := hc
        replace hlen : els.length + els'.length < 4294967296 := of_decide_eq_true hlen
        have hne : els' ≠ [] := isEmpty_false (by simpa using he)
        obtain ⟨A, c, olds, hv, hcc, hol, hor, hoa, hop⟩ := row_cells g objs rs.1 hd1
        obtain ⟨news, hnl, hnr, hna, harg⟩ := harg hne hd2
        obtain ⟨A', hA'⟩ := rs.2
        have hpos : 0 < els'.length := List.length_pos_iff.2 hne
        have hbytes : (els.length + els'.length) * i.bytes ≤ 140737488355328 := by
          have := Nat.mul_le_mul (Nat.le_of_lt hlen) hby
          omega
        have hmax : els.length + els'.length ≤ maxLen := by unfold maxLen; omega
        have hall := app_all hoa hna
        have hlv : (olds ++ news).length = (els ++ els').length * i.size := by rw [List.length_append, hol, hnl, List.length_append, Nat.add_mul]
        have hrl : RepL w im g objs ((els ++ els').flatten.map .d) (olds ++ news) := by
          rw [List.flatten_append, List.map_append]; exact hor.app hnr
        by_cases h0 : els = []
        · subst h0
          have hol0 : olds = [] := List.eq_nil_of_length_eq_zero (by simpa using hol)
          subst hol0
          simp only [List.length_nil, Nat.zero_add, List.nil_append] at *
          obtain ⟨g1, g2, g3, g4⟩ := grown_room (e := e) hzs els'.length 0 news hnl hmax w
          obtain ⟨hl, hs', hrep⟩ := new_vec hsat hi hs0 (cap := grownCap w els'.length 0 e) hna hnl hnr g1 g2 g3 g4
          refine opok_val (hexec ?_) hl hs' hrep
          cases A' with
          | none =>
            rw [hA']
            exact harg.nl hpos hmax (by omega)
          | some ad =>
            rw [hA']
            have := harg.grow ad 0 0 [] (by simp) (by simp) (by omega) (by unfold maxLen at hmax; omega) (growslice_fits (by omega) (by simpa using hbytes))
            simpa using this
        · obtain ⟨b0, q0, hA0, hcells0⟩ := hop h0
          subst hA0
          have hcap : c = els.length := by rw [hv] at hA'; injection hA'
          have hap : A' = some ⟨b0, q0, none⟩ := by rw [hv] at hA'; injection hA' with e1; exact e1.symm
          obtain ⟨g1, g2, g3, g4⟩ := grown_room (e := e) hzs (els ++ els').length els.length (olds ++ news) hlv (by rw [List.length_append]; exact hmax) w
          obtain ⟨hl, hs', hrep⟩ := new_vec hsat hi hs0 (cap := grownCap w (els ++ els').length els.length e) hall hlv hrl g1 g2 g3 g4
          rw [List.length_append] at hrep hl hs'
          refine opok_val (hexec ?_) hl hs' hrep
          rw [hA', hap]
          have := harg.grow ⟨b0, q0, none⟩ els.length els.length olds hol (fun j u hj => by rw [Addr.add_lit]; exact (hcells0 j u hj).2) (by omega) (by unfold maxLen at hmax; omega) (growslice_fits (by omega) hbytes)
          rw [this, show olds.toArray ++ news.toArray = (olds ++ news).toArray from by simp]
      split at hr
      · rename_i hc
        injection hr with hr; subst hr
        simp only [Bool.and_eq_true] at hc
        obtain ⟨⟨hlen, hd1⟩, hd2⟩ := hc
        replace hlen : els.length + els'.length < 4294967296 := of_decide_eq_true hlen
        have hne : els' ≠ [] := isEmpty_false (by simpa using he)
        obtain ⟨A, c, olds, hv, hcc, hol, hor, hoa, hop⟩ := row_cells g objs rs.1 hd1
        obtain ⟨news, hnl, hnr, hna, harg⟩ := harg hne hd2
        obtain ⟨A', hA'⟩ := rs.2
        have hpos : 0 < els'.length := List.length_pos_iff.2 hne
        have hbytes : (els.length + els'.length) * i.bytes ≤ 140737488355328 := by
          have := Nat.mul_le_mul (Nat.le_of_lt hlen) hby
          omega
        have hmax : els.length + els'.length ≤ maxLen := by unfold maxLen; omega
        have hall := app_all hoa hna
        have hlv : (olds ++ news).length = (els ++ els').length * i.size := by rw [List.length_append, hol, hnl, List.length_append, Nat.add_mul]
        have hrl : RepL w im g objs ((els ++ els').flatten.map .d) (olds ++ news) := by
          rw [List.flatten_append, List.map_append]; exact hor.app hnr
        have hne2 : els ++ els' ≠ [] := by simp [hne]
        by_cases h0 : els = []
        · subst h0
          have hol0 : olds = [] := List.eq_nil_of_length_eq_zero (by simpa using hol)
          subst hol0
          simp only [List.length_nil, Nat.zero_add, List.nil_append] at *
          obtain ⟨g1, g2, g3, g4⟩ := grown_room (e := e) hzs els'.length 0 news hnl hmax w
          obtain ⟨hl, hs', hrep⟩ := new_buf hsat hi hs0 (cap := grownCap w els'.length 0 e) hne hna hnl hnr g1 g2 g3 g4
          refine opok_val (hexec ?_) hl hs' hrep
          cases A' with
          | none =>
            rw [hA']
            exact harg.nl hpos hmax (by omega)
          | some ad =>
            rw [hA']
            have := harg.grow ad 0 0 [] (by simp) (by simp) (by omega) (by unfold maxLen at hmax; omega) (growslice_fits (by omega) (by simpa using hbytes))
            simpa using this
        · obtain ⟨b0, q0, hA0, hcells0⟩ := hop h0
          subst hA0
          have hcap : c = els.length := by rw [hv] at hA'; injection hA'
          have hap : A' = some ⟨b0, q0, none⟩ := by rw [hv] at hA'; injection hA' with e1; exact e1.symm
          obtain ⟨g1, g2, g3, g4⟩ := grown_room (e := e) hzs (els ++ els').length els.length (olds ++ news) hlv (by rw [List.length_append]; exact hmax) w
          obtain ⟨hl, hs', hrep⟩ := new_buf hsat hi hs0 (cap := grownCap w (els ++ els').length els.length e) hne2 hall hlv hrl g1 g2 g3 g4
          rw [List.length_append] at hl hs' hrep
          refine opok_val (hexec ?_) hl hs' hrep
          rw [hA', hap]
          have := harg.grow ⟨b0, q0, none⟩ els.length els.length olds hol (fun j u hj => by rw [Addr.add_lit]; exact (hcells0 j u hj).2) (by omega) (by unfold maxLen at hmax; omega) (growslice_fits (by omega) hbytes)
          rw [this, show olds.toArray ++ news.toArray = (olds ++ news).toArray from by simp]
      · cases hr
  · rename_i els b hs
    rw [hs] at rs
    have rs0 := rs
    unfold Rep at rs
    split at hr
    · rename_i e' n' hob
      split at hr
      · rename_i hc
        injection hr with hr; subst hr
        simp only [Bool.and_eq_true] at hc
        obtain ⟨⟨⟨⟨he, hn⟩, hlen⟩, hd1⟩, hd2⟩ := hc
        replace hlen : els.length + els'.length < 4294967296 := of_decide_eq_true hlen
        have he : e' = e := of_decide_eq_true he
        have hn : n' = els.length := of_decide_eq_true hn
        subst he hn
        have hob' := getD_some hob (by simp)
        obtain ⟨hrow, e2, m2, hb2, _, hg2⟩ := rs
        rw [hob'] at hb2
        injection hb2 with hb2
        injection hb2 with q1 q2
        subst q1 q2
        have hg := hg2 rfl
        obtain ⟨i2, xs, hi2, _, hown⟩ := hsat.obj b _ _ hob' hg
        replace hown := hown.resolve_right (fun h => by have := h.1; unfold bigLen at this; omega)
        rw [hi] at hi2; injection hi2 with hi2; subst hi2
        by_cases hemp : els' = []
        · subst hemp
          have hset : objs.set b (.buf e' (els.length + 0)) = objs := by
            apply List.ext_getElem?
            intro j
            by_cases hj : j = b
            · subst hj; rw [List.getElem?_set_self (List.getElem?_eq_some_iff.1 hob').1, hob']; rfl
            · rw [List.getElem?_set_ne (Ne.symm hj)]
          simp only [List.append_nil, List.length_nil, hset]
          exact opok_same hsat (hexec (emp rfl hrow)) rs0
        · obtain ⟨A, c, olds, hv, hcc, hol, hor, hoa, hop⟩ := row_cells g objs hrow hd1
          obtain ⟨news, hnl, hnr, hna, harg⟩ := harg hemp hd2
          have hpos : 0 < els'.length := List.length_pos_iff.2 hemp
          have hbytes : (els.length + els'.length) * i.bytes ≤ 140737488355328 := by
            have := Nat.mul_le_mul (Nat.le_of_lt hlen) hby
            omega
          have hmax : els.length + els'.length ≤ maxLen := by unfold maxLen; omega
          have hall := app_all hoa hna
          have hlv : (olds ++ news).length = (els ++ els').length * i.size := by rw [List.length_append, hol, hnl, List.length_append, Nat.add_mul]
          have hrl : RepL w im g objs ((els ++ els').flatten.map .d) (olds ++ news) := by
            rw [List.flatten_append, List.map_append]; exact hor.app hnr
          exact app_own hsat hexec hu hi hz hzs hs0 hob' hg hown hv hol hoa hop hnl harg hpos hbytes hmax hall hlv hrl
      · cases hr
    · cases hr
  · rename_i els hs
    rw [hs] at rs
    split at hr
    · rename_i he
      injection hr with hr; subst hr
      exact opok_same hsat (hexec (emp he rs)) rs
    · cases hr
  · rename_i id ver sz' lo n hs
    split at hr <;> first | (cases hr; done) | skip
    rename_i e' els hob
    split at hr <;> first | (cases hr; done) | skip
    rename_i hc
    obtain ⟨rfl, rfl, rfl, rfl, hn, hbig, hd⟩ := hc
    have hob' := getD_some hob (by simp)
    rw [hs] at rs
    by_cases hemp : els' = []
    · subst hemp
      have hset : ∀ l : List (List D), l = els → objs.set id (.vec e' l) = objs := by
        rintro l rfl
        apply List.ext_getElem?
        intro j
        by_cases hj : j = id
        · subst hj; rw [List.getElem?_set_self (List.getElem?_eq_some_iff.1 hob').1, hob']
        · rw [List.getElem?_set_ne (Ne.symm hj)]
      rw [if_pos (by simpa using hn)] at hr
      injection hr with hr; subst hr
      rw [hset _ (by simp)]
      have rs0 := rs
      unfold Rep at rs
      obtain ⟨k, c, hv, hnc, _⟩ := rs
      exact opok_same hsat (hexec (empty rfl hv hnc)) rs0
    · obtain ⟨news, hnl, hnr, hna, harg⟩ := harg hemp hd
      have hpos : 0 < els'.length := List.length_pos_iff.2 hemp
      have := app_vec hsat hexec hi hzs hby hob' rs hn hna hnl hnr harg hpos hbig
      split at hr
      · rename_i hin
        injection hr with hr; subst hr
        rwa [if_pos hin, if_pos hin] at this
      · rename_i hin
        injection hr with hr; subst hr
        rwa [if_neg hin, if_neg hin] at this
  · cases hr
theorem s_app {args : Array Operand} {t e : TypeId} {i : TypeInfo} {z : Value} {s' x' : Opnd} {els' : List (List D)} {r : Res} (hsat : Sat P base w im g objs) (henv : RepL w im g objs env a.tmps.toList) (ho : o.op = .call { callee := .builtin .append, args := args, argTypes := #[t, t] }) (ha : opndsI args.toList = some [s', x'])
    (hu : P.underlying t = some (.slice e)) (hi : P.info? e = some i) (hz : i.zero = some z) (hzs : z.cells.size = i.size) (hs0 : 0 < i.size) (hby : i.bytes ≤ 1024) (hx : (opnd env x').asRow objs = some els') {vt : List TypeId} (hr : appI vt e i.size (opnd env s') els' objs = some r) : OpOK P base o a w im g objs r := by
  obtain ⟨s, x, rfl, h1, h2⟩ := two_args ha
  have rs := opnd_rep henv h1
  have rx := asRow_rep hsat hx (opnd_rep henv h2)
  have hexec : ∀ {v : Value} {w' : World}, (Builtin.append_ #[t, t] o.type #[a.eval s, a.eval x]).run P w = .ok v w' → (execOp a.eval o).run P w = .ok (.value v) w' := by
    intro v w' h
    exact exec_builtin ho (s := Builtin.append_ #[t, t] o.type #[a.eval s, a.eval x]) (fun _ => by simp [builtin]) h
  have empty : ∀ {A : Option Addr} {n c : Nat}, els'.isEmpty = true → a.eval s = .slice A n c → n ≤ c → (Builtin.append_ #[t, t] o.type #[a.eval s, a.eval x]).run P w = .ok (a.eval s) w := by
    intro A n c he hv hc
    obtain ⟨B, c2, hv2, _⟩ := row_slice rx
    rw [List.isEmpty_iff.1 he] at hv2
    rw [hv, hv2]
    exact run_app_nothing hu hi A B _ c c2 hc w
  refine s_app_gen hsat rs hexec empty hu hi hz hzs hs0 hby (fun hne hd => ?_) hr
  obtain ⟨B, c2, news, hv2, hcc2, hnl, hnr, hna, hnp⟩ := row_cells g objs rx hd
  obtain ⟨b, q, rfl, hcells⟩ := hnp hne
  refine ⟨news, hnl, hnr, hna, ?_⟩
  rw [hv2]
  exact ⟨fun h1 h2 h3 => run_append_nil (P := P) w t o.type e i z hu hi hz ⟨b, q, none⟩ els'.length c2 news hnl (fun j u hj => by rw [Addr.add_lit]; exact (hcells j u hj).2) h1 (by unfold maxLen at h2; omega) h3,
    fun gk sLen sCap cur h1 h2 h3 h4 => run_append_room (P := P) w t o.type e i hu hi gk sLen sCap cur h1 ⟨b, q, none⟩ els'.length c2 news hnl (fun j u hj => by rw [Addr.add_lit]; exact (hcells j u hj).2) h2 h3 h4,
    fun ad sLen sCap olds h1 h2 h3 h4 h5 => run_append_grow (P := P) w t o.type e i z hu hi hz ad sLen sCap olds h1 h2 ⟨b, q, none⟩ els'.length c2 news hnl (fun j u hj => by rw [Addr.add_lit]; exact (hcells j u hj).2) h3 h4 h5⟩
theorem run_app_nothing_string {t u ty e : TypeId} {i : TypeInfo} (ht : P.underlying t = some (.slice e)) (hu : P.underlying u = some .string) (hi : P.info? e = some i) (A : Option Addr) (n c : Nat) (hc : n ≤ c) (w : World) :
    (Builtin.append_ #[t, u] ty #[.slice A n c, .string ⟨#[]⟩]).run P w = .ok (.slice A n c) w := by
  have h0 : (⟨#[]⟩ : ByteArray).size = 0 := rfl
  cases A <;> simp [Builtin.append_, run_underlying ht, run_underlying hu, sizeOf, typeInfo, hi, Builtin.lenOf, hc, h0, Builtin.firstCells, storeCells]
theorem bytes_rep : ∀ l : List UInt8, RepL w im g objs ((bytesOf l).flatten.map .d) (Lib.strCells ⟨l.toArray⟩)
  | [] => trivial
  | b :: r => by
    have := bytes_rep r
    simp only [bytesOf, Lib.strCells, List.map_cons, List.flatten_cons, List.cons_append, List.nil_append] at this ⊢
    exact ⟨rfl, this⟩
theorem s_apps {args : Array Operand} {t u e : TypeId} {i : TypeInfo} {z : Value} {s' x' : Opnd} {l : List UInt8} {r : Res} (hsat : Sat P base w im g objs) (henv : RepL w im g objs env a.tmps.toList) (ho : o.op = .call { callee := .builtin .append, args := args, argTypes := #[t, u] }) (ha : opndsI args.toList = some [s', x'])
    (ht : P.underlying t = some (.slice e)) (hu : P.underlying u = some .string) (hi : P.info? e = some i) (hz : i.zero = some z) (hzs : z.cells.size = i.size) (hs1 : i.size = 1) (hby : i.bytes ≤ 1024) (hx : opnd env x' = .d (.str l)) {vt : List TypeId} (hr : appI vt e 1 (opnd env s') (bytesOf l) objs = some r) : OpOK P base o a w im g objs r := by
  obtain ⟨s, x, rfl, h1, h2⟩ := two_args ha
  have rs := opnd_rep henv h1
  have rx := opnd_rep henv h2
  rw [hx] at rx
  have rx : a.eval x = .string ⟨l.toArray⟩ := rx
  have hexec : ∀ {v : Value} {w' : World}, (Builtin.append_ #[t, u] o.type #[a.eval s, a.eval x]).run P w = .ok v w' → (execOp a.eval o).run P w = .ok (.value v) w' := by
    intro v w' h
    exact exec_builtin ho (s := Builtin.append_ #[t, u] o.type #[a.eval s, a.eval x]) (fun _ => by simp [builtin]) h
  have hlen : (bytesOf l).length = l.length := by simp [bytesOf]
  have hbs : (⟨l.toArray⟩ : ByteArray).size = l.length := by simp [ByteArray.size]
  have hcl : (Lib.strCells ⟨l.toArray⟩).length = l.length := by rw [Lib.strCells_length, hbs]
  rw [← hs1] at hr
  refine s_app_gen hsat rs hexec (fun {A n c} he hv hc => ?_) ht hi hz hzs (by omega) hby (fun hne hd => ⟨Lib.strCells ⟨l.toArray⟩, by rw [hcl, hlen, hs1, Nat.mul_one], bytes_rep l, fun el hel => ?_, ?_⟩) hr
  · have hl0 : l = [] := by
      have := List.isEmpty_iff.1 he
      simpa [bytesOf] using this
    subst hl0
    rw [hv, rx]
    exact run_app_nothing_string ht hu hi A _ c hc w
  · obtain ⟨b, _, rfl⟩ := List.mem_map.1 hel
    rw [hs1]; rfl
  · rw [rx, hlen]
    refine ⟨fun h1 h2 h3 => ?_, fun gk sLen sCap cur h1 h2 h3 h4 => ?_, fun ad sLen sCap olds h1 h2 h3 h4 h5 => ?_⟩
    · have := run_append_nil_string (P := P) w t u o.type e i z ht hu hi hz ⟨l.toArray⟩ (by rw [hbs]; exact h1) (by rw [hbs]; unfold maxLen at h2; omega) (by rw [hbs]; exact h3)
      rw [hbs] at this
      rw [this]
      congr 4
      simp [Lib.strCells]
    · rw [hcl] at h4
      have := Lib.run_append_room_string (P := P) w t u o.type e i ht hu hi hs1 gk sLen sCap cur h1 ⟨l.toArray⟩ (by rw [hbs]; exact h3) (by rw [hbs]; rw [hs1, Nat.mul_one] at h4; exact h4)
      rw [hbs] at this
      rw [this, hcl, hs1, Nat.mul_one]
    · have := Lib.run_append_grow_string (P := P) w t u o.type e i z ht hu hi hz ad sLen sCap olds h1 h2 ⟨l.toArray⟩ (by rw [hbs]; exact h3) (by rw [hbs]; exact h4) (by rw [hbs]; exact h5)
      rw [hbs] at this
      exact this
end
end Pi
end Go.Proofs.YthdgpejippohnaaGreatDoor
