/-
  What of the library is told by its laws: the functions without a body, the search for a string, the copy of a slice.
-/
import Derived.Test.YthdgpejippohnaaGreatDoorPiP
import Derived.Lib.Bytealg
import Derived.Shelf.Strings.Search2
import Derived.Shelf.SlicesE.Clone
namespace Go.Proofs.YthdgpejippohnaaGreatDoor
namespace Pi
set_option linter.unusedVariables false
open Go.RowKit
section
variable {P : Program} {base : Nat} {w w' : World} {im im' : Im} {g g' : List Value} {objs objs' : Objs}

/-- What a summary has to keep. -/
def SumOK (P : Program) (base : Nat) (f : FuncId) (s : List PV → Objs → Option (Out × Objs)) : Prop :=
  ∀ args objs out objs', s args objs = some (out, objs') → ∀ w im g vargs, Sat P base w im g objs → RepL w im g objs args vargs →
    okFn P f ∧ Calls P f vargs.toArray w fun e w' => ∃ im' g', Le w im g objs w' im' g' objs' ∧ Sat P base w' im' g' objs' ∧ OutOK w' im' g' objs' out e
def ExtOK (P : Program) (base : Nat) (f : FuncId) (s : List PV → Objs → Option (Out × Objs)) : Prop :=
  ∀ args objs out objs', s args objs = some (out, objs') → ∀ w im g vargs, Sat P base w im g objs → RepL w im g objs args vargs →
    Goes P (.ext f) vargs w fun e w' => ∃ im' g', Le w im g objs w' im' g' objs' ∧ Sat P base w' im' g' objs' ∧ OutOK w' im' g' objs' out e
theorem goes_ext {f : FuncId} {fn : Func} {e : Array Value → Sem Value} {vargs : List Value} {v : Value} {R : Ending → World → Prop} (hf : P.funcs[f]? = some fn) (hname : (fn.name == "runtime.NumGoroutine") = false)
    (hb : fn.body.isNone = true) (hn : Extern.findNext fn = none) (he : Extern.find fn = some e) (hr : (e vargs.toArray).run P w = .ok v w) (h : R (.returned v) w) : Goes P (.ext f) vargs w R :=
  ⟨v, w, by rw [run_callFunc_extern hf hname hb hn he, hr]; rfl, h⟩
def eIdx : List PV → Objs → Option (Out × Objs)
  | [.d (.str s), .d (.int .u8 c)], objs => some (.ret (.d (.int .i64 (Lib.indexByte s c.toNat.toUInt8))), objs)
  | _, _ => none
def eCnt : List PV → Objs → Option (Out × Objs)
  | [.d (.str s), .d (.int .u8 c)], objs => some (.ret (.d (.int .i64 (Lib.countByte s c.toNat.toUInt8))), objs)
  | _, _ => none
def eCmp : List PV → Objs → Option (Out × Objs)
  | [.d (.str s), .d (.str t)], objs => some (.ret (.d (.int .i64 (Lib.compareBytes s t))), objs)
  | _, _ => none
def sIdx : List PV → Objs → Option (Out × Objs)
  | [.d (.str s), .d (.str t)], objs => if s.length < 4294967281 then some (.ret (.d (.int .i64 (Lib.index s t))), objs) else none
  | _, _ => none
def sCln (e : TypeId) (sz bytes : Nat) : List PV → Objs → Option (Out × Objs)
  | [.full els], objs => if els.length * bytes ≤ 140737488355328 ∧ els.length < bigLen ∧ hdOk sz els = true then some (.ret (.own els objs.length), objs ++ [.buf e els.length]) else none
  | [.d (.row els)], objs => if els.length * bytes ≤ 140737488355328 ∧ els.length < bigLen ∧ hdOk sz els = true then some (.ret (.own els objs.length), objs ++ [.buf e els.length]) else none
  | _, _ => none
theorem two_rep {p q : PV} {vargs : List Value} (h : RepL w im g objs [p, q] vargs) : ∃ u v, vargs = [u, v] ∧ Rep w im g objs p u ∧ Rep w im g objs q v := by
  match vargs, h with
  | [u, v], h => exact ⟨u, v, rfl, h.1, h.2.1⟩
  | [], h => exact h.elim
  | [_], h => exact h.2.elim
  | _ :: _ :: _ :: _, h => exact h.2.2.elim
theorem one_rep {p : PV} {vargs : List Value} (h : RepL w im g objs [p] vargs) : ∃ u, vargs = [u] ∧ Rep w im g objs p u := by
  match vargs, h with
  | [u], h => exact ⟨u, rfl, h.1⟩
  | [], h => exact h.elim
  | _ :: _ :: _, h => exact h.2.elim
theorem rep_intn {k : IntKind} {n : Int} : Rep w im g objs (.d (.int k n)) (.int k n) := by unfold Rep RepD; rfl
theorem eIdx_ok {f : FuncId} {fn : Func} (hf : P.funcs[f]? = some fn) (hname : (fn.name == "runtime.NumGoroutine") = false) (hb : fn.body.isNone = true) (hn : Extern.findNext fn = none) (he : Extern.find fn = some Extern.BytealgIndexByte.indexByte) : ExtOK P base f eIdx := by
  intro args objs out objs' h w im g vargs hsat hr
  unfold eIdx at h
  split at h <;> first | (cases h; done) | skip
  injection h with h; injection h with h1 h2; subst h1 h2
  obtain ⟨u, v, rfl, r1, r2⟩ := two_rep hr
  have r1 : u = .string ⟨_⟩ := r1
  have r2 : v = .int .u8 _ := r2
  subst r1 r2
  exact goes_ext hf hname hb hn he (Lib.run_indexByteString _ _ w) ⟨im, g, Le.refl _ _ _ _, hsat, _, rfl, by simpa using rep_intn⟩
theorem eCnt_ok {f : FuncId} {fn : Func} (hf : P.funcs[f]? = some fn) (hname : (fn.name == "runtime.NumGoroutine") = false) (hb : fn.body.isNone = true) (hn : Extern.findNext fn = none) (he : Extern.find fn = some Extern.BytealgCount.count) : ExtOK P base f eCnt := by
  intro args objs out objs' h w im g vargs hsat hr
  unfold eCnt at h
  split at h <;> first | (cases h; done) | skip
  injection h with h; injection h with h1 h2; subst h1 h2
  obtain ⟨u, v, rfl, r1, r2⟩ := two_rep hr
  have r1 : u = .string ⟨_⟩ := r1
  have r2 : v = .int .u8 _ := r2
  subst r1 r2
  exact goes_ext hf hname hb hn he (Lib.run_countString _ _ w) ⟨im, g, Le.refl _ _ _ _, hsat, _, rfl, by simpa using rep_intn⟩
theorem eCmp_ok {f : FuncId} {fn : Func} (hf : P.funcs[f]? = some fn) (hname : (fn.name == "runtime.NumGoroutine") = false) (hb : fn.body.isNone = true) (hn : Extern.findNext fn = none) (he : Extern.find fn = some Extern.BytealgCompare.compare) : ExtOK P base f eCmp := by
  intro args objs out objs' h w im g vargs hsat hr
  unfold eCmp at h
  split at h <;> first | (cases h; done) | skip
  injection h with h; injection h with h1 h2; subst h1 h2
  obtain ⟨u, v, rfl, r1, r2⟩ := two_rep hr
  have r1 : u = .string ⟨_⟩ := r1
  have r2 : v = .string ⟨_⟩ := r2
  subst r1 r2
  exact goes_ext hf hname hb hn he (Lib.run_compareString _ _ w) ⟨im, g, Le.refl _ _ _ _, hsat, _, rfl, by simpa using rep_intn⟩
theorem sIdx_ok {ρ : Go.Shelf.Ren} (L : Lays.n219 P ρ) (hok : okFn P (ρ.f 219)) (hg : maxAt P = some (ρ.g 1)) : SumOK P base (ρ.f 219) sIdx := by
  intro args objs out objs' h w im g vargs hsat hr
  unfold sIdx at h
  split at h <;> first | (cases h; done) | skip
  rename_i s t
  split at h <;> first | (cases h; done) | skip
  rename_i hlt
  injection h with h; injection h with h1 h2; subst h1 h2
  obtain ⟨u, v, rfl, r1, r2⟩ := two_rep hr
  have r1 : u = .string ⟨s.toArray⟩ := r1
  have r2 : v = .string ⟨t.toArray⟩ := r2
  subst r1 r2
  obtain ⟨_, cur, e, fr, m, h2, h3⟩ := hsat.glob _ hg
  refine ⟨hok, (Any.stringslite_Index L ⟨s.toArray⟩ ⟨t.toArray⟩ m w (by simpa [ByteArray.size] using hlt) ?_).mono ?_⟩
  · rw [cell_of_row _ _ 0 cur e fr h2]; exact h3
  · rintro e w' ⟨rfl, rfl⟩
    exact ⟨im, g, Le.refl _ _ _ _, hsat, _, rfl, by simpa using rep_intn⟩
theorem own_ret (hsat : Sat P base w im g objs) {e : TypeId} {i : TypeInfo} (hi : P.info? e = some i) (hs0 : 0 < i.size) {els : List (List D)} {vals : List Value} {v' : Value} (hall : ∀ el ∈ els, el.length = i.size) (hlv : vals.length = els.length * i.size) (hr : RepL w im g objs (els.flatten.map .d) vals)
    (hown : w'.ownsRow w.heap.size e i.size v' els.length vals) (hb : Below w.heap.size w w') :
    ∃ im' g', Le w im g objs w' im' g' (objs ++ [.buf e els.length]) ∧ Sat P base w' im' g' (objs ++ [.buf e els.length]) ∧ OutOK w' im' g' (objs ++ [.buf e els.length]) (.ret (.own els objs.length)) (.returned v') := by
  rcases hown with ⟨hxl, ⟨rfl, hn⟩ | ⟨q, cap, cur, rfl, hq, hh, hcap, hmax, hC, htake⟩⟩
  · have he : els = [] := List.length_eq_zero_iff.1 hn
    subst he
    obtain ⟨hl, hs⟩ := hsat.push (w' := w') (im' := im) (.slice none 0 0) (.buf e 0) hb.size (fun k hk => hb.block k hk) hb.os hb.tape hb.output (fun _ _ h => h) (fun _ _ h => .inl h) (fun k hk => by cases hk) (fun hl => by
      unfold ObjOK
      exact ⟨i, [], hi, hs0, .inl ⟨by simp, .inl ⟨rfl, rfl⟩⟩⟩)
    refine ⟨im, _, hl, hs, _, rfl, ?_⟩
    unfold Rep
    refine ⟨?_, e, 0, by simp, Nat.le_refl _, fun _ => by rw [← hsat.len]; simp⟩
    unfold RepD
    exact .inl ⟨rfl, _, _, rfl⟩
  · have hqs : q < w'.heap.size := (Array.getElem?_eq_some_iff.1 hh).1
    obtain ⟨hl, hs⟩ := hsat.push (w' := w') (im' := fun b x => im b x ∨ (b = q ∧ x < els.length * i.size)) (.slice (some ⟨q, 0, none⟩) els.length cap) (.buf e els.length) hb.size (fun k hk => hb.block k hk) hb.os hb.tape hb.output
      (fun b x h => .inl h) (fun b x h => by
        rcases h with h | ⟨rfl, h⟩
        · exact .inl h
        · exact .inr ⟨hq, hqs, fun _ => ⟨e, els.length, i, rfl, hi, h⟩⟩)
      (fun k hk => by simp [blk] at hk; omega)
      (fun hl => by
        unfold ObjOK
        exact ⟨i, vals, hi, hs0, .inl ⟨hlv, .inr ⟨q, cap, cur, rfl, Nat.le_trans hsat.low hq, hh, hcap, hmax, hC, htake⟩⟩⟩)
    refine ⟨_, _, hl, hs, _, rfl, ?_⟩
    unfold Rep
    refine ⟨?_, e, els.length, by simp, Nat.le_refl _, fun _ => by rw [← hsat.len]; simp⟩
    unfold RepD
    refine .inr ⟨q, 0, cap, i.size, rfl, hcap, rep_els (g := g) (objs := objs) i.size _ (fun x u h => RepD_mono hl.pres x u h) 0 hall hr (fun j u hu => ?_)⟩
    rw [Nat.zero_add]
    have hj : j < els.length * i.size := by rw [← hlv]; exact (List.getElem?_eq_some_iff.1 hu).1
    refine ⟨.inr ⟨rfl, hj⟩, ?_⟩
    rw [cell_of_row _ _ j cur e (0, 0) hh]
    rw [← htake, List.getElem?_take_of_lt hj] at hu
    simpa using hu
open Go.Shelf Go.Lib in
set_option maxHeartbeats 2000000 in
set_option maxRecDepth 100000 in
/-- slices.Clone of a slice of no elements that is not nil, wherever it points. -/
theorem clone_zero {ρ : Ren} (L : SlLaysE0.n41 P ρ) (i0 : TypeInfo) (z : Value) (size bytes : Nat) (hi : P.info? (ρ.t 23) = some i0) (hz0 : i0.zero = some z) (hz1 : i0.size = size) (hz2 : i0.bytes = bytes) (hzs : z.cells.size = size) (hsz : 0 < size)
    (z23 : ∀ w, (Go.sizeOf (ρ.t 23)).run P w = .ok size w) (a : Addr) (c : Nat) (w : World) :
    Calls P (ρ.f 41) #[.slice (some a) 0 c] w fun e w' => ∃ v', e = .returned v' ∧ w'.ownsRow w.heap.size (ρ.t 23) size v' 0 [] ∧ Below w.heap.size w w' := by
  have mixed := L.mixed; have t4 := L.t4; have a4 := L.a4; have z4 := L.z4; have v4 := L.v4; have t22 := L.t22; have a22 := L.a22; have z22 := L.z22; have v22 := L.v22
  have q22 : ∀ (w : World) (a : Option Addr) (n c n' c' : Nat), (binOp .eql (ρ.t 22) (.slice a n c) (.slice none n' c')).run P w = .ok (.bool a.isNone) w := fun w a n c n' c' => Lib.run_eql_slice_nil w _ _ a n c n' c' L.t22
  have u22 : ∀ w, Sem.run P (underlying (ρ.t 22)) w = .ok (TypeDesc.slice (ρ.t 23)) w := run_underlying t22
  obtain ⟨_, _, FG⟩ := L.f41
  go_enter FG, SlBodyN.n41_ntmps ρ
  go_wp2_with (at_builtin; refine wpList_append_own _ rfl _ _ (ρ.t 22) rfl w.heap.size (ρ.t 23) i0 z size bytes t22 hi hz0 hz1 hz2 hzs hsz _ _ _ rfl (World.ownsRow_made w #[] 0 (Nat.le_refl _) (Nat.zero_le _) (by simp)) a 0 c [] rfl ?qc1 ?qc2 ?qc3 ?qc4 ?qc5 ?qc6 ?_)
  case qc1 => simp
  case qc2 => intro j u hj; cases hj
  case qc3 => intro u hu; cases hu
  case qc4 => exact Nat.zero_le _
  case qc5 => simp
  case qc6 => simp
  intro v' w1 hown hgrow hnil
  go_wp2
  go_ret
  refine ⟨v', rfl, by simpa using hown, ?_⟩
  exact ((Below.refl _ w).alloc (Nat.le_refl _) _).grown hgrow (by simp) (by intro k hk; simp [Value.ownBlock] at hk; omega)
theorem sCln_ok {ρ : Go.Shelf.Ren} (L : SlLaysE0.n41 P ρ) (hok : okFn P (ρ.f 41)) {i0 : TypeInfo} {z : Value} (hi : P.info? (ρ.t 23) = some i0) (hz : i0.zero = some z) (hzs : z.cells.size = i0.size) (hs0 : 0 < i0.size) : SumOK P base (ρ.f 41) (sCln (ρ.t 23) i0.size i0.bytes) := by
  intro args objs out objs' h w im g vargs hsat hr
  have z23 : ∀ w, (Go.sizeOf (ρ.t 23)).run P w = .ok i0.size w := fun w => run_sizeOf' (by unfold szOf; rw [hi]; rfl) w
  obtain ⟨els, u, hc1, hc2, hc3, hv, hrd, ho1, ho2⟩ : ∃ els u, els.length * i0.bytes ≤ 140737488355328 ∧ els.length < bigLen ∧ hdOk i0.size els = true ∧ vargs = [u] ∧ RepD w im (.row els) u ∧ out = .ret (.own els objs.length) ∧ objs' = objs ++ [.buf (ρ.t 23) els.length] := by
    unfold sCln at h
    split at h
    · split at h <;> first | (cases h; done) | skip
      rename_i els hc
      injection h with h; injection h with h1 h2; subst h1 h2
      obtain ⟨u, rfl, r⟩ := one_rep hr
      exact ⟨els, u, hc.1, hc.2.1, hc.2.2, rfl, r.1, rfl, rfl⟩
    · split at h <;> first | (cases h; done) | skip
      rename_i els hc
      injection h with h; injection h with h1 h2; subst h1 h2
      obtain ⟨u, rfl, r⟩ := one_rep hr
      exact ⟨els, u, hc.1, hc.2.1, hc.2.2, rfl, r, rfl, rfl⟩
    · cases h
  subst hv ho1 ho2
  refine ⟨hok, ?_⟩
  obtain ⟨A, c, vals, rfl, hcap, hlv, hrl, hall, hne⟩ := row_cells g objs hrd hc3
  have hone : ∀ u ∈ vals, u.oneCell' = true := all_one_cells hrl (by simp [PV.one])
  by_cases he : els = []
  · subst he
    have hv0 : vals = [] := by simpa using hlv
    subst hv0
    cases A with
    | none =>
      refine (AnyE.slices_Clone_nil L _ c w).mono ?_
      rintro e w' ⟨rfl, rfl⟩
      exact own_ret hsat hi hs0 hall hlv hrl ⟨by simp, .inl ⟨rfl, rfl⟩⟩ (Below.refl _ _)
    | some A =>
      refine (clone_zero L i0 z i0.size i0.bytes hi hz rfl rfl hzs hs0 z23 A c w).mono ?_
      rintro e w' ⟨v', rfl, h1, h2⟩
      exact own_ret hsat hi hs0 hall hlv hrl h1 h2
  · obtain ⟨b, q, rfl, hcell⟩ := hne he
    refine (AnyE.slices_Clone L i0 z i0.size i0.bytes hi hz rfl rfl hzs hs0 z23 b q els.length c vals w hlv (by unfold maxLen; unfold bigLen at hc2; omega) hc1 (fun j u hu => (hcell j u hu).2) hone).mono ?_
    rintro e w' ⟨v', rfl, h1, _, h2⟩
    exact own_ret hsat hi hs0 hall hlv hrl h1 h2
end
end Pi
end Go.Proofs.YthdgpejippohnaaGreatDoor
