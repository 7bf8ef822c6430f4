/-
  What a value of the pure reading says of a value in memory, and that it stays true while memory only grows. No condition.
-/
import Derived.Test.YthdgpejippohnaaGreatDoorPiA
import Derived.Laws.AppendOwn
namespace Go.Proofs.YthdgpejippohnaaGreatDoor
namespace Pi
set_option linter.unusedVariables false

abbrev Im := Nat → Nat → Prop

mutual
/-- Memory reads as pure data at a value; every cell that is read is held fast ('im'). -/
def RepD (w : World) (im : Im) : D → Value → Prop
  | .int k n, v => v = .int k n
  | .bool b, v => v = .bool b
  | .str s, v => v = .string ⟨s.toArray⟩
  | .row els, v => (els = [] ∧ ∃ a c, v = .slice a 0 c) ∨ ∃ b o c sz, v = .slice (some ⟨b, o, none⟩) els.length c ∧ els.length ≤ c ∧ RepEls w im els sz b o
def RepRow (w : World) (im : Im) : List D → Nat → Nat → Prop
  | [], _, _ => True
  | x :: r, b, o => im b o ∧ (∃ u, w.cell? ⟨b, o, none⟩ = some u ∧ RepD w im x u) ∧ RepRow w im r b (o + 1)
def RepEls (w : World) (im : Im) : List (List D) → Nat → Nat → Nat → Prop
  | [], _, _, _ => True
  | el :: r, sz, b, o => el.length = sz ∧ RepRow w im el b o ∧ RepEls w im r sz b (o + sz)
end

/-- What an object's number stands for: a buffer with so many elements; true: one that may be written. -/
def AObj.tag : AObj → Option (TypeId × Nat × Bool)
  | .buf e n => some (e, n, false)
  | .vec e els => some (e, els.length, true)
  | .frz e els => some (e, els.length, true)
  | _ => none
/-- The head of a row that may be written: its block, its room. -/
def hdV (k cap : Nat) : Value := .slice (some ⟨k, 0, none⟩) 0 cap
def isHd (v : Value) (k cap : Nat) : Prop := v = hdV k cap ∨ v = .agg #[hdV k cap]
/-- A part of a row that may be written, as it was when the row had so many elements. -/
def VRef (g : List Value) (objs : Objs) (id ver k : Nat) (Q : Nat → Prop) : Prop :=
  ∃ o e m, objs[id]? = some o ∧ o.tag = some (e, m, true) ∧ ver ≤ m ∧ (ver = m → ∃ u cap, g[id]? = some u ∧ isHd u k cap ∧ Q cap)

mutual
def Rep (w : World) (im : Im) (g : List Value) (objs : Objs) : PV → Value → Prop
  | .d x, v => RepD w im x v
  | .any, _ => True
  | .agg cs, v => ∃ vs : List Value, v = .agg vs.toArray ∧ RepL w im g objs cs vs
  | .tup cs, v => ∃ vs : List Value, v = .tuple vs.toArray ∧ RepL w im g objs cs vs
  | .full els, v => RepD w im (.row els) v ∧ ∃ a, v = .slice a els.length els.length
  | .own els b, v => RepD w im (.row els) v ∧ ∃ e m, objs[b]? = some (AObj.buf e m) ∧ els.length ≤ m ∧ (els.length = m → g[b]? = some v)
  | .sl id ver sz lo n, v => ∃ k c, v = .slice (some ⟨k, lo * sz, none⟩) n c ∧ n ≤ c ∧ VRef g objs id ver k (fun cap => (lo = 0 → c = cap) ∧ lo + n ≤ ver)
  | .ebox id ver sz j off, v => ∃ k, v = .pointer (some ⟨k, j * sz + off, none⟩) ∧ VRef g objs id ver k (fun _ => True)
  | .box i off, v => ∃ k, g[i]? = some (Value.pointer (some ⟨k, 0, none⟩)) ∧ v = .pointer (some ⟨k, off, none⟩)
  | .elem cs off, v => ∃ b o, v = .pointer (some ⟨b, o + off, none⟩) ∧ RepRow w im cs b o
  | .nilp, v => v = .pointer none
  | .clo f fs cs, v => ∃ a b : List Value, v = .func (.func f) a.toArray b.toArray ∧ RepL w im g objs fs a ∧ RepL w im g objs cs b
  | .nilf, v => v = .nilFunc
  | .map i, v => ∃ r, g[i]? = some (Value.map (some r)) ∧ v = .map (some r)
  | .nilm, v => v = .map none
  | .iface t p, v => ∃ u, v = .iface t u ∧ Rep w im g objs p u
  | .nili, v => v = .nilIface
  | .yld i, v => ∃ l, g[i]? = some (Value.func (.yield l) #[] #[]) ∧ v = .func (.yield l) #[] #[]
def RepL (w : World) (im : Im) (g : List Value) (objs : Objs) : List PV → List Value → Prop
  | [], [] => True
  | p :: r, v :: s => Rep w im g objs p v ∧ RepL w im g objs r s
  | [], _ :: _ => False
  | _ :: _, [] => False
end

/-- What is held fast stays as it is. -/
def Pres (w : World) (im : Im) (w' : World) (im' : Im) : Prop := ∀ b o, im b o → im' b o ∧ w'.cell? ⟨b, o, none⟩ = w.cell? ⟨b, o, none⟩
def AObj.isBuf : AObj → Bool
  | .buf _ _ => true
  | .vec _ _ => true
  | .frz _ _ => true
  | .dead => true
  | _ => false
theorem isBuf_tag {o : AObj} (h : o.isBuf = false) : o.tag = none := by cases o <;> simp [AObj.isBuf, AObj.tag] at h ⊢
theorem tag_buf {o : AObj} {e : TypeId} {n : Nat} (h : o.tag = some (e, n, false)) : o = .buf e n := by cases o <;> simp [AObj.tag] at h; obtain ⟨rfl, rfl⟩ := h; rfl
/-- How the objects turn: a buffer grows (and may move), what is none stays where it is. -/
structure Evo (objs : Objs) (g : List Value) (objs' : Objs) (g' : List Value) : Prop where
  len : objs.length ≤ objs'.length
  nb : ∀ (i : Nat) o, objs[i]? = some o → o.isBuf = false → g'[i]? = g[i]? ∧ ∃ o', objs'[i]? = some o' ∧ o'.isBuf = false
  tags : ∀ (i : Nat) (o : AObj) (e : TypeId) (n : Nat) (b : Bool), objs[i]? = some o → o.tag = some (e, n, b) → ∃ o' n', objs'[i]? = some o' ∧ o'.tag = some (e, n', b) ∧ n ≤ n' ∧ (n' = n → g'[i]? = g[i]? ∨ (b = true ∧ ∃ k cap, g[i]? = some (hdV k cap) ∧ g'[i]? = some (.agg #[hdV k cap])))
theorem Evo.bufs {objs objs' : Objs} {g g' : List Value} (h : Evo objs g objs' g') (i : Nat) (e : TypeId) (n : Nat) (ho : objs[i]? = some (AObj.buf e n)) : ∃ n', objs'[i]? = some (AObj.buf e n') ∧ n ≤ n' ∧ (n' = n → g'[i]? = g[i]?) := by
  obtain ⟨o', n', h1, h2, h3, h4⟩ := h.tags i _ e n false ho rfl
  rw [tag_buf h2] at h1
  exact ⟨n', h1, h3, fun he => (h4 he).resolve_right (fun h => by cases h.1)⟩

theorem Pres.refl (w : World) (im : Im) : Pres w im w im := fun _ _ h => ⟨h, rfl⟩
theorem Pres.trans {w1 w2 w3 : World} {i1 i2 i3 : Im} (a : Pres w1 i1 w2 i2) (b : Pres w2 i2 w3 i3) : Pres w1 i1 w3 i3 :=
  fun k o h => let ⟨h2, e2⟩ := a k o h; let ⟨h3, e3⟩ := b k o h2; ⟨h3, e3.trans e2⟩
theorem Evo.refl (objs : Objs) (g : List Value) : Evo objs g objs g := ⟨Nat.le_refl _, fun _ o h hb => ⟨rfl, o, h, hb⟩, fun _ o _ n _ h ht => ⟨o, n, h, ht, Nat.le_refl _, fun _ => .inl rfl⟩⟩
theorem agg_ne_hd {k cap k' cap' : Nat} : (Value.agg #[hdV k cap]) ≠ hdV k' cap' := by unfold hdV; intro h; cases h
theorem Evo.trans {o1 o2 o3 : Objs} {g1 g2 g3 : List Value} (a : Evo o1 g1 o2 g2) (b : Evo o2 g2 o3 g3) : Evo o1 g1 o3 g3 := by
  refine ⟨Nat.le_trans a.len b.len, fun i o h hb => ?_, fun i o e n bb h ht => ?_⟩
  · obtain ⟨e1, o', h', hb'⟩ := a.nb i o h hb
    obtain ⟨e2, o'', h'', hb''⟩ := b.nb i o' h' hb'
    exact ⟨e2.trans e1, o'', h'', hb''⟩
  · obtain ⟨q1, n1, h1, t1, l1, e1⟩ := a.tags i o e n bb h ht
    obtain ⟨q3, n3, h3, t3, l3, e3⟩ := b.tags i q1 e n1 bb h1 t1
    refine ⟨q3, n3, h3, t3, Nat.le_trans l1 l3, fun he => ?_⟩
    have hn : n1 = n := by omega
    rcases e1 hn with e1 | ⟨hb, k, cap, e1, e1'⟩
    · rcases e3 (by omega) with e3 | ⟨hb, k, cap, e3, e3'⟩
      · exact .inl (e3.trans e1)
      · exact .inr ⟨hb, k, cap, by rw [← e1]; exact e3, e3'⟩
    · rcases e3 (by omega) with e3 | ⟨hb, k', cap', e3, e3'⟩
      · exact .inr ⟨hb, k, cap, e1, e3.trans e1'⟩
      · rw [e1'] at e3; injection e3 with e3; exact (agg_ne_hd e3).elim
theorem VRef.mono {objs objs' : Objs} {g g' : List Value} (he : Evo objs g objs' g') {id ver k : Nat} {Q : Nat → Prop} (h : VRef g objs id ver k Q) : VRef g' objs' id ver k Q := by
  obtain ⟨o, e, m, ho, ht, hv, hq⟩ := h
  obtain ⟨o', m', ho', ht', hm, hg⟩ := he.tags id o e m true ho ht
  refine ⟨o', e, m', ho', ht', Nat.le_trans hv hm, fun hvm => ?_⟩
  have hm2 : m' = m := by omega
  obtain ⟨u, cap, hu, hh, hQ⟩ := hq (by omega)
  rcases hg hm2 with hg | ⟨_, k', cap', e1, e2⟩
  · exact ⟨u, cap, hg.trans hu, hh, hQ⟩
  · rw [hu] at e1; injection e1 with e1; subst e1
    rcases hh with hh | hh
    · exact ⟨_, cap, e2, .inr (by rw [hh]), hQ⟩
    · exact (agg_ne_hd hh.symm).elim
theorem VRef.ren {objs objs' : Objs} {g g' : List Value} {id id' ver k : Nat} {Q : Nat → Prop} (hi : g'[id']? = g[id]? ∧ ∀ o t, objs[id]? = some o → o.tag = some t → ∃ o', objs'[id']? = some o' ∧ o'.tag = some t) (h : VRef g objs id ver k Q) : VRef g' objs' id' ver k Q := by
  obtain ⟨o, e, m, ho, ht, hv, hq⟩ := h
  obtain ⟨o', ho', ht'⟩ := hi.2 o _ ho ht
  exact ⟨o', e, m, ho', ht', hv, fun hvm => by rw [hi.1]; exact hq hvm⟩

mutual
theorem RepD_mono {w w' : World} {im im' : Im} (hp : Pres w im w' im') : ∀ x v, RepD w im x v → RepD w' im' x v
  | .int k n, v, h => h
  | .bool b, v, h => h
  | .str s, v, h => h
  | .row els, v, h => by
    unfold RepD at h ⊢
    rcases h with h | ⟨b, o, c, sz, hv, hc, hr⟩
    · exact .inl h
    · exact .inr ⟨b, o, c, sz, hv, hc, RepEls_mono hp els sz b o hr⟩
theorem RepRow_mono {w w' : World} {im im' : Im} (hp : Pres w im w' im') : ∀ cs b o, RepRow w im cs b o → RepRow w' im' cs b o
  | [], _, _, _ => trivial
  | x :: r, b, o, h => by
    unfold RepRow at h ⊢
    obtain ⟨h1, ⟨u, hu, hx⟩, h2⟩ := h
    obtain ⟨i1, e1⟩ := hp b o h1
    exact ⟨i1, ⟨u, e1.trans hu, RepD_mono hp x u hx⟩, RepRow_mono hp r b (o + 1) h2⟩
theorem RepEls_mono {w w' : World} {im im' : Im} (hp : Pres w im w' im') : ∀ els sz b o, RepEls w im els sz b o → RepEls w' im' els sz b o
  | [], _, _, _, _ => trivial
  | el :: r, sz, b, o, h => by
    unfold RepEls at h ⊢
    exact ⟨h.1, RepRow_mono hp el b o h.2.1, RepEls_mono hp r sz b (o + sz) h.2.2⟩
end

mutual
theorem Rep_mono {w w' : World} {im im' : Im} {g g' : List Value} {objs objs' : Objs} (hp : Pres w im w' im') (he : Evo objs g objs' g') (hb : ∀ (i : Nat) k, g[i]? = some (Value.pointer (some k)) → ∃ o, objs[i]? = some o ∧ o.isBuf = false) (hm : ∀ (i : Nat) k, g[i]? = some (Value.map (some k)) → ∃ o, objs[i]? = some o ∧ o.isBuf = false) (hy : ∀ (i : Nat) x y z, g[i]? = some (Value.func (.yield x) y z) → ∃ o, objs[i]? = some o ∧ o.isBuf = false) :
    ∀ p v, Rep w im g objs p v → Rep w' im' g' objs' p v
  | .d x, v, h => RepD_mono hp x v h
  | .any, _, _ => trivial
  | .agg cs, v, h => by
    unfold Rep at h ⊢
    obtain ⟨vs, hv, hl⟩ := h
    exact ⟨vs, hv, RepL_mono hp he hb hm hy cs vs hl⟩
  | .tup cs, v, h => by
    unfold Rep at h ⊢
    obtain ⟨vs, hv, hl⟩ := h
    exact ⟨vs, hv, RepL_mono hp he hb hm hy cs vs hl⟩
  | .full els, v, h => by
    unfold Rep at h ⊢
    exact ⟨RepD_mono hp _ v h.1, h.2⟩
  | .own els b, v, h => by
    unfold Rep at h ⊢
    obtain ⟨h1, e, m, ho, hn, hg⟩ := h
    obtain ⟨m', ho', hm', hg'⟩ := he.bufs b e m ho
    refine ⟨RepD_mono hp _ v h1, e, m', ho', Nat.le_trans hn hm', fun hnm => ?_⟩
    rw [hg' (by omega)]
    exact hg (by omega)
  | .box i off, v, h => by
    unfold Rep at h ⊢
    obtain ⟨k, hg, hv⟩ := h
    obtain ⟨o, ho, hn⟩ := hb i _ hg
    exact ⟨k, (he.nb i o ho hn).1.trans hg, hv⟩
  | .elem cs off, v, h => by
    unfold Rep at h ⊢
    obtain ⟨b, o, hv, hr⟩ := h
    exact ⟨b, o, hv, RepRow_mono hp cs b o hr⟩
  | .nilp, v, h => h
  | .clo f fs cs, v, h => by
    unfold Rep at h ⊢
    obtain ⟨a, b, hv, h1, h2⟩ := h
    exact ⟨a, b, hv, RepL_mono hp he hb hm hy fs a h1, RepL_mono hp he hb hm hy cs b h2⟩
  | .nilf, v, h => h
  | .map i, v, h => by
    unfold Rep at h ⊢
    obtain ⟨r, hg, hv⟩ := h
    obtain ⟨o, ho, hn⟩ := hm i _ hg
    exact ⟨r, (he.nb i o ho hn).1.trans hg, hv⟩
  | .nilm, v, h => h
  | .iface t p, v, h => by
    unfold Rep at h ⊢
    obtain ⟨u, hv, hu⟩ := h
    exact ⟨u, hv, Rep_mono hp he hb hm hy p u hu⟩
  | .nili, v, h => h
  | .sl id ver sz lo n, v, h => by
    unfold Rep at h ⊢
    obtain ⟨k, c, hv, hc, hr⟩ := h
    exact ⟨k, c, hv, hc, hr.mono he⟩
  | .ebox id ver sz j off, v, h => by
    unfold Rep at h ⊢
    obtain ⟨k, hv, hr⟩ := h
    exact ⟨k, hv, hr.mono he⟩
  | .yld i, v, h => by
    unfold Rep at h ⊢
    obtain ⟨r, hg, hv⟩ := h
    obtain ⟨o, ho, hn⟩ := hy i _ _ _ hg
    exact ⟨r, (he.nb i o ho hn).1.trans hg, hv⟩
theorem RepL_mono {w w' : World} {im im' : Im} {g g' : List Value} {objs objs' : Objs} (hp : Pres w im w' im') (he : Evo objs g objs' g') (hb : ∀ (i : Nat) k, g[i]? = some (Value.pointer (some k)) → ∃ o, objs[i]? = some o ∧ o.isBuf = false) (hm : ∀ (i : Nat) k, g[i]? = some (Value.map (some k)) → ∃ o, objs[i]? = some o ∧ o.isBuf = false) (hy : ∀ (i : Nat) x y z, g[i]? = some (Value.func (.yield x) y z) → ∃ o, objs[i]? = some o ∧ o.isBuf = false) :
    ∀ ps vs, RepL w im g objs ps vs → RepL w' im' g' objs' ps vs
  | [], [], _ => trivial
  | p :: r, v :: s, h => by
    unfold RepL at h ⊢
    exact ⟨Rep_mono hp he hb hm hy p v h.1, RepL_mono hp he hb hm hy r s h.2⟩
  | [], _ :: _, h => h
  | _ :: _, [], h => h
end

mutual
/-- Other numbers for the objects. -/
theorem Rep_ren {w : World} {im : Im} {g g' : List Value} {objs objs' : Objs} (f : Nat → Nat) :
    ∀ p v, (∀ i ∈ p.ids, g'[f i]? = g[i]? ∧ ∀ o t, objs[i]? = some o → o.tag = some t → ∃ o', objs'[f i]? = some o' ∧ o'.tag = some t) → Rep w im g objs p v → Rep w im g' objs' (p.ren f) v
  | .d x, v, _, h => h
  | .any, _, _, _ => trivial
  | .agg cs, v, hi, h => by
    unfold Rep PV.ren at *
    obtain ⟨vs, hv, hl⟩ := h
    exact ⟨vs, hv, RepL_ren f cs vs (by simpa only [PV.ids] using hi) hl⟩
  | .tup cs, v, hi, h => by
    unfold Rep PV.ren at *
    obtain ⟨vs, hv, hl⟩ := h
    exact ⟨vs, hv, RepL_ren f cs vs (by simpa only [PV.ids] using hi) hl⟩
  | .full els, v, _, h => h
  | .own els b, v, hi, h => by
    unfold Rep PV.ren at *
    obtain ⟨h1, e, m, ho, hn, hg⟩ := h
    obtain ⟨e1, e2⟩ := hi b (by simp [PV.ids])
    obtain ⟨o', ho', ht'⟩ := e2 _ _ ho rfl
    rw [tag_buf ht'] at ho'
    exact ⟨h1, e, m, ho', hn, fun hnm => by rw [e1]; exact hg hnm⟩
  | .sl id ver sz lo n, v, hi, h => by
    unfold Rep PV.ren at *
    obtain ⟨k, c, hv, hc, hr⟩ := h
    exact ⟨k, c, hv, hc, hr.ren (hi id (by simp [PV.ids]))⟩
  | .ebox id ver sz j off, v, hi, h => by
    unfold Rep PV.ren at *
    obtain ⟨k, hv, hr⟩ := h
    exact ⟨k, hv, hr.ren (hi id (by simp [PV.ids]))⟩
  | .box i off, v, hi, h => by
    unfold Rep PV.ren at *
    obtain ⟨k, hg, hv⟩ := h
    exact ⟨k, by rw [(hi i (by simp [PV.ids])).1]; exact hg, hv⟩
  | .elem cs off, v, _, h => h
  | .nilp, v, _, h => h
  | .clo q fs cs, v, hi, h => by
    unfold Rep PV.ren at *
    obtain ⟨a, b, hv, h1, h2⟩ := h
    exact ⟨a, b, hv, RepL_ren f fs a (fun i hm => hi i (by simp only [PV.ids, List.mem_append]; exact .inl hm)) h1, RepL_ren f cs b (fun i hm => hi i (by simp only [PV.ids, List.mem_append]; exact .inr hm)) h2⟩
  | .nilf, v, _, h => h
  | .map i, v, hi, h => by
    unfold Rep PV.ren at *
    obtain ⟨r, hg, hv⟩ := h
    exact ⟨r, by rw [(hi i (by simp [PV.ids])).1]; exact hg, hv⟩
  | .nilm, v, _, h => h
  | .iface t p, v, hi, h => by
    unfold Rep PV.ren at *
    obtain ⟨u, hv, hu⟩ := h
    exact ⟨u, hv, Rep_ren f p u (by simpa only [PV.ids] using hi) hu⟩
  | .nili, v, _, h => h
  | .yld i, v, hi, h => by
    unfold Rep PV.ren at *
    obtain ⟨r, hg, hv⟩ := h
    exact ⟨r, by rw [(hi i (by simp [PV.ids])).1]; exact hg, hv⟩
theorem RepL_ren {w : World} {im : Im} {g g' : List Value} {objs objs' : Objs} (f : Nat → Nat) :
    ∀ ps vs, (∀ i ∈ PVs.ids ps, g'[f i]? = g[i]? ∧ ∀ o t, objs[i]? = some o → o.tag = some t → ∃ o', objs'[f i]? = some o' ∧ o'.tag = some t) → RepL w im g objs ps vs → RepL w im g' objs' (PVs.ren f ps) vs
  | [], [], _, _ => trivial
  | p :: r, v :: s, hi, h => by
    unfold RepL PVs.ren at *
    exact ⟨Rep_ren f p v (fun i hm => hi i (by simp only [PVs.ids, List.mem_append]; exact .inl hm)) h.1, RepL_ren f r s (fun i hm => hi i (by simp only [PVs.ids, List.mem_append]; exact .inr hm)) h.2⟩
  | [], _ :: _, _, h => h.elim
  | _ :: _, [], _, h => h.elim
end
mutual
theorem ren_id : ∀ p : PV, p.ren (fun i => i) = p
  | .agg cs => by simp only [PV.ren, rens_id cs]
  | .tup cs => by simp only [PV.ren, rens_id cs]
  | .clo q fs cs => by simp only [PV.ren, rens_id fs, rens_id cs]
  | .iface t p => by simp only [PV.ren, ren_id p]
  | .own _ _ | .box _ _ | .map _ | .d _ | .any | .full _ | .elem _ _ | .nilp | .nilf | .nilm | .nili | .yld _ | .sl _ _ _ _ _ | .ebox _ _ _ _ _ => rfl
theorem rens_id : ∀ ps : List PV, PVs.ren (fun i => i) ps = ps
  | [] => rfl
  | p :: r => by simp only [PVs.ren, ren_id p, rens_id r]
end

/-! ### lists of values -/
section
variable {w : World} {im : Im} {g : List Value} {objs : Objs}
theorem RepL_iff : ∀ (ps : List PV) (vs : List Value), RepL w im g objs ps vs ↔ ps.length = vs.length ∧ ∀ (i : Nat) (p : PV) (v : Value), ps[i]? = some p → vs[i]? = some v → Rep w im g objs p v
  | [], [] => by simp [RepL]
  | [], _ :: _ => by simp [RepL]
  | _ :: _, [] => by simp [RepL]
  | p :: r, v :: s => by
    simp only [RepL, RepL_iff r s, List.length_cons, Nat.add_right_cancel_iff]
    constructor
    · rintro ⟨h, hl, hr⟩
      refine ⟨hl, fun i p' v' hp hv => ?_⟩
      cases i with
      | zero => simp at hp hv; subst hp hv; exact h
      | succ i => exact hr i p' v' (by simpa using hp) (by simpa using hv)
    · rintro ⟨hl, h⟩
      exact ⟨h 0 p v rfl rfl, hl, fun i p' v' hp hv => h (i + 1) p' v' (by simpa using hp) (by simpa using hv)⟩
theorem RepL.length {ps : List PV} {vs : List Value} (h : RepL w im g objs ps vs) : ps.length = vs.length := ((RepL_iff ps vs).1 h).1
theorem RepL.get {ps : List PV} {vs : List Value} (h : RepL w im g objs ps vs) {i : Nat} {p : PV} (hp : ps[i]? = some p) : ∃ v, vs[i]? = some v ∧ Rep w im g objs p v := by
  obtain ⟨hl, ha⟩ := (RepL_iff ps vs).1 h
  have hi : i < ps.length := (List.getElem?_eq_some_iff.1 hp).1
  exact ⟨vs[i], List.getElem?_eq_getElem (by omega), ha i p _ hp (List.getElem?_eq_getElem (by omega))⟩
theorem RepL.app {a b : List PV} {u v : List Value} (h1 : RepL w im g objs a u) (h2 : RepL w im g objs b v) : RepL w im g objs (a ++ b) (u ++ v) := by
  induction a generalizing u with
  | nil => cases u with
    | nil => exact h2
    | cons => exact h1.elim
  | cons p r ih => cases u with
    | nil => exact h1.elim
    | cons x s => exact ⟨h1.1, ih h1.2⟩
theorem RepL.set {ps : List PV} {vs : List Value} (h : RepL w im g objs ps vs) (i : Nat) {p : PV} {v : Value} (hp : Rep w im g objs p v) : RepL w im g objs (ps.set i p) (vs.set i v) := by
  induction ps generalizing vs i with
  | nil => cases vs with
    | nil => exact h
    | cons => exact h.elim
  | cons q r ih => cases vs with
    | nil => exact h.elim
    | cons x s => cases i with
      | zero => exact ⟨hp, h.2⟩
      | succ i => exact ⟨h.1, ih h.2 i⟩
theorem RepL.drop {ps : List PV} {vs : List Value} (h : RepL w im g objs ps vs) (n : Nat) : RepL w im g objs (ps.drop n) (vs.drop n) := by
  induction n generalizing ps vs with
  | zero => simpa using h
  | succ n ih => cases ps with
    | nil => cases vs with
      | nil => simpa using h
      | cons => exact h.elim
    | cons q r => cases vs with
      | nil => exact h.elim
      | cons x s => exact ih h.2
theorem RepL.take {ps : List PV} {vs : List Value} (h : RepL w im g objs ps vs) (n : Nat) : RepL w im g objs (ps.take n) (vs.take n) := by
  induction n generalizing ps vs with
  | zero => simp [RepL]
  | succ n ih => cases ps with
    | nil => cases vs with
      | nil => simpa using h
      | cons => exact h.elim
    | cons q r => cases vs with
      | nil => exact h.elim
      | cons x s => exact ⟨h.1, ih h.2⟩
theorem RepRow_iff : ∀ (cs : List D) (b o : Nat), RepRow w im cs b o ↔ ∀ j x, cs[j]? = some x → im b (o + j) ∧ ∃ u, w.cell? ⟨b, o + j, none⟩ = some u ∧ RepD w im x u
  | [], b, o => by simp [RepRow]
  | x :: r, b, o => by
    simp only [RepRow, RepRow_iff r b (o + 1)]
    constructor
    · rintro ⟨h1, h2, h3⟩ j y hy
      cases j with
      | zero => simp at hy; subst hy; exact ⟨h1, h2⟩
      | succ j => have := h3 j y (by simpa using hy); rwa [show o + 1 + j = o + (j + 1) from by omega] at this
    · intro h
      refine ⟨(h 0 x rfl).1, (h 0 x rfl).2, fun j y hy => ?_⟩
      have := h (j + 1) y (by simpa using hy)
      rwa [show o + 1 + j = o + (j + 1) from by omega]
theorem RepRow.drop {cs : List D} {b o : Nat} (h : RepRow w im cs b o) (n : Nat) : RepRow w im (cs.drop n) b (o + n) := by
  rw [RepRow_iff] at h ⊢
  intro j x hx
  rw [List.getElem?_drop] at hx
  have := h (n + j) x hx
  rwa [show o + n + j = o + (n + j) from by omega]
theorem RepRow.take {cs : List D} {b o : Nat} (h : RepRow w im cs b o) (n : Nat) : RepRow w im (cs.take n) b o := by
  rw [RepRow_iff] at h ⊢
  intro j x hx
  rw [List.getElem?_take] at hx
  split at hx
  · exact h j x hx
  · cases hx
theorem RepRow.app {cs ds : List D} {b o : Nat} (h : RepRow w im cs b o) (h2 : RepRow w im ds b (o + cs.length)) : RepRow w im (cs ++ ds) b o := by
  rw [RepRow_iff] at h h2 ⊢
  intro j x hx
  by_cases hj : j < cs.length
  · rw [List.getElem?_append_left hj] at hx; exact h j x hx
  · rw [List.getElem?_append_right (by omega)] at hx
    have := h2 _ x hx
    rwa [show o + cs.length + (j - cs.length) = o + j from by omega] at this
theorem RepEls_at : ∀ {els : List (List D)} {sz b o : Nat}, RepEls w im els sz b o → ∀ {j : Nat} {el : List D}, els[j]? = some el → el.length = sz ∧ RepRow w im el b (o + j * sz)
  | [], _, _, _, _, j, el, hj => by simp at hj
  | x :: r, sz, b, o, h, j, el, hj => by
    unfold RepEls at h
    cases j with
    | zero => simp at hj; subst hj; simpa using ⟨h.1, h.2.1⟩
    | succ j =>
      obtain ⟨h1, h2⟩ := RepEls_at h.2.2 (j := j) (by simpa using hj)
      exact ⟨h1, by rwa [show o + (j + 1) * sz = o + sz + j * sz from by rw [Nat.add_mul]; omega]⟩
theorem RepEls_mk : ∀ {els : List (List D)} {sz b o : Nat}, (∀ (j : Nat) el, els[j]? = some el → el.length = sz ∧ RepRow w im el b (o + j * sz)) → RepEls w im els sz b o
  | [], _, _, _, _ => trivial
  | x :: r, sz, b, o, h => by
    unfold RepEls
    have h0 := h 0 x rfl
    refine ⟨h0.1, by simpa using h0.2, RepEls_mk fun j el hj => ?_⟩
    have := h (j + 1) el (by simpa using hj)
    exact ⟨this.1, by rw [show o + sz + j * sz = o + (j + 1) * sz from by rw [Nat.add_mul]; omega]; exact this.2⟩
theorem RepEls_iff {els : List (List D)} {sz b o : Nat} : RepEls w im els sz b o ↔ ∀ (j : Nat) el, els[j]? = some el → el.length = sz ∧ RepRow w im el b (o + j * sz) := ⟨fun h j el => RepEls_at h, RepEls_mk⟩
theorem Rep_nil {p : PV} {v : Value} : Rep w im g objs .any v := trivial
end
/-- A value of one cell. -/
theorem RepD_one {w : World} {im : Im} : ∀ {x : D} {v : Value}, RepD w im x v → v.oneCell' = true
  | .int k n, v, h => by unfold RepD at h; subst h; rfl
  | .bool b, v, h => by unfold RepD at h; subst h; rfl
  | .str s, v, h => by unfold RepD at h; subst h; rfl
  | .row els, v, h => by
    unfold RepD at h
    rcases h with ⟨_, a, c, rfl⟩ | ⟨b, o, c, sz, rfl, _⟩ <;> rfl
theorem Rep_one {w : World} {im : Im} {g : List Value} {objs : Objs} {p : PV} {v : Value} (hp : p.one = true) (h : Rep w im g objs p v) : v.oneCell' = true := by
  cases p <;> simp only [PV.one] at hp <;> try contradiction
  case d x => exact RepD_one h
  case full els => unfold Rep at h; obtain ⟨_, a, rfl⟩ := h; rfl
  case own els b => unfold Rep at h; exact RepD_one h.1
  case box i o => unfold Rep at h; obtain ⟨_, _, rfl⟩ := h; rfl
  case elem => unfold Rep at h; obtain ⟨_, _, rfl, _⟩ := h; rfl
  case nilp => unfold Rep at h; subst h; rfl
  case clo => unfold Rep at h; obtain ⟨_, _, rfl, _⟩ := h; rfl
  case yld => unfold Rep at h; obtain ⟨_, _, rfl⟩ := h; rfl
  case sl => unfold Rep at h; obtain ⟨_, _, rfl, _⟩ := h; rfl
  case ebox => unfold Rep at h; obtain ⟨_, rfl, _⟩ := h; rfl
  case nilf => unfold Rep at h; subst h; rfl
  case map => unfold Rep at h; obtain ⟨_, _, rfl⟩ := h; rfl
  case nilm => unfold Rep at h; subst h; rfl
  case iface => unfold Rep at h; obtain ⟨_, rfl, _⟩ := h; rfl
  case nili => unfold Rep at h; subst h; rfl
/-- The cells of a value that fits. -/
theorem Rep_cells {w : World} {im : Im} {g : List Value} {objs : Objs} {p : PV} {v : Value} (hp : p.cellsOf.all PV.one = true) (h : Rep w im g objs p v) :
    RepL w im g objs p.cellsOf v.cells.toList ∧ ∀ u ∈ v.cells.toList, u.oneCell' = true := by
  have one : ∀ q : PV, q.one = true → Rep w im g objs q v → q.cellsOf = [q] → RepL w im g objs [q] v.cells.toList ∧ ∀ u ∈ v.cells.toList, u.oneCell' = true := by
    intro q hq hr _
    have h1 := Rep_one hq hr
    have hc : v.cells = #[v] := by cases v <;> simp_all [Value.cells, Value.oneCell']
    rw [hc]
    exact ⟨⟨hr, trivial⟩, fun u hu => by simp at hu; subst hu; exact h1⟩
  cases p
  case agg cs =>
    unfold Rep at h
    obtain ⟨vs, rfl, hl⟩ := h
    refine ⟨by simpa [PV.cellsOf, Value.cells] using hl, fun u hu => ?_⟩
    simp only [Value.cells] at hu
    obtain ⟨i, hi⟩ := List.mem_iff_getElem?.1 hu
    have hlen := hl.length
    have hi' : i < cs.length := by rw [hlen]; exact (List.getElem?_eq_some_iff.1 hi).1
    obtain ⟨v', hv', hr⟩ := hl.get (List.getElem?_eq_getElem hi')
    have : v' = u := by simpa [hv'] using hi
    subst this
    refine Rep_one ?_ hr
    simp only [PV.cellsOf, List.all_eq_true] at hp
    exact hp _ (List.getElem_mem hi')
  case tup => simp [PV.cellsOf, PV.one] at hp
  case any => simp [PV.cellsOf, PV.one] at hp
  all_goals exact one _ (by simpa [PV.cellsOf] using hp) h rfl
end Pi
end Go.Proofs.YthdgpejippohnaaGreatDoor
