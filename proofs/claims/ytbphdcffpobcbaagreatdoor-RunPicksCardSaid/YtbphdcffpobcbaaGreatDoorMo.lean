/- Several texts in one. -/
import Derived.Test.YtbphdcffpobcbaaGreatDoorMd
import Derived.Test.YtbphdcffpobcbaaGreatDoorMf
import Derived.Test.YtbphdcffpobcbaaGreatDoorMg
set_option linter.unusedSimpArgs false
set_option linter.unusedVariables false
set_option maxRecDepth 100000
set_option maxHeartbeats 16000000
namespace Go.Proofs.YtbphdcffpobcbaaGreatDoor
open Go.RowKit Go
theorem RVs.wide {F : Nat → Prop} {w : World} {ι : Nms} {B : Nat → Prop} {ds : List D} {vs : List Value} (h : RVs ⟨F, Go.Proofs.YtbphdcffpobcbaaGreatDoor.noB⟩ w ι ds vs) : RVs ⟨F, B⟩ w ι ds vs := RVs.keep (show Env.le ⟨F, Go.Proofs.YtbphdcffpobcbaaGreatDoor.noB⟩ ⟨F, B⟩ w w from ⟨fun _ h => h, fun _ h => h.elim, fun _ _ => rfl, fun _ _ => rfl⟩) (Nms.le_refl _) h
section
variable {E E' : Env} {w w' : World} {ι : Nms}
theorem RCap.subN {E0 : Env} {w0 : World} {ι0 ι1 : Nms} {c : Cap} {v u : Value} (h : RCap E w ι c v) (h0 : RCap E0 w0 ι0 c u) (h1 : Nms.le ι0 ι1) (h2 : Nms.le ι1 ι) : RCap E w ι1 c v := by
  cases c with
  | d x => exact h
  | ptr n k i o =>
    obtain ⟨b, cap, g1, g2⟩ := h
    obtain ⟨b', cap', g3, -⟩ := h0
    have := h2 _ _ (h1 _ _ g3)
    rw [g1] at this
    exact ⟨b, cap, by rw [this]; exact h1 _ _ g3, g2⟩
  | own n k l =>
    obtain ⟨b, cap, g1, g2⟩ := h
    obtain ⟨b', cap', g3, -⟩ := h0
    have := h2 _ _ (h1 _ _ g3)
    rw [g1] at this
    exact ⟨b, cap, by rw [this]; exact h1 _ _ g3, g2⟩
theorem RCaps.subN {E0 : Env} {w0 : World} {ι0 ι1 : Nms} (h1 : Nms.le ι0 ι1) (h2 : Nms.le ι1 ι) : ∀ {cs : List Cap} {vs us : List Value}, RCaps E w ι cs vs → RCaps E0 w0 ι0 cs us → RCaps E w ι1 cs vs
  | [], [], _, _, _ => trivial
  | _ :: _, _ :: _, _ :: _, h, h0 => ⟨h.1.subN h0.1 h1 h2, RCaps.subN h1 h2 h.2 h0.2⟩
  | _ :: _, _ :: _, [], _, h0 => h0.elim
theorem RC.subN {E0 : Env} {w0 : World} {ι0 ι1 : Nms} {c : C} {v u : Value} (h : RC E w ι c v) (h0 : RC E0 w0 ι0 c u) (h1 : Nms.le ι0 ι1) (h2 : Nms.le ι1 ι) : RC E w ι1 c v := by
  cases c with
  | d x => exact h
  | own n k l =>
    obtain ⟨b, cap, g1, g2⟩ := h
    obtain ⟨b', cap', g3, -⟩ := h0
    have := h2 _ _ (h1 _ _ g3)
    rw [g1] at this
    exact ⟨b, cap, by rw [this]; exact h1 _ _ g3, g2⟩
  | ptr n k i o =>
    obtain ⟨b, cap, g1, g2⟩ := h
    obtain ⟨b', cap', g3, -⟩ := h0
    have := h2 _ _ (h1 _ _ g3)
    rw [g1] at this
    exact ⟨b, cap, by rw [this]; exact h1 _ _ g3, g2⟩
  | map n =>
    obtain ⟨b, cap, g1, g2⟩ := h
    obtain ⟨b', cap', g3, -⟩ := h0
    have := h2 _ _ (h1 _ _ g3)
    rw [g1] at this
    exact ⟨b, cap, by rw [this]; exact h1 _ _ g3, g2⟩
  | ifo t n k l =>
    obtain ⟨b, cap, g1, g2⟩ := h
    obtain ⟨b', cap', g3, -⟩ := h0
    have := h2 _ _ (h1 _ _ g3)
    rw [g1] at this
    exact ⟨b, cap, by rw [this]; exact h1 _ _ g3, g2⟩
  | fnp f cs =>
    obtain ⟨ys, g1, g2⟩ := h
    obtain ⟨zs, -, g3⟩ := h0
    exact ⟨ys, g1, RCaps.subN h1 h2 g2 g3⟩
  | any => exact h
end
theorem ICall.give {P : Program} {f : FuncId} {ds : List D} {H : Hp} {nx : Nat} {K : D → Hp → Nat → Prop} (hf : ∀ i, nx ≤ i → H i = none)
    (h : ICall P f ds H nx fun d H' _ => (∀ i, i < nx → H' i = H i) ∧ ∃ d', DShw H' (fun i => nx ≤ i) d d' ∧ K d' H nx) : ICall P f ds H nx K :=
  ⟨h.1, fun β F ι w vs hg hH hvs => (h.2 β F ι w vs hg hH hvs).mono fun _ w' ⟨F', ι', H', nx', d, v, e1, e2, e3, e4, e5, e6, d', e7, e8⟩ => by
    have h1 : Nms.le ι (fun n => if n < nx then ι' n else none) := fun n x hx => by
      rcases Nat.lt_or_ge n nx with h | h
      · simp only [h, if_true]; exact e4 n x hx
      · rw [hH.nx n h] at hx; cases hx
    have h2 : Nms.le (fun n => if n < nx then ι' n else none) ι' := fun n x hx => by
      by_cases h : n < nx
      · simpa only [h, if_true] using hx
      · simp only [h, if_false] at hx; cases hx
    have hlt : ∀ n, H n ≠ none → n < nx := fun n hn => by
      rcases Nat.lt_or_ge n nx with h | h
      · exact h
      · exact absurd (hf n h) hn
    have hn' : ∀ n, H n ≠ none → H' n ≠ none := fun n hn => by rw [e6 n (hlt n hn)]; exact hn
    refine ⟨giv F' ι' H' (fun i => nx ≤ i), _, H, nx, d', v, e1, ⟨e2.size, e2.keep, fun b hb => ?_, fun b hb => ?_, fun b hb => .inl (e2.F0 b hb), fun n x hx => ?_, fun n b cap hn hb hc => ?_, fun n m b c c' hn hm hb1 hb2 => e2.inj n m b c c' (hn' n hn) (hn' m hm) (h2 _ _ hb1) (h2 _ _ hb2), fun n hn => ?_, fun n x hx => ?_, e2.io⟩,
      ⟨fun b hb => .inl (e3.F b hb), e3.B, e3.f, e3.b⟩, h1, (DShw.rv e2.blk e7 e5).keep (show Env.le ⟨_, Go.Proofs.YtbphdcffpobcbaaGreatDoor.noB⟩ ⟨_, β.B⟩ w' w' from ⟨fun _ h => h, fun _ h => h.elim, fun _ _ => rfl, fun _ _ => rfl⟩) (Nms.le_refl _), e8⟩
    · rcases hb with hb | ⟨m, cap, -, g1, g2, g3⟩
      · exact e2.Flt b hb
      · exact (e2.own m b cap g1 g2 g3).1
    · rcases hb with hb | ⟨m, cap, -, g1, g2, g3⟩
      · exact e2.Fof b hb
      · exact .inr (e2.own m b cap g1 g2 g3).2.2
    · have hl := hlt n (by rw [hx]; simp)
      obtain ⟨b, cap, a1, a2, a3, a4⟩ := e2.blk n x (by rw [e6 n hl]; exact hx)
      obtain ⟨b0, cap0, c1, c2, c3, c4⟩ := hH.blk n x hx
      have he := e4 _ _ c1
      rw [a1] at he
      simp only [Option.some.injEq, Prod.mk.injEq] at he
      obtain ⟨rfl, rfl⟩ := he
      refine ⟨b, cap, by simp only [hl, if_true]; exact a1, a2, a3, fun hc => ?_⟩
      obtain ⟨arr, b1, b2, b3, b4⟩ := a4 hc
      obtain ⟨arr0, d1, d2, d3, d4⟩ := c4 hc
      refine ⟨arr, b1, b2, b3, fun i j c hj => ?_⟩
      obtain ⟨u, k1, k2⟩ := b4 i j c hj
      obtain ⟨u0, k3, k4⟩ := d4 i j c hj
      exact ⟨u, k1, (k2.keep giv_le (Nms.le_refl _)).subN k4 h1 h2⟩
    · have hl := hlt n hn
      simp only [hl, if_true] at hb
      obtain ⟨s1, s2, s3⟩ := e2.own n b cap (hn' n hn) hb hc
      refine ⟨s1, fun hF => ?_, s3⟩
      rcases hF with hF | ⟨m, cap', k1, k2, k3, k4⟩
      · exact s2 hF
      · have := e2.inj n m b cap cap' (hn' n hn) k2 hb k3 hc k4
        omega
    · simp only [Nat.not_lt.2 hn, if_false]
    · exact h1 n x (hH.nm n x hx)⟩
def cutK (K : D → Hp → Nat → Prop) (d : D) (H' : Hp) (nx' : Nat) : Prop := ∃ H'', (∀ i y, H'' i = some y → H' i = some y) ∧ K d H'' nx'
theorem ICall.cut {P : Program} {f : FuncId} {ds : List D} {H : Hp} {nx : Nat} {K : D → Hp → Nat → Prop} (h : ICall P f ds H nx (cutK K)) : ICall P f ds H nx K :=
  ⟨h.1, fun β F ι w vs h1 h2 h3 => (h.2 β F ι w vs h1 h2 h3).mono fun _ _ ⟨F', ι', H', nx', d, v, e1, e2, e3, e4, e5, H'', e6, e7⟩ => ⟨F', ι', H'', nx', d, v, e1, e2.heap e6, e3, e4, e5, e7⟩⟩
theorem CsS.low {H H' : Hp} {N N' : Nat → Prop} (hl : ∀ q, N q → N' q ∧ H' q = H q) : ∀ {cs : List C} {ds : List Dt}, CsS H N cs ds → CsS H' N' cs ds
  | [], [], _ => trivial
  | _ :: _, _ :: _, h => ⟨h.1.mono fun q hq => ⟨(hl q hq).1, fun x hx => by rw [(hl q hq).2]; exact hx⟩, CsS.low hl h.2⟩
  | [], _ :: _, h => h.elim
  | _ :: _, [], h => h.elim
theorem DPure.ofI {P : Program} {f : FuncId} {ds : List D} {K : D → List Blk → Prop} (h : ICall P f ds Hp.none 0 fun d H' _ => ∃ d', DShw H' (fun _ => True) d d' ∧ K d' []) : DPure P f ds K :=
  ⟨h.1, fun F w vs hF hgl hvs => by
    have hg : Base.good ⟨w, fun _ => False, F, fun _ => none⟩ := ⟨hgl, hF, fun _ _ h => h⟩
    have hH : HpOk ⟨w, fun _ => False, F, fun _ => none⟩ F w (fun _ => none) Hp.none 0 := ⟨Nat.le_refl _, fun _ _ _ => rfl, hF, fun _ hb => .inl hb, fun _ hb => hb, (fun n x hx => by cases hx), fun n b cap hn => absurd rfl hn, fun n m b c c' hn => absurd rfl hn, fun _ _ => rfl, (fun n x hx => by cases hx), SameIo.refl w⟩
    have hv : RVs ⟨F, Base.B ⟨w, fun _ => False, F, fun _ => none⟩⟩ w (fun _ => none) ds vs := RVs.keep (show Env.le ⟨F, fun b => b < w.heap.size⟩ ⟨F, Base.B ⟨w, fun _ => False, F, fun _ => none⟩⟩ w w from ⟨fun _ h => h, fun _ hb => ⟨hb, fun h => h⟩, fun _ _ => rfl, fun _ _ => rfl⟩) (Nms.le_refl _) hvs
    refine (h.2 _ F _ w vs hg hH hv).mono fun _ w' ⟨F', ι', H', nx', d, v, e1, e2, e3, e4, e5, d', e6, e7⟩ => ?_
    refine ⟨giv F' ι' H' (fun _ => True), fun _ => none, d', [], v, e1, ⟨e2.size, fun b hb => e2.keep b hb (fun h => h), fun b hb => .inl (e3.F b hb), fun b hb => ?_, (fun i x hx => by simp at hx), fun i b cap hi => by simp at hi, fun i j b c c' hi => by simp at hi, fun _ _ => rfl, DShw.rv e2.blk e6 e5, e2.io⟩, e7⟩
    rcases hb with hb | ⟨n, cap, -, g1, g2, g3⟩
    · exact ⟨(e2.Fof b hb).imp id fun h => h.resolve_left fun h => h, e2.Flt b hb⟩
    · obtain ⟨s1, s2, s3⟩ := e2.own n b cap g1 g2 g3
      exact ⟨.inr (s3.resolve_left fun h => h), s1⟩⟩
theorem HSol.nil : HSol (fun _ => Option.none) := fun n x hx => by cases hx
theorem RsS.set {H : Hp} {N : Nat → Prop} {r : List C} {e : List Dt} (hr : CsS H N r e) : ∀ {rs : List (List C)} {es : List (List Dt)} {i : Nat}, RsS H N rs es → RsS H N (rs.set i r) (es.set i e)
  | [], [], _, _ => trivial
  | _ :: _, _ :: _, 0, h => ⟨hr, h.2⟩
  | _ :: _, _ :: _, _ + 1, h => ⟨h.1, RsS.set hr h.2⟩
  | [], _ :: _, _, h => h.elim
  | _ :: _, [], _, h => h.elim
def frRow (m n : Nat) (f : GFrame) : List C := [.d (eI f.fn), .d (eI f.at_), .d (eI f.to), .d (eI f.gen), .d (eI f.self.kind), .d (eI f.self.n), .own m 2 f.regs.length, .own n 2 f.tries.length]
def frData (f : GFrame) : List C := [.d (eI f.fn), .d (eI f.at_), .d (eI f.to), .d (eI f.gen), .d (eI f.self.kind), .d (eI f.self.n), .d (.sl true (f.regs.map eVal)), .d (.sl true (f.tries.map eTry))]
def ceRow (m : Nat) (c : GCell) : List C := [.d (eI c.kind), .d (eI c.num), .own m 2 c.vals.length, .own (m + 1) 8 c.frames.length]
def ceData (c : GCell) : List C := [.d (eI c.kind), .d (eI c.num), .d (.sl true (c.vals.map eVal)), .d (.sl true (c.frames.map eFrame))]
def thRow (m : Nat) (t : GThread) : List C := [.own m 8 t.frames.length, .d (eI t.state), .d (eI t.on), .d (eI t.val.kind), .d (eI t.val.n)]
def thData (t : GThread) : List C := [.d (.sl true (t.frames.map eFrame)), .d (eI t.state), .d (eI t.on), .d (eI t.val.kind), .d (eI t.val.n)]
def valBlk (l : List GVal) : Blk := ⟨.c 31, 2, l.map fun v => (eVal v).map .d⟩
def tryBlk (l : List GTry) : Blk := ⟨.c 147, 2, l.map fun v => (eTry v).map .d⟩
def mixR {α : Type} (own : Nat → α → List C) (dat : α → List C) (k : Nat) (l : List α) : List (List C) := l.mapIdx fun i f => if i < k then own i f else dat f
section
variable {α : Type} {own : Nat → α → List C} {dat : α → List C} {k : Nat} {l : List α}
@[simp] theorem mixR_len : (mixR own dat k l).length = l.length := by simp [mixR]
theorem mixR_get (i : Nat) : (mixR own dat k l)[i]? = (l[i]?).map fun f => if i < k then own i f else dat f := by simp [mixR]
@[simp] theorem mixR_getE {i : Nat} (h : i < (mixR own dat k l).length) : (mixR own dat k l)[i] = if i < k then own i (l[i]'(by simpa using h)) else dat (l[i]'(by simpa using h)) := by simp [mixR]
theorem mixR_own {i : Nat} (h : i < l.length) (hk : i < k) : (mixR own dat k l)[i]? = some (own i l[i]) := by rw [mixR_get, List.getElem?_eq_getElem h]; simp [hk]
theorem mixR_set (h : k < l.length) : (mixR own dat k l).set k (own k l[k]) = mixR own dat (k + 1) l := by
  apply List.ext_getElem?
  intro i
  rw [List.getElem?_set, mixR_get, mixR_get]
  by_cases e : k = i
  · subst e; simp [h]
  · rw [if_neg e]
    have : i < k ↔ i < k + 1 := by omega
    simp [this]
end
def off {α : Type} (g : α → Nat) (l : List α) (i : Nat) : Nat := ((l.take i).map g).sum
section
variable {α : Type} {g : α → Nat} {l : List α}
@[simp] theorem off_zero : off g l 0 = 0 := by simp [off]
theorem off_succ {i : Nat} (h : i < l.length) : off g l (i + 1) = off g l i + g l[i] := by
  unfold off
  rw [List.take_add_one, List.getElem?_eq_getElem h, List.map_append, List.sum_append]
  simp
theorem off_mono {i j : Nat} (h : i ≤ j) : off g l i ≤ off g l j := by
  obtain ⟨d, rfl⟩ : ∃ d, j = i + d := ⟨j - i, by omega⟩
  unfold off
  rw [List.take_add, List.map_append, List.sum_append]
  omega
theorem off_lt {i j : Nat} (h : i < j) (hi : i < l.length) : off g l i + g l[i] ≤ off g l j := by
  rw [← off_succ hi]
  exact off_mono h
end
abbrev ceW (c : GCell) : Nat := 2 + 2 * c.frames.length
abbrev thW (t : GThread) : Nat := 1 + 2 * t.frames.length
structure FrIn (H : Hp) (b k : Nat) (l : List GFrame) : Prop where
  regs : ∀ (i : Nat) (h : i < l.length), i < k → H (b + 1 + 2 * i) = some (valBlk l[i].regs)
  tries : ∀ (i : Nat) (h : i < l.length), i < k → H (b + 2 + 2 * i) = some (tryBlk l[i].tries)
def frMix (b k : Nat) (l : List GFrame) : Blk := ⟨.c 100, 8, mixR (fun i f => frRow (b + 1 + 2 * i) (b + 2 + 2 * i) f) frData k l⟩
structure FrAt (H : Hp) (b : Nat) (l : List GFrame) : Prop where
  blk : H b = some (frMix b l.length l)
  sub : FrIn H b l.length l
theorem FrAt.low {H H' : Hp} {b : Nat} {l : List GFrame} (h : FrAt H b l) (hl : ∀ i, b ≤ i → i < b + 1 + 2 * l.length → H' i = H i) : FrAt H' b l :=
  ⟨by rw [hl _ (by omega) (by omega)]; exact h.blk, fun i hi hk => by rw [hl _ (by omega) (by omega)]; exact h.sub.regs i hi hk, fun i hi hk => by rw [hl _ (by omega) (by omega)]; exact h.sub.tries i hi hk⟩
def CeIn (H : Hp) (b k : Nat) (l : List GCell) : Prop := ∀ (i : Nat) (h : i < l.length), i < k → H (b + off ceW l i) = some (valBlk l[i].vals) ∧ FrAt H (b + off ceW l i + 1) l[i].frames
def ThIn (H : Hp) (b k : Nat) (l : List GThread) : Prop := ∀ (i : Nat) (h : i < l.length), i < k → FrAt H (b + off thW l i) l[i].frames
def ceMix (b k : Nat) (l : List GCell) : Blk := ⟨.c 75, 4, mixR (fun i c => ceRow (b + off ceW l i) c) ceData k l⟩
def thMix (b k : Nat) (l : List GThread) : Blk := ⟨.c 90, 5, mixR (fun i t => thRow (b + off thW l i) t) thData k l⟩
theorem CeIn.low {H H' : Hp} {b k : Nat} {l : List GCell} (h : CeIn H b k l) (hk : k ≤ l.length) (hl : ∀ i, b ≤ i → i < b + off ceW l k → H' i = H i) : CeIn H' b k l := fun i hi hik => by
  obtain ⟨h1, h2⟩ := h i hi hik
  have h3 : off ceW l i + (2 + 2 * l[i].frames.length) ≤ off ceW l k := off_lt (g := ceW) hik hi
  exact ⟨by rw [hl _ (by omega) (by omega)]; exact h1, h2.low fun j hj1 hj2 => hl j (by omega) (by omega)⟩
theorem ThIn.low {H H' : Hp} {b k : Nat} {l : List GThread} (h : ThIn H b k l) (hk : k ≤ l.length) (hl : ∀ i, b ≤ i → i < b + off thW l k → H' i = H i) : ThIn H' b k l := fun i hi hik => by
  have h2 := h i hi hik
  have h3 : off thW l i + (1 + 2 * l[i].frames.length) ≤ off thW l k := off_lt (g := thW) hik hi
  exact h2.low fun j hj1 hj2 => hl j (by omega) (by omega)
abbrev ceB (n : Nat) : Nat := n + 6
abbrev thB (n : Nat) (s : GState) : Nat := n + 6 + off ceW s.cells s.cells.length
structure Oth (H : Hp) (n : Nat) (s : GState) : Prop where
  shapes : H (n + 1) = some ⟨.c 118, 2, s.shapes.map fun x => (eShape x).map .d⟩
  texts : H (n + 2) = some ⟨.c 9, 1, s.texts.map fun x => (eStr x).map .d⟩
  ends : H (n + 4) = some ⟨.c 88, 3, s.ends.map fun x => (eEnd x).map .d⟩
  said : H (n + 5) = some (valBlk s.said)
structure StAt (H : Hp) (n : Nat) (s : GState) : Prop where
  oth : Oth H n s
  cells : H n = some (ceMix (ceB n) s.cells.length s.cells)
  threads : H (n + 3) = some (thMix (thB n s) s.threads.length s.threads)
  ce : CeIn H (ceB n) s.cells.length s.cells
  th : ThIn H (thB n s) s.threads.length s.threads
def stRow (n : Nat) (s : GState) : List C := [.own n 4 s.cells.length, .own (n + 1) 2 s.shapes.length, .own (n + 2) 1 s.texts.length, .own (n + 3) 5 s.threads.length, .own (n + 4) 3 s.ends.length, .own (n + 5) 2 s.said.length, .d (eI s.asked), .d (eI s.steps)]
theorem Shw.rowL {H : Hp} {N : Nat → Prop} {n k l : Nat} {x : Blk} {es : List (List Dt)} (hn : N n) (hx : H n = some x) (hk : x.k = k) (h1 : es.length = l) (h2 : l ≤ x.es.length) (h3 : ∀ e ∈ es, e.length = k)
    (h4 : ∀ (i : Nat) (hi : i < es.length), ∃ r, x.es[i]? = some r ∧ CsS H N r es[i]) : Shw H N (.own n k l) (.sl true es) := by
  have hg : ∀ i j d, nth2 es i j = some d → ∃ c, nth2 x.es i j = some c ∧ Shw H N c d := fun i j d hd => by
    unfold nth2 at hd ⊢
    cases he : es[i]? with
    | none => simp [he] at hd
    | some e =>
      obtain ⟨hi, rfl⟩ := List.getElem?_eq_some_iff.1 he
      obtain ⟨r, hr, hs⟩ := h4 i hi
      simp only [he, Option.bind_some] at hd
      obtain ⟨c, h5, h6⟩ := (CsS.get hs).2 j d hd
      exact ⟨c, by simpa [hr] using h5, h6⟩
  refine .own (fun i j => (nth2 x.es i j).getD .any) hn hx hk h1 h2 h3 (fun i j d hd => ?_) (fun i j d hd => ?_)
  · obtain ⟨c, h5, -⟩ := hg i j d hd
    rw [h5]; rfl
  · obtain ⟨c, h5, h6⟩ := hg i j d hd
    rw [h5]; exact h6
theorem Shw.vals {H : Hp} {N : Nat → Prop} {n : Nat} {l : List GVal} (hn : N n) (hx : H n = some (valBlk l)) : Shw H N (.own n 2 l.length) (.sl true (l.map eVal)) := Shw.row hn hx rfl (by simp) (by simp [valBlk, List.take_of_length_le]) (by simp) (by simp)
theorem Shw.tries {H : Hp} {N : Nat → Prop} {n : Nat} {l : List GTry} {k : Nat} (hn : N n) (hx : H n = some (tryBlk l)) : Shw H N (.own n 2 (l.take k).length) (.sl true ((l.take k).map eTry)) := Shw.row hn hx rfl (by simp) (by
  simp only [tryBlk, List.map_map, ← List.map_take, List.length_take]
  rw [List.take_eq_take_iff.2 (show min (min k l.length) l.length = min k l.length by omega)]
  rfl) (fun e he => by obtain ⟨v, -, rfl⟩ := List.mem_map.1 he; rfl) (fun e he d hd => by
  obtain ⟨v, -, rfl⟩ := List.mem_map.1 he
  simp [eTry] at hd
  rcases hd with rfl | rfl <;> rfl)
theorem frRow_shw {H : Hp} {N : Nat → Prop} {m n : Nat} {f : GFrame} (h1 : Shw H N (.own m 2 f.regs.length) (.sl true (f.regs.map eVal))) (h2 : Shw H N (.own n 2 f.tries.length) (.sl true (f.tries.map eTry))) : CsS H N (frRow m n f) (eFrame f) :=
  ⟨.d rfl, .d rfl, .d rfl, .d rfl, .d rfl, .d rfl, h1, h2, trivial⟩
theorem FrIn.shw {H : Hp} {N : Nat → Prop} {b k : Nat} {l : List GFrame} (h : FrIn H b k l) (hN : ∀ i, b ≤ i → i < b + 1 + 2 * l.length → N i) {i : Nat} (hi : i < l.length) (hk : i < k) : CsS H N (frRow (b + 1 + 2 * i) (b + 2 + 2 * i) l[i]) (eFrame l[i]) :=
  frRow_shw (Shw.vals (hN _ (by omega) (by omega)) (h.regs i hi hk)) (by
    have := Shw.tries (N := N) (k := l[i].tries.length) (hN _ (by omega) (by omega)) (h.tries i hi hk)
    rw [List.take_length] at this
    exact this)
theorem FrAt.shw {H : Hp} {N : Nat → Prop} {b : Nat} {l : List GFrame} (h : FrAt H b l) (hN : ∀ i, b ≤ i → i < b + 1 + 2 * l.length → N i) : Shw H N (.own b 8 l.length) (.sl true (l.map eFrame)) :=
  Shw.rowL (hN _ (by omega) (by omega)) h.blk rfl (by simp) (by simp [frMix]) (by simp) fun i hi => by
    have hi : i < l.length := by simpa using hi
    exact ⟨frRow (b + 1 + 2 * i) (b + 2 + 2 * i) l[i], mixR_own hi hi, by rw [List.getElem_map]; exact h.sub.shw hN hi hi⟩
theorem Oth.shw {H : Hp} {N : Nat → Prop} {n : Nat} {s : GState} (h : Oth H n s) (hN : ∀ i, n ≤ i → i < n + 6 → N i) :
    Shw H N (.own (n + 1) 2 s.shapes.length) (.sl true (s.shapes.map eShape)) ∧ Shw H N (.own (n + 2) 1 s.texts.length) (.sl true (s.texts.map eStr)) ∧ Shw H N (.own (n + 4) 3 s.ends.length) (.sl true (s.ends.map eEnd)) ∧ Shw H N (.own (n + 5) 2 s.said.length) (.sl true (s.said.map eVal)) :=
  ⟨Shw.row (hN _ (by omega) (by omega)) h.shapes rfl (by simp) (by simp [List.take_of_length_le]) (fun e he => by obtain ⟨v, -, rfl⟩ := List.mem_map.1 he; rfl) (fun e he d hd => by obtain ⟨v, -, rfl⟩ := List.mem_map.1 he; simp at hd; rcases hd with rfl | rfl <;> rfl), Shw.row (hN _ (by omega) (by omega)) h.texts rfl (by simp) (by simp [List.take_of_length_le]) (by simp) (by simp),
    Shw.row (hN _ (by omega) (by omega)) h.ends rfl (by simp) (by simp [List.take_of_length_le]) (by simp) (by simp), Shw.vals (hN _ (by omega) (by omega)) h.said⟩
def newRs (rs : List (List C)) : Prop := ∀ e ∈ rs, ∀ c ∈ e, c.newC = true
def newAt (H : Hp) (q : Nat) : Prop := ∀ x, H q = some x → newRs x.es
theorem newRs.set {rs : List (List C)} (h : newRs rs) {i : Nat} {e : List C} (he : ∀ c ∈ e, c.newC = true) : newRs (rs.set i e) := fun e' h' c hc => by
  rcases List.mem_or_eq_of_mem_set h' with h1 | rfl
  · exact h e' h1 c hc
  · exact he c hc
theorem valBlk_new (l : List GVal) : newRs (valBlk l).es := fun e he c hc => by
  simp [valBlk] at he
  obtain ⟨v, -, rfl⟩ := he
  simp at hc
  rcases hc with rfl | rfl <;> rfl
theorem tryBlk_new (l : List GTry) : newRs (tryBlk l).es := fun e he c hc => by
  simp [tryBlk] at he
  obtain ⟨v, -, rfl⟩ := he
  simp at hc
  rcases hc with rfl | rfl <;> rfl
theorem mixR_new {α : Type} {own : Nat → α → List C} {dat : α → List C} {l : List α} (h1 : ∀ i x, ∀ c ∈ own i x, c.newC = true) : newRs (mixR own dat l.length l) := fun e he c hc => by
  simp only [mixR, List.mem_mapIdx] at he
  obtain ⟨i, hi, rfl⟩ := he
  rw [if_pos hi] at hc
  exact h1 _ _ c hc
theorem frRow_new (m n : Nat) (f : GFrame) : ∀ c ∈ frRow m n f, c.newC = true := fun c hc => by simp [frRow] at hc; rcases hc with rfl | rfl | rfl | rfl | rfl | rfl | rfl | rfl <;> rfl
theorem ceRow_new (m : Nat) (f : GCell) : ∀ c ∈ ceRow m f, c.newC = true := fun c hc => by simp [ceRow] at hc; rcases hc with rfl | rfl | rfl | rfl <;> rfl
theorem thRow_new (m : Nat) (f : GThread) : ∀ c ∈ thRow m f, c.newC = true := fun c hc => by simp [thRow] at hc; rcases hc with rfl | rfl | rfl | rfl | rfl <;> rfl
theorem newAt.of {H : Hp} {q : Nat} {x : Blk} (h : H q = some x) (hx : newRs x.es) : newAt H q := fun y hy => by rw [h] at hy; cases hy; exact hx
theorem FrAt.blks {H : Hp} {b : Nat} {l : List GFrame} (h : FrAt H b l) {i : Nat} (h1 : b ≤ i) (h2 : i < b + 1 + 2 * l.length) : newAt H i := by
  by_cases e : i = b
  · subst e
    exact .of h.blk (mixR_new fun _ _ => frRow_new _ _ _)
  · obtain ⟨k, hk⟩ : ∃ k, i = b + 1 + 2 * k ∨ i = b + 2 + 2 * k := ⟨(i - b - 1) / 2, by omega⟩
    rcases hk with rfl | rfl
    · exact .of (h.sub.regs k (by omega) (by omega)) (valBlk_new _)
    · exact .of (h.sub.tries k (by omega) (by omega)) (tryBlk_new _)
theorem mixR_sol {α : Type} {own : Nat → α → List C} {dat : α → List C} {k : Nat} {l : List α} (h1 : ∀ i x, ∀ c ∈ own i x, C.solidC c = true) (h2 : ∀ x, ∀ c ∈ dat x, C.solidC c = true) : ∀ e ∈ mixR own dat k l, ∀ c ∈ e, C.solidC c = true := fun e he c hc => by
  simp only [mixR, List.mem_mapIdx] at he
  obtain ⟨i, hi, rfl⟩ := he
  split at hc
  · exact h1 _ _ c hc
  · exact h2 _ c hc
structure FrI (H0 : Hp) (b : Nat) (l : List GFrame) (x : HN) : Prop where
  hk : x.k ≤ l.length
  hn : x.nx = b + 1 + 2 * x.k
  blk : x.H b = some (frMix b x.k l)
  sub : FrIn x.H b x.k l
  low : ∀ i, i < b → x.H i = H0 i
  high : ∀ i, x.nx ≤ i → x.H i = none
  sol : HSol x.H
structure Sized (s : GState) : Prop where
  cells : s.cells.length ≤ 300
  shapes : s.shapes.length ≤ 100
  texts : s.texts.length ≤ 300
  threads : s.threads.length ≤ 5
  ends : s.ends.length ≤ 100
  said : s.said.length ≤ 200
  cell : ∀ c ∈ s.cells, c.vals.length ≤ 100000000000 ∧ c.frames.length ≤ 30 ∧ ∀ f ∈ c.frames, f.regs.length ≤ 100000000000 ∧ f.tries.length ≤ 100000000000
  thread : ∀ t ∈ s.threads, t.frames.length ≤ 30 ∧ ∀ f ∈ t.frames, f.regs.length ≤ 100000000000 ∧ f.tries.length ≤ 100000000000
theorem ceData_sol (f : GCell) : ∀ c ∈ ceData f, C.solidC c = true := fun c hc => by simp [ceData] at hc; rcases hc with rfl | rfl | rfl | rfl <;> rfl
theorem ceRow_sol (m : Nat) (f : GCell) : ∀ c ∈ ceRow m f, C.solidC c = true := fun c hc => by simp [ceRow] at hc; rcases hc with rfl | rfl | rfl | rfl <;> rfl
theorem thData_sol (f : GThread) : ∀ c ∈ thData f, C.solidC c = true := fun c hc => by simp [thData] at hc; rcases hc with rfl | rfl | rfl | rfl | rfl <;> rfl
theorem thRow_sol (m : Nat) (f : GThread) : ∀ c ∈ thRow m f, C.solidC c = true := fun c hc => by simp [thRow] at hc; rcases hc with rfl | rfl | rfl | rfl | rfl <;> rfl
theorem ceMix_sol (b k : Nat) (l : List GCell) : ∀ e ∈ (ceMix b k l).es, ∀ c ∈ e, C.solidC c = true := mixR_sol (fun _ _ => ceRow_sol _ _) fun _ => ceData_sol _
theorem thMix_sol (b k : Nat) (l : List GThread) : ∀ e ∈ (thMix b k l).es, ∀ c ∈ e, C.solidC c = true := mixR_sol (fun _ _ => thRow_sol _ _) fun _ => thData_sol _
def nilS : List C := [.d .emp, .d .emp, .d .emp, .d .emp, .d .emp, .d .emp, .d (eI 0), .d (eI 0)]
structure CeI (H0 : Hp) (m n : Nat) (s : GState) (x : HN) : Prop where
  hm : n = m + 2
  hk : x.k ≤ s.cells.length
  hn : x.nx = ceB n + off ceW s.cells x.k
  box : x.H m = some ⟨.c 29, 8, [stRow n s]⟩
  res : x.H (m + 1) = some ⟨.c 29, 8, [nilS]⟩
  oth : Oth x.H n s
  cells : x.H n = some (ceMix (ceB n) x.k s.cells)
  threads : x.H (n + 3) = some (thMix (thB n s) 0 s.threads)
  ce : CeIn x.H (ceB n) x.k s.cells
  low : ∀ i, i < m → x.H i = H0 i
  high : ∀ i, x.nx ≤ i → x.H i = none
  sol : HSol x.H
structure ThI (H0 : Hp) (m n : Nat) (s : GState) (x : HN) : Prop where
  hm : n = m + 2
  hk : x.k ≤ s.threads.length
  hn : x.nx = thB n s + off thW s.threads x.k
  box : x.H m = some ⟨.c 29, 8, [stRow n s]⟩
  res : x.H (m + 1) = some ⟨.c 29, 8, [nilS]⟩
  oth : Oth x.H n s
  cells : x.H n = some (ceMix (ceB n) s.cells.length s.cells)
  threads : x.H (n + 3) = some (thMix (thB n s) x.k s.threads)
  ce : CeIn x.H (ceB n) s.cells.length s.cells
  th : ThIn x.H (thB n s) x.k s.threads
  low : ∀ i, i < m → x.H i = H0 i
  high : ∀ i, x.nx ≤ i → x.H i = none
  sol : HSol x.H
theorem Oth.low {H H' : Hp} {n : Nat} {s : GState} (h : Oth H n s) (hl : ∀ i, n ≤ i → i < n + 6 → i ≠ n → i ≠ n + 3 → H' i = H i) : Oth H' n s :=
  ⟨by rw [hl _ (by omega) (by omega) (by omega) (by omega)]; exact h.shapes, by rw [hl _ (by omega) (by omega) (by omega) (by omega)]; exact h.texts, by rw [hl _ (by omega) (by omega) (by omega) (by omega)]; exact h.ends, by rw [hl _ (by omega) (by omega) (by omega) (by omega)]; exact h.said⟩
theorem CeI.next {H0 H1 M : Hp} {m n k n1 : Nat} {s : GState} (h : CeI H0 m n s ⟨k, H1, n1⟩) (h1 : k < s.cells.length) (at' : FrAt M (n1 + 1) s.cells[k].frames) (d3 : ∀ i, i < n1 → M i = H1 i) (d4 : M n1 = some (valBlk s.cells[k].vals))
    (d5 : ∀ i, n1 + 1 + 1 + 2 * s.cells[k].frames.length ≤ i → M i = none) (d6 : HSol M) {R : List (List C)} (hR : R = (mixR (fun i c => ceRow (ceB n + off ceW s.cells i) c) ceData k s.cells).set k (ceRow n1 s.cells[k])) :
    CeI H0 m n s ⟨k + 1, M.set n (some ⟨.c 75, 4, R⟩), n1 + 1 + 1 + 2 * s.cells[k].frames.length⟩ := by
  obtain ⟨hm, hk, hn1, hbox, hres, hoth, hce, hthr, hin, hlow, hhigh, hsol⟩ := h
  simp only at hk hn1 hbox hres hoth hce hthr hin hlow hhigh hsol
  have hn : n1 = n + 6 + off ceW s.cells k := hn1
  have hs : off ceW s.cells (k + 1) = off ceW s.cells k + (2 + 2 * s.cells[k].frames.length) := off_succ h1
  have hb : (⟨.c 75, 4, R⟩ : Blk) = ceMix (ceB n) (k + 1) s.cells := by
    rw [hR, ceMix, ← mixR_set h1]
    simp only [ceB, hn]
  have ne : ∀ i, i ≠ n → M.set n (some ⟨.c 75, 4, R⟩) i = M i := fun i hi => Hp.set_ne _ _ hi
  refine ⟨hm, h1, by simp only [ceB]; omega, ?_, ?_, ?_, ?_, ?_, ?_, fun i hi => ?_, fun i hi => ?_, ?_⟩
  · simp only; rw [ne _ (by omega), d3 _ (by omega)]; exact hbox
  · simp only; rw [ne _ (by omega), d3 _ (by omega)]; exact hres
  · exact hoth.low fun i h1 h2 h3 h4 => by show Hp.set _ _ _ _ = _; rw [ne _ h3, d3 _ (by omega)]
  · simp only; rw [Hp.set_same, hb]
  · simp only; rw [ne _ (by omega), d3 _ (by omega)]; exact hthr
  · intro i hi hik
    simp only at hik ⊢
    by_cases e : i = k
    · subst e
      simp only [ceB]
      rw [← hn]
      refine ⟨by rw [ne _ (by omega)]; exact d4, at'.low fun j h1 h2 => ne _ (by omega)⟩
    · obtain ⟨g1, g2⟩ := hin i hi (by omega)
      have h3 : off ceW s.cells i + (2 + 2 * s.cells[i].frames.length) ≤ off ceW s.cells k := off_lt (g := ceW) (by omega) hi
      simp only [ceB] at g1 g2 ⊢
      exact ⟨by rw [ne _ (by omega), d3 _ (by omega)]; exact g1, g2.low fun j h1 h2 => by rw [ne _ (by omega), d3 _ (by omega)]⟩
  · simp only; rw [ne _ (by omega), d3 _ (by omega)]; exact hlow i hi
  · simp only at hi ⊢; rw [ne _ (by omega)]; exact d5 i (by omega)
  · simp only; rw [hb]; exact d6.set (ceMix_sol _ _ _)
theorem ThI.next {H0 H1 M : Hp} {m n k n1 : Nat} {s : GState} (h : ThI H0 m n s ⟨k, H1, n1⟩) (h1 : k < s.threads.length) (at' : FrAt M n1 s.threads[k].frames) (d3 : ∀ i, i < n1 → M i = H1 i)
    (d5 : ∀ i, n1 + 1 + 2 * s.threads[k].frames.length ≤ i → M i = none) (d6 : HSol M) {R : List (List C)} (hR : R = (mixR (fun i c => thRow (thB n s + off thW s.threads i) c) thData k s.threads).set k (thRow n1 s.threads[k])) :
    ThI H0 m n s ⟨k + 1, M.set (n + 3) (some ⟨.c 90, 5, R⟩), n1 + 1 + 2 * s.threads[k].frames.length⟩ := by
  obtain ⟨hm, hk, hn1, hbox, hres, hoth, hce, hthr, hin, hth, hlow, hhigh, hsol⟩ := h
  simp only at hk hn1 hbox hres hoth hce hthr hin hth hlow hhigh hsol
  have hn : n1 = n + 6 + off ceW s.cells s.cells.length + off thW s.threads k := hn1
  have hs : off thW s.threads (k + 1) = off thW s.threads k + (1 + 2 * s.threads[k].frames.length) := off_succ h1
  have hb : (⟨.c 90, 5, R⟩ : Blk) = thMix (thB n s) (k + 1) s.threads := by
    rw [hR, thMix, ← mixR_set h1]
    simp only [thB, hn]
  have ne : ∀ i, i ≠ n + 3 → M.set (n + 3) (some ⟨.c 90, 5, R⟩) i = M i := fun i hi => Hp.set_ne _ _ hi
  refine ⟨hm, h1, by simp only [thB]; omega, ?_, ?_, ?_, ?_, ?_, ?_, ?_, fun i hi => ?_, fun i hi => ?_, ?_⟩
  · simp only; rw [ne _ (by omega), d3 _ (by omega)]; exact hbox
  · simp only; rw [ne _ (by omega), d3 _ (by omega)]; exact hres
  · exact hoth.low fun i h1 h2 h3 h4 => by show Hp.set _ _ _ _ = _; rw [ne _ h4, d3 _ (by omega)]
  · simp only; rw [ne _ (by omega), d3 _ (by omega)]; exact hce
  · simp only; rw [Hp.set_same, hb]
  · exact hin.low (Nat.le_refl _) fun i h1 h2 => by simp only [ceB] at h1 h2; show Hp.set _ _ _ _ = _; rw [ne _ (by omega), d3 _ (by omega)]
  · intro i hi hik
    simp only at hik ⊢
    by_cases e : i = k
    · subst e
      simp only [thB]
      rw [← hn]
      exact at'.low fun j h1 h2 => ne _ (by omega)
    · have g2 := hth i hi (by omega)
      have h3 : off thW s.threads i + (1 + 2 * s.threads[i].frames.length) ≤ off thW s.threads k := off_lt (g := thW) (by omega) hi
      simp only [thB] at g2 ⊢
      exact g2.low fun j h1 h2 => by rw [ne _ (by omega), d3 _ (by omega)]
  · simp only; rw [ne _ (by omega), d3 _ (by omega)]; exact hlow i hi
  · simp only at hi ⊢; rw [ne _ (by omega)]; exact d5 i (by omega)
  · simp only; rw [hb]; exact d6.set (thMix_sol _ _ _)
theorem HSol.mer {H H' : Hp} {n : Nat} (h1 : HSol H) (h2 : HSol H') : HSol (Hp.mer H n H') := fun i x hx => by
  by_cases h : i < n
  · rw [Hp.mer_lt h] at hx; exact h1 i x hx
  · rw [Hp.mer_ge (by omega)] at hx; exact h2 i x hx
section
variable {p : GProg} {s : GState} {G : List Int} {ts : List GThread}
end
section
variable {p : GProg} {s : GState}
end

def ceR (a b : C) (c : GCell) : List C := [.d (eI c.kind), .d (eI c.num), a, b]
def thR (a : C) (t : GThread) : List C := [a, .d (eI t.state), .d (eI t.on), .d (eI t.val.kind), .d (eI t.val.n)]
structure CeAt (H : Hp) (N : Nat → Prop) (nC : Nat) (cs : List GCell) (CR : List (List C)) : Prop where
  blk : H nC = some ⟨.c 75, 4, CR⟩
  len : CR.length = cs.length
  new : newRs CR
  row : ∀ (i : Nat) (h : i < cs.length), ∃ a b, CR[i]? = some (ceR a b cs[i]) ∧ Shw H N a (.sl true (cs[i].vals.map eVal)) ∧ Shw H N b (.sl true (cs[i].frames.map eFrame)) ∧ a.newC = true ∧ b.newC = true
structure ThAt (H : Hp) (N : Nat → Prop) (th nT nF : Nat) (ts : List GThread) (T : GThread) (TR : List (List C)) : Prop where
  blk : H nT = some ⟨.c 90, 5, TR⟩
  len : TR.length = ts.length
  new : newRs TR
  row : ∀ (i : Nat) (h : i < ts.length), i ≠ th → ∃ a, TR[i]? = some (thR a ts[i]) ∧ Shw H N a (.sl true (ts[i].frames.map eFrame))
  own : TR[th]? = some (thR (.own nF 8 T.frames.length) T)
structure FsAt (H : Hp) (N : Nat → Prop) (nF : Nat) (r t : Nat → Nat) (fs : List GFrame) (FR : List (List C)) : Prop where
  blk : H nF = some ⟨.c 100, 8, FR⟩
  len : fs.length ≤ FR.length
  new : newRs FR
  row : ∀ (i : Nat) (h : i < fs.length), FR[i]? = some (frRow (r i) (t i) fs[i])
  regs : ∀ (i : Nat) (h : i < fs.length), H (r i) = some (valBlk fs[i].regs)
  tries : ∀ (i : Nat) (h : i < fs.length), N (t i) ∧ ∃ ys, H (t i) = some (tryBlk (fs[i].tries ++ ys))
structure Apt (N : Nat → Prop) (nC nT nF : Nat) (r : Nat → Nat) (l : Nat) : Prop where
  c : ¬ N nC
  tn : ¬ N nT
  f : ¬ N nF
  rs : ∀ i, i < l → ¬ N (r i) ∧ r i ≠ nC ∧ r i ≠ nT ∧ r i ≠ nF
  ct : nC ≠ nT
  cf : nC ≠ nF
  tf : nT ≠ nF
  inj : ∀ i j, i < l → j < l → r i = r j → i = j
theorem Apt.less {N : Nat → Prop} {nC nT nF : Nat} {r : Nat → Nat} {l m : Nat} (h : Apt N nC nT nF r l) (hm : m ≤ l) : Apt N nC nT nF r m := ⟨h.c, h.tn, h.f, fun i hi => h.rs i (by omega), h.ct, h.cf, h.tf, fun i j hi hj => h.inj i j (by omega) (by omega)⟩
section
variable {H H' : Hp} {N : Nat → Prop} {th nC nT nF : Nat} {r t : Nat → Nat}
theorem Shw.low {c : C} {d : Dt} (h : Shw H N c d) (hl : ∀ q, N q → H' q = H q) : Shw H' N c d := h.mono fun n hn => ⟨hn, fun x hx => by rw [hl n hn]; exact hx⟩
theorem CeAt.low {cs : List GCell} {CR : List (List C)} (h : CeAt H N nC cs CR) (hl : ∀ q, N q → H' q = H q) (hc : H' nC = H nC) : CeAt H' N nC cs CR :=
  ⟨by rw [hc]; exact h.blk, h.len, h.new, fun i hi => by obtain ⟨a, b, h1, h2, h3, h4⟩ := h.row i hi; exact ⟨a, b, h1, h2.low hl, h3.low hl, h4⟩⟩
theorem ThAt.low {ts : List GThread} {T : GThread} {TR : List (List C)} (h : ThAt H N th nT nF ts T TR) (hl : ∀ q, N q → H' q = H q) (hc : H' nT = H nT) : ThAt H' N th nT nF ts T TR :=
  ⟨by rw [hc]; exact h.blk, h.len, h.new, fun i hi hne => by obtain ⟨a, h1, h2⟩ := h.row i hi hne; exact ⟨a, h1, h2.low hl⟩, h.own⟩
theorem FsAt.low {fs : List GFrame} {FR : List (List C)} (h : FsAt H N nF r t fs FR) (hl : ∀ q, N q → H' q = H q) (hf : H' nF = H nF) (hr : ∀ i, i < fs.length → H' (r i) = H (r i)) : FsAt H' N nF r t fs FR :=
  ⟨by rw [hf]; exact h.blk, h.len, h.new, h.row, fun i hi => by rw [hr i hi]; exact h.regs i hi, fun i hi => by obtain ⟨h1, ys, h2⟩ := h.tries i hi; exact ⟨h1, ys, by rw [hl _ h1]; exact h2⟩⟩
theorem FsAt.take {fs : List GFrame} {FR : List (List C)} (h : FsAt H N nF r t fs FR) (k : Nat) : FsAt H N nF r t (fs.take k) FR :=
  ⟨h.blk, by have := h.len; simp; omega, h.new, fun i hi => by simp at hi; rw [List.getElem_take]; exact h.row i (by omega), fun i hi => by simp at hi; rw [List.getElem_take]; exact h.regs i (by omega), fun i hi => by simp at hi; rw [List.getElem_take]; exact h.tries i (by omega)⟩
theorem CeAt.num {cs : List GCell} {CR : List (List C)} (h : CeAt H N nC cs CR) (hN : ¬ N nC) {g : Nat} (hg : g < cs.length) (z : Int) {a b : C} (hr : CR[g]? = some (ceR a b cs[g])) :
    CeAt (H.set nC (some ⟨.c 75, 4, CR.set g [.d (eI cs[g].kind), .d (eI z), a, b]⟩)) N nC (cs.set g ⟨cs[g].kind, z, cs[g].vals, cs[g].frames⟩) (CR.set g [.d (eI cs[g].kind), .d (eI z), a, b]) := by
  have hl : ∀ q, N q → (H.set nC (some ⟨.c 75, 4, CR.set g [.d (eI cs[g].kind), .d (eI z), a, b]⟩)) q = H q := fun q hq => Hp.set_ne _ _ fun e => hN (e ▸ hq)
  obtain ⟨a', b', k1, k2, k3, k4, k5⟩ := h.row g hg
  rw [hr] at k1
  simp only [ceR, Option.some.injEq, List.cons.injEq, and_true, true_and] at k1
  obtain ⟨rfl, rfl⟩ := k1
  refine ⟨Hp.set_same _ _ _, by simp [h.len], h.new.set (fun c hc => by simp at hc; rcases hc with rfl | rfl | rfl | rfl <;> first | rfl | assumption), fun i hi => ?_⟩
  simp at hi
  have hl2 := h.len
  by_cases e : g = i
  · subst e
    refine ⟨a, b, ?_, ?_, ?_, k4, k5⟩
    · rw [List.getElem?_set_self (by omega)]
      simp [ceR]
    · simpa using k2.low hl
    · simpa using k3.low hl
  · obtain ⟨a2, b2, j1, j2, j3, j4, j5⟩ := h.row i hi
    refine ⟨a2, b2, ?_, ?_, ?_, j4, j5⟩
    · rw [List.getElem?_set_ne e, j1, List.getElem_set_ne e]
    · rw [List.getElem_set_ne e]; exact j2.low hl
    · rw [List.getElem_set_ne e]; exact j3.low hl
theorem ThAt.set {ts : List GThread} {T : GThread} {TR : List (List C)} (h : ThAt H N th nT nF ts T TR) (hN : ¬ N nT) (ht : th < ts.length) (T' : GThread) {e : List C} (he : e = thR (.own nF 8 T'.frames.length) T') :
    ThAt (H.set nT (some ⟨.c 90, 5, TR.set th e⟩)) N th nT nF ts T' (TR.set th e) := by
  subst he
  have hl : ∀ q, N q → (H.set nT (some ⟨.c 90, 5, TR.set th (thR (.own nF 8 T'.frames.length) T')⟩)) q = H q := fun q hq => Hp.set_ne _ _ fun e => hN (e ▸ hq)
  refine ⟨Hp.set_same _ _ _, by simp [h.len], h.new.set (fun c hc => by simp [thR] at hc; rcases hc with rfl | rfl | rfl | rfl | rfl <;> rfl), fun i hi hne => ?_, ?_⟩
  · obtain ⟨a, h1, h2⟩ := h.row i hi hne
    exact ⟨a, by rw [List.getElem?_set_ne (fun e => hne e.symm)]; exact h1, h2.low hl⟩
  · rw [List.getElem?_set_self (by have := h.len; omega)]
theorem FsAt.reg {fs : List GFrame} {FR : List (List C)} (h : FsAt H N nF r t fs FR) {k : Nat} (hk : k < fs.length) (hA : Apt N nC nT nF r fs.length) (l : List GVal) (hl : l.length = fs[k].regs.length) :
    FsAt (H.set (r k) (some (valBlk l))) N nF r t (fs.set k ⟨fs[k].fn, fs[k].at_, fs[k].to, fs[k].gen, fs[k].self, l, fs[k].tries⟩) FR := by
  obtain ⟨q1, q2, q3, q4⟩ := hA.rs k hk
  refine ⟨by rw [Hp.set_ne _ _ (fun e => q4 e.symm)]; exact h.blk, by simpa using h.len, h.new, fun i hi => ?_, fun i hi => ?_, fun i hi => ?_⟩
  · simp at hi
    rw [h.row i hi]
    by_cases e : k = i
    · subst e; simp [frRow, hl]
    · rw [List.getElem_set_ne e]
  · simp at hi
    by_cases e : k = i
    · subst e; simp
    · rw [List.getElem_set_ne e, Hp.set_ne _ _ (fun e2 => e (hA.inj _ _ hi hk e2).symm)]
      exact h.regs i hi
  · simp at hi
    obtain ⟨h1, ys, h2⟩ := h.tries i hi
    refine ⟨h1, ys, ?_⟩
    rw [Hp.set_ne _ _ (fun e => q1 (by rw [← e]; exact h1)), h2]
    by_cases e : k = i
    · subst e; simp
    · rw [List.getElem_set_ne e]
theorem FsAt.fr {fs : List GFrame} {FR : List (List C)} (h : FsAt H N nF r t fs FR) {k : Nat} (hk : k < fs.length) (hA : Apt N nC nT nF r fs.length) (f' : GFrame) (hl : f'.regs = fs[k].regs) (ht : ∃ ys, fs[k].tries = f'.tries ++ ys) {e : List C} (he : e = frRow (r k) (t k) f') :
    FsAt (H.set nF (some ⟨.c 100, 8, FR.set k e⟩)) N nF r t (fs.set k f') (FR.set k e) := by
  subst he
  have hlen := h.len
  refine ⟨Hp.set_same _ _ _, by simpa using h.len, h.new.set (fun c hc => by simp [frRow] at hc; rcases hc with rfl | rfl | rfl | rfl | rfl | rfl | rfl | rfl <;> rfl), fun i hi => ?_, fun i hi => ?_, fun i hi => ?_⟩
  · simp at hi
    by_cases e : k = i
    · subst e; rw [List.getElem?_set_self (by omega)]; simp
    · rw [List.getElem?_set_ne e, h.row i hi, List.getElem_set_ne e]
  · simp at hi
    rw [Hp.set_ne _ _ (hA.rs i hi).2.2.2, h.regs i hi]
    by_cases e : k = i
    · subst e; simp [hl]
    · rw [List.getElem_set_ne e]
  · simp at hi
    obtain ⟨h1, ys, h2⟩ := h.tries i hi
    refine ⟨h1, ?_⟩
    rw [Hp.set_ne _ _ (fun e => hA.f (by rw [← e]; exact h1)), h2]
    by_cases e : k = i
    · subst e
      obtain ⟨zs, hz⟩ := ht
      exact ⟨zs ++ ys, by simp [hz]⟩
    · exact ⟨ys, by rw [List.getElem_set_ne e]⟩
theorem Shw.wide {N' : Nat → Prop} {c : C} {d : Dt} (h : Shw H N c d) (hN : ∀ q, N q → N' q) : Shw H N' c d := h.mono fun n hn => ⟨hN n hn, fun _ h => h⟩
theorem FsAt.shw {N' : Nat → Prop} {fs : List GFrame} {FR : List (List C)} (h : FsAt H N nF r t fs FR) (hN : ∀ q, N q → N' q) (hF : N' nF) (hr : ∀ i, i < fs.length → N' (r i)) : Shw H N' (.own nF 8 fs.length) (.sl true (fs.map eFrame)) :=
  Shw.rowL hF h.blk rfl (by simp) h.len (by simp) fun i hi => by
    have hi : i < fs.length := by simpa using hi
    obtain ⟨h1, ys, h2⟩ := h.tries i hi
    refine ⟨_, h.row i hi, ?_⟩
    rw [List.getElem_map]
    refine frRow_shw (Shw.vals (hr i hi) (h.regs i hi)) ?_
    have := Shw.tries (N := N') (k := fs[i].tries.length) (hN _ h1) h2
    rwa [List.take_left] at this
theorem CeAt.shw {N' : Nat → Prop} {cs : List GCell} {CR : List (List C)} (h : CeAt H N nC cs CR) (hN : ∀ q, N q → N' q) (hC : N' nC) : Shw H N' (.own nC 4 cs.length) (.sl true (cs.map eCell)) :=
  Shw.rowL hC h.blk rfl (by simp) (by simp [h.len]) (by simp) fun i hi => by
    have hi : i < cs.length := by simpa using hi
    obtain ⟨a, b, h1, h2, h3, -⟩ := h.row i hi
    refine ⟨_, h1, ?_⟩
    rw [List.getElem_map]
    exact ⟨.d rfl, .d rfl, h2.wide hN, h3.wide hN, trivial⟩
theorem ThAt.shw {N' : Nat → Prop} {ts : List GThread} {T : GThread} {TR : List (List C)} (h : ThAt H N th nT nF ts T TR) (hth : th < ts.length) (hN : ∀ q, N q → N' q) (hT : N' nT) (hF : Shw H N' (.own nF 8 T.frames.length) (.sl true (T.frames.map eFrame))) :
    Shw H N' (.own nT 5 ts.length) (.sl true ((ts.set th T).map eThread)) :=
  Shw.rowL hT h.blk rfl (by simp) (by simp [h.len]) (fun e he => by obtain ⟨v, -, rfl⟩ := List.mem_map.1 he; rfl) fun i hi => by
    have hi : i < ts.length := by simpa using hi
    by_cases e : th = i
    · subst e
      refine ⟨_, h.own, ?_⟩
      rw [List.getElem_map, List.getElem_set_self]
      exact ⟨hF, .d rfl, .d rfl, .d rfl, .d rfl, trivial⟩
    · obtain ⟨a, h1, h2⟩ := h.row i hi (fun e2 => e e2.symm)
      refine ⟨_, h1, ?_⟩
      rw [List.getElem_map, List.getElem_set_ne e]
      exact ⟨h2.wide hN, .d rfl, .d rfl, .d rfl, .d rfl, trivial⟩
end
theorem FrAt.new {H : Hp} {b : Nat} {l : List GFrame} (h : FrAt H b l) {N : Nat → Prop} (hN : ∀ i, b ≤ i → i < b + 1 + 2 * l.length → newAt H i → N i) : Shw H N (.own b 8 l.length) (.sl true (l.map eFrame)) := by
  refine (h.shw (N := fun i => b ≤ i ∧ i < b + 1 + 2 * l.length ∧ newAt H i) fun i h1 h2 => ⟨h1, h2, ?_⟩).wide fun q hq => hN q hq.1 hq.2.1 hq.2.2
  exact h.blks h1 h2
section
variable {H : Hp} {n : Nat} {s : GState} {th : Nat}
theorem Oth.new (h : Oth H n s) {q : Nat} (h1 : n < q) (h2 : q < n + 6) (h3 : q ≠ n + 3) : newAt H q := by
  have key : ∀ {α : Type} (t : BT) (k : Nat) (l : List α) (e : α → List Dt) (_ : ∀ x, ∀ c ∈ (e x).map C.d, c.newC = true), H q = some ⟨t, k, l.map fun x => (e x).map .d⟩ → newAt H q := fun t k l e he hq => .of hq fun e' he' c hc => by
    simp at he'
    obtain ⟨x, -, rfl⟩ := he'
    exact he x c hc
  obtain rfl | rfl | rfl | rfl : q = n + 1 ∨ q = n + 2 ∨ q = n + 4 ∨ q = n + 5 := by omega
  · exact key _ _ _ _ (fun x c hc => by simp at hc; rcases hc with rfl | rfl <;> rfl) h.shapes
  · exact key _ _ _ _ (fun x c hc => by simp at hc; subst hc; rfl) h.texts
  · exact key _ _ _ _ (fun x c hc => by simp at hc; rcases hc with rfl | rfl | rfl <;> rfl) h.ends
  · exact .of h.said (valBlk_new _)
end
theorem newRs.sol {rs : List (List C)} (h : newRs rs) : ∀ e ∈ rs, ∀ c ∈ e, C.solidC c = true := fun e he c hc => by
  have := h e he c hc
  cases c with
  | d x => cases x <;> first | rfl | cases this
  | own n k l => rfl
  | ptr n k i o => rfl
  | map n => rfl
  | fnp f cs => cases this
  | ifo t n k l => cases this
  | any => cases this

section
variable {p : GProg} {s : GState}
end
end Go.Proofs.YtbphdcffpobcbaaGreatDoor
