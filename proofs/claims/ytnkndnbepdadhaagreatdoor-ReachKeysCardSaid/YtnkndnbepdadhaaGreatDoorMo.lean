/- Several texts in one. -/
import Derived.Test.YtnkndnbepdadhaaGreatDoorMd
import Derived.Test.YtnkndnbepdadhaaGreatDoorMf
import Derived.Test.YtnkndnbepdadhaaGreatDoorMg
set_option linter.unusedSimpArgs false
set_option linter.unusedVariables false
set_option maxRecDepth 100000
set_option maxHeartbeats 16000000
namespace Go.Proofs.YtnkndnbepdadhaaGreatDoor
open Go.RowKit Go
theorem RVs.wide {F : Nat → Prop} {w : World} {ι : Nms} {B : Nat → Prop} {ds : List D} {vs : List Value} (h : RVs ⟨F, Go.Proofs.YtnkndnbepdadhaaGreatDoor.noB⟩ w ι ds vs) : RVs ⟨F, B⟩ w ι ds vs := RVs.keep (show Env.le ⟨F, Go.Proofs.YtnkndnbepdadhaaGreatDoor.noB⟩ ⟨F, B⟩ w w from ⟨fun _ h => h, fun _ h => h.elim, fun _ _ => rfl, fun _ _ => rfl⟩) (Nms.le_refl _) h
theorem ICall.deepRead {P : Program} {f : FuncId} {ds es : List D} {H : Hp} {nx : Nat} {K : D → Hp → Nat → Prop} (N : Nat → Prop) (hd : DsShw H N ds es) (h : DPure P f es fun d _ => ∃ u, d = .one (.d (.lit u)) ∧ K (.one (.d (.lit u))) H nx) : ICall P f ds H nx K :=
  ⟨h.1, fun β F ι w vs hg hH hvs => by
    have hF1 : ∀ b, giv F ι H N b → b < w.heap.size := fun b hb => by
      rcases hb with hb | ⟨n, cap, -, g1, g2, g3⟩
      · exact hH.Flt b hb
      · exact (hH.own n b cap g1 g2 g3).1
    have hgl : GlOk (giv F ι H N) w := fun g arr hm => by
      obtain ⟨a1, a2⟩ := hH.gl hg g arr hm
      exact ⟨.inl a1, a2⟩
    refine (h.2 (giv F ι H N) w vs hF1 hgl (RVs.wide (DsShw.rvs (ι' := fun _ => none) hH.blk hd hvs))).mono fun _ w' ⟨F', ι', d, fr, v, e1, ho, u, e2, e3⟩ => ?_
    subst e2
    have hv : RV ⟨F, Go.Proofs.YtnkndnbepdadhaaGreatDoor.noB⟩ w' (fun _ => none) (.one (.d (.lit u))) v := by
      have := ho.val
      rw [RV] at this ⊢
      have h2 : RD _ _ (.lit u) v := this
      cases h2 with
      | lit h => exact RD.lit h
    have ho2 : Out F w w' F (fun _ => none) (.one (.d (.lit u))) [] v := ⟨ho.size, ho.old, fun b hb => hb, fun b hb => ⟨.inl hb, Nat.lt_of_lt_of_le (hH.Flt b hb) ho.size⟩, fun i x hx => by simp at hx, fun i b cap hi => by simp at hi, fun i j b c c' hi => by simp at hi, fun _ _ => rfl, hv, ho.io⟩
    have hh : Holds β F ι ⟨0, [], H, nx⟩ ⟨#[], []⟩ w := ⟨hg, rfl, rfl, fun t => by rw [show lk [] t = D.top from rfl, RV]; trivial, hH⟩
    obtain ⟨ι2, g1, g2, g3⟩ := hh.out ho2
    have hle : Env.le ⟨F, β.B⟩ ⟨F, β.B⟩ w w' := ⟨fun _ h => h, fun _ h => h, fun b hb => ho.old b (hH.Flt b hb), fun b hb => ho.old b (Nat.lt_of_lt_of_le hb.1 hH.size)⟩
    exact ⟨F, ι2, _, _, _, v, e1, g1.heap, hle, g3, g2, by simpa [addsH, D.ren, C.ren] using e3⟩⟩
section
variable {E E' : Env} {w w' : World} {ι : Nms}
theorem RCap.subN {E0 : Env} {w0 : World} {ι0 ι1 : Nms} {c : Cap} {v u : Value} (h : RCap E w ι c v) (h0 : RCap E0 w0 ι0 c u) (h1 : Nms.le ι0 ι1) (h2 : Nms.le ι1 ι) : RCap E w ι1 c v := by
  cases c with
  | d x => exact h
  | ptr n k i o =>
    obtain ⟨b, cap, g1, g2⟩ := h
    obtain ⟨b', cap', g3, -⟩ := h0
    have := h2 _ _ (h1 _ _ g3)
    rw [g1] at this
    exact ⟨b, cap, by rw [this]; exact h1 _ _ g3, g2⟩
theorem RCaps.subN {E0 : Env} {w0 : World} {ι0 ι1 : Nms} (h1 : Nms.le ι0 ι1) (h2 : Nms.le ι1 ι) : ∀ {cs : List Cap} {vs us : List Value}, RCaps E w ι cs vs → RCaps E0 w0 ι0 cs us → RCaps E w ι1 cs vs
  | [], [], _, _, _ => trivial
  | _ :: _, _ :: _, _ :: _, h, h0 => ⟨h.1.subN h0.1 h1 h2, RCaps.subN h1 h2 h.2 h0.2⟩
  | _ :: _, _ :: _, [], _, h0 => h0.elim
theorem RC.subN {E0 : Env} {w0 : World} {ι0 ι1 : Nms} {c : C} {v u : Value} (h : RC E w ι c v) (h0 : RC E0 w0 ι0 c u) (h1 : Nms.le ι0 ι1) (h2 : Nms.le ι1 ι) : RC E w ι1 c v := by
  cases c with
  | d x => exact h
  | own n k l =>
    obtain ⟨b, cap, g1, g2⟩ := h
    obtain ⟨b', cap', g3, -⟩ := h0
    have := h2 _ _ (h1 _ _ g3)
    rw [g1] at this
    exact ⟨b, cap, by rw [this]; exact h1 _ _ g3, g2⟩
  | ptr n k i o =>
    obtain ⟨b, cap, g1, g2⟩ := h
    obtain ⟨b', cap', g3, -⟩ := h0
    have := h2 _ _ (h1 _ _ g3)
    rw [g1] at this
    exact ⟨b, cap, by rw [this]; exact h1 _ _ g3, g2⟩
  | map n =>
    obtain ⟨b, cap, g1, g2⟩ := h
    obtain ⟨b', cap', g3, -⟩ := h0
    have := h2 _ _ (h1 _ _ g3)
    rw [g1] at this
    exact ⟨b, cap, by rw [this]; exact h1 _ _ g3, g2⟩
  | fnp f cs =>
    obtain ⟨ys, g1, g2⟩ := h
    obtain ⟨zs, -, g3⟩ := h0
    exact ⟨ys, g1, RCaps.subN h1 h2 g2 g3⟩
  | any => exact h
end
theorem ICall.lend {P : Program} {f : FuncId} {ds es : List D} {H : Hp} {nx : Nat} {K : D → Hp → Nat → Prop} (hd : DsShw H (fun _ => True) ds es)
    (h : ICall P f es (fun _ => none) nx fun d H' nx' => (∀ i x, H' i = some x → nx ≤ i ∧ ∀ e ∈ x.es, ∀ c ∈ e, c.newC = true) ∧ d.newD ∧ K d (fun i => if i < nx then H i else H' i) nx')
    (hf : ∀ i, nx ≤ i → H i = none) : ICall P f ds H nx K :=
  ⟨h.1, fun β F ι w vs hg hH hvs => by
    have hF1 : ∀ b, giv F ι H (fun _ => True) b → b < w.heap.size := fun b hb => by
      rcases hb with hb | ⟨n, cap, -, g1, g2, g3⟩
      · exact hH.Flt b hb
      · exact (hH.own n b cap g1 g2 g3).1
    have hF2 : ∀ b, giv F ι H (fun _ => True) b → β.F0 b ∨ β.N0 b ∨ β.w0.heap.size ≤ b := fun b hb => by
      rcases hb with hb | ⟨n, cap, -, g1, g2, g3⟩
      · exact hH.Fof b hb
      · exact .inr (hH.own n b cap g1 g2 g3).2.2
    have hle0 : Env.le ⟨giv F ι H (fun _ => True), Go.Proofs.YtnkndnbepdadhaaGreatDoor.noB⟩ ⟨giv F ι H (fun _ => True), β.B⟩ w w := ⟨fun _ h => h, fun _ h => h.elim, fun _ _ => rfl, fun _ _ => rfl⟩
    have hh0 : HpOk β (giv F ι H (fun _ => True)) w ι (fun _ => none) nx := ⟨hH.size, hH.keep, hF1, hF2, fun b hb => .inl (hH.F0 b hb), (fun n x hx => by cases hx), fun n b cap hn => absurd rfl hn, fun n m b c c' hn => absurd rfl hn, hH.nx, hH.nm, hH.io⟩
    refine (h.2 β (giv F ι H (fun _ => True)) ι w vs hg hh0 (RVs.keep hle0 (Nms.le_refl _) (DsShw.rvs (ι' := ι) hH.blk hd hvs))).mono fun _ w' ⟨F', ι', H', nx', d, v, e1, e2, e3, e4, e5, e6, e7, e8⟩ => ?_
    have hsz : ∀ b, b < w.heap.size → True := fun _ _ => trivial
    have hN : ∀ n b cap, H n ≠ none → ι' n = some (b, cap) → ι n = some (b, cap) := fun n b cap hn hb => by
      cases hx : H n with
      | none => exact absurd hx hn
      | some x =>
        obtain ⟨b', cap', g1, -⟩ := hH.blk n x hx
        have := e4 _ _ g1
        rw [hb] at this
        rw [this]; exact g1
    have hlt : ∀ n, H n ≠ none → n < nx := fun n hn => by
      rcases Nat.lt_or_ge n nx with h | h
      · exact h
      · exact absurd (hf n h) hn
    have hgv : ∀ n b cap, H n ≠ none → ι n = some (b, cap) → 0 < cap → giv F ι H (fun _ => True) b := fun n b cap hn hb hc => .inr ⟨n, cap, trivial, hn, hb, hc⟩
    have hle : Env.le ⟨F, β.B⟩ ⟨F, β.B⟩ w w' := ⟨fun _ h => h, fun _ h => h, fun b hb => e3.f b (.inl hb), fun b hb => e3.b b hb⟩
    have hsize : ∀ b, F b → b < w'.heap.size := fun b hb => e2.Flt b (e3.F b (.inl hb))
    refine ⟨F, ι', _, nx', d, v, e1, ⟨e2.size, e2.keep, hsize, hH.Fof, hH.F0, fun n x hx => ?_, fun n b cap hn hb hc => ?_, fun n m b c c' hn hm hb1 hb2 p1 p2 => ?_, e2.nx, e2.nm, e2.io⟩, hle, e4, e5.newD e7, e8⟩
    · by_cases hl : n < nx
      · simp only [hl, if_true] at hx
        exact (hH.blk n x hx).keep hle e4 fun b cap hb hc => e3.f b (hgv n b cap (by rw [hx]; simp) hb hc)
      · simp only [hl, if_false] at hx
        obtain ⟨b, cap, a1, a2, a3, a4⟩ := e2.blk n x hx
        refine ⟨b, cap, a1, a2, a3, fun hc => ?_⟩
        obtain ⟨arr, b1, b2, b3, b4⟩ := a4 hc
        refine ⟨arr, b1, b2, b3, fun i j c hj => ?_⟩
        obtain ⟨u, k1, k2⟩ := b4 i j c hj
        refine ⟨u, k1, k2.newC ?_⟩
        unfold nth2 at hj
        cases he : x.es[i]? with
        | none => simp [he] at hj
        | some e => exact (e6 n x hx).2 e (List.mem_of_getElem? he) c (List.mem_of_getElem? (by simpa [he] using hj))
    · by_cases hl : n < nx
      · simp only [hl, if_true] at hn
        have hb' := hN n b cap hn hb
        obtain ⟨s1, s2, s3⟩ := hH.own n b cap hn hb' hc
        exact ⟨e2.Flt b (e3.F b (hgv n b cap hn hb' hc)), s2, s3⟩
      · simp only [hl, if_false] at hn
        obtain ⟨s1, s2, s3⟩ := e2.own n b cap hn hb hc
        exact ⟨s1, fun hF => s2 (e3.F b (.inl hF)), s3⟩
    · by_cases hl : n < nx <;> by_cases hl2 : m < nx
      · simp only [hl, hl2, if_true] at hn hm
        exact hH.inj n m b c c' hn hm (hN _ _ _ hn hb1) (hN _ _ _ hm hb2) p1 p2
      · simp only [hl, hl2, if_true, if_false] at hn hm
        exact ((e2.own m b c' hm hb2 p2).2.1 (e3.F b (hgv n b c hn (hN _ _ _ hn hb1) p1))).elim
      · simp only [hl, hl2, if_true, if_false] at hn hm
        exact ((e2.own n b c hn hb1 p1).2.1 (e3.F b (hgv m b c' hm (hN _ _ _ hm hb2) p2))).elim
      · simp only [hl, hl2, if_false] at hn hm
        exact e2.inj n m b c c' hn hm hb1 hb2 p1 p2⟩
theorem ICall.give {P : Program} {f : FuncId} {ds : List D} {H : Hp} {nx : Nat} {K : D → Hp → Nat → Prop} (hf : ∀ i, nx ≤ i → H i = none)
    (h : ICall P f ds H nx fun d H' _ => (∀ i, i < nx → H' i = H i) ∧ ∃ d', DShw H' (fun i => nx ≤ i) d d' ∧ K d' H nx) : ICall P f ds H nx K :=
  ⟨h.1, fun β F ι w vs hg hH hvs => (h.2 β F ι w vs hg hH hvs).mono fun _ w' ⟨F', ι', H', nx', d, v, e1, e2, e3, e4, e5, e6, d', e7, e8⟩ => by
    have h1 : Nms.le ι (fun n => if n < nx then ι' n else none) := fun n x hx => by
      rcases Nat.lt_or_ge n nx with h | h
      · simp only [h, if_true]; exact e4 n x hx
      · rw [hH.nx n h] at hx; cases hx
    have h2 : Nms.le (fun n => if n < nx then ι' n else none) ι' := fun n x hx => by
      by_cases h : n < nx
      · simpa only [h, if_true] using hx
      · simp only [h, if_false] at hx; cases hx
    have hlt : ∀ n, H n ≠ none → n < nx := fun n hn => by
      rcases Nat.lt_or_ge n nx with h | h
      · exact h
      · exact absurd (hf n h) hn
    have hn' : ∀ n, H n ≠ none → H' n ≠ none := fun n hn => by rw [e6 n (hlt n hn)]; exact hn
    refine ⟨giv F' ι' H' (fun i => nx ≤ i), _, H, nx, d', v, e1, ⟨e2.size, e2.keep, fun b hb => ?_, fun b hb => ?_, fun b hb => .inl (e2.F0 b hb), fun n x hx => ?_, fun n b cap hn hb hc => ?_, fun n m b c c' hn hm hb1 hb2 => e2.inj n m b c c' (hn' n hn) (hn' m hm) (h2 _ _ hb1) (h2 _ _ hb2), fun n hn => ?_, fun n x hx => ?_, e2.io⟩,
      ⟨fun b hb => .inl (e3.F b hb), e3.B, e3.f, e3.b⟩, h1, (DShw.rv e2.blk e7 e5).keep (show Env.le ⟨_, Go.Proofs.YtnkndnbepdadhaaGreatDoor.noB⟩ ⟨_, β.B⟩ w' w' from ⟨fun _ h => h, fun _ h => h.elim, fun _ _ => rfl, fun _ _ => rfl⟩) (Nms.le_refl _), e8⟩
    · rcases hb with hb | ⟨m, cap, -, g1, g2, g3⟩
      · exact e2.Flt b hb
      · exact (e2.own m b cap g1 g2 g3).1
    · rcases hb with hb | ⟨m, cap, -, g1, g2, g3⟩
      · exact e2.Fof b hb
      · exact .inr (e2.own m b cap g1 g2 g3).2.2
    · have hl := hlt n (by rw [hx]; simp)
      obtain ⟨b, cap, a1, a2, a3, a4⟩ := e2.blk n x (by rw [e6 n hl]; exact hx)
      obtain ⟨b0, cap0, c1, c2, c3, c4⟩ := hH.blk n x hx
      have he := e4 _ _ c1
      rw [a1] at he
      simp only [Option.some.injEq, Prod.mk.injEq] at he
      obtain ⟨rfl, rfl⟩ := he
      refine ⟨b, cap, by simp only [hl, if_true]; exact a1, a2, a3, fun hc => ?_⟩
      obtain ⟨arr, b1, b2, b3, b4⟩ := a4 hc
      obtain ⟨arr0, d1, d2, d3, d4⟩ := c4 hc
      refine ⟨arr, b1, b2, b3, fun i j c hj => ?_⟩
      obtain ⟨u, k1, k2⟩ := b4 i j c hj
      obtain ⟨u0, k3, k4⟩ := d4 i j c hj
      exact ⟨u, k1, (k2.keep giv_le (Nms.le_refl _)).subN k4 h1 h2⟩
    · have hl := hlt n hn
      simp only [hl, if_true] at hb
      obtain ⟨s1, s2, s3⟩ := e2.own n b cap (hn' n hn) hb hc
      refine ⟨s1, fun hF => ?_, s3⟩
      rcases hF with hF | ⟨m, cap', k1, k2, k3, k4⟩
      · exact s2 hF
      · have := e2.inj n m b cap cap' (hn' n hn) k2 hb k3 hc k4
        omega
    · simp only [Nat.not_lt.2 hn, if_false]
    · exact h1 n x (hH.nm n x hx)⟩
def cutK (K : D → Hp → Nat → Prop) (d : D) (H' : Hp) (nx' : Nat) : Prop := ∃ H'', (∀ i y, H'' i = some y → H' i = some y) ∧ K d H'' nx'
theorem ICall.cut {P : Program} {f : FuncId} {ds : List D} {H : Hp} {nx : Nat} {K : D → Hp → Nat → Prop} (h : ICall P f ds H nx (cutK K)) : ICall P f ds H nx K :=
  ⟨h.1, fun β F ι w vs h1 h2 h3 => (h.2 β F ι w vs h1 h2 h3).mono fun _ _ ⟨F', ι', H', nx', d, v, e1, e2, e3, e4, e5, H'', e6, e7⟩ => ⟨F', ι', H'', nx', d, v, e1, e2.heap e6, e3, e4, e5, e7⟩⟩
theorem CsS.low {H H' : Hp} {N N' : Nat → Prop} (hl : ∀ q, N q → N' q ∧ H' q = H q) : ∀ {cs : List C} {ds : List Dt}, CsS H N cs ds → CsS H' N' cs ds
  | [], [], _ => trivial
  | _ :: _, _ :: _, h => ⟨h.1.mono fun q hq => ⟨(hl q hq).1, fun x hx => by rw [(hl q hq).2]; exact hx⟩, CsS.low hl h.2⟩
  | [], _ :: _, h => h.elim
  | _ :: _, [], h => h.elim
theorem DPure.ofI {P : Program} {f : FuncId} {ds : List D} {K : D → List Blk → Prop} (h : ICall P f ds Hp.none 0 fun d H' _ => ∃ d', DShw H' (fun _ => True) d d' ∧ K d' []) : DPure P f ds K :=
  ⟨h.1, fun F w vs hF hgl hvs => by
    have hg : Base.good ⟨w, fun _ => False, F, fun _ => none⟩ := ⟨hgl, hF, fun _ _ h => h⟩
    have hH : HpOk ⟨w, fun _ => False, F, fun _ => none⟩ F w (fun _ => none) Hp.none 0 := ⟨Nat.le_refl _, fun _ _ _ => rfl, hF, fun _ hb => .inl hb, fun _ hb => hb, (fun n x hx => by cases hx), fun n b cap hn => absurd rfl hn, fun n m b c c' hn => absurd rfl hn, fun _ _ => rfl, (fun n x hx => by cases hx), SameIo.refl w⟩
    have hv : RVs ⟨F, Base.B ⟨w, fun _ => False, F, fun _ => none⟩⟩ w (fun _ => none) ds vs := RVs.keep (show Env.le ⟨F, fun b => b < w.heap.size⟩ ⟨F, Base.B ⟨w, fun _ => False, F, fun _ => none⟩⟩ w w from ⟨fun _ h => h, fun _ hb => ⟨hb, fun h => h⟩, fun _ _ => rfl, fun _ _ => rfl⟩) (Nms.le_refl _) hvs
    refine (h.2 _ F _ w vs hg hH hv).mono fun _ w' ⟨F', ι', H', nx', d, v, e1, e2, e3, e4, e5, d', e6, e7⟩ => ?_
    refine ⟨giv F' ι' H' (fun _ => True), fun _ => none, d', [], v, e1, ⟨e2.size, fun b hb => e2.keep b hb (fun h => h), fun b hb => .inl (e3.F b hb), fun b hb => ?_, (fun i x hx => by simp at hx), fun i b cap hi => by simp at hi, fun i j b c c' hi => by simp at hi, fun _ _ => rfl, DShw.rv e2.blk e6 e5, e2.io⟩, e7⟩
    rcases hb with hb | ⟨n, cap, -, g1, g2, g3⟩
    · exact ⟨(e2.Fof b hb).imp id fun h => h.resolve_left fun h => h, e2.Flt b hb⟩
    · obtain ⟨s1, s2, s3⟩ := e2.own n b cap g1 g2 g3
      exact ⟨.inr (s3.resolve_left fun h => h), s1⟩⟩
theorem HSol.nil : HSol (fun _ => Option.none) := fun n x hx => by cases hx
theorem CsS.csShw {H : Hp} {N : Nat → Prop} : ∀ {cs : List C} {ds : List Dt}, CsS H N cs ds → CsShw H N cs (ds.map .d)
  | [], [], _ => trivial
  | _ :: _, _ :: _, h => ⟨⟨_, rfl, h.1⟩, CsS.csShw h.2⟩
  | [], _ :: _, h => h.elim
  | _ :: _, [], h => h.elim
theorem RsS.set {H : Hp} {N : Nat → Prop} {r : List C} {e : List Dt} (hr : CsS H N r e) : ∀ {rs : List (List C)} {es : List (List Dt)} {i : Nat}, RsS H N rs es → RsS H N (rs.set i r) (es.set i e)
  | [], [], _, _ => trivial
  | _ :: _, _ :: _, 0, h => ⟨hr, h.2⟩
  | _ :: _, _ :: _, _ + 1, h => ⟨h.1, RsS.set hr h.2⟩
  | [], _ :: _, _, h => h.elim
  | _ :: _, [], _, h => h.elim
theorem frames_small {p : GProg} {s : GState} (h : stateQ wordsT p s = 0) {k : Nat} (hk : k < s.threads.length) : (thrAt s k).frames.length ≤ 30 ∧ ∀ f ∈ (thrAt s k).frames, frameB p s f = true ∧ f.regs.length ≤ 60 := by
  rw [stateQ_iff] at h
  obtain ⟨a1, -, a3, a4⟩ := h
  have h4 : thrAt s k = s.threads[k] := by simp [thrAt, List.getD_eq_getElem?_getD, List.getElem?_eq_getElem hk]
  rw [h4]
  refine ⟨?_, fun f hf => ?_⟩
  · simp only [stateLarge, Bool.or_eq_false_iff, decide_eq_false_iff_not, List.any_eq_false, decide_eq_true_eq] at a3
    have := a3.2 _ (List.getElem_mem hk)
    omega
  · obtain ⟨-, -, h3, -⟩ := state_iff.1 a4
    have hth := (thread_iff.1 (List.all_eq_true.1 h3 _ (List.getElem_mem hk))).2.2.2.2.2
    obtain ⟨i, hi, rfl⟩ := List.getElem_of_mem hf
    have hfr := ((stack_iff hi).1 (hth i hi)).1
    refine ⟨hfr, ?_⟩
    have g := frame_iff.1 hfr
    have := (large_iff.1 (check_zero a1).1).2.2.2.2 _ (fn_mem g.1.1 g.1.2)
    omega
theorem turn_rel (s : GState) (t r q : Nat) (v : GVal) (fs : List GFrame) (f : GFrame) (xst xon : Int) (xv : GVal) (hx : s.threads.getD t dThread = ⟨fs, xst, xon, xv⟩) (hq : fs.length = q + 1) (hf : fs[q]? = some f) {H : Hp}
    (h4 : H 4 = some ⟨.c 42, 5, (s.threads.map fun x => (eThread x).map .d).set t [.own 5 8 (q + 1), .d (eI xst), .d (eI xon), .d (eI xv.kind), .d (eI xv.n)]⟩)
    (h5 : H 5 = some ⟨.c 47, 8, (fs.map fun x => (eFrame x).map .d).set q [.d (eI f.fn), .d (eI f.at_), .d (eI f.to), .d (eI f.gen), .d (eI f.self.kind), .d (eI f.self.n), .own 6 2 f.regs.length, .d (.sl true (f.tries.map eTry))]⟩)
    (h6 : H 6 = some ⟨.c 34, 2, (f.regs.map fun x => (eVal x).map .d).set r [.d (eI v.kind), .d (eI v.n)]⟩) :
    CsRel H (fun i => i = 4 ∨ i = 5 ∨ i = 6) [.d (.sl true (s.cells.map eCell)), .d (.sl true (s.shapes.map eShape)), .d (.sl true (s.texts.map eStr)), .own 4 5 s.threads.length, .d (.sl true (s.ends.map eEnd)), .d (.sl true (s.said.map eVal)), .d (eI s.asked), .d (eI s.steps)] ((eState (turnS s t r v)).map .d) := by
  refine ⟨.inl rfl, .inl rfl, .inl rfl, .inr ⟨_, rfl, ?_⟩, .inl rfl, .inl rfl, .inl rfl, .inl rfl, trivial⟩
  refine Shw.rows (.inl rfl) h4 (by simp [turnS]) (rowsLen (f := eThread) fun _ => rfl) ?_
  have hd : fs.getD (fs.length - 1) dFrame = f := by rw [hq, List.getD_eq_getElem?_getD, Nat.add_sub_cancel, hf]; rfl
  have e : (turnS s t r v).threads.map eThread = (s.threads.map eThread).set t (eThread (turnT ⟨fs, xst, xon, xv⟩ r v)) := by
    simp only [turnS, hx, List.map_set]
  rw [e]
  refine RsS.set ?_ (RsS.dat (e := eThread) (by simp))
  refine ⟨?_, .d rfl, .d rfl, .d rfl, .d rfl, trivial⟩
  simp only [turnT]
  rw [hd, hq, Nat.add_sub_cancel]
  refine Shw.rows (.inr (.inl rfl)) h5 (by simp [hq]) (rowsLen (f := eFrame) fun _ => rfl) ?_
  rw [List.map_set]
  refine RsS.set ?_ (RsS.dat (e := eFrame) (by simp))
  refine ⟨.d rfl, .d rfl, .d rfl, .d rfl, .d rfl, .d rfl, ?_, .d rfl, trivial⟩
  refine Shw.rows (.inr (.inr rfl)) h6 (by simp [turnF]) (rowsLen (f := eVal) fun _ => rfl) ?_
  simp only [turnF, List.map_set]
  refine RsS.set ?_ (RsS.dat (e := eVal) fun x d hd => by simp [eVal] at hd; rcases hd with rfl | rfl <;> rfl)
  exact ⟨.d rfl, .d rfl, trivial⟩
def frRow (m n : Nat) (f : GFrame) : List C := [.d (eI f.fn), .d (eI f.at_), .d (eI f.to), .d (eI f.gen), .d (eI f.self.kind), .d (eI f.self.n), .own m 2 f.regs.length, .own n 2 f.tries.length]
def frData (f : GFrame) : List C := [.d (eI f.fn), .d (eI f.at_), .d (eI f.to), .d (eI f.gen), .d (eI f.self.kind), .d (eI f.self.n), .d (.sl true (f.regs.map eVal)), .d (.sl true (f.tries.map eTry))]
def ceRow (m : Nat) (c : GCell) : List C := [.d (eI c.kind), .d (eI c.num), .own m 2 c.vals.length, .own (m + 1) 8 c.frames.length]
def ceData (c : GCell) : List C := [.d (eI c.kind), .d (eI c.num), .d (.sl true (c.vals.map eVal)), .d (.sl true (c.frames.map eFrame))]
def thRow (m : Nat) (t : GThread) : List C := [.own m 8 t.frames.length, .d (eI t.state), .d (eI t.on), .d (eI t.val.kind), .d (eI t.val.n)]
def thData (t : GThread) : List C := [.d (.sl true (t.frames.map eFrame)), .d (eI t.state), .d (eI t.on), .d (eI t.val.kind), .d (eI t.val.n)]
def valBlk (l : List GVal) : Blk := ⟨.c 34, 2, l.map fun v => (eVal v).map .d⟩
def tryBlk (l : List GTry) : Blk := ⟨.c 202, 2, l.map fun v => (eTry v).map .d⟩
def mixR {α : Type} (own : Nat → α → List C) (dat : α → List C) (k : Nat) (l : List α) : List (List C) := l.mapIdx fun i f => if i < k then own i f else dat f
section
variable {α : Type} {own : Nat → α → List C} {dat : α → List C} {k : Nat} {l : List α}
@[simp] theorem mixR_len : (mixR own dat k l).length = l.length := by simp [mixR]
theorem mixR_get (i : Nat) : (mixR own dat k l)[i]? = (l[i]?).map fun f => if i < k then own i f else dat f := by simp [mixR]
theorem mixR_at (h : k < l.length) : (mixR own dat k l)[k]? = some (dat l[k]) := by rw [mixR_get, List.getElem?_eq_getElem h]; simp
@[simp] theorem mixR_getE {i : Nat} (h : i < (mixR own dat k l).length) : (mixR own dat k l)[i] = if i < k then own i (l[i]'(by simpa using h)) else dat (l[i]'(by simpa using h)) := by simp [mixR]
theorem mixR_own {i : Nat} (h : i < l.length) (hk : i < k) : (mixR own dat k l)[i]? = some (own i l[i]) := by rw [mixR_get, List.getElem?_eq_getElem h]; simp [hk]
theorem mixR_zero : mixR own dat 0 l = l.map dat := by
  apply List.ext_getElem?
  intro i
  simp [mixR_get]
theorem mixR_set (h : k < l.length) : (mixR own dat k l).set k (own k l[k]) = mixR own dat (k + 1) l := by
  apply List.ext_getElem?
  intro i
  rw [List.getElem?_set, mixR_get, mixR_get]
  by_cases e : k = i
  · subst e; simp [h]
  · rw [if_neg e]
    have : i < k ↔ i < k + 1 := by omega
    simp [this]
end
def off {α : Type} (g : α → Nat) (l : List α) (i : Nat) : Nat := ((l.take i).map g).sum
section
variable {α : Type} {g : α → Nat} {l : List α}
@[simp] theorem off_zero : off g l 0 = 0 := by simp [off]
theorem off_succ {i : Nat} (h : i < l.length) : off g l (i + 1) = off g l i + g l[i] := by
  unfold off
  rw [List.take_add_one, List.getElem?_eq_getElem h, List.map_append, List.sum_append]
  simp
theorem off_mono {i j : Nat} (h : i ≤ j) : off g l i ≤ off g l j := by
  obtain ⟨d, rfl⟩ : ∃ d, j = i + d := ⟨j - i, by omega⟩
  unfold off
  rw [List.take_add, List.map_append, List.sum_append]
  omega
theorem off_lt {i j : Nat} (h : i < j) (hi : i < l.length) : off g l i + g l[i] ≤ off g l j := by
  rw [← off_succ hi]
  exact off_mono h
theorem off_map {β : Type} (f : β → α) (l : List β) (i : Nat) : off g (l.map f) i = off (fun x => g (f x)) l i := by
  unfold off
  rw [← List.map_take, List.map_map]
  rfl
end
abbrev ceW (c : GCell) : Nat := 2 + 2 * c.frames.length
abbrev thW (t : GThread) : Nat := 1 + 2 * t.frames.length
structure FrIn (H : Hp) (b k : Nat) (l : List GFrame) : Prop where
  regs : ∀ (i : Nat) (h : i < l.length), i < k → H (b + 1 + 2 * i) = some (valBlk l[i].regs)
  tries : ∀ (i : Nat) (h : i < l.length), i < k → H (b + 2 + 2 * i) = some (tryBlk l[i].tries)
def frMix (b k : Nat) (l : List GFrame) : Blk := ⟨.c 47, 8, mixR (fun i f => frRow (b + 1 + 2 * i) (b + 2 + 2 * i) f) frData k l⟩
structure FrAt (H : Hp) (b : Nat) (l : List GFrame) : Prop where
  blk : H b = some (frMix b l.length l)
  sub : FrIn H b l.length l
theorem FrAt.low {H H' : Hp} {b : Nat} {l : List GFrame} (h : FrAt H b l) (hl : ∀ i, b ≤ i → i < b + 1 + 2 * l.length → H' i = H i) : FrAt H' b l :=
  ⟨by rw [hl _ (by omega) (by omega)]; exact h.blk, fun i hi hk => by rw [hl _ (by omega) (by omega)]; exact h.sub.regs i hi hk, fun i hi hk => by rw [hl _ (by omega) (by omega)]; exact h.sub.tries i hi hk⟩
def CeIn (H : Hp) (b k : Nat) (l : List GCell) : Prop := ∀ (i : Nat) (h : i < l.length), i < k → H (b + off ceW l i) = some (valBlk l[i].vals) ∧ FrAt H (b + off ceW l i + 1) l[i].frames
def ThIn (H : Hp) (b k : Nat) (l : List GThread) : Prop := ∀ (i : Nat) (h : i < l.length), i < k → FrAt H (b + off thW l i) l[i].frames
def ceMix (b k : Nat) (l : List GCell) : Blk := ⟨.c 53, 4, mixR (fun i c => ceRow (b + off ceW l i) c) ceData k l⟩
def thMix (b k : Nat) (l : List GThread) : Blk := ⟨.c 42, 5, mixR (fun i t => thRow (b + off thW l i) t) thData k l⟩
theorem CeIn.low {H H' : Hp} {b k : Nat} {l : List GCell} (h : CeIn H b k l) (hk : k ≤ l.length) (hl : ∀ i, b ≤ i → i < b + off ceW l k → H' i = H i) : CeIn H' b k l := fun i hi hik => by
  obtain ⟨h1, h2⟩ := h i hi hik
  have h3 : off ceW l i + (2 + 2 * l[i].frames.length) ≤ off ceW l k := off_lt (g := ceW) hik hi
  exact ⟨by rw [hl _ (by omega) (by omega)]; exact h1, h2.low fun j hj1 hj2 => hl j (by omega) (by omega)⟩
theorem ThIn.low {H H' : Hp} {b k : Nat} {l : List GThread} (h : ThIn H b k l) (hk : k ≤ l.length) (hl : ∀ i, b ≤ i → i < b + off thW l k → H' i = H i) : ThIn H' b k l := fun i hi hik => by
  have h2 := h i hi hik
  have h3 : off thW l i + (1 + 2 * l[i].frames.length) ≤ off thW l k := off_lt (g := thW) hik hi
  exact h2.low fun j hj1 hj2 => hl j (by omega) (by omega)
abbrev ceB (n : Nat) : Nat := n + 6
abbrev thB (n : Nat) (s : GState) : Nat := n + 6 + off ceW s.cells s.cells.length
abbrev enB (n : Nat) (s : GState) : Nat := thB n s + off thW s.threads s.threads.length
structure Oth (H : Hp) (n : Nat) (s : GState) : Prop where
  shapes : H (n + 1) = some ⟨.c 120, 2, s.shapes.map fun x => (eShape x).map .d⟩
  texts : H (n + 2) = some ⟨.c 9, 1, s.texts.map fun x => (eStr x).map .d⟩
  ends : H (n + 4) = some ⟨.c 125, 3, s.ends.map fun x => (eEnd x).map .d⟩
  said : H (n + 5) = some (valBlk s.said)
structure StAt (H : Hp) (n : Nat) (s : GState) : Prop where
  oth : Oth H n s
  cells : H n = some (ceMix (ceB n) s.cells.length s.cells)
  threads : H (n + 3) = some (thMix (thB n s) s.threads.length s.threads)
  ce : CeIn H (ceB n) s.cells.length s.cells
  th : ThIn H (thB n s) s.threads.length s.threads
def stRow (n : Nat) (s : GState) : List C := [.own n 4 s.cells.length, .own (n + 1) 2 s.shapes.length, .own (n + 2) 1 s.texts.length, .own (n + 3) 5 s.threads.length, .own (n + 4) 3 s.ends.length, .own (n + 5) 2 s.said.length, .d (eI s.asked), .d (eI s.steps)]
theorem Shw.rowL {H : Hp} {N : Nat → Prop} {n k l : Nat} {x : Blk} {es : List (List Dt)} (hn : N n) (hx : H n = some x) (hk : x.k = k) (h1 : es.length = l) (h2 : l ≤ x.es.length) (h3 : ∀ e ∈ es, e.length = k)
    (h4 : ∀ (i : Nat) (hi : i < es.length), ∃ r, x.es[i]? = some r ∧ CsS H N r es[i]) : Shw H N (.own n k l) (.sl true es) := by
  have hg : ∀ i j d, nth2 es i j = some d → ∃ c, nth2 x.es i j = some c ∧ Shw H N c d := fun i j d hd => by
    unfold nth2 at hd ⊢
    cases he : es[i]? with
    | none => simp [he] at hd
    | some e =>
      obtain ⟨hi, rfl⟩ := List.getElem?_eq_some_iff.1 he
      obtain ⟨r, hr, hs⟩ := h4 i hi
      simp only [he, Option.bind_some] at hd
      obtain ⟨c, h5, h6⟩ := (CsS.get hs).2 j d hd
      exact ⟨c, by simpa [hr] using h5, h6⟩
  refine .own (fun i j => (nth2 x.es i j).getD .any) hn hx hk h1 h2 h3 (fun i j d hd => ?_) (fun i j d hd => ?_)
  · obtain ⟨c, h5, -⟩ := hg i j d hd
    rw [h5]; rfl
  · obtain ⟨c, h5, h6⟩ := hg i j d hd
    rw [h5]; exact h6
theorem Shw.vals {H : Hp} {N : Nat → Prop} {n : Nat} {l : List GVal} (hn : N n) (hx : H n = some (valBlk l)) : Shw H N (.own n 2 l.length) (.sl true (l.map eVal)) := Shw.row hn hx rfl (by simp) (by simp [valBlk, List.take_of_length_le]) (by simp) (by simp)
theorem Shw.tries {H : Hp} {N : Nat → Prop} {n : Nat} {l : List GTry} {k : Nat} (hn : N n) (hx : H n = some (tryBlk l)) : Shw H N (.own n 2 (l.take k).length) (.sl true ((l.take k).map eTry)) := Shw.row hn hx rfl (by simp) (by
  simp only [tryBlk, List.map_map, ← List.map_take, List.length_take]
  rw [List.take_eq_take_iff.2 (show min (min k l.length) l.length = min k l.length by omega)]
  rfl) (fun e he => by obtain ⟨v, -, rfl⟩ := List.mem_map.1 he; rfl) (fun e he d hd => by
  obtain ⟨v, -, rfl⟩ := List.mem_map.1 he
  simp [eTry] at hd
  rcases hd with rfl | rfl <;> rfl)
theorem frRow_shw {H : Hp} {N : Nat → Prop} {m n : Nat} {f : GFrame} (h1 : Shw H N (.own m 2 f.regs.length) (.sl true (f.regs.map eVal))) (h2 : Shw H N (.own n 2 f.tries.length) (.sl true (f.tries.map eTry))) : CsS H N (frRow m n f) (eFrame f) :=
  ⟨.d rfl, .d rfl, .d rfl, .d rfl, .d rfl, .d rfl, h1, h2, trivial⟩
theorem FrIn.shw {H : Hp} {N : Nat → Prop} {b k : Nat} {l : List GFrame} (h : FrIn H b k l) (hN : ∀ i, b ≤ i → i < b + 1 + 2 * l.length → N i) {i : Nat} (hi : i < l.length) (hk : i < k) : CsS H N (frRow (b + 1 + 2 * i) (b + 2 + 2 * i) l[i]) (eFrame l[i]) :=
  frRow_shw (Shw.vals (hN _ (by omega) (by omega)) (h.regs i hi hk)) (by
    have := Shw.tries (N := N) (k := l[i].tries.length) (hN _ (by omega) (by omega)) (h.tries i hi hk)
    rw [List.take_length] at this
    exact this)
theorem FrAt.shw {H : Hp} {N : Nat → Prop} {b : Nat} {l : List GFrame} (h : FrAt H b l) (hN : ∀ i, b ≤ i → i < b + 1 + 2 * l.length → N i) : Shw H N (.own b 8 l.length) (.sl true (l.map eFrame)) :=
  Shw.rowL (hN _ (by omega) (by omega)) h.blk rfl (by simp) (by simp [frMix]) (by simp) fun i hi => by
    have hi : i < l.length := by simpa using hi
    exact ⟨frRow (b + 1 + 2 * i) (b + 2 + 2 * i) l[i], mixR_own hi hi, by rw [List.getElem_map]; exact h.sub.shw hN hi hi⟩
theorem ceRow_shw {H : Hp} {N : Nat → Prop} {m : Nat} {c : GCell} (h1 : H m = some (valBlk c.vals)) (h2 : FrAt H (m + 1) c.frames) (hN : ∀ i, m ≤ i → i < m + (2 + 2 * c.frames.length) → N i) : CsS H N (ceRow m c) (eCell c) :=
  ⟨.d rfl, .d rfl, Shw.vals (hN _ (by omega) (by omega)) h1, h2.shw fun i hi hj => hN i (by omega) (by omega), trivial⟩
theorem thRow_shw {H : Hp} {N : Nat → Prop} {m : Nat} {t : GThread} (h2 : FrAt H m t.frames) (hN : ∀ i, m ≤ i → i < m + (1 + 2 * t.frames.length) → N i) : CsS H N (thRow m t) (eThread t) :=
  ⟨h2.shw fun i hi hj => hN i (by omega) (by omega), .d rfl, .d rfl, .d rfl, .d rfl, trivial⟩
theorem ce_shw {H : Hp} {N : Nat → Prop} {n b : Nat} {l : List GCell} (hx : H n = some (ceMix b l.length l)) (h : CeIn H b l.length l) (hn : N n) (hN : ∀ i, b ≤ i → i < b + off ceW l l.length → N i) : Shw H N (.own n 4 l.length) (.sl true (l.map eCell)) :=
  Shw.rowL hn hx rfl (by simp) (by simp [ceMix]) (by simp) fun i hi => by
    have hi : i < l.length := by simpa using hi
    obtain ⟨h1, h2⟩ := h i hi hi
    have h3 : off ceW l i + (2 + 2 * l[i].frames.length) ≤ off ceW l l.length := off_lt (g := ceW) hi hi
    exact ⟨ceRow (b + off ceW l i) l[i], mixR_own hi hi, by rw [List.getElem_map]; exact ceRow_shw h1 h2 fun j hj1 hj2 => hN j (by omega) (by omega)⟩
theorem th_shw {H : Hp} {N : Nat → Prop} {n b : Nat} {l : List GThread} (hx : H n = some (thMix b l.length l)) (h : ThIn H b l.length l) (hn : N n) (hN : ∀ i, b ≤ i → i < b + off thW l l.length → N i) : Shw H N (.own n 5 l.length) (.sl true (l.map eThread)) :=
  Shw.rowL hn hx rfl (by simp) (by simp [thMix]) (by simp) fun i hi => by
    have hi : i < l.length := by simpa using hi
    have h2 := h i hi hi
    have h3 : off thW l i + (1 + 2 * l[i].frames.length) ≤ off thW l l.length := off_lt (g := thW) hi hi
    exact ⟨thRow (b + off thW l i) l[i], mixR_own hi hi, by rw [List.getElem_map]; exact thRow_shw h2 fun j hj1 hj2 => hN j (by omega) (by omega)⟩
theorem Oth.shw {H : Hp} {N : Nat → Prop} {n : Nat} {s : GState} (h : Oth H n s) (hN : ∀ i, n ≤ i → i < n + 6 → N i) :
    Shw H N (.own (n + 1) 2 s.shapes.length) (.sl true (s.shapes.map eShape)) ∧ Shw H N (.own (n + 2) 1 s.texts.length) (.sl true (s.texts.map eStr)) ∧ Shw H N (.own (n + 4) 3 s.ends.length) (.sl true (s.ends.map eEnd)) ∧ Shw H N (.own (n + 5) 2 s.said.length) (.sl true (s.said.map eVal)) :=
  ⟨Shw.row (hN _ (by omega) (by omega)) h.shapes rfl (by simp) (by simp [List.take_of_length_le]) (fun e he => by obtain ⟨v, -, rfl⟩ := List.mem_map.1 he; rfl) (fun e he d hd => by obtain ⟨v, -, rfl⟩ := List.mem_map.1 he; simp at hd; rcases hd with rfl | rfl <;> rfl), Shw.row (hN _ (by omega) (by omega)) h.texts rfl (by simp) (by simp [List.take_of_length_le]) (by simp) (by simp),
    Shw.row (hN _ (by omega) (by omega)) h.ends rfl (by simp) (by simp [List.take_of_length_le]) (by simp) (by simp), Shw.vals (hN _ (by omega) (by omega)) h.said⟩
def newRs (rs : List (List C)) : Prop := ∀ e ∈ rs, ∀ c ∈ e, c.newC = true
def newAt (H : Hp) (q : Nat) : Prop := ∀ x, H q = some x → newRs x.es
theorem newRs.set {rs : List (List C)} (h : newRs rs) {i : Nat} {e : List C} (he : ∀ c ∈ e, c.newC = true) : newRs (rs.set i e) := fun e' h' c hc => by
  rcases List.mem_or_eq_of_mem_set h' with h1 | rfl
  · exact h e' h1 c hc
  · exact he c hc
theorem valBlk_new (l : List GVal) : newRs (valBlk l).es := fun e he c hc => by
  simp [valBlk] at he
  obtain ⟨v, -, rfl⟩ := he
  simp at hc
  rcases hc with rfl | rfl <;> rfl
theorem tryBlk_new (l : List GTry) : newRs (tryBlk l).es := fun e he c hc => by
  simp [tryBlk] at he
  obtain ⟨v, -, rfl⟩ := he
  simp at hc
  rcases hc with rfl | rfl <;> rfl
theorem mixR_new {α : Type} {own : Nat → α → List C} {dat : α → List C} {l : List α} (h1 : ∀ i x, ∀ c ∈ own i x, c.newC = true) : newRs (mixR own dat l.length l) := fun e he c hc => by
  simp only [mixR, List.mem_mapIdx] at he
  obtain ⟨i, hi, rfl⟩ := he
  rw [if_pos hi] at hc
  exact h1 _ _ c hc
theorem frRow_new (m n : Nat) (f : GFrame) : ∀ c ∈ frRow m n f, c.newC = true := fun c hc => by simp [frRow] at hc; rcases hc with rfl | rfl | rfl | rfl | rfl | rfl | rfl | rfl <;> rfl
theorem ceRow_new (m : Nat) (f : GCell) : ∀ c ∈ ceRow m f, c.newC = true := fun c hc => by simp [ceRow] at hc; rcases hc with rfl | rfl | rfl | rfl <;> rfl
theorem thRow_new (m : Nat) (f : GThread) : ∀ c ∈ thRow m f, c.newC = true := fun c hc => by simp [thRow] at hc; rcases hc with rfl | rfl | rfl | rfl | rfl <;> rfl
theorem newAt.of {H : Hp} {q : Nat} {x : Blk} (h : H q = some x) (hx : newRs x.es) : newAt H q := fun y hy => by rw [h] at hy; cases hy; exact hx
theorem FrAt.blks {H : Hp} {b : Nat} {l : List GFrame} (h : FrAt H b l) {i : Nat} (h1 : b ≤ i) (h2 : i < b + 1 + 2 * l.length) : newAt H i := by
  by_cases e : i = b
  · subst e
    exact .of h.blk (mixR_new fun _ _ => frRow_new _ _ _)
  · obtain ⟨k, hk⟩ : ∃ k, i = b + 1 + 2 * k ∨ i = b + 2 + 2 * k := ⟨(i - b - 1) / 2, by omega⟩
    rcases hk with rfl | rfl
    · exact .of (h.sub.regs k (by omega) (by omega)) (valBlk_new _)
    · exact .of (h.sub.tries k (by omega) (by omega)) (tryBlk_new _)
theorem FrAt.newAll {H : Hp} {b : Nat} {l : List GFrame} (h : FrAt H b l) (hlow : ∀ i, i < b → H i = none) (hhigh : ∀ i, b + 1 + 2 * l.length ≤ i → H i = none) : ∀ i x, H i = some x → b ≤ i ∧ ∀ e ∈ x.es, ∀ c ∈ e, c.newC = true := fun i x hx => by
  rcases Nat.lt_or_ge i b with h1 | h1
  · rw [hlow i h1] at hx; cases hx
  rcases Nat.lt_or_ge i (b + 1 + 2 * l.length) with h2 | h2
  · exact ⟨h1, h.blks h1 h2 x hx⟩
  · rw [hhigh i h2] at hx; cases hx
theorem valBlk_sol (l : List GVal) : ∀ e ∈ (valBlk l).es, ∀ c ∈ e, C.solidC c = true := fun e he c hc => by
  simp [valBlk] at he
  obtain ⟨v, -, rfl⟩ := he
  simp at hc
  rcases hc with rfl | rfl <;> rfl
theorem tryBlk_sol (l : List GTry) : ∀ e ∈ (tryBlk l).es, ∀ c ∈ e, C.solidC c = true := fun e he c hc => by
  simp [tryBlk] at he
  obtain ⟨v, -, rfl⟩ := he
  simp at hc
  rcases hc with rfl | rfl <;> rfl
theorem mixR_sol {α : Type} {own : Nat → α → List C} {dat : α → List C} {k : Nat} {l : List α} (h1 : ∀ i x, ∀ c ∈ own i x, C.solidC c = true) (h2 : ∀ x, ∀ c ∈ dat x, C.solidC c = true) : ∀ e ∈ mixR own dat k l, ∀ c ∈ e, C.solidC c = true := fun e he c hc => by
  simp only [mixR, List.mem_mapIdx] at he
  obtain ⟨i, hi, rfl⟩ := he
  split at hc
  · exact h1 _ _ c hc
  · exact h2 _ c hc
theorem frRow_sol (m n : Nat) (f : GFrame) : ∀ c ∈ frRow m n f, C.solidC c = true := fun c hc => by simp [frRow] at hc; rcases hc with rfl | rfl | rfl | rfl | rfl | rfl | rfl | rfl <;> rfl
theorem frData_sol (f : GFrame) : ∀ c ∈ frData f, C.solidC c = true := fun c hc => by simp [frData] at hc; rcases hc with rfl | rfl | rfl | rfl | rfl | rfl | rfl | rfl <;> rfl
theorem frMix_sol (b k : Nat) (l : List GFrame) : ∀ e ∈ (frMix b k l).es, ∀ c ∈ e, C.solidC c = true := mixR_sol (fun _ _ => frRow_sol _ _ _) fun _ => frData_sol _
structure FrI (H0 : Hp) (b : Nat) (l : List GFrame) (x : HN) : Prop where
  hk : x.k ≤ l.length
  hn : x.nx = b + 1 + 2 * x.k
  blk : x.H b = some (frMix b x.k l)
  sub : FrIn x.H b x.k l
  low : ∀ i, i < b → x.H i = H0 i
  high : ∀ i, x.nx ≤ i → x.H i = none
  sol : HSol x.H
theorem frames_ic (S : Bool) (l : List GFrame) (hn : l.length ≤ 30) (hl : ∀ f ∈ l, f.regs.length ≤ 100000000000 ∧ f.tries.length ≤ 100000000000) {H : Hp} {nx : Nat} (hS : HSol H) {K : D → Hp → Nat → Prop}
    (h : ∀ H', (∀ i, i < nx → H' i = H i) → (∀ i, nx + 1 + 2 * l.length ≤ i → H' i = none) → HSol H' → FrAt H' nx l → K (.one (.own nx 8 l.length)) H' (nx + 1 + 2 * l.length)) : ICall Tryz.prog 140 [dL S (l.map eFrame)] H nx K := by
  refine ICall.fresh (by kernel_rfl) fun hfr => ?_
  refine fni_ok [0,2,3,7,8,9] [(5, [0,0,0,0,0,0,48,112,240,496,0,0,3072,7168,15360,32752,65523,131059,262131,524287,1048575,2097151], (.seg 0 (.seg 1 (.seg 2 (.seg 3 (.seg 4 (.seg 5 (.seg 6 (.seg 7 (.seg 8 (.seg 10 (.seg 11 (.seg 12 (.seg 13 (.seg 14 (.eff 9 [12, 13, 14] (.eff 15 [8, 14] (.seg 16 (.seg 17 (.eff 18 [] (.seg 19 (.seg 20 (.eff 21 [] .last)))))))))))))))))))))))] Tryz.func140 rfl (by kernel_rfl) rfl rfl rfl rfl (by kernel_rfl) ?_
  simp
  refine cloneFr_ok S (l.map eFrame) (by simp) (by simp) (by simp; omega) ?_
  simp
  intro _
  refine loopH_ok (ks := [0,2,3,7,8,9]) (pl := [(5, [0,0,0,0,0,0,48,112,240,496,0,0,3072,7168,15360,32752,65523,131059,262131,524287,1048575,2097151], (.seg 0 (.seg 1 (.seg 2 (.seg 3 (.seg 4 (.seg 5 (.seg 6 (.seg 7 (.seg 8 (.seg 10 (.seg 11 (.seg 12 (.seg 13 (.seg 14 (.eff 9 [12, 13, 14] (.eff 15 [8, 14] (.seg 16 (.seg 17 (.eff 18 [] (.seg 19 (.seg 20 (.eff 21 [] .last)))))))))))))))))))))))]) (n0 := 33) (α := {x : HN // FrI H nx l x}) (fun x => [(8, dI x.1.k)]) (fun _ x => x.1.H) (fun x => x.1.nx) (fun x => l.length - x.1.k) ⟨⟨0, H.set nx (some (frMix nx 0 l)), nx + 1⟩, ?_⟩ rfl (by kernel_rfl) ?_ ?_
  · exact ⟨by simp, by simp, by simp, ⟨fun _ _ h => absurd h (Nat.not_lt_zero _), fun _ _ h => absurd h (Nat.not_lt_zero _)⟩, fun i hi => Hp.set_ne _ _ (by omega), fun i hi => by
      simp only at hi
      show H.set nx _ i = none
      rw [Hp.set_ne _ _ (by omega)]; exact hfr i (by omega), hS.set (frMix_sol _ _ _)⟩
  · refine Wk.subH (by simp) ?_
    simp only [frMix, mixR_zero]
    rfl
  rintro ⟨⟨k, H1, n1⟩, hk, hn1, hb, hsub, hlow, hhigh, hsol⟩
  simp only at hk hn1 hb hsub hlow hhigh hsol
  by_cases h1 : k < l.length
  · obtain ⟨g1, g2⟩ := hl _ (List.getElem_mem h1)
    have e0 : ¬ nx = n1 := by omega
    have e1 : ¬ nx = n1 + 1 := by omega
    have hr := mixR_at (own := fun i f => frRow (nx + 1 + 2 * i) (nx + 2 + 2 * i) f) (dat := frData) h1
    rw [frData] at hr
    rw [frMix] at hb
    simp [h1, hb, frData, e0, e1]
    refine cloneV_ok true (l[k].regs.map eVal) (by simp) (by simp) (by simp; omega) ?_
    simp [h1, hb, frData, e0, e1]
    refine cloneT_ok true (l[k].tries.map eTry) (by simp) (by simp) (by simp; omega) ?_
    simp [h1, hb, frData, e0, e1]
    have n2 : n1 + 1 = nx + 2 + 2 * k := by omega
    refine ⟨⟨k + 1, ((H1.set n1 (some (valBlk l[k].regs))).set (n1 + 1) (some (tryBlk l[k].tries))).set nx (some (frMix nx (k + 1) l)), n1 + 2⟩, by simp; omega, ⟨by simp; omega, by simp; omega, by simp, ⟨fun i hi hik => ?_, fun i hi hik => ?_⟩, fun i hi => ?_, fun i hi => ?_, ((hsol.set (valBlk_sol _)).set (tryBlk_sol _)).set (frMix_sol _ _ _)⟩, Wk.subH (by simp [wrap_add (show k < 9223372036854775807 by omega)]) ?_⟩
    · simp only at hik
      show Hp.set _ _ _ _ = _
      rw [Hp.set_ne _ _ (by omega), Hp.set_ne _ _ (by omega)]
      by_cases e : i = k
      · subst e; rw [hn1, Hp.set_same]
      · rw [Hp.set_ne _ _ (by omega)]; exact hsub.regs i hi (by omega)
    · simp only at hik
      show Hp.set _ _ _ _ = _
      rw [Hp.set_ne _ _ (by omega)]
      by_cases e : i = k
      · subst e; rw [n2, Hp.set_same]
      · rw [Hp.set_ne _ _ (by omega), Hp.set_ne _ _ (by omega)]; exact hsub.tries i hi (by omega)
    · show Hp.set _ _ _ _ = _
      rw [Hp.set_ne _ _ (by omega), Hp.set_ne _ _ (by omega), Hp.set_ne _ _ (by omega)]; exact hlow i hi
    · simp only at hi
      show Hp.set _ _ _ _ = _
      rw [Hp.set_ne _ _ (by omega), Hp.set_ne _ _ (by omega), Hp.set_ne _ _ (by omega)]; exact hhigh i (by omega)
    · rw [frMix, ← mixR_set h1, n2, hn1]
      rfl
  · obtain rfl : k = l.length := by omega
    simp [hsol]
    subst hn1
    exact h H1 hlow hhigh hsol ⟨hb, hsub⟩
structure Sized (s : GState) : Prop where
  cells : s.cells.length ≤ 300
  shapes : s.shapes.length ≤ 100
  texts : s.texts.length ≤ 300
  threads : s.threads.length ≤ 5
  ends : s.ends.length ≤ 100
  said : s.said.length ≤ 200
  cell : ∀ c ∈ s.cells, c.vals.length ≤ 100000000000 ∧ c.frames.length ≤ 30 ∧ ∀ f ∈ c.frames, f.regs.length ≤ 100000000000 ∧ f.tries.length ≤ 100000000000
  thread : ∀ t ∈ s.threads, t.frames.length ≤ 30 ∧ ∀ f ∈ t.frames, f.regs.length ≤ 100000000000 ∧ f.tries.length ≤ 100000000000
theorem ceData_sol (f : GCell) : ∀ c ∈ ceData f, C.solidC c = true := fun c hc => by simp [ceData] at hc; rcases hc with rfl | rfl | rfl | rfl <;> rfl
theorem ceRow_sol (m : Nat) (f : GCell) : ∀ c ∈ ceRow m f, C.solidC c = true := fun c hc => by simp [ceRow] at hc; rcases hc with rfl | rfl | rfl | rfl <;> rfl
theorem thData_sol (f : GThread) : ∀ c ∈ thData f, C.solidC c = true := fun c hc => by simp [thData] at hc; rcases hc with rfl | rfl | rfl | rfl | rfl <;> rfl
theorem thRow_sol (m : Nat) (f : GThread) : ∀ c ∈ thRow m f, C.solidC c = true := fun c hc => by simp [thRow] at hc; rcases hc with rfl | rfl | rfl | rfl | rfl <;> rfl
theorem ceMix_sol (b k : Nat) (l : List GCell) : ∀ e ∈ (ceMix b k l).es, ∀ c ∈ e, C.solidC c = true := mixR_sol (fun _ _ => ceRow_sol _ _) fun _ => ceData_sol _
theorem thMix_sol (b k : Nat) (l : List GThread) : ∀ e ∈ (thMix b k l).es, ∀ c ∈ e, C.solidC c = true := mixR_sol (fun _ _ => thRow_sol _ _) fun _ => thData_sol _
def nilS : List C := [.d .emp, .d .emp, .d .emp, .d .emp, .d .emp, .d .emp, .d (eI 0), .d (eI 0)]
structure CeI (H0 : Hp) (m n : Nat) (s : GState) (x : HN) : Prop where
  hm : n = m + 2
  hk : x.k ≤ s.cells.length
  hn : x.nx = ceB n + off ceW s.cells x.k
  box : x.H m = some ⟨.c 32, 8, [stRow n s]⟩
  res : x.H (m + 1) = some ⟨.c 32, 8, [nilS]⟩
  oth : Oth x.H n s
  cells : x.H n = some (ceMix (ceB n) x.k s.cells)
  threads : x.H (n + 3) = some (thMix (thB n s) 0 s.threads)
  ce : CeIn x.H (ceB n) x.k s.cells
  low : ∀ i, i < m → x.H i = H0 i
  high : ∀ i, x.nx ≤ i → x.H i = none
  sol : HSol x.H
structure ThI (H0 : Hp) (m n : Nat) (s : GState) (x : HN) : Prop where
  hm : n = m + 2
  hk : x.k ≤ s.threads.length
  hn : x.nx = thB n s + off thW s.threads x.k
  box : x.H m = some ⟨.c 32, 8, [stRow n s]⟩
  res : x.H (m + 1) = some ⟨.c 32, 8, [nilS]⟩
  oth : Oth x.H n s
  cells : x.H n = some (ceMix (ceB n) s.cells.length s.cells)
  threads : x.H (n + 3) = some (thMix (thB n s) x.k s.threads)
  ce : CeIn x.H (ceB n) s.cells.length s.cells
  th : ThIn x.H (thB n s) x.k s.threads
  low : ∀ i, i < m → x.H i = H0 i
  high : ∀ i, x.nx ≤ i → x.H i = none
  sol : HSol x.H
theorem Oth.low {H H' : Hp} {n : Nat} {s : GState} (h : Oth H n s) (hl : ∀ i, n ≤ i → i < n + 6 → i ≠ n → i ≠ n + 3 → H' i = H i) : Oth H' n s :=
  ⟨by rw [hl _ (by omega) (by omega) (by omega) (by omega)]; exact h.shapes, by rw [hl _ (by omega) (by omega) (by omega) (by omega)]; exact h.texts, by rw [hl _ (by omega) (by omega) (by omega) (by omega)]; exact h.ends, by rw [hl _ (by omega) (by omega) (by omega) (by omega)]; exact h.said⟩
theorem CeI.next {H0 H1 M : Hp} {m n k n1 : Nat} {s : GState} (h : CeI H0 m n s ⟨k, H1, n1⟩) (h1 : k < s.cells.length) (at' : FrAt M (n1 + 1) s.cells[k].frames) (d3 : ∀ i, i < n1 → M i = H1 i) (d4 : M n1 = some (valBlk s.cells[k].vals))
    (d5 : ∀ i, n1 + 1 + 1 + 2 * s.cells[k].frames.length ≤ i → M i = none) (d6 : HSol M) {R : List (List C)} (hR : R = (mixR (fun i c => ceRow (ceB n + off ceW s.cells i) c) ceData k s.cells).set k (ceRow n1 s.cells[k])) :
    CeI H0 m n s ⟨k + 1, M.set n (some ⟨.c 53, 4, R⟩), n1 + 1 + 1 + 2 * s.cells[k].frames.length⟩ := by
  obtain ⟨hm, hk, hn1, hbox, hres, hoth, hce, hthr, hin, hlow, hhigh, hsol⟩ := h
  simp only at hk hn1 hbox hres hoth hce hthr hin hlow hhigh hsol
  have hn : n1 = n + 6 + off ceW s.cells k := hn1
  have hs : off ceW s.cells (k + 1) = off ceW s.cells k + (2 + 2 * s.cells[k].frames.length) := off_succ h1
  have hb : (⟨.c 53, 4, R⟩ : Blk) = ceMix (ceB n) (k + 1) s.cells := by
    rw [hR, ceMix, ← mixR_set h1]
    simp only [ceB, hn]
  have ne : ∀ i, i ≠ n → M.set n (some ⟨.c 53, 4, R⟩) i = M i := fun i hi => Hp.set_ne _ _ hi
  refine ⟨hm, h1, by simp only [ceB]; omega, ?_, ?_, ?_, ?_, ?_, ?_, fun i hi => ?_, fun i hi => ?_, ?_⟩
  · simp only; rw [ne _ (by omega), d3 _ (by omega)]; exact hbox
  · simp only; rw [ne _ (by omega), d3 _ (by omega)]; exact hres
  · exact hoth.low fun i h1 h2 h3 h4 => by show Hp.set _ _ _ _ = _; rw [ne _ h3, d3 _ (by omega)]
  · simp only; rw [Hp.set_same, hb]
  · simp only; rw [ne _ (by omega), d3 _ (by omega)]; exact hthr
  · intro i hi hik
    simp only at hik ⊢
    by_cases e : i = k
    · subst e
      simp only [ceB]
      rw [← hn]
      refine ⟨by rw [ne _ (by omega)]; exact d4, at'.low fun j h1 h2 => ne _ (by omega)⟩
    · obtain ⟨g1, g2⟩ := hin i hi (by omega)
      have h3 : off ceW s.cells i + (2 + 2 * s.cells[i].frames.length) ≤ off ceW s.cells k := off_lt (g := ceW) (by omega) hi
      simp only [ceB] at g1 g2 ⊢
      exact ⟨by rw [ne _ (by omega), d3 _ (by omega)]; exact g1, g2.low fun j h1 h2 => by rw [ne _ (by omega), d3 _ (by omega)]⟩
  · simp only; rw [ne _ (by omega), d3 _ (by omega)]; exact hlow i hi
  · simp only at hi ⊢; rw [ne _ (by omega)]; exact d5 i (by omega)
  · simp only; rw [hb]; exact d6.set (ceMix_sol _ _ _)
theorem ThI.next {H0 H1 M : Hp} {m n k n1 : Nat} {s : GState} (h : ThI H0 m n s ⟨k, H1, n1⟩) (h1 : k < s.threads.length) (at' : FrAt M n1 s.threads[k].frames) (d3 : ∀ i, i < n1 → M i = H1 i)
    (d5 : ∀ i, n1 + 1 + 2 * s.threads[k].frames.length ≤ i → M i = none) (d6 : HSol M) {R : List (List C)} (hR : R = (mixR (fun i c => thRow (thB n s + off thW s.threads i) c) thData k s.threads).set k (thRow n1 s.threads[k])) :
    ThI H0 m n s ⟨k + 1, M.set (n + 3) (some ⟨.c 42, 5, R⟩), n1 + 1 + 2 * s.threads[k].frames.length⟩ := by
  obtain ⟨hm, hk, hn1, hbox, hres, hoth, hce, hthr, hin, hth, hlow, hhigh, hsol⟩ := h
  simp only at hk hn1 hbox hres hoth hce hthr hin hth hlow hhigh hsol
  have hn : n1 = n + 6 + off ceW s.cells s.cells.length + off thW s.threads k := hn1
  have hs : off thW s.threads (k + 1) = off thW s.threads k + (1 + 2 * s.threads[k].frames.length) := off_succ h1
  have hb : (⟨.c 42, 5, R⟩ : Blk) = thMix (thB n s) (k + 1) s.threads := by
    rw [hR, thMix, ← mixR_set h1]
    simp only [thB, hn]
  have ne : ∀ i, i ≠ n + 3 → M.set (n + 3) (some ⟨.c 42, 5, R⟩) i = M i := fun i hi => Hp.set_ne _ _ hi
  refine ⟨hm, h1, by simp only [thB]; omega, ?_, ?_, ?_, ?_, ?_, ?_, ?_, fun i hi => ?_, fun i hi => ?_, ?_⟩
  · simp only; rw [ne _ (by omega), d3 _ (by omega)]; exact hbox
  · simp only; rw [ne _ (by omega), d3 _ (by omega)]; exact hres
  · exact hoth.low fun i h1 h2 h3 h4 => by show Hp.set _ _ _ _ = _; rw [ne _ h4, d3 _ (by omega)]
  · simp only; rw [ne _ (by omega), d3 _ (by omega)]; exact hce
  · simp only; rw [Hp.set_same, hb]
  · exact hin.low (Nat.le_refl _) fun i h1 h2 => by simp only [ceB] at h1 h2; show Hp.set _ _ _ _ = _; rw [ne _ (by omega), d3 _ (by omega)]
  · intro i hi hik
    simp only at hik ⊢
    by_cases e : i = k
    · subst e
      simp only [thB]
      rw [← hn]
      exact at'.low fun j h1 h2 => ne _ (by omega)
    · have g2 := hth i hi (by omega)
      have h3 : off thW s.threads i + (1 + 2 * s.threads[i].frames.length) ≤ off thW s.threads k := off_lt (g := thW) (by omega) hi
      simp only [thB] at g2 ⊢
      exact g2.low fun j h1 h2 => by rw [ne _ (by omega), d3 _ (by omega)]
  · simp only; rw [ne _ (by omega), d3 _ (by omega)]; exact hlow i hi
  · simp only at hi ⊢; rw [ne _ (by omega)]; exact d5 i (by omega)
  · simp only; rw [hb]; exact d6.set (thMix_sol _ _ _)
def cp0 (H : Hp) (m : Nat) (s : GState) : Hp := ((((((((H.set m (some ⟨.c 32, 8, [(eState s).map .d]⟩)).set (m + 1) (some ⟨.c 32, 8, [nilS]⟩)).set (m + 2) (some (ceMix (ceB (m + 2)) 0 s.cells))).set (m + 3) (some ⟨.c 120, 2, s.shapes.map fun x => (eShape x).map .d⟩)).set (m + 4) (some ⟨.c 9, 1, s.texts.map fun x => (eStr x).map .d⟩)).set (m + 5) (some (thMix (thB (m + 2) s) 0 s.threads))).set (m + 6) (some ⟨.c 125, 3, s.ends.map fun x => (eEnd x).map .d⟩)).set (m + 7) (some (valBlk s.said))).set m (some ⟨.c 32, 8, [stRow (m + 2) s]⟩)
theorem cp0_ok {H : Hp} {m : Nat} {s : GState} (hS : HSol H) (hfr : ∀ i, m ≤ i → H i = none) : CeI H m (m + 2) s ⟨0, cp0 H m s, m + 8⟩ := by
  refine ⟨rfl, by simp, by simp, Hp.set_same _ _ _, ?_, ⟨?_, ?_, ?_, ?_⟩, ?_, ?_, fun _ _ h => absurd h (Nat.not_lt_zero _), fun i hi => ?_, fun i hi => ?_, ?_⟩
  · simp [cp0, Hp.set]
  · simp [cp0, Hp.set]; omega
  · simp [cp0, Hp.set]; omega
  · simp [cp0, Hp.set]; omega
  · simp [cp0, Hp.set]; omega
  · simp [cp0, Hp.set]
  · simp [cp0, Hp.set]; omega
  · simp only [cp0]; repeat rw [Hp.set_ne _ _ (by omega)]
  · simp only [cp0] at hi ⊢; repeat rw [Hp.set_ne _ _ (by omega)]
    exact hfr i (by omega)
  · refine HSol.set (HSol.set (HSol.set (HSol.set (HSol.set (HSol.set (HSol.set (HSol.set (HSol.set hS ?_) ?_) (ceMix_sol _ _ _)) ?_) ?_) (thMix_sol _ _ _)) ?_) (valBlk_sol _)) (by simp [stRow])
    · simp
    · simp [nilS]
    · intro e he c hc
      obtain ⟨v, -, rfl⟩ := List.mem_map.1 he
      simp at hc
      rcases hc with rfl | rfl <;> rfl
    · simp
    · simp
theorem HSol.mer {H H' : Hp} {n : Nat} (h1 : HSol H) (h2 : HSol H') : HSol (Hp.mer H n H') := fun i x hx => by
  by_cases h : i < n
  · rw [Hp.mer_lt h] at hx; exact h1 i x hx
  · rw [Hp.mer_ge (by omega)] at hx; exact h2 i x hx
theorem copy_ic (s : GState) (hz : Sized s) {H : Hp} {nx : Nat} (hS : HSol H) {K : D → Hp → Nat → Prop}
    (h : ∀ H', (∀ i, i < nx → H' i = H i) → (∀ i, enB (nx + 2) s ≤ i → H' i = none) → HSol H' → StAt H' (nx + 2) s → K (.agg (stRow (nx + 2) s)) H' (enB (nx + 2) s)) : ICall Tryz.prog 58 [aD (eState s)] H nx K := by
  obtain ⟨z1, z2, z3, z4, z5, z6, z7, z8⟩ := hz
  refine ICall.fresh (by kernel_rfl) fun hfr => ?_
  refine fni_ok [0,1,2,3,4,31,32,33,62,63,64] [(1, [0,1,3,0,8,31,0,64,255,0,512,2047,0,4096,16383,0,32768,131071,112351,524287,1048575,2097151,4194303,8388607,16777215,33554431,67108863,134217727,268435455,536870911], (.seg 0 (.seg 1 (.seg 3 (.seg 4 (.seg 6 (.seg 7 (.seg 9 (.seg 10 (.seg 12 (.seg 13 (.seg 15 (.seg 16 (.eff 2 [3, 4, 6, 7, 9, 10, 12, 13, 15, 16] (.seg 18 (.eff 5 [6, 7, 9, 10, 12, 13, 15, 16, 18] (.eff 8 [9, 10, 12, 13, 15, 16, 18] (.eff 11 [12, 13, 15, 16, 18] (.eff 14 [15, 16, 18] (.eff 17 [18] (.eff 19 [] (.seg 20 (.eff 21 [] (.seg 22 (.eff 23 [] (.seg 24 (.eff 25 [] (.seg 26 (.eff 27 [] (.seg 28 (.eff 29 [] .last))))))))))))))))))))))))))))))), (5, [0,1,0,0,8,0,0,64,0,448,960,1984,4032,0,8192,0,57344,122880,253952,524224,1048519,2097095,4194247,8388607,16777215,33554431], (.seg 0 (.seg 1 (.seg 2 (.seg 3 (.seg 4 (.seg 5 (.seg 6 (.seg 7 (.seg 8 (.seg 9 (.seg 10 (.seg 11 (.seg 13 (.seg 14 (.seg 15 (.seg 16 (.seg 17 (.seg 18 (.eff 12 [0, 1, 3, 4, 13, 14, 16, 17, 18] (.eff 19 [0, 1, 3, 4] (.seg 20 (.seg 21 (.eff 22 [3, 4] (.seg 23 (.seg 24 (.eff 25 [] .last))))))))))))))))))))))))))), (10, [0,1,0,0,8,0,56,120,248,504,1023,2047,4095], (.seg 0 (.seg 1 (.seg 2 (.seg 3 (.seg 4 (.seg 5 (.seg 6 (.seg 7 (.seg 8 (.eff 9 [0, 1] (.seg 10 (.seg 11 (.eff 12 [] .last))))))))))))))] Tryz.func58 rfl (by kernel_rfl) rfl rfl rfl rfl (by kernel_rfl) ?_
  simp
  refine cloneCe_ok true (s.cells.map eCell) (by simp) (by simp) (by simp; omega) ?_
  simp
  refine cloneSh_ok true (s.shapes.map eShape) (fun e he => by obtain ⟨v, -, rfl⟩ := List.mem_map.1 he; rfl) (fun e he d hd => by obtain ⟨v, -, rfl⟩ := List.mem_map.1 he; simp at hd; rcases hd with rfl | rfl <;> rfl) (by simp; omega) ?_
  simp
  refine cloneS_ok true (s.texts.map eStr) (by simp) (by simp) (by simp; omega) ?_
  simp
  refine cloneTh_ok true (s.threads.map eThread) (by simp) (by simp) (by simp; omega) ?_
  simp
  refine cloneEn_ok true (s.ends.map eEnd) (by simp) (by simp) (by simp; omega) ?_
  simp
  refine cloneV_ok true (s.said.map eVal) (by simp) (by simp) (by simp; omega) ?_
  simp [Nat.add_assoc]
  intro _
  refine loopH_ok (ks := [0,1,2,3,4,31,32,33,62,63,64]) (pl := [(1, [0,1,3,0,8,31,0,64,255,0,512,2047,0,4096,16383,0,32768,131071,112351,524287,1048575,2097151,4194303,8388607,16777215,33554431,67108863,134217727,268435455,536870911], (.seg 0 (.seg 1 (.seg 3 (.seg 4 (.seg 6 (.seg 7 (.seg 9 (.seg 10 (.seg 12 (.seg 13 (.seg 15 (.seg 16 (.eff 2 [3, 4, 6, 7, 9, 10, 12, 13, 15, 16] (.seg 18 (.eff 5 [6, 7, 9, 10, 12, 13, 15, 16, 18] (.eff 8 [9, 10, 12, 13, 15, 16, 18] (.eff 11 [12, 13, 15, 16, 18] (.eff 14 [15, 16, 18] (.eff 17 [18] (.eff 19 [] (.seg 20 (.eff 21 [] (.seg 22 (.eff 23 [] (.seg 24 (.eff 25 [] (.seg 26 (.eff 27 [] (.seg 28 (.eff 29 [] .last))))))))))))))))))))))))))))))), (5, [0,1,0,0,8,0,0,64,0,448,960,1984,4032,0,8192,0,57344,122880,253952,524224,1048519,2097095,4194247,8388607,16777215,33554431], (.seg 0 (.seg 1 (.seg 2 (.seg 3 (.seg 4 (.seg 5 (.seg 6 (.seg 7 (.seg 8 (.seg 9 (.seg 10 (.seg 11 (.seg 13 (.seg 14 (.seg 15 (.seg 16 (.seg 17 (.seg 18 (.eff 12 [0, 1, 3, 4, 13, 14, 16, 17, 18] (.eff 19 [0, 1, 3, 4] (.seg 20 (.seg 21 (.eff 22 [3, 4] (.seg 23 (.seg 24 (.eff 25 [] .last))))))))))))))))))))))))))), (10, [0,1,0,0,8,0,56,120,248,504,1023,2047,4095], (.seg 0 (.seg 1 (.seg 2 (.seg 3 (.seg 4 (.seg 5 (.seg 6 (.seg 7 (.seg 8 (.eff 9 [0, 1] (.seg 10 (.seg 11 (.eff 12 [] .last))))))))))))))]) (n0 := 80) (α := {x : HN // CeI H nx (nx + 2) s x}) (fun x => [(32, dI x.1.k)]) (fun _ x => x.1.H) (fun x => x.1.nx) (fun x => s.cells.length - x.1.k) ⟨⟨0, cp0 H nx s, nx + 8⟩, cp0_ok hS hfr⟩ rfl (by kernel_rfl) (Wk.subH (by simp) (by simp only [cp0, ceMix, thMix, mixR_zero]; rfl)) ?_
  rintro ⟨⟨k, H1, n1⟩, hI⟩
  have hI2 := hI
  obtain ⟨hm, hk, hn1, hbox, hres, hoth, hce, hthr, hin, hlow, hhigh, hsol⟩ := hI2
  simp only at hk hn1 hbox hres hoth hce hthr hin hlow hhigh hsol
  have hn2 : nx + 8 ≤ n1 := by rw [hn1]; simp only [ceB]; omega
  have e0 : ¬ nx = n1 := by omega
  have e1 : ¬ nx + 2 = n1 := by omega
  by_cases h1 : k < s.cells.length
  · obtain ⟨g1, g2, g3⟩ := z7 _ (List.getElem_mem h1)
    have hce2 := hce
    rw [ceMix] at hce
    rw [stRow] at hbox
    simp [h1, hbox, hce, ceData, e0, e1]
    refine cloneV_ok true (s.cells[k].vals.map eVal) (by simp) (by simp) (by simp; omega) ?_
    simp [h1, hbox, hce, ceData, e0, e1]
    refine frames_ic true s.cells[k].frames g2 g3 (fun _ _ h => by cases h) (fun H' low' high' sol' at' => ?_)
    simp
    refine ⟨at'.newAll low' high', ?_⟩
    have d1 : Hp.mer (H1.set n1 (some (valBlk s.cells[k].vals))) (n1 + 1) H' nx = some ⟨.c 32, 8, [stRow (nx + 2) s]⟩ := by
      rw [Hp.mer_lt (by omega), Hp.set_ne _ _ (by omega)]; exact hbox
    have d2 : Hp.mer (H1.set n1 (some (valBlk s.cells[k].vals))) (n1 + 1) H' (nx + 2) = some (ceMix (ceB (nx + 2)) k s.cells) := by
      rw [Hp.mer_lt (by omega), Hp.set_ne _ _ (by omega)]; exact hce2
    have d3 : ∀ i, i < n1 → Hp.mer (H1.set n1 (some (valBlk s.cells[k].vals))) (n1 + 1) H' i = H1 i := fun i hi => by rw [Hp.mer_lt (by omega), Hp.set_ne _ _ (by omega)]
    have d4 : Hp.mer (H1.set n1 (some (valBlk s.cells[k].vals))) (n1 + 1) H' n1 = some (valBlk s.cells[k].vals) := by rw [Hp.mer_lt (by omega), Hp.set_same]
    have d5 : ∀ i, n1 + 1 ≤ i → Hp.mer (H1.set n1 (some (valBlk s.cells[k].vals))) (n1 + 1) H' i = H' i := fun i hi => Hp.mer_ge hi
    have d6 : HSol (Hp.mer (H1.set n1 (some (valBlk s.cells[k].vals))) (n1 + 1) H') := (hsol.set (valBlk_sol _)).mer sol'
    have at' : FrAt (Hp.mer (H1.set n1 (some (valBlk s.cells[k].vals))) (n1 + 1) H') (n1 + 1) s.cells[k].frames := at'.low fun i h1 _ => d5 i h1
    rw [stRow] at d1
    rw [ceMix] at d2
    rw [show (⟨.c 34, 2, s.cells[k].vals.map ((fun e => e.map C.d) ∘ eVal)⟩ : Blk) = valBlk s.cells[k].vals from rfl]
    generalize Hp.mer (H1.set n1 (some (valBlk s.cells[k].vals))) (n1 + 1) H' = M at *
    simp [h1, d1, d2, ceData, stRow]
    refine ⟨⟨k + 1, _, _⟩, ?_, CeI.next hI h1 at' d3 d4 (fun i hi => ?_) ?_ rfl, Wk.sub (by simp [wrap_add (show k < 9223372036854775807 by omega)])⟩
    · simp; omega
    · rw [d5 i (by omega)]; exact high' i (by omega)
    · exact d6
  · obtain rfl : k = s.cells.length := by omega
    rw [stRow] at hbox
    simp [hbox]
    intro _
    refine loopH_ok (ks := [0,1,2,3,4,31,32,33,62,63,64]) (pl := [(1, [0,1,3,0,8,31,0,64,255,0,512,2047,0,4096,16383,0,32768,131071,112351,524287,1048575,2097151,4194303,8388607,16777215,33554431,67108863,134217727,268435455,536870911], (.seg 0 (.seg 1 (.seg 3 (.seg 4 (.seg 6 (.seg 7 (.seg 9 (.seg 10 (.seg 12 (.seg 13 (.seg 15 (.seg 16 (.eff 2 [3, 4, 6, 7, 9, 10, 12, 13, 15, 16] (.seg 18 (.eff 5 [6, 7, 9, 10, 12, 13, 15, 16, 18] (.eff 8 [9, 10, 12, 13, 15, 16, 18] (.eff 11 [12, 13, 15, 16, 18] (.eff 14 [15, 16, 18] (.eff 17 [18] (.eff 19 [] (.seg 20 (.eff 21 [] (.seg 22 (.eff 23 [] (.seg 24 (.eff 25 [] (.seg 26 (.eff 27 [] (.seg 28 (.eff 29 [] .last))))))))))))))))))))))))))))))), (5, [0,1,0,0,8,0,0,64,0,448,960,1984,4032,0,8192,0,57344,122880,253952,524224,1048519,2097095,4194247,8388607,16777215,33554431], (.seg 0 (.seg 1 (.seg 2 (.seg 3 (.seg 4 (.seg 5 (.seg 6 (.seg 7 (.seg 8 (.seg 9 (.seg 10 (.seg 11 (.seg 13 (.seg 14 (.seg 15 (.seg 16 (.seg 17 (.seg 18 (.eff 12 [0, 1, 3, 4, 13, 14, 16, 17, 18] (.eff 19 [0, 1, 3, 4] (.seg 20 (.seg 21 (.eff 22 [3, 4] (.seg 23 (.seg 24 (.eff 25 [] .last))))))))))))))))))))))))))), (10, [0,1,0,0,8,0,56,120,248,504,1023,2047,4095], (.seg 0 (.seg 1 (.seg 2 (.seg 3 (.seg 4 (.seg 5 (.seg 6 (.seg 7 (.seg 8 (.eff 9 [0, 1] (.seg 10 (.seg 11 (.eff 12 [] .last))))))))))))))]) (n0 := 80) (α := {x : HN // ThI H nx (nx + 2) s x}) (fun x => [(63, dI x.1.k)]) (fun _ x => x.1.H) (fun x => x.1.nx) (fun x => s.threads.length - x.1.k) ⟨⟨0, H1, n1⟩, ?_⟩ rfl (by kernel_rfl) (Wk.sub (by simp)) ?_
    · exact ⟨rfl, Nat.zero_le _, by rw [hn1]; simp [ceB, thB], hI.box, hres, hoth, hce, hthr, hin, fun _ _ h => absurd h (Nat.not_lt_zero _), hlow, hhigh, hsol⟩
    clear hI hn1 hbox hres hoth hce hthr hin hlow hhigh hsol hn2 e0 e1
    rintro ⟨⟨k, H2, n2⟩, hJ⟩
    have hJ2 := hJ
    obtain ⟨-, hk2, hn1, hbox, hres, hoth, hce, hthr, hin, hth, hlow, hhigh, hsol⟩ := hJ2
    simp only at hk2 hn1 hbox hres hoth hce hthr hin hth hlow hhigh hsol
    have hn2 : nx + 8 ≤ n2 := by rw [hn1]; simp only [thB]; omega
    by_cases h2 : k < s.threads.length
    · obtain ⟨g1, g2⟩ := z8 _ (List.getElem_mem h2)
      have hbox2 := hbox
      have hthr2 := hthr
      rw [thMix] at hthr
      rw [stRow] at hbox
      simp [h2, hbox, hthr, thData]
      refine frames_ic true s.threads[k].frames g1 g2 (fun _ _ h => by cases h) (fun H' low' high' sol' at' => ?_)
      simp
      refine ⟨at'.newAll low' high', ?_⟩
      have d3 : ∀ i, i < n2 → Hp.mer H2 n2 H' i = H2 i := fun i hi => Hp.mer_lt hi
      have d5 : ∀ i, n2 ≤ i → Hp.mer H2 n2 H' i = H' i := fun i hi => Hp.mer_ge hi
      have d1 : Hp.mer H2 n2 H' nx = some ⟨.c 32, 8, [stRow (nx + 2) s]⟩ := by rw [d3 _ (by omega)]; exact hbox2
      have d2 : Hp.mer H2 n2 H' (nx + 5) = some (thMix (thB (nx + 2) s) k s.threads) := by rw [d3 _ (by omega)]; exact hthr2
      have d6 : HSol (Hp.mer H2 n2 H') := hsol.mer sol'
      have at2 : FrAt (Hp.mer H2 n2 H') n2 s.threads[k].frames := at'.low fun i h1 _ => d5 i h1
      rw [stRow] at d1
      rw [thMix] at d2
      generalize Hp.mer H2 n2 H' = M at *
      simp [h2, d1, d2, thData, stRow]
      refine ⟨⟨k + 1, _, _⟩, ?_, ThI.next hJ h2 at2 d3 (fun i hi => ?_) d6 rfl, Wk.sub (by simp [wrap_add (show k < 9223372036854775807 by omega)])⟩
      · simp; omega
      · rw [d5 i (by omega)]; exact high' i hi
    · obtain rfl : k = s.threads.length := by omega
      rw [stRow] at hbox
      rw [nilS] at hres
      simp [hbox, hres]
      have sol2 : HSol (H2.set (nx + 1) (some ⟨.c 32, 8, [stRow (nx + 2) s]⟩)) := hsol.set (by simp [stRow])
      have ne : ∀ i, i ≠ nx + 1 → H2.set (nx + 1) (some ⟨.c 32, 8, [stRow (nx + 2) s]⟩) i = H2 i := fun i hi => Hp.set_ne _ _ hi
      refine ⟨sol2, ?_⟩
      have hn3 : n2 = enB (nx + 2) s := hn1
      subst hn3
      rw [stRow] at ne sol2
      refine h _ (fun i hi => ?_) (fun i hi => ?_) sol2 ⟨?_, ?_, ?_, ?_, ?_⟩
      · rw [ne _ (by omega)]; exact hlow i hi
      · rw [ne _ (by omega)]; exact hhigh i hi
      · exact hoth.low fun i h1 h2 h3 h4 => ne _ (by omega)
      · rw [ne _ (by omega)]; exact hce
      · rw [ne _ (by omega)]; exact hthr
      · exact hin.low (Nat.le_refl _) fun i h1 h2 => ne _ (by simp only [ceB] at h1; omega)
      · exact hth.low (Nat.le_refl _) fun i h1 h2 => ne _ (by simp only [thB] at h1; omega)
theorem fnAt_in {p : GProg} {n : Int} (h0 : 0 ≤ n) (h : n < p.fns.length) : fnAt p n ∈ p.fns := by
  unfold fnAt
  rw [List.getD_eq_getElem?_getD, List.getElem?_eq_getElem (by omega)]
  exact List.getElem_mem _
theorem rch_tries {p : GProg} {f : GFn} (ho : ordersB p f = true) (h1 : 1 ≤ f.regs) (h2 : f.regs ≤ 60) {m : Int} {l : List GTry} (h : Rch f m l) : ∀ (k : Nat) (hk : k < l.length), 0 ≤ l[k].reg ∧ l[k].reg < f.regs ∧ Rch f l[k].at_ (l.take k) := by
  induction h with
  | start => intro k hk; simp at hk
  | @step n l m l' hr hn hs ih =>
    have hord := orders_get ho hn
    unfold succs at hs
    by_cases c1 : f.code[n].op = 28 ∨ f.code[n].op = 29
    · rw [if_pos c1] at hs; cases hs
    rw [if_neg c1] at hs
    by_cases c2 : f.code[n].op = 13 ∨ f.code[n].op = 14
    · rw [if_pos c2] at hs; simp at hs; rw [hs.2]; exact ih
    rw [if_neg c2] at hs
    by_cases c3 : f.code[n].op = 15
    · rw [if_pos c3] at hs; simp at hs
      have : l' = l := by rcases hs with hs | hs <;> exact hs.2
      rw [this]; exact ih
    rw [if_neg c3] at hs
    by_cases c4 : f.code[n].op = 30
    · have hb : Rch f f.code[n].b l := .step hr hn (by unfold succs; rw [if_neg c1, if_neg c2, if_neg c3, if_pos c4]; simp)
      rw [if_pos c4] at hs; simp at hs
      rcases hs with hs | hs
      · rw [hs.2]; exact ih
      · obtain ⟨-, rfl⟩ := hs
        intro k hk
        by_cases hl : k < l.length
        · rw [List.getElem_append_left hl, List.take_append_of_le_length (by omega)]
          exact ih k hl
        · have hkl : k = l.length := by simp at hk; omega
          subst hkl
          rw [List.getElem_append_right (Nat.le_refl _), List.take_append_of_le_length (Nat.le_refl _), List.take_length]
          simp only [Nat.sub_self, List.getElem_cons_zero]
          simp only [orderB, Bool.and_eq_true] at hord
          have ha := hord.1.1.1.2
          rw [c4] at ha
          have ha' : nameB p f 114 f.code[n].a = true := ha
          simp only [nameB, if_pos] at ha'
          rw [wr_in (by omega) (by omega)] at ha'
          simp [btw] at ha'
          exact ⟨ha'.1, by omega, hb⟩
    rw [if_neg c4] at hs
    by_cases c5 : f.code[n].op = 31
    · rw [if_pos c5] at hs; simp at hs
      obtain ⟨-, rfl⟩ := hs
      intro k hk
      have hk2 : k < l.length := by rw [List.length_dropLast] at hk; omega
      have hk3 : k ≤ l.length - 1 := by rw [List.length_dropLast] at hk; omega
      have := ih k hk2
      have e : l.dropLast.take k = l.take k := by rw [List.dropLast_eq_take, List.take_take, Nat.min_eq_left hk3]
      rw [List.getElem_dropLast, e]
      exact this
    · rw [if_neg c5] at hs; simp at hs; rw [hs.2]; exact ih
def doneC (G : List Int) (k : Nat) (c : GCell) : GCell := if (k : Int) ∈ G then ⟨c.kind, 2, c.vals, c.frames⟩ else c
def doneL (G : List Int) (l : List GCell) : List GCell := l.mapIdx (doneC G)
def doneS (s : GState) (G : List Int) (ts : List GThread) : GState := ⟨doneL G s.cells, s.shapes, s.texts, ts, s.ends, s.said, s.asked, s.steps⟩
theorem doneL_nil {l : List GCell} : doneL [] l = l := by
  unfold doneL doneC
  apply List.ext_getElem <;> simp
theorem doneL_cons {l : List GCell} {g : Int} {G : List Int} (h0 : 0 ≤ g) : doneL G (l.set g.toNat ⟨(l.getD g.toNat dCell).kind, 2, (l.getD g.toNat dCell).vals, (l.getD g.toNat dCell).frames⟩) = doneL (g :: G) l := by
  apply List.ext_getElem
  · simp [doneL]
  intro i h1 h2
  simp only [doneL, List.getElem_mapIdx, List.getElem_set]
  have hi : i < l.length := by simpa [doneL] using h2
  by_cases e : g.toNat = i
  · subst e
    have : ((g.toNat : Nat) : Int) = g := by omega
    rw [if_pos rfl, List.getD_eq_getElem?_getD, List.getElem?_eq_getElem hi, Option.getD_some]
    unfold doneC
    rw [this]
    simp
  · have : ¬ (i : Int) = g := by omega
    rw [if_neg e]
    unfold doneC
    simp [this]
section
variable {p : GProg} {s : GState} {G : List Int} {ts : List GThread}
theorem done_len : (doneS s G ts).cells.length = s.cells.length := by simp [doneS, doneL]
theorem done_at {n : Int} (h0 : 0 ≤ n) (h : n < s.cells.length) : cellAt (doneS s G ts) n = doneC G n.toNat (cellAt s n) := by
  have h1 : n.toNat < (doneS s G ts).cells.length := by rw [done_len]; omega
  have h2 : n.toNat < s.cells.length := by omega
  unfold cellAt
  rw [List.getD_eq_getElem?_getD, List.getD_eq_getElem?_getD, List.getElem?_eq_getElem h1, List.getElem?_eq_getElem h2]
  simp [doneS, doneL]
theorem doneC_kind {k : Nat} {c : GCell} : (doneC G k c).kind = c.kind := by unfold doneC; split <;> rfl
theorem doneC_vals {k : Nat} {c : GCell} : (doneC G k c).vals = c.vals := by unfold doneC; split <;> rfl
theorem doneC_frames {k : Nat} {c : GCell} : (doneC G k c).frames = c.frames := by unfold doneC; split <;> rfl
theorem done_kind {n : Int} (h0 : 0 ≤ n) (h : n < s.cells.length) : (cellAt (doneS s G ts) n).kind = (cellAt s n).kind := by rw [done_at h0 h, doneC_kind]
theorem fits_done {v : GVal} : fitsB (doneS s G ts) v = fitsB s v := by
  unfold fitsB
  cases hr : rightB v.kind v.n with
  | false => rfl
  | true =>
    simp only [Bool.true_and]
    by_cases e4 : v.kind = 4
    · rw [if_pos e4, if_pos e4]; rfl
    rw [if_neg e4, if_neg e4]
    by_cases e5 : v.kind = 5
    · rw [if_pos e5, if_pos e5, done_len]
      by_cases hl : v.n < s.cells.length
      · rw [done_kind (right_pos hr (.inr e5)) hl]
      · simp [hl]
    · rw [if_neg e5, if_neg e5]
theorem names_done {v : GVal} {k : Int} : namesB (doneS s G ts) v k = namesB s v k := by
  unfold namesB
  rw [done_len]
  by_cases h0 : 0 ≤ v.n
  · by_cases hl : v.n < s.cells.length
    · rw [done_kind h0 hl]
    · simp [hl]
  · simp [h0]
theorem frameFits_done {f : GFrame} : frameFits (doneS s G ts) f = frameFits s f := by
  have : fitsB (doneS s G ts) = fitsB s := by funext v; exact fits_done
  unfold frameFits; rw [this]
def DonG (s : GState) (G : List Int) : Prop := ∀ g ∈ G, 0 ≤ g ∧ g < s.cells.length ∧ (cellAt s g).kind = 5 ∧ (cellAt s g).num = 1
theorem done_num {n : Int} {k : Int} (hG : DonG s G) (h : namesB s ⟨5, n⟩ k = true) (hk : k ≠ 5) : (cellAt (doneS s G ts) n).num = (cellAt s n).num := by
  simp only [namesB, Bool.and_eq_true, decide_eq_true_eq] at h
  rw [done_at h.1.1.2 h.1.2]
  unfold doneC
  rw [if_neg]
  intro hm
  have := (hG _ hm).2.2.1
  rw [Int.toNat_of_nonneg h.1.1.2, h.2] at this
  exact hk this
theorem names_eta {v : GVal} {k : Int} (h : namesB s v k = true) : namesB s ⟨5, v.n⟩ k = true := by
  simp only [namesB, Bool.and_eq_true, decide_eq_true_eq] at h ⊢
  exact ⟨⟨⟨trivial, h.1.1.2⟩, h.1.2⟩, h.2⟩
theorem frame_done {f : GFrame} (hG : DonG s G) (h : frameB p s f = true) : frameB p (doneS s G ts) f = true := by
  have hf : fitsB (doneS s G ts) = fitsB s := by funext v; exact fits_done
  simp only [frameB, Bool.and_eq_true] at h ⊢
  obtain ⟨⟨⟨⟨⟨⟨⟨⟨⟨h1, h2⟩, h3⟩, h4⟩, h5⟩, h6⟩, h7⟩, h8⟩, h9⟩, h10⟩ := h
  exact ⟨⟨⟨⟨⟨⟨⟨⟨⟨h1, h2⟩, by rw [names_done]; exact h3⟩, by rw [done_num hG (names_eta h3) (by decide)]; exact h4⟩, h5⟩, h6⟩, h7⟩, h8⟩, h9⟩, by rw [hf]; exact h10⟩
theorem saved_done {f : GFrame} (hG : DonG s G) (h : savedB p s f = true) : savedB p (doneS s G ts) f = true := by
  simp only [savedB, Bool.and_eq_true] at h ⊢
  obtain ⟨⟨⟨⟨h1, h2⟩, h3⟩, h4⟩, h5⟩ := h
  exact ⟨⟨⟨⟨frame_done hG h1, h2⟩, h3⟩, h4⟩, h5⟩
theorem done_mem {c : GCell} (h : c ∈ (doneS s G ts).cells) : ∃ k, ∃ hk : k < s.cells.length, c = doneC G k s.cells[k] := by
  obtain ⟨k, hk, rfl⟩ := List.getElem_of_mem h
  rw [done_len] at hk
  exact ⟨k, hk, by simp [doneS, doneL]⟩
theorem at_nat {k : Nat} (hk : k < s.cells.length) : cellAt s (k : Int) = s.cells[k] := by
  unfold cellAt; rw [Int.toNat_natCast, List.getD_eq_getElem?_getD, List.getElem?_eq_getElem hk]; rfl
theorem done_cell (hG : DonG s G) {k : Nat} (hk : k < s.cells.length) : doneC G k s.cells[k] = s.cells[k] ∨ (s.cells[k].kind = 5 ∧ s.cells[k].num = 1 ∧ doneC G k s.cells[k] = ⟨5, 2, s.cells[k].vals, s.cells[k].frames⟩) := by
  unfold doneC
  split
  · rename_i h
    obtain ⟨h1, h2, h3, h4⟩ := hG _ h
    rw [at_nat hk] at h3 h4
    exact .inr ⟨h3, h4, by rw [h3]⟩
  · exact .inl rfl
theorem kind_done {c : GCell} (h : kindB s c = true) : kindB (doneS s G ts) c = true := by
  unfold kindB at h ⊢
  by_cases e4 : c.kind = 4
  · rw [if_neg (by omega), if_neg (by omega), if_neg (by omega), if_neg (by omega), if_pos e4] at h ⊢
    simp only [Bool.and_eq_true] at h ⊢
    exact ⟨h.1, all_mono h.2 fun v _ hv => by rw [names_done]; exact hv⟩
  · by_cases e0 : c.kind = 0
    · rw [if_pos e0] at h ⊢; exact h
    rw [if_neg e0] at h ⊢
    by_cases e1 : c.kind = 1
    · rw [if_pos e1] at h ⊢; exact h
    rw [if_neg e1] at h ⊢
    by_cases e2 : c.kind = 2
    · rw [if_pos e2] at h ⊢; exact h
    rw [if_neg e2] at h ⊢
    by_cases e3 : c.kind = 3
    · rw [if_pos e3] at h ⊢; exact h
    rw [if_neg e3, if_neg e4] at h ⊢
    exact h
theorem cell_done (hG : DonG s G) {c : GCell} (hc : c ∈ (doneS s G ts).cells) (h : s.cells.all (cellB s) = true) : cellB (doneS s G ts) c = true := by
  obtain ⟨k, hk, rfl⟩ := done_mem hc
  have hb := List.all_eq_true.1 h _ (List.getElem_mem hk)
  have hf : fitsB (doneS s G ts) = fitsB s := by funext v; exact fits_done
  have hff : frameFits (doneS s G ts) = frameFits s := by funext v; exact frameFits_done
  simp only [cellB, Bool.and_eq_true] at hb ⊢
  obtain ⟨⟨⟨b1, b2⟩, b3⟩, b4⟩ := hb
  rw [doneC_vals, doneC_frames, hf, hff]
  refine ⟨⟨⟨?_, ?_⟩, b3⟩, b4⟩
  · rcases done_cell hG hk with e | ⟨e1, e2, e⟩
    · rw [e]; exact kind_done b1
    · rw [e]
      unfold kindB at b1 ⊢
      rw [if_neg (by omega), if_neg (by omega), if_neg (by omega), if_neg (by omega), if_neg (by omega), if_pos e1] at b1
      simp [btw] at b1 ⊢
      exact b1.2
  · rcases done_cell hG hk with e | ⟨e1, e2, e⟩
    · rw [e]; exact b2
    · rw [e]
      unfold framesOf at b2 ⊢
      rw [if_neg (by omega)] at b2
      simpa using b2
theorem heap_done (hG : DonG s G) {c : GCell} (hc : c ∈ (doneS s G ts).cells) (h : s.cells.all (heapB p s) = true) : heapB p (doneS s G ts) c = true := by
  obtain ⟨k, hk, rfl⟩ := done_mem hc
  have hb := List.all_eq_true.1 h _ (List.getElem_mem hk)
  rcases done_cell hG hk with e | ⟨e1, e2, e⟩
  · rw [e]
    unfold heapB at hb ⊢
    by_cases e4 : s.cells[k].kind = 4
    · rw [if_pos e4] at hb ⊢; exact hb
    rw [if_neg e4] at hb ⊢
    by_cases e5 : s.cells[k].kind = 5
    · rw [if_pos e5] at hb ⊢
      simp only [Bool.or_eq_true] at hb ⊢
      exact hb.imp id (saved_done hG)
    · rw [if_neg e5]
  · rw [e]; unfold heapB; simp
theorem cells_done (hG : DonG s G) (h : cellsQ wordsT s = 0) : cellsQ wordsT (doneS s G ts) = 0 := by
  rw [cellsQ_iff] at h ⊢
  obtain ⟨a1, a2, a3, a4, a5, a6, a7⟩ := h
  refine ⟨?_, a2, a3, a4, ?_, ?_, ?_⟩
  · simp only [heapLarge, Bool.or_eq_false_iff, decide_eq_false_iff_not, List.any_eq_false] at a1 ⊢
    obtain ⟨⟨⟨⟨⟨b1, b2⟩, b3⟩, b4⟩, b5⟩, b6⟩ := a1
    refine ⟨⟨⟨⟨⟨by rw [done_len]; exact b1, b2⟩, b3⟩, b4⟩, b5⟩, fun c hc => ?_⟩
    obtain ⟨k, hk, rfl⟩ := done_mem hc
    have := b6 _ (List.getElem_mem hk)
    unfold manyB at this ⊢
    rw [doneC_vals, doneC_kind]; exact this
  · rw [List.all_eq_true]
    exact fun c hc => cell_done hG hc a5
  · refine all_mono a6 fun v _ hv => ?_
    unfold saidB at hv ⊢; rw [fits_done]; exact hv
  · refine all_mono a7 fun e _ he => ?_
    unfold endB at he ⊢; rw [names_done, done_len]; exact he
end
def lastTry (l : List GTry) : GTry := l.getD (l.length - 1) ⟨0, 0⟩
def catchF (f : GFrame) (v : GVal) : GFrame := ⟨f.fn, (lastTry f.tries).at_, f.to, f.gen, f.self, f.regs.set (lastTry f.tries).reg.toNat v, f.tries.take (f.tries.length - 1)⟩
def catchN (fs : List GFrame) : Nat → Option Nat
  | 0 => none
  | n + 1 => if (fs.getD n dFrame).tries = [] then catchN fs n else some n
def dropG (fs : List GFrame) : Nat → List Int
  | 0 => []
  | n + 1 => if (fs.getD n dFrame).tries = [] then (if 0 ≤ (fs.getD n dFrame).gen then [(fs.getD n dFrame).gen] else []) ++ dropG fs n else []
def throwT (t : GThread) (v : GVal) : GThread := match catchN t.frames t.frames.length with
  | none => ⟨[], 4, 0, v⟩
  | some j => ⟨(t.frames.take (j + 1)).set j (catchF (t.frames.getD j dFrame) v), 0, 0, t.val⟩
def throwS (s : GState) (th : Nat) (v : GVal) : GState := doneS s (dropG (s.threads.getD th dThread).frames (s.threads.getD th dThread).frames.length) (s.threads.set th (throwT (s.threads.getD th dThread) v))
theorem catchN_lt {fs : List GFrame} : ∀ {n j : Nat}, catchN fs n = some j → j < n ∧ (fs.getD j dFrame).tries ≠ []
  | 0, _, h => by cases h
  | n + 1, j, h => by
    unfold catchN at h
    split at h
    · have := catchN_lt h; exact ⟨by omega, this.2⟩
    · rename_i h1; simp at h; subst h; exact ⟨by omega, h1⟩
def keptN (fs : List GFrame) (n : Nat) : Nat := match catchN fs n with
  | none => 0
  | some j => j + 1
theorem keptN_le {fs : List GFrame} {n : Nat} : keptN fs n ≤ n := by
  unfold keptN
  cases h : catchN fs n with
  | none => simp
  | some j => have := catchN_lt h; simp; omega
theorem keptN_next {fs : List GFrame} {n : Nat} (h : (fs.getD n dFrame).tries = []) : keptN fs (n + 1) = keptN fs n := by
  unfold keptN; rw [catchN, if_pos h]
theorem dropG_mem {fs : List GFrame} {g : Int} : ∀ {n : Nat}, g ∈ dropG fs n ↔ 0 ≤ g ∧ ∃ k, k < n ∧ keptN fs n ≤ k ∧ (fs.getD k dFrame).gen = g
  | 0 => by simp [dropG]
  | n + 1 => by
    unfold dropG
    by_cases ht : (fs.getD n dFrame).tries = []
    · rw [if_pos ht, List.mem_append, dropG_mem, keptN_next ht]
      have hle := keptN_le (fs := fs) (n := n)
      constructor
      · rintro (h | ⟨h0, k, h1, h2, h3⟩)
        · split at h
          · rename_i h0
            rw [List.mem_singleton] at h
            exact ⟨by omega, n, by omega, hle, h.symm⟩
          · cases h
        · exact ⟨h0, k, by omega, h2, h3⟩
      · rintro ⟨h0, k, h1, h2, h3⟩
        by_cases e : k = n
        · subst e
          exact .inl (by rw [if_pos (by omega), List.mem_singleton]; exact h3.symm)
        · exact .inr ⟨h0, k, by omega, h2, h3⟩
    · rw [if_neg ht]
      constructor
      · intro h; cases h
      · rintro ⟨-, k, h1, h2, -⟩
        unfold keptN at h2
        rw [catchN, if_neg ht] at h2
        simp at h2; omega
section
variable {p : GProg} {s : GState}
theorem fn_regs {f : GFn} (h : functionB p f = true) : 1 ≤ f.regs := by
  simp only [functionB, Bool.and_eq_true, Bool.not_eq_true', Bool.or_eq_false_iff, decide_eq_false_iff_not] at h
  omega
theorem catch_frame {G : List Int} {ts : List GThread} (hp : checkQ wordsT p = 0) (hG : DonG s G) {f : GFrame} {v : GVal} (hv : fitsB s v = true) (h : frameB p s f = true) (ht : f.tries ≠ []) :
    frameB p (doneS s G ts) (catchF f v) = true ∧ 0 ≤ (lastTry f.tries).reg ∧ (lastTry f.tries).reg < f.regs.length := by
  have hd := frame_done (ts := ts) hG h
  have hf : fitsB (doneS s G ts) = fitsB s := by funext v; exact fits_done
  simp only [frameB, Bool.and_eq_true, decide_eq_true_eq] at hd h ⊢
  obtain ⟨⟨⟨⟨⟨⟨⟨⟨⟨h1, h2⟩, h3⟩, h4⟩, h5⟩, h6⟩, h7⟩, h8⟩, h9⟩, h10⟩ := hd
  have hin := fnAt_in h1 h2
  obtain ⟨g1, g2, g3, g4, g5⟩ := fn_in hp hin
  have hr := fn_regs g1
  have hr2 := ((large_lt (check_zero hp).1).2.2.2 _ hin).2
  have hrch := (tries_seen g3 g5 f.at_.toNat f.tries).2 ⟨h8, h9.symm⟩
  have hl : f.tries.length - 1 < f.tries.length := by have := List.length_pos_iff.2 ht; omega
  obtain ⟨k1, k2, k3⟩ := rch_tries g2 hr hr2 hrch _ hl
  have hlt : lastTry f.tries = f.tries[f.tries.length - 1] := by
    unfold lastTry; rw [List.getD_eq_getElem?_getD, List.getElem?_eq_getElem hl]; rfl
  rw [← hlt] at k1 k2 k3
  have ha := tries_at g3 g5 k3
  refine ⟨⟨⟨⟨⟨⟨⟨⟨⟨⟨h1, h2⟩, h3⟩, h4⟩, by simpa [catchF] using h5⟩, ha.1⟩, ha.2.1⟩, ha.2.2.1⟩, ha.2.2.2.1.symm⟩, ?_⟩, k1, by rw [h5]; exact k2⟩
  rw [hf] at h10 ⊢
  rw [List.all_eq_true] at h10 ⊢
  intro x hx
  rcases List.mem_or_eq_of_mem_set hx with hx | rfl
  · exact h10 x hx
  · exact hv
theorem stack_gen {fs : List GFrame} {k : Nat} (h : stackB p s fs k = true) (h0 : 0 ≤ (fs.getD k dFrame).gen) : (fnAt p (fs.getD k dFrame).fn).gen = true ∧ 0 < k ∧ namesB s ⟨5, (fs.getD k dFrame).gen⟩ 5 = true ∧ (cellAt s (fs.getD k dFrame).gen).num = 1 := by
  unfold stackB at h
  simp only [Bool.and_eq_true] at h
  obtain ⟨-, h4⟩ := h
  by_cases hg : (fnAt p (fs.getD k dFrame).fn).gen = true
  · rw [if_pos hg] at h4
    simp only [Bool.and_eq_true, decide_eq_true_eq] at h4
    exact ⟨hg, h4.1.1.2, h4.1.2, h4.2⟩
  · rw [if_neg hg, decide_eq_true_eq] at h4
    omega
theorem stack_done {G : List Int} {ts : List GThread} (hG : DonG s G) {fs gs : List GFrame} {k : Nat} (h : stackB p s fs k = true) (hk : gs.getD k dFrame = fs.getD k dFrame) (hb : (gs.getD (k - 1) dFrame).regs.length = (fs.getD (k - 1) dFrame).regs.length)
    (hn : (fnAt p (fs.getD k dFrame).fn).gen = true → (fs.getD k dFrame).gen ∉ G) : stackB p (doneS s G ts) gs k = true := by
  unfold stackB at h ⊢
  rw [hk, hb]
  simp only [Bool.and_eq_true] at h ⊢
  obtain ⟨⟨⟨h1, h2⟩, h3⟩, h4⟩ := h
  refine ⟨⟨⟨frame_done hG h1, h2⟩, h3⟩, ?_⟩
  by_cases hg : (fnAt p (fs.getD k dFrame).fn).gen = true
  · rw [if_pos hg] at h4 ⊢
    simp only [Bool.and_eq_true, decide_eq_true_eq] at h4 ⊢
    obtain ⟨⟨⟨a1, a2⟩, a3⟩, a4⟩ := h4
    refine ⟨⟨⟨a1, a2⟩, by rw [names_done]; exact a3⟩, ?_⟩
    simp only [namesB, Bool.and_eq_true, decide_eq_true_eq] at a3
    rw [done_at a1 a3.1.2]
    unfold doneC
    rw [Int.toNat_of_nonneg a1, if_neg (hn hg)]
    exact a4
  · rw [if_neg hg] at h4 ⊢; exact h4
theorem on_done {G : List Int} {ts : List GThread} (hl : ts.length = s.threads.length) {t : GThread} (h : onB s t = true) : onB (doneS s G ts) t = true := by
  unfold onB at h ⊢
  rw [names_done]
  have : (doneS s G ts).threads.length = s.threads.length := hl
  rw [this]; exact h
theorem thread_done {G : List Int} {ts : List GThread} (hG : DonG s G) (hl : ts.length = s.threads.length) {t : GThread} (hn : ∀ g ∈ gensF p t.frames, g ∉ G) (h : threadB p s t = true) : threadB p (doneS s G ts) t = true := by
  simp only [threadB, Bool.and_eq_true] at h ⊢
  obtain ⟨⟨⟨⟨⟨h1, h2⟩, h3⟩, h4⟩, h5⟩, h6⟩ := h
  refine ⟨⟨⟨⟨⟨h1, h2⟩, by rw [fits_done]; exact h3⟩, h4⟩, on_done hl h5⟩, ?_⟩
  rw [List.all_eq_true] at h6 ⊢
  intro k hk
  refine stack_done hG (h6 k hk) rfl rfl fun hg => hn _ ?_
  unfold gensF
  rw [List.mem_range] at hk
  refine List.mem_map.2 ⟨t.frames.getD k dFrame, List.mem_filter.2 ⟨?_, hg⟩, rfl⟩
  rw [List.getD_eq_getElem?_getD, List.getElem?_eq_getElem hk]
  exact List.getElem_mem hk
theorem gensF_at {fs : List GFrame} {g : Int} : g ∈ gensF p fs ↔ ∃ k, k < fs.length ∧ (fnAt p (fs.getD k dFrame).fn).gen = true ∧ (fs.getD k dFrame).gen = g := by
  unfold gensF
  rw [List.mem_map]
  constructor
  · rintro ⟨f, hf, rfl⟩
    obtain ⟨hf, hg⟩ := List.mem_filter.1 hf
    obtain ⟨k, hk, rfl⟩ := List.getElem_of_mem hf
    exact ⟨k, hk, by rw [List.getD_eq_getElem?_getD, List.getElem?_eq_getElem hk]; exact ⟨hg, rfl⟩⟩
  · rintro ⟨k, hk, hg, rfl⟩
    refine ⟨fs.getD k dFrame, List.mem_filter.2 ⟨?_, hg⟩, rfl⟩
    rw [List.getD_eq_getElem?_getD, List.getElem?_eq_getElem hk]
    exact List.getElem_mem hk
theorem gensF_split {fs : List GFrame} (n : Nat) : gensF p fs = gensF p (fs.take n) ++ gensF p (fs.drop n) := by
  unfold gensF
  rw [← List.map_append, ← List.filter_append, List.take_append_drop]
theorem throwT_gens {t : GThread} {v : GVal} : gensF p (throwT t v).frames = gensF p (t.frames.take (keptN t.frames t.frames.length)) := by
  unfold throwT keptN
  cases h : catchN t.frames t.frames.length with
  | none => simp
  | some j =>
    obtain ⟨hj, -⟩ := catchN_lt h
    simp only
    have hd : t.frames.getD j dFrame = t.frames[j] := by rw [List.getD_eq_getElem?_getD, List.getElem?_eq_getElem hj]; rfl
    rw [hd, List.take_succ_eq_append_getElem hj, List.set_append_right _ _ (by simp; omega)]
    have : j - (List.take j t.frames).length = 0 := by simp; omega
    rw [this]
    unfold gensF
    simp only [List.set_cons_zero, List.filter_append, List.map_append]
    congr 1
    simp only [List.filter_cons, catchF]
    split <;> rfl
theorem flat_sub {α β : Type} {l : List α} {f : α → List β} {i : Nat} {x d : α} (hi : i < l.length) (h : (f x).Sublist (f (l.getD i d))) : ((l.set i x).flatMap f).Sublist (l.flatMap f) := by
  induction l generalizing i with
  | nil => simp at hi
  | cons a l ih =>
    cases i with
    | zero => simp only [List.set_cons_zero, List.flatMap_cons, List.getD_cons_zero] at h ⊢; exact h.append (List.Sublist.refl _)
    | succ i => simp only [List.set_cons_succ, List.flatMap_cons, List.getD_cons_succ] at h ⊢; exact (List.Sublist.refl _).append (ih (by simpa using hi) h)
theorem throw_drop {fs : List GFrame} (hst : ∀ k < fs.length, stackB p s fs k = true) {g : Int} (h : g ∈ dropG fs fs.length) : g ∈ gensF p (fs.drop (keptN fs fs.length)) ∧ 0 ≤ g ∧ g < s.cells.length ∧ (cellAt s g).kind = 5 ∧ (cellAt s g).num = 1 := by
  obtain ⟨h0, k, h1, h2, h3⟩ := dropG_mem.1 h
  subst h3
  obtain ⟨a1, a2, a3, a4⟩ := stack_gen (hst k h1) h0
  simp only [namesB, Bool.and_eq_true, decide_eq_true_eq] at a3
  refine ⟨gensF_at.2 ⟨k - keptN fs fs.length, by simp; omega, ?_⟩, h0, a3.1.2, a3.2, a4⟩
  have : (fs.drop (keptN fs fs.length)).getD (k - keptN fs fs.length) dFrame = fs.getD k dFrame := by
    rw [List.getD_eq_getElem?_getD, List.getElem?_drop, List.getD_eq_getElem?_getD]
    congr 2
    omega
  rw [this]
  exact ⟨a1, rfl⟩
theorem throw_state {th : Nat} {v : GVal} (h : stateQ wordsT p s = 0) (hth : th < s.threads.length) (hf : (s.threads.getD th dThread).frames ≠ []) (hv : fitsB s v = true) : stateQ wordsT p (throwS s th v) = 0 := by
  rw [stateQ_iff] at h ⊢
  obtain ⟨a1, a2, a3, a4⟩ := h
  have hget : s.threads.getD th dThread = s.threads[th] := by rw [List.getD_eq_getElem?_getD, List.getElem?_eq_getElem hth]; rfl
  unfold throwS
  rw [hget] at hf ⊢
  simp only [stateB, Bool.and_eq_true, decide_eq_true_eq] at a4
  obtain ⟨⟨⟨⟨b1, b2⟩, b3⟩, b4⟩, b5⟩ := a4
  have hT := List.all_eq_true.1 b3 _ (List.getElem_mem hth)
  generalize hx : s.threads[th] = t at *
  have hT' := hT
  simp only [threadB, Bool.and_eq_true] at hT'
  obtain ⟨⟨⟨⟨⟨t1, t2⟩, t3⟩, t4⟩, t5⟩, t6⟩ := hT'
  have hst : ∀ k < t.frames.length, stackB p s t.frames k = true := fun k hk => List.all_eq_true.1 t6 k (List.mem_range.2 hk)
  have hdrop := fun g hg => throw_drop (g := g) hst hg
  generalize hGd : dropG t.frames t.frames.length = G at *
  have hG : DonG s G := fun g hg => (hdrop g hg).2
  have hkl := keptN_le (fs := t.frames) (n := t.frames.length)
  -- which generators stand where
  have hnd := b4
  unfold gensS at hnd
  have hpw := List.pairwise_flatMap.1 hnd
  have hin : (gensF p t.frames).Nodup := hpw.1 t (hx ▸ List.getElem_mem hth)
  rw [gensF_split (keptN t.frames t.frames.length), List.nodup_append] at hin
  have hkeep : ∀ g ∈ gensF p (t.frames.take (keptN t.frames t.frames.length)), g ∉ G := fun g hg hm => hin.2.2 g hg g (hdrop g hm).1 rfl
  have hmemT : ∀ g ∈ G, g ∈ gensF p t.frames := fun g hg => by
    rw [gensF_split (keptN t.frames t.frames.length)]
    exact List.mem_append_right _ (hdrop g hg).1
  have hoth : ∀ (i : Nat) (hi : i < s.threads.length), i ≠ th → ∀ g ∈ gensF p s.threads[i].frames, g ∉ G := fun i hi hne g hg hm => by
    have hg2 := hmemT g hm
    rcases Nat.lt_or_gt_of_ne hne with hlt | hlt
    · exact (List.pairwise_iff_getElem.1 hpw.2 i th hi hth hlt) g hg g (by rw [hx]; exact hg2) rfl
    · exact (List.pairwise_iff_getElem.1 hpw.2 th i hth hi hlt) g (by rw [hx]; exact hg2) g hg rfl
  have hlen : (s.threads.set th (throwT t v)).length = s.threads.length := by simp
  have hgT := throwT_gens (p := p) (t := t) (v := v)
  have hsub : (gensS p (doneS s G (s.threads.set th (throwT t v)))).Sublist (gensS p s) := by
    unfold gensS
    refine flat_sub (d := dThread) hth ?_
    have e : s.threads.getD th dThread = t := by rw [List.getD_eq_getElem?_getD, List.getElem?_eq_getElem hth, hx]; rfl
    rw [e, hgT]
    conv => rhs; rw [gensF_split (keptN t.frames t.frames.length)]
    exact List.sublist_append_left ..
  have hthr : threadB p (doneS s G (s.threads.set th (throwT t v))) (throwT t v) = true := by
    have hover : overB t = false := by
      rw [decide_eq_true_eq] at t1
      rw [t1, decide_eq_false hf]
    rw [hover, Bool.false_or, Bool.and_eq_true, decide_eq_true_eq, decide_eq_true_eq] at t2
    cases hc : catchN t.frames t.frames.length with
    | none =>
      have e : throwT t v = ⟨[], 4, 0, v⟩ := by unfold throwT; rw [hc]
      rw [e]
      simp [threadB, overB, onB, btw, fits_done, hv]
    | some j =>
      have e : throwT t v = ⟨(t.frames.take (j + 1)).set j (catchF (t.frames.getD j dFrame) v), 0, 0, t.val⟩ := by unfold throwT; rw [hc]
      have hk : keptN t.frames t.frames.length = j + 1 := by unfold keptN; rw [hc]
      obtain ⟨hj, hne⟩ := catchN_lt hc
      rw [hk] at hkeep
      have hfl : ((t.frames.take (j + 1)).set j (catchF (t.frames.getD j dFrame) v)).length = j + 1 := by simp; omega
      have hget2 : ∀ k, k < j + 1 → ((t.frames.take (j + 1)).set j (catchF (t.frames.getD j dFrame) v)).getD k dFrame = if k = j then catchF (t.frames.getD j dFrame) v else t.frames.getD k dFrame := fun k hk => by
        rw [getD_set]
        by_cases e : j = k
        · subst e; rw [if_pos ⟨rfl, by simp; omega⟩, if_pos rfl]
        · rw [if_neg (fun h => e h.1), if_neg (fun h => e h.symm), List.getD_eq_getElem?_getD, List.getElem?_take, if_pos hk, List.getD_eq_getElem?_getD]
      have hgen : ∀ k, k < j + 1 → (fnAt p (t.frames.getD k dFrame).fn).gen = true → (t.frames.getD k dFrame).gen ∉ G := fun k hk hg => hkeep _ (gensF_at.2 ⟨k, by simp; omega, by
        have : (t.frames.take (j + 1)).getD k dFrame = t.frames.getD k dFrame := by rw [List.getD_eq_getElem?_getD, List.getElem?_take, if_pos hk, List.getD_eq_getElem?_getD]
        rw [this]; exact ⟨hg, rfl⟩⟩)
      rw [e]
      simp only [threadB, Bool.and_eq_true]
      refine ⟨⟨⟨⟨⟨?_, ?_⟩, ?_⟩, rfl⟩, ?_⟩, ?_⟩
      · have : (t.frames.take (j + 1)).set j (catchF (t.frames.getD j dFrame) v) ≠ [] := fun e => by rw [e] at hfl; simp at hfl
        rw [decide_eq_false this]; rfl
      · rw [t2.1, t2.2]; rfl
      · rw [fits_done]; exact t3
      · simp [onB]
      · rw [List.all_eq_true]
        intro k hk
        rw [List.mem_range, hfl] at hk
        by_cases e : k = j
        · subst e
          have hs := hst k hj
          have hs' := hs
          unfold stackB at hs
          simp only [Bool.and_eq_true] at hs
          obtain ⟨⟨⟨h1, h2⟩, h3⟩, h4⟩ := hs
          have hcf := (catch_frame (ts := s.threads.set th (throwT t v)) a1 hG hv h1 hne).1
          have h5 := stack_done (ts := s.threads.set th (throwT t v)) hG hs' rfl rfl (hgen k (by omega))
          unfold stackB at h5 ⊢
          simp only [Bool.and_eq_true] at h5 ⊢
          obtain ⟨⟨⟨k1, k2⟩, k3⟩, k4⟩ := h5
          rw [hget2 k (by omega), if_pos rfl]
          have hb : (((t.frames.take (k + 1)).set k (catchF (t.frames.getD k dFrame) v)).getD (k - 1) dFrame).regs.length = (t.frames.getD (k - 1) dFrame).regs.length := by
            rw [hget2 (k - 1) (by omega)]
            split
            · rename_i e
              have : k = 0 := by omega
              subst this
              simp [catchF]
            · rfl
          rw [hb]
          exact ⟨⟨⟨hcf, k2⟩, k3⟩, k4⟩
        · refine stack_done hG (hst k (by omega)) ?_ ?_ (hgen k (by omega))
          · rw [hget2 k (by omega), if_neg e]
          · rw [hget2 (k - 1) (by omega)]
            split
            · rename_i e2; omega
            · rfl
  refine ⟨a1, cells_done hG a2, ?_, ?_⟩
  · simp only [stateLarge, Bool.or_eq_false_iff, decide_eq_false_iff_not, List.any_eq_false, decide_eq_true_eq] at a3 ⊢
    refine ⟨by show ¬ 5 < (s.threads.set th (throwT t v)).length; rw [hlen]; exact a3.1, fun x hm => ?_⟩
    rcases List.mem_or_eq_of_mem_set (show x ∈ s.threads.set th (throwT t v) from hm) with hm | rfl
    · exact a3.2 x hm
    · have h30 := a3.2 t (hx ▸ List.getElem_mem hth)
      unfold throwT
      cases catchN t.frames t.frames.length with
      | none => simp
      | some j => simp; omega
  · simp only [stateB, Bool.and_eq_true, decide_eq_true_eq]
    refine ⟨⟨⟨⟨?_, ?_⟩, ?_⟩, hsub.nodup b4⟩, ?_⟩
    · simp only [beginsB, Bool.and_eq_true, Bool.not_eq_true', decide_eq_false_iff_not] at b1 ⊢
      refine ⟨b1.1, fun e => b1.2 ?_⟩
      have : (s.threads.set th (throwT t v)).length = 0 := by rw [show s.threads.set th (throwT t v) = [] from e]; rfl
      rw [hlen] at this
      exact List.length_eq_zero_iff.1 this
    · rw [List.all_eq_true]
      exact fun c hc => heap_done hG hc b2
    · rw [List.all_eq_true]
      intro x hm
      obtain ⟨i, hi, rfl⟩ := List.getElem_of_mem (show x ∈ s.threads.set th (throwT t v) from hm)
      rw [List.getElem_set]
      split
      · exact hthr
      · rename_i hne
        have hi2 : i < s.threads.length := by rw [hlen] at hi; exact hi
        exact thread_done hG hlen (hoth i hi2 (fun e => hne e.symm)) (List.all_eq_true.1 b3 _ (List.getElem_mem hi2))
    · unfold goesB at b5 ⊢
      rw [List.all_eq_true] at b5 ⊢
      intro k hk
      rw [List.mem_range, done_len] at hk
      have h5 := b5 k (List.mem_range.2 hk)
      rw [done_at (by omega) (by omega), Int.toNat_natCast]
      simp only [Bool.or_eq_true, Bool.not_eq_true', Bool.and_eq_false_iff, decide_eq_false_iff_not, decide_eq_true_eq] at h5 ⊢
      by_cases hm : (k : Int) ∈ G
      · left; right
        unfold doneC; rw [if_pos hm]; simp
      · have e : doneC G k (cellAt s k) = cellAt s k := by unfold doneC; rw [if_neg hm]
        rw [e]
        refine h5.imp id fun hg => ?_
        unfold gensS at hg ⊢
        obtain ⟨x, hx1, hx2⟩ := List.mem_flatMap.1 hg
        obtain ⟨i, hi, rfl⟩ := List.getElem_of_mem hx1
        by_cases hne : i = th
        · subst hne
          refine List.mem_flatMap.2 ⟨throwT t v, ?_, ?_⟩
          · exact (show throwT t v ∈ s.threads.set i (throwT t v) from List.mem_of_getElem (h := by rw [hlen]; exact hth) (List.getElem_set_self ..))
          · rw [hgT]
            rw [hx] at hx2
            obtain ⟨q, q1, q2, q3⟩ := gensF_at.1 hx2
            by_cases hq : q < keptN t.frames t.frames.length
            · refine gensF_at.2 ⟨q, by simp; omega, ?_⟩
              have : (t.frames.take (keptN t.frames t.frames.length)).getD q dFrame = t.frames.getD q dFrame := by rw [List.getD_eq_getElem?_getD, List.getElem?_take, if_pos hq, List.getD_eq_getElem?_getD]
              rw [this]; exact ⟨q2, q3⟩
            · exact absurd (hGd ▸ dropG_mem.2 ⟨by omega, q, q1, by omega, q3⟩) hm
        · exact List.mem_flatMap.2 ⟨s.threads[i], (show s.threads[i] ∈ s.threads.set th (throwT t v) from List.mem_of_getElem (h := by rw [hlen]; exact hi) (List.getElem_set_ne (fun e => hne e.symm) _)), hx2⟩
end

def ceR (a b : C) (c : GCell) : List C := [.d (eI c.kind), .d (eI c.num), a, b]
def thR (a : C) (t : GThread) : List C := [a, .d (eI t.state), .d (eI t.on), .d (eI t.val.kind), .d (eI t.val.n)]
structure CeAt (H : Hp) (N : Nat → Prop) (nC : Nat) (cs : List GCell) (CR : List (List C)) : Prop where
  blk : H nC = some ⟨.c 53, 4, CR⟩
  len : CR.length = cs.length
  new : newRs CR
  row : ∀ (i : Nat) (h : i < cs.length), ∃ a b, CR[i]? = some (ceR a b cs[i]) ∧ Shw H N a (.sl true (cs[i].vals.map eVal)) ∧ Shw H N b (.sl true (cs[i].frames.map eFrame)) ∧ a.newC = true ∧ b.newC = true
structure ThAt (H : Hp) (N : Nat → Prop) (th nT nF : Nat) (ts : List GThread) (T : GThread) (TR : List (List C)) : Prop where
  blk : H nT = some ⟨.c 42, 5, TR⟩
  len : TR.length = ts.length
  new : newRs TR
  row : ∀ (i : Nat) (h : i < ts.length), i ≠ th → ∃ a, TR[i]? = some (thR a ts[i]) ∧ Shw H N a (.sl true (ts[i].frames.map eFrame))
  own : TR[th]? = some (thR (.own nF 8 T.frames.length) T)
structure FsAt (H : Hp) (N : Nat → Prop) (nF : Nat) (r t : Nat → Nat) (fs : List GFrame) (FR : List (List C)) : Prop where
  blk : H nF = some ⟨.c 47, 8, FR⟩
  len : fs.length ≤ FR.length
  new : newRs FR
  row : ∀ (i : Nat) (h : i < fs.length), FR[i]? = some (frRow (r i) (t i) fs[i])
  regs : ∀ (i : Nat) (h : i < fs.length), H (r i) = some (valBlk fs[i].regs)
  tries : ∀ (i : Nat) (h : i < fs.length), N (t i) ∧ ∃ ys, H (t i) = some (tryBlk (fs[i].tries ++ ys))
structure Apt (N : Nat → Prop) (nC nT nF : Nat) (r : Nat → Nat) (l : Nat) : Prop where
  c : ¬ N nC
  tn : ¬ N nT
  f : ¬ N nF
  rs : ∀ i, i < l → ¬ N (r i) ∧ r i ≠ nC ∧ r i ≠ nT ∧ r i ≠ nF
  ct : nC ≠ nT
  cf : nC ≠ nF
  tf : nT ≠ nF
  inj : ∀ i j, i < l → j < l → r i = r j → i = j
theorem Apt.less {N : Nat → Prop} {nC nT nF : Nat} {r : Nat → Nat} {l m : Nat} (h : Apt N nC nT nF r l) (hm : m ≤ l) : Apt N nC nT nF r m := ⟨h.c, h.tn, h.f, fun i hi => h.rs i (by omega), h.ct, h.cf, h.tf, fun i j hi hj => h.inj i j (by omega) (by omega)⟩
section
variable {H H' : Hp} {N : Nat → Prop} {th nC nT nF : Nat} {r t : Nat → Nat}
theorem Shw.low {c : C} {d : Dt} (h : Shw H N c d) (hl : ∀ q, N q → H' q = H q) : Shw H' N c d := h.mono fun n hn => ⟨hn, fun x hx => by rw [hl n hn]; exact hx⟩
theorem CeAt.low {cs : List GCell} {CR : List (List C)} (h : CeAt H N nC cs CR) (hl : ∀ q, N q → H' q = H q) (hc : H' nC = H nC) : CeAt H' N nC cs CR :=
  ⟨by rw [hc]; exact h.blk, h.len, h.new, fun i hi => by obtain ⟨a, b, h1, h2, h3, h4⟩ := h.row i hi; exact ⟨a, b, h1, h2.low hl, h3.low hl, h4⟩⟩
theorem ThAt.low {ts : List GThread} {T : GThread} {TR : List (List C)} (h : ThAt H N th nT nF ts T TR) (hl : ∀ q, N q → H' q = H q) (hc : H' nT = H nT) : ThAt H' N th nT nF ts T TR :=
  ⟨by rw [hc]; exact h.blk, h.len, h.new, fun i hi hne => by obtain ⟨a, h1, h2⟩ := h.row i hi hne; exact ⟨a, h1, h2.low hl⟩, h.own⟩
theorem FsAt.low {fs : List GFrame} {FR : List (List C)} (h : FsAt H N nF r t fs FR) (hl : ∀ q, N q → H' q = H q) (hf : H' nF = H nF) (hr : ∀ i, i < fs.length → H' (r i) = H (r i)) : FsAt H' N nF r t fs FR :=
  ⟨by rw [hf]; exact h.blk, h.len, h.new, h.row, fun i hi => by rw [hr i hi]; exact h.regs i hi, fun i hi => by obtain ⟨h1, ys, h2⟩ := h.tries i hi; exact ⟨h1, ys, by rw [hl _ h1]; exact h2⟩⟩
theorem FsAt.take {fs : List GFrame} {FR : List (List C)} (h : FsAt H N nF r t fs FR) (k : Nat) : FsAt H N nF r t (fs.take k) FR :=
  ⟨h.blk, by have := h.len; simp; omega, h.new, fun i hi => by simp at hi; rw [List.getElem_take]; exact h.row i (by omega), fun i hi => by simp at hi; rw [List.getElem_take]; exact h.regs i (by omega), fun i hi => by simp at hi; rw [List.getElem_take]; exact h.tries i (by omega)⟩
theorem CeAt.num {cs : List GCell} {CR : List (List C)} (h : CeAt H N nC cs CR) (hN : ¬ N nC) {g : Nat} (hg : g < cs.length) (z : Int) {a b : C} (hr : CR[g]? = some (ceR a b cs[g])) :
    CeAt (H.set nC (some ⟨.c 53, 4, CR.set g [.d (eI cs[g].kind), .d (eI z), a, b]⟩)) N nC (cs.set g ⟨cs[g].kind, z, cs[g].vals, cs[g].frames⟩) (CR.set g [.d (eI cs[g].kind), .d (eI z), a, b]) := by
  have hl : ∀ q, N q → (H.set nC (some ⟨.c 53, 4, CR.set g [.d (eI cs[g].kind), .d (eI z), a, b]⟩)) q = H q := fun q hq => Hp.set_ne _ _ fun e => hN (e ▸ hq)
  obtain ⟨a', b', k1, k2, k3, k4, k5⟩ := h.row g hg
  rw [hr] at k1
  simp only [ceR, Option.some.injEq, List.cons.injEq, and_true, true_and] at k1
  obtain ⟨rfl, rfl⟩ := k1
  refine ⟨Hp.set_same _ _ _, by simp [h.len], h.new.set (fun c hc => by simp at hc; rcases hc with rfl | rfl | rfl | rfl <;> first | rfl | assumption), fun i hi => ?_⟩
  simp at hi
  have hl2 := h.len
  by_cases e : g = i
  · subst e
    refine ⟨a, b, ?_, ?_, ?_, k4, k5⟩
    · rw [List.getElem?_set_self (by omega)]
      simp [ceR]
    · simpa using k2.low hl
    · simpa using k3.low hl
  · obtain ⟨a2, b2, j1, j2, j3, j4, j5⟩ := h.row i hi
    refine ⟨a2, b2, ?_, ?_, ?_, j4, j5⟩
    · rw [List.getElem?_set_ne e, j1, List.getElem_set_ne e]
    · rw [List.getElem_set_ne e]; exact j2.low hl
    · rw [List.getElem_set_ne e]; exact j3.low hl
theorem ThAt.set {ts : List GThread} {T : GThread} {TR : List (List C)} (h : ThAt H N th nT nF ts T TR) (hN : ¬ N nT) (ht : th < ts.length) (T' : GThread) {e : List C} (he : e = thR (.own nF 8 T'.frames.length) T') :
    ThAt (H.set nT (some ⟨.c 42, 5, TR.set th e⟩)) N th nT nF ts T' (TR.set th e) := by
  subst he
  have hl : ∀ q, N q → (H.set nT (some ⟨.c 42, 5, TR.set th (thR (.own nF 8 T'.frames.length) T')⟩)) q = H q := fun q hq => Hp.set_ne _ _ fun e => hN (e ▸ hq)
  refine ⟨Hp.set_same _ _ _, by simp [h.len], h.new.set (fun c hc => by simp [thR] at hc; rcases hc with rfl | rfl | rfl | rfl | rfl <;> rfl), fun i hi hne => ?_, ?_⟩
  · obtain ⟨a, h1, h2⟩ := h.row i hi hne
    exact ⟨a, by rw [List.getElem?_set_ne (fun e => hne e.symm)]; exact h1, h2.low hl⟩
  · rw [List.getElem?_set_self (by have := h.len; omega)]
theorem FsAt.reg {fs : List GFrame} {FR : List (List C)} (h : FsAt H N nF r t fs FR) {k : Nat} (hk : k < fs.length) (hA : Apt N nC nT nF r fs.length) (l : List GVal) (hl : l.length = fs[k].regs.length) :
    FsAt (H.set (r k) (some (valBlk l))) N nF r t (fs.set k ⟨fs[k].fn, fs[k].at_, fs[k].to, fs[k].gen, fs[k].self, l, fs[k].tries⟩) FR := by
  obtain ⟨q1, q2, q3, q4⟩ := hA.rs k hk
  refine ⟨by rw [Hp.set_ne _ _ (fun e => q4 e.symm)]; exact h.blk, by simpa using h.len, h.new, fun i hi => ?_, fun i hi => ?_, fun i hi => ?_⟩
  · simp at hi
    rw [h.row i hi]
    by_cases e : k = i
    · subst e; simp [frRow, hl]
    · rw [List.getElem_set_ne e]
  · simp at hi
    by_cases e : k = i
    · subst e; simp
    · rw [List.getElem_set_ne e, Hp.set_ne _ _ (fun e2 => e (hA.inj _ _ hi hk e2).symm)]
      exact h.regs i hi
  · simp at hi
    obtain ⟨h1, ys, h2⟩ := h.tries i hi
    refine ⟨h1, ys, ?_⟩
    rw [Hp.set_ne _ _ (fun e => q1 (by rw [← e]; exact h1)), h2]
    by_cases e : k = i
    · subst e; simp
    · rw [List.getElem_set_ne e]
theorem FsAt.fr {fs : List GFrame} {FR : List (List C)} (h : FsAt H N nF r t fs FR) {k : Nat} (hk : k < fs.length) (hA : Apt N nC nT nF r fs.length) (f' : GFrame) (hl : f'.regs = fs[k].regs) (ht : ∃ ys, fs[k].tries = f'.tries ++ ys) {e : List C} (he : e = frRow (r k) (t k) f') :
    FsAt (H.set nF (some ⟨.c 47, 8, FR.set k e⟩)) N nF r t (fs.set k f') (FR.set k e) := by
  subst he
  have hlen := h.len
  refine ⟨Hp.set_same _ _ _, by simpa using h.len, h.new.set (fun c hc => by simp [frRow] at hc; rcases hc with rfl | rfl | rfl | rfl | rfl | rfl | rfl | rfl <;> rfl), fun i hi => ?_, fun i hi => ?_, fun i hi => ?_⟩
  · simp at hi
    by_cases e : k = i
    · subst e; rw [List.getElem?_set_self (by omega)]; simp
    · rw [List.getElem?_set_ne e, h.row i hi, List.getElem_set_ne e]
  · simp at hi
    rw [Hp.set_ne _ _ (hA.rs i hi).2.2.2, h.regs i hi]
    by_cases e : k = i
    · subst e; simp [hl]
    · rw [List.getElem_set_ne e]
  · simp at hi
    obtain ⟨h1, ys, h2⟩ := h.tries i hi
    refine ⟨h1, ?_⟩
    rw [Hp.set_ne _ _ (fun e => hA.f (by rw [← e]; exact h1)), h2]
    by_cases e : k = i
    · subst e
      obtain ⟨zs, hz⟩ := ht
      exact ⟨zs ++ ys, by simp [hz]⟩
    · exact ⟨ys, by rw [List.getElem_set_ne e]⟩
def allN (N : Nat → Prop) (nC nT nF : Nat) (r : Nat → Nat) (l : Nat) : Nat → Prop := fun q => N q ∨ q = nC ∨ q = nT ∨ q = nF ∨ ∃ i, i < l ∧ q = r i
theorem Shw.wide {N' : Nat → Prop} {c : C} {d : Dt} (h : Shw H N c d) (hN : ∀ q, N q → N' q) : Shw H N' c d := h.mono fun n hn => ⟨hN n hn, fun _ h => h⟩
theorem FsAt.shw {N' : Nat → Prop} {fs : List GFrame} {FR : List (List C)} (h : FsAt H N nF r t fs FR) (hN : ∀ q, N q → N' q) (hF : N' nF) (hr : ∀ i, i < fs.length → N' (r i)) : Shw H N' (.own nF 8 fs.length) (.sl true (fs.map eFrame)) :=
  Shw.rowL hF h.blk rfl (by simp) h.len (by simp) fun i hi => by
    have hi : i < fs.length := by simpa using hi
    obtain ⟨h1, ys, h2⟩ := h.tries i hi
    refine ⟨_, h.row i hi, ?_⟩
    rw [List.getElem_map]
    refine frRow_shw (Shw.vals (hr i hi) (h.regs i hi)) ?_
    have := Shw.tries (N := N') (k := fs[i].tries.length) (hN _ h1) h2
    rwa [List.take_left] at this
theorem CeAt.shw {N' : Nat → Prop} {cs : List GCell} {CR : List (List C)} (h : CeAt H N nC cs CR) (hN : ∀ q, N q → N' q) (hC : N' nC) : Shw H N' (.own nC 4 cs.length) (.sl true (cs.map eCell)) :=
  Shw.rowL hC h.blk rfl (by simp) (by simp [h.len]) (by simp) fun i hi => by
    have hi : i < cs.length := by simpa using hi
    obtain ⟨a, b, h1, h2, h3, -⟩ := h.row i hi
    refine ⟨_, h1, ?_⟩
    rw [List.getElem_map]
    exact ⟨.d rfl, .d rfl, h2.wide hN, h3.wide hN, trivial⟩
theorem ThAt.shw {N' : Nat → Prop} {ts : List GThread} {T : GThread} {TR : List (List C)} (h : ThAt H N th nT nF ts T TR) (hth : th < ts.length) (hN : ∀ q, N q → N' q) (hT : N' nT) (hF : Shw H N' (.own nF 8 T.frames.length) (.sl true (T.frames.map eFrame))) :
    Shw H N' (.own nT 5 ts.length) (.sl true ((ts.set th T).map eThread)) :=
  Shw.rowL hT h.blk rfl (by simp) (by simp [h.len]) (fun e he => by obtain ⟨v, -, rfl⟩ := List.mem_map.1 he; rfl) fun i hi => by
    have hi : i < ts.length := by simpa using hi
    by_cases e : th = i
    · subst e
      refine ⟨_, h.own, ?_⟩
      rw [List.getElem_map, List.getElem_set_self]
      exact ⟨hF, .d rfl, .d rfl, .d rfl, .d rfl, trivial⟩
    · obtain ⟨a, h1, h2⟩ := h.row i hi (fun e2 => e e2.symm)
      refine ⟨_, h1, ?_⟩
      rw [List.getElem_map, List.getElem_set_ne e]
      exact ⟨h2.wide hN, .d rfl, .d rfl, .d rfl, .d rfl, trivial⟩
end
abbrev thN (n : Nat) (s : GState) (th : Nat) : Nat := thB n s + off thW s.threads th
def cpN (H : Hp) (n : Nat) (s : GState) (th l : Nat) : Nat → Prop := fun q => n ≤ q ∧ q < enB n s ∧ q ≠ n ∧ q ≠ n + 3 ∧ q ≠ thN n s th ∧ (∀ k, k < l → q ≠ thN n s th + 1 + 2 * k) ∧ newAt H q
theorem FrAt.new {H : Hp} {b : Nat} {l : List GFrame} (h : FrAt H b l) {N : Nat → Prop} (hN : ∀ i, b ≤ i → i < b + 1 + 2 * l.length → newAt H i → N i) : Shw H N (.own b 8 l.length) (.sl true (l.map eFrame)) := by
  refine (h.shw (N := fun i => b ≤ i ∧ i < b + 1 + 2 * l.length ∧ newAt H i) fun i h1 h2 => ⟨h1, h2, ?_⟩).wide fun q hq => hN q hq.1 hq.2.1 hq.2.2
  exact h.blks h1 h2
section
variable {H : Hp} {n : Nat} {s : GState} {th : Nat}
theorem StAt.apt (hth : th < s.threads.length) : Apt (cpN H n s th s.threads[th].frames.length) n (n + 3) (thN n s th) (fun i => thN n s th + 1 + 2 * i) s.threads[th].frames.length :=
  ⟨fun h => h.2.2.1 rfl, fun h => h.2.2.2.1 rfl, fun h => h.2.2.2.2.1 rfl, fun i hi => ⟨fun h => h.2.2.2.2.2.1 i hi rfl, by simp only [thN, thB]; omega, by simp only [thN, thB]; omega, by omega⟩, by omega, by simp only [thN, thB]; omega, by simp only [thN, thB]; omega, fun i j _ _ h => by omega⟩
theorem StAt.ceAt (h : StAt H n s) (hth : th < s.threads.length) : CeAt H (cpN H n s th s.threads[th].frames.length) n s.cells (mixR (fun i c => ceRow (ceB n + off ceW s.cells i) c) ceData s.cells.length s.cells) := by
  refine ⟨h.cells, by simp, mixR_new fun _ _ => ceRow_new _ _, fun i hi => ?_⟩
  obtain ⟨h1, h2⟩ := h.ce i hi hi
  have h3 := off_lt (g := ceW) hi hi
  simp only [ceW] at h3
  have h4 := off_mono (g := thW) (l := s.threads) (Nat.zero_le th)
  have h5 := off_mono (g := thW) (l := s.threads) (Nat.le_of_lt hth)
  refine ⟨.own (ceB n + off ceW s.cells i) 2 s.cells[i].vals.length, .own (ceB n + off ceW s.cells i + 1) 8 s.cells[i].frames.length, by simp [mixR_get, hi, ceRow, ceR], Shw.vals ⟨?_, ?_, ?_, ?_, ?_, ?_, .of h1 (valBlk_new _)⟩ h1, h2.new fun j j1 j2 j3 => ⟨?_, ?_, ?_, ?_, ?_, ?_, j3⟩, rfl, rfl⟩
  all_goals (simp only [thN, thB, ceB, enB, ceW] at *; omega)
theorem StAt.thAt (h : StAt H n s) (hth : th < s.threads.length) : ThAt H (cpN H n s th s.threads[th].frames.length) th (n + 3) (thN n s th) s.threads s.threads[th] (mixR (fun i c => thRow (thB n s + off thW s.threads i) c) thData s.threads.length s.threads) := by
  refine ⟨h.threads, by simp, mixR_new fun _ _ => thRow_new _ _, fun i hi hne => ?_, by simp [mixR_get, hth, thRow, thR]⟩
  have h2 := h.th i hi hi
  have h3 := off_lt (g := thW) hi hi
  have h5 := off_lt (g := thW) hth hth
  simp only [thW] at h3 h5
  have h6 : off thW s.threads i + (1 + 2 * s.threads[i].frames.length) ≤ off thW s.threads th ∨ off thW s.threads th + (1 + 2 * s.threads[th].frames.length) ≤ off thW s.threads i := by
    rcases Nat.lt_or_gt_of_ne hne with e | e
    · exact .inl (off_lt (g := thW) e hi)
    · exact .inr (off_lt (g := thW) e hth)
  refine ⟨.own (thB n s + off thW s.threads i) 8 s.threads[i].frames.length, by simp [mixR_get, hi, thRow, thR], h2.new fun j j1 j2 j3 => ⟨?_, ?_, ?_, ?_, ?_, ?_, j3⟩⟩
  all_goals (simp only [thN, thB, ceB, enB, thW] at *; omega)
theorem StAt.fsAt (h : StAt H n s) (hth : th < s.threads.length) : FsAt H (cpN H n s th s.threads[th].frames.length) (thN n s th) (fun i => thN n s th + 1 + 2 * i) (fun i => thN n s th + 2 + 2 * i) s.threads[th].frames (mixR (fun i f => frRow (thN n s th + 1 + 2 * i) (thN n s th + 2 + 2 * i) f) frData s.threads[th].frames.length s.threads[th].frames) := by
  have h2 := h.th th hth hth
  have h5 := off_lt (g := thW) hth hth
  simp only [thW] at h5
  refine ⟨h2.blk, by simp, mixR_new fun _ _ => frRow_new _ _ _, fun i hi => by simp [mixR_get, hi], fun i hi => h2.sub.regs i hi hi, fun i hi => ⟨⟨?_, ?_, ?_, ?_, ?_, ?_, .of (h2.sub.tries i hi hi) (tryBlk_new _)⟩, [], by rw [List.append_nil]; exact h2.sub.tries i hi hi⟩⟩
  all_goals (simp only [thN, thB, ceB, enB, thW] at *; omega)
theorem Oth.new (h : Oth H n s) {q : Nat} (h1 : n < q) (h2 : q < n + 6) (h3 : q ≠ n + 3) : newAt H q := by
  have key : ∀ {α : Type} (t : BT) (k : Nat) (l : List α) (e : α → List Dt) (_ : ∀ x, ∀ c ∈ (e x).map C.d, c.newC = true), H q = some ⟨t, k, l.map fun x => (e x).map .d⟩ → newAt H q := fun t k l e he hq => .of hq fun e' he' c hc => by
    simp at he'
    obtain ⟨x, -, rfl⟩ := he'
    exact he x c hc
  obtain rfl | rfl | rfl | rfl : q = n + 1 ∨ q = n + 2 ∨ q = n + 4 ∨ q = n + 5 := by omega
  · exact key _ _ _ _ (fun x c hc => by simp at hc; rcases hc with rfl | rfl <;> rfl) h.shapes
  · exact key _ _ _ _ (fun x c hc => by simp at hc; subst hc; rfl) h.texts
  · exact key _ _ _ _ (fun x c hc => by simp at hc; rcases hc with rfl | rfl | rfl <;> rfl) h.ends
  · exact .of h.said (valBlk_new _)
theorem StAt.othShw (h : StAt H n s) (hth : th < s.threads.length) {N : Nat → Prop} (hN : ∀ q, cpN H n s th s.threads[th].frames.length q → N q) :
    Shw H N (.own (n + 1) 2 s.shapes.length) (.sl true (s.shapes.map eShape)) ∧ Shw H N (.own (n + 2) 1 s.texts.length) (.sl true (s.texts.map eStr)) ∧ Shw H N (.own (n + 4) 3 s.ends.length) (.sl true (s.ends.map eEnd)) ∧ Shw H N (.own (n + 5) 2 s.said.length) (.sl true (s.said.map eVal)) := by
  have hC : ∀ q, n < q → q < n + 6 → q ≠ n + 3 → N q := fun q h1 h2 h3 => hN q ⟨by omega, by simp only [enB, thB]; omega, by omega, by omega, by simp only [thN, thB]; omega, fun k hk => by simp only [thN, thB]; omega, h.oth.new h1 h2 h3⟩
  obtain ⟨o1, o2, o3, o4⟩ := h.oth
  exact ⟨Shw.row (hC _ (by omega) (by omega) (by omega)) o1 rfl (by simp) (by simp [List.take_of_length_le]) (fun e he => by obtain ⟨v, -, rfl⟩ := List.mem_map.1 he; rfl) (fun e he d hd => by obtain ⟨v, -, rfl⟩ := List.mem_map.1 he; simp at hd; rcases hd with rfl | rfl <;> rfl), Shw.row (hC _ (by omega) (by omega) (by omega)) o2 rfl (by simp) (by simp [List.take_of_length_le]) (by simp) (by simp),
    Shw.row (hC _ (by omega) (by omega) (by omega)) o3 rfl (by simp) (by simp [List.take_of_length_le]) (by simp) (by simp), Shw.vals (hC _ (by omega) (by omega) (by omega)) o4⟩
end
theorem newRs.sol {rs : List (List C)} (h : newRs rs) : ∀ e ∈ rs, ∀ c ∈ e, C.solidC c = true := fun e he c hc => by
  have := h e he c hc
  cases c with
  | d x => cases x <;> first | rfl | cases this
  | own n k l => rfl
  | ptr n k i o => rfl
  | map n => rfl
  | fnp f cs => cases this
  | any => cases this
def lastF (fs : List GFrame) : GFrame := fs.getD (fs.length - 1) dFrame
section
variable {p : GProg} {s : GState}
theorem frame_bnd (hp : checkQ wordsT p = 0) {f : GFrame} (h : frameB p s f = true) : f.regs.length ≤ 60 ∧ f.tries.length ≤ 20 ∧ 0 ≤ f.fn ∧ f.fn < p.fns.length ∧ 0 ≤ f.at_ ∧ f.at_ < (fnAt p f.fn).code.length := by
  simp only [frameB, Bool.and_eq_true, decide_eq_true_eq] at h
  obtain ⟨⟨⟨⟨⟨⟨⟨⟨⟨h1, h2⟩, h3⟩, h4⟩, h5⟩, h6⟩, h7⟩, h8⟩, h9⟩, h10⟩ := h
  have hr := ((large_lt (check_zero hp).1).2.2.2 _ (fnAt_in h1 h2)).2
  refine ⟨by omega, ?_, h1, h2, h6, h7⟩
  rw [h9, List.getD_eq_getElem?_getD]
  cases ho : (triesQ (fnAt p f.fn)).out[f.at_.toNat]? with
  | none => simp
  | some x => simpa using triesQ_short _ _ (List.mem_of_getElem? ho)
theorem stack_frame {fs : List GFrame} {k : Nat} (h : stackB p s fs k = true) : frameB p s (fs.getD k dFrame) = true := by
  unfold stackB at h
  simp only [Bool.and_eq_true] at h
  exact h.1.1.1
theorem thread_stack {t : GThread} (h : threadB p s t = true) {k : Nat} (hk : k < t.frames.length) : stackB p s t.frames k = true := by
  simp only [threadB, Bool.and_eq_true] at h
  exact List.all_eq_true.1 h.2 k (List.mem_range.2 hk)
theorem state_thread (h : stateQ wordsT p s = 0) {t : GThread} (ht : t ∈ s.threads) : threadB p s t = true ∧ t.frames.length ≤ 30 := by
  obtain ⟨-, -, h3, h4⟩ := stateQ_iff.1 h
  simp only [stateB, Bool.and_eq_true] at h4
  refine ⟨List.all_eq_true.1 h4.1.1.2 t ht, ?_⟩
  simp only [stateLarge, Bool.or_eq_false_iff, List.any_eq_false, decide_eq_true_eq] at h3
  have := h3.2 t ht
  omega
theorem thread_frames (h : stateQ wordsT p s = 0) {t : GThread} (ht : t ∈ s.threads) {f : GFrame} (hf : f ∈ t.frames) : frameB p s f = true := by
  obtain ⟨k, hk, rfl⟩ := List.getElem_of_mem hf
  have := stack_frame (thread_stack (state_thread h ht).1 hk)
  rwa [List.getD_eq_getElem?_getD, List.getElem?_eq_getElem hk] at this
theorem cell_frames (h : stateQ wordsT p s = 0) {c : GCell} (hc : c ∈ s.cells) : c.vals.length ≤ 600 ∧ c.frames.length ≤ 1 ∧ ∀ f ∈ c.frames, frameB p s f = true := by
  obtain ⟨-, h2, -, h4⟩ := stateQ_iff.1 h
  obtain ⟨g1, -, -, -, g5, -⟩ := cellsQ_iff.1 h2
  have hb := List.all_eq_true.1 g5 c hc
  simp only [cellB, Bool.and_eq_true, decide_eq_true_eq] at hb
  obtain ⟨⟨⟨-, hl⟩, -⟩, -⟩ := hb
  have hm : manyB c = false := by
    simp only [heapLarge, Bool.or_eq_false_iff, List.any_eq_false] at g1
    simpa using g1.2 c hc
  have hv : c.vals.length ≤ 600 := by
    simp only [manyB, Bool.and_eq_false_iff, Bool.or_eq_false_iff, decide_eq_false_iff_not] at hm
    omega
  simp only [stateB, Bool.and_eq_true] at h4
  have hh := List.all_eq_true.1 h4.1.1.1.2 c hc
  unfold framesOf at hl
  split at hl
  · rename_i hk
    refine ⟨hv, by omega, fun f hf => ?_⟩
    unfold heapB at hh
    rw [if_neg (by omega), if_pos hk.1] at hh
    simp only [hk.2, decide_true, Bool.not_true, Bool.false_or, savedB, Bool.and_eq_true] at hh
    obtain ⟨k, hk2, rfl⟩ := List.getElem_of_mem hf
    obtain rfl : k = 0 := by omega
    have := hh.1.1.1.1
    rwa [List.getD_eq_getElem?_getD, List.getElem?_eq_getElem hk2] at this
  · have : c.frames = [] := List.eq_nil_of_length_eq_zero hl
    rw [this]
    exact ⟨hv, by simp, fun f hf => by cases hf⟩
theorem sized_of (h : stateQ wordsT p s = 0) : Sized s := by
  obtain ⟨h1, h2, h3, h4⟩ := stateQ_iff.1 h
  obtain ⟨g1, g2, -⟩ := cellsQ_iff.1 h2
  simp only [heapLarge, Bool.or_eq_false_iff, decide_eq_false_iff_not] at g1
  have h5 := h3
  simp only [stateLarge, Bool.or_eq_false_iff, decide_eq_false_iff_not] at h5
  have h6 : s.shapes.length ≤ 100 := by
    unfold faultP at g2
    split at g2
    · cases g2
    · omega
  refine ⟨by omega, h6, by omega, by omega, by omega, by omega, fun c hc => ?_, fun t ht => ?_⟩
  · obtain ⟨k1, k2, k3⟩ := cell_frames h hc
    exact ⟨by omega, by omega, fun f hf => by have := frame_bnd h1 (k3 f hf); omega⟩
  · exact ⟨(state_thread h ht).2, fun f hf => by have := frame_bnd h1 (thread_frames h ht hf); omega⟩
theorem thread_gens (h : stateQ wordsT p s = 0) {t : GThread} (ht : t ∈ s.threads) {f : GFrame} (hf : f ∈ t.frames) (hg : 0 ≤ f.gen) : f.gen < s.cells.length := by
  obtain ⟨k, hk, rfl⟩ := List.getElem_of_mem hf
  have e : t.frames.getD k dFrame = t.frames[k] := by rw [List.getD_eq_getElem?_getD, List.getElem?_eq_getElem hk]; rfl
  have := (stack_gen (thread_stack (state_thread h ht).1 hk) (by rw [e]; exact hg)).2.2.1
  rw [e] at this
  simp only [namesB, Bool.and_eq_true, decide_eq_true_eq] at this
  exact this.1.2
theorem thread_regs (h : stateQ wordsT p s = 0) {t : GThread} (ht : t ∈ s.threads) {f : GFrame} (hf : f ∈ t.frames) (hn : f.tries ≠ []) : 0 ≤ (lastTry f.tries).reg ∧ (lastTry f.tries).reg < f.regs.length := by
  obtain ⟨h1, -⟩ := stateQ_iff.1 h
  have hv : fitsB s ⟨0, 0⟩ = true := by unfold fitsB; simp [rightB]
  exact (catch_frame (G := []) (ts := []) (v := ⟨0, 0⟩) h1 (fun g hg => by cases hg) hv (thread_frames h ht hf) hn).2
end
end Go.Proofs.YtnkndnbepdadhaaGreatDoor
