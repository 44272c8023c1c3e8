/- Rules: new blocks and what is written into those of the walk's own. -/
import Derived.Test.YtalippdhfkpbmaaDoorEvD
namespace Go.Proofs.YtalippdhfkpbmaaDoor
open Go.RowKit Go
def Nms.set (ι : Nms) (n : Nat) (x : Nat × Nat) : Nms := fun m => if m = n then some x else ι m
theorem Nms.le_set {ι : Nms} {n : Nat} {x : Nat × Nat} (h : ι n = none) : Nms.le ι (ι.set n x) := fun m y hm => by
  unfold Nms.set
  by_cases e : m = n
  · subst e; rw [h] at hm; cases hm
  · simp [e, hm]
theorem RB.keep {E E' : Env} {w w' : World} {ι ι' : Nms} {n : Nat} {x : Blk} (h : RB E w ι n x) (hle : E.le E' w w') (hi : Nms.le ι ι') (hb : ∀ b cap, ι n = some (b, cap) → 0 < cap → w'.heap[b]? = w.heap[b]?) : RB E' w' ι' n x := by
  obtain ⟨b, cap, h1, h2, h3, h4⟩ := h
  refine ⟨b, cap, hi _ _ h1, h2, h3, fun hc => ?_⟩
  obtain ⟨arr, g1, g2, g3, g4⟩ := h4 hc
  refine ⟨arr, g1.keep (hb b cap h1 hc), g2, g3, fun i j c hj => ?_⟩
  obtain ⟨v, k1, k2⟩ := g4 i j c hj
  exact ⟨v, k1, k2.keep hle hi⟩
theorem HpOk.env {β : Base} {F : Nat → Prop} {w w' : World} {ι : Nms} {H : Hp} {nx : Nat} (h : HpOk β F w ι H nx) (hw : ∀ b, b < w.heap.size → (F b ∨ β.B b) → w'.heap[b]? = w.heap[b]?) : Env.le ⟨F, β.B⟩ ⟨F, β.B⟩ w w' :=
  ⟨fun _ h => h, fun _ h => h, fun b hb => hw b (h.Flt b hb) (.inl hb), fun b hb => hw b (Nat.lt_of_lt_of_le hb.1 h.size) (.inr hb)⟩
/-- a new block -/
theorem HpOk.alloc0 {β : Base} {F : Nat → Prop} {w w' : World} {ι : Nms} {H : Hp} {nx : Nat} (h : HpOk β F w ι H nx) (arr : Array Value) (x : Blk) (c : Nat) (hc : 0 < c)
    {ob : Obj} (hw : w'.heap = w.heap.push ob) (hio : SameIo w w') (hbi : BlkIs w' w.heap.size arr x.t) (hl : x.es.length ≤ c) (hk : ∀ e ∈ x.es, e.length = x.k) (hs : arr.size = c * x.k) (h1 : ∀ v ∈ arr, v.oneCell' = true)
    (hr : ∀ i j y, nth2 x.es i j = some y → ∃ v, arr[i * x.k + j]? = some v ∧ RC ⟨F, β.B⟩ w ι y v) :
    HpOk β F w' (ι.set nx (w.heap.size, c)) (H.set nx (some x)) (nx + 1) ∧ Env.le ⟨F, β.B⟩ ⟨F, β.B⟩ w w' ∧ Nms.le ι (ι.set nx (w.heap.size, c)) := by
  have hold : ∀ b, b < w.heap.size → w'.heap[b]? = w.heap[b]? := fun b hb => by rw [hw, Array.getElem?_push_lt hb, Array.getElem?_eq_getElem hb]
  have hle := h.env (w' := w') fun b hb _ => hold b hb
  have hnew : ι nx = none := h.nx nx (Nat.le_refl _)
  have hi := Nms.le_set (x := (w.heap.size, c)) hnew
  have hsz : w'.heap.size = w.heap.size + 1 := by rw [hw, Array.size_push]
  have hset : ∀ m, m ≠ nx → ι.set nx (w.heap.size, c) m = ι m := fun m hm => by simp [Nms.set, hm]
  have hblt : ∀ n b cap, H n ≠ none → ι n = some (b, cap) → 0 < cap → b < w.heap.size := fun n b cap h1 h2 h3 => (h.own n b cap h1 h2 h3).1
  refine ⟨⟨by rw [hsz]; have := h.size; omega, fun b hb hN => ?_, fun b hb => by have := h.Flt b hb; omega, h.Fof, h.F0, fun n y hn => ?_, fun n b cap hn hb hcp => ?_, fun n m b c1 c2 hn hm hb1 hb2 p1 p2 => ?_, fun n hn => ?_, fun m y hm => hi m y (h.nm m y hm), h.io.trans hio⟩, hle, hi⟩
  · rw [hold b (Nat.lt_of_lt_of_le hb h.size)]; exact h.keep b hb hN
  · by_cases e : n = nx
    · subst e
      simp only [Hp.set_same, Option.some.injEq] at hn
      subst hn
      refine ⟨w.heap.size, c, by simp [Nms.set], hl, hk, fun _ => ⟨arr, hbi, hs, h1, fun i j y hy => ?_⟩⟩
      obtain ⟨v, g1, g2⟩ := hr i j y hy
      exact ⟨v, g1, g2.keep hle hi⟩
    · rw [Hp.set_ne _ _ e] at hn
      exact (h.blk n y hn).keep hle hi fun b cap h1 h2 => hold b (hblt n b cap (by rw [hn]; simp) h1 h2)
  · by_cases e : n = nx
    · subst e
      simp only [Nms.set, if_true, Option.some.injEq, Prod.mk.injEq] at hb
      obtain ⟨rfl, rfl⟩ := hb
      exact ⟨by omega, fun hF => by have := h.Flt _ hF; omega, .inr h.size⟩
    · rw [Hp.set_ne _ _ e] at hn
      rw [hset n e] at hb
      have := h.own n b cap hn hb hcp
      exact ⟨by omega, this.2⟩
  · by_cases e1 : n = nx <;> by_cases e2 : m = nx
    · rw [e1, e2]
    · subst e1
      rw [Hp.set_ne _ _ e2] at hm
      rw [hset m e2] at hb2
      simp only [Nms.set, if_true, Option.some.injEq, Prod.mk.injEq] at hb1
      obtain ⟨rfl, rfl⟩ := hb1
      have := hblt m _ _ hm hb2 p2
      omega
    · subst e2
      rw [Hp.set_ne _ _ e1] at hn
      rw [hset n e1] at hb1
      simp only [Nms.set, if_true, Option.some.injEq, Prod.mk.injEq] at hb2
      obtain ⟨rfl, rfl⟩ := hb2
      have := hblt n _ _ hn hb1 p1
      omega
    · rw [Hp.set_ne _ _ e1] at hn
      rw [Hp.set_ne _ _ e2] at hm
      rw [hset n e1] at hb1
      rw [hset m e2] at hb2
      exact h.inj n m b c1 c2 hn hm hb1 hb2 p1 p2
  · rw [hset n (by omega)]
    exact h.nx n (by omega)
theorem HpOk.alloc {β : Base} {F : Nat → Prop} {w w' : World} {ι : Nms} {H : Hp} {nx : Nat} (h : HpOk β F w ι H nx) (arr : Array Value) (ty : TypeId) (k : Nat) (es : List (List C)) (c : Nat) (hc : 0 < c)
    (hw : w'.heap = w.heap.push (.cells arr ty (0, 0))) (hio : SameIo w w') (hl : es.length ≤ c) (hk : ∀ e ∈ es, e.length = k) (hs : arr.size = c * k) (h1 : ∀ v ∈ arr, v.oneCell' = true)
    (hr : ∀ i j y, nth2 es i j = some y → ∃ v, arr[i * k + j]? = some v ∧ RC ⟨F, β.B⟩ w ι y v) :
    HpOk β F w' (ι.set nx (w.heap.size, c)) (H.set nx (some ⟨.c ty, k, es⟩)) (nx + 1) ∧ Env.le ⟨F, β.B⟩ ⟨F, β.B⟩ w w' ∧ Nms.le ι (ι.set nx (w.heap.size, c)) :=
  h.alloc0 arr ⟨.c ty, k, es⟩ c hc hw hio (by show w'.heap[w.heap.size]? = _; rw [hw]; simp) hl hk hs h1 hr
/-- a block of its own is written -/
theorem HpOk.write {β : Base} {F : Nat → Prop} {w w' : World} {ι : Nms} {H : Hp} {nx : Nat} (h : HpOk β F w ι H nx) {n : Nat} {x : Blk} (hn : H n = some x) {b cap : Nat} (hb : ι n = some (b, cap)) (hc : 0 < cap) (arr : Array Value) (x' : Blk)
    (hw : ∀ b', b' ≠ b → w'.heap[b']? = w.heap[b']?) (hsz : w'.heap.size = w.heap.size) (hio : SameIo w w') (hwb : BlkIs w' b arr x'.t) (hl : x'.es.length ≤ cap) (hk : ∀ e ∈ x'.es, e.length = x'.k) (hs : arr.size = cap * x'.k) (h1 : ∀ v ∈ arr, v.oneCell' = true)
    (hr : ∀ i j y, nth2 x'.es i j = some y → ∃ v, arr[i * x'.k + j]? = some v ∧ RC ⟨F, β.B⟩ w ι y v) :
    HpOk β F w' ι (H.set n (some x')) nx ∧ Env.le ⟨F, β.B⟩ ⟨F, β.B⟩ w w' := by
  have hown := h.own n b cap (by rw [hn]; simp) hb hc
  have hB : ¬ β.B b := fun hB => by
    rcases hown.2.2 with h0 | h0
    · exact hB.2 h0
    · have := hB.1; omega
  have hle := h.env (w' := w') fun b' _ hr => hw b' fun e => by
    subst e
    rcases hr with hr | hr
    · exact hown.2.1 hr
    · exact hB hr
  have hset : ∀ m, H.set n (some x') m ≠ none → H m ≠ none := fun m hm => by
    by_cases e : m = n
    · subst e; rw [hn]; simp
    · rwa [Hp.set_ne _ _ e] at hm
  refine ⟨⟨by rw [hsz]; exact h.size, fun b' hb' hN => ?_, fun b' hb' => by rw [hsz]; exact h.Flt b' hb', h.Fof, h.F0, fun m y hm => ?_, fun m b' cap' hm hb' hcp => by rw [hsz]; exact h.own m b' cap' (hset m hm) hb' hcp,
    fun m m' b' c1 c2 hm hm' => h.inj m m' b' c1 c2 (hset m hm) (hset m' hm'), h.nx, h.nm, h.io.trans hio⟩, hle⟩
  · rw [hw b' fun e => hB ⟨e ▸ hb', e ▸ hN⟩]; exact h.keep b' hb' hN
  · by_cases e : m = n
    · subst e
      simp only [Hp.set_same, Option.some.injEq] at hm
      subst hm
      refine ⟨b, cap, hb, hl, hk, fun _ => ⟨arr, hwb, hs, h1, fun i j y hy => ?_⟩⟩
      obtain ⟨v, g1, g2⟩ := hr i j y hy
      exact ⟨v, g1, g2.keep hle (Nms.le_refl _)⟩
    · rw [Hp.set_ne _ _ e] at hm
      refine (h.blk m y hm).keep hle (Nms.le_refl _) fun b' c' h1 h2 => hw b' fun eb => ?_
      subst eb
      exact e (h.inj m n b' c' cap (by rw [hm]; simp) (by rw [hn]; simp) h1 hb h2 hc)
end Go.Proofs.YtalippdhfkpbmaaDoor
