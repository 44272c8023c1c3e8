/- The rule of a call; how a function's contract comes out of its body. -/
import Derived.Test.YtalippdhfkpbmaaDoorEvI
namespace Go.Proofs.YtalippdhfkpbmaaDoor
open Go.RowKit Go
def C.ren (ρ : Nat → Nat) : C → C
  | .own n k l => .own (ρ n) k l
  | .ptr n k i o => .ptr (ρ n) k i o
  | .map n => .map (ρ n)
  | c => c
mutual
def D.ren (ρ : Nat → Nat) : D → D
  | .one c => .one (c.ren ρ)
  | .agg cs => .agg (cs.map (C.ren ρ))
  | .tup ds => .tup (Ds.ren ρ ds)
  | .top => .top
def Ds.ren (ρ : Nat → Nat) : List D → List D
  | [] => []
  | d :: ds => d.ren ρ :: Ds.ren ρ ds
end
/-- which names a value names, and what else it must be -/
def C.okX (N : Nat → Prop) : C → Prop
  | .d x => x.solidT = true
  | .own n _ _ => N n
  | .ptr _ _ _ _ => False
  | .map _ => False
  | .any => True
mutual
def D.okX (N : Nat → Prop) : D → Prop
  | .one c => c.okX N
  | .agg cs => ∀ c ∈ cs, C.okX N c
  | .tup ds => Ds.okX N ds
  | .top => True
def Ds.okX (N : Nat → Prop) : List D → Prop
  | [] => True
  | d :: ds => d.okX N ∧ Ds.okX N ds
end
section
variable {E E' : Env} {w w' : World} {ι ι' : Nms} {ρ : Nat → Nat}
theorem RC.ren {c : C} {v : Value} (h : RC E w ι c v) (hle : E.le E' w w') (hi : ∀ n x, ι n = some x → ι' (ρ n) = some x) : RC E' w' ι' (c.ren ρ) v := by
  cases c with
  | d x => exact RD.keep h hle
  | own n k l => obtain ⟨b, cap, h1, h2⟩ := h; exact ⟨b, cap, hi _ _ h1, h2⟩
  | ptr n k i o => obtain ⟨b, cap, h1, h2⟩ := h; exact ⟨b, cap, hi _ _ h1, h2⟩
  | map n => obtain ⟨b, cap, h1, h2⟩ := h; exact ⟨b, cap, hi _ _ h1, h2⟩
  | any => exact h
theorem RCs.ren (hle : E.le E' w w') (hi : ∀ n x, ι n = some x → ι' (ρ n) = some x) : ∀ {cs : List C} {vs : List Value}, RCs E w ι cs vs → RCs E' w' ι' (cs.map (C.ren ρ)) vs
  | [], [], _ => trivial
  | _ :: _, _ :: _, h => ⟨h.1.ren hle hi, RCs.ren hle hi h.2⟩
mutual
theorem RV.ren (hle : E.le E' w w') (hi : ∀ n x, ι n = some x → ι' (ρ n) = some x) : ∀ {d : D} {v : Value}, RV E w ι d v → RV E' w' ι' (d.ren ρ) v
  | .one _, _, h => by rw [D.ren, RV]; rw [RV] at h; exact RC.ren h hle hi
  | .agg _, _, h => by rw [D.ren, RV]; rw [RV] at h; obtain ⟨xs, h1, h2⟩ := h; exact ⟨xs, h1, RCs.ren hle hi h2⟩
  | .tup _, _, h => by rw [D.ren, RV]; rw [RV] at h; obtain ⟨xs, h1, h2⟩ := h; exact ⟨xs, h1, RVs.ren hle hi h2⟩
  | .top, _, _ => by rw [D.ren, RV]; trivial
theorem RVs.ren (hle : E.le E' w w') (hi : ∀ n x, ι n = some x → ι' (ρ n) = some x) : ∀ {ds : List D} {vs : List Value}, RVs E w ι ds vs → RVs E' w' ι' (Ds.ren ρ ds) vs
  | [], [], _ => by rw [Ds.ren, RVs]; trivial
  | _ :: _, _ :: _, h => by rw [Ds.ren, RVs]; rw [RVs] at h; exact ⟨RV.ren hle hi h.1, RVs.ren hle hi h.2⟩
  | [], _ :: _, h => by simp [RVs] at h
  | _ :: _, [], h => by simp [RVs] at h
end
/-- out of the walk: only names in N, renamed; nothing lent -/
theorem RC.out {N : Nat → Prop} {c : C} {v : Value} (h : RC E w ι c v) (ho : c.okX N) (hi : ∀ n x, N n → ι n = some x → ι' (ρ n) = some x) : RC E.solid w ι' (c.ren ρ) v := by
  cases c with
  | d x => exact RD.toSolid h ho
  | own n k l => obtain ⟨b, cap, h1, h2⟩ := h; exact ⟨b, cap, hi _ _ ho h1, h2⟩
  | ptr n k i o => exact ho.elim
  | map n => exact ho.elim
  | any => exact h
theorem RCs.out {N : Nat → Prop} (hi : ∀ n x, N n → ι n = some x → ι' (ρ n) = some x) : ∀ {cs : List C} {vs : List Value}, RCs E w ι cs vs → (∀ c ∈ cs, C.okX N c) → RCs E.solid w ι' (cs.map (C.ren ρ)) vs
  | [], [], _, _ => trivial
  | c :: _, _ :: _, h, ho => ⟨h.1.out (ho c (List.mem_cons_self ..)) hi, RCs.out hi h.2 fun c hc => ho c (List.mem_cons_of_mem _ hc)⟩
mutual
theorem RV.out {N : Nat → Prop} (hi : ∀ n x, N n → ι n = some x → ι' (ρ n) = some x) : ∀ {d : D} {v : Value}, RV E w ι d v → d.okX N → RV E.solid w ι' (d.ren ρ) v
  | .one _, _, h, ho => by rw [D.ren, RV]; rw [RV] at h; rw [D.okX] at ho; exact RC.out h ho hi
  | .agg _, _, h, ho => by rw [D.ren, RV]; rw [RV] at h; rw [D.okX] at ho; obtain ⟨xs, h1, h2⟩ := h; exact ⟨xs, h1, RCs.out hi h2 ho⟩
  | .tup _, _, h, ho => by rw [D.ren, RV]; rw [RV] at h; rw [D.okX] at ho; obtain ⟨xs, h1, h2⟩ := h; exact ⟨xs, h1, RVs.out hi h2 ho⟩
  | .top, _, _, _ => by rw [D.ren, RV]; trivial
theorem RVs.out {N : Nat → Prop} (hi : ∀ n x, N n → ι n = some x → ι' (ρ n) = some x) : ∀ {ds : List D} {vs : List Value}, RVs E w ι ds vs → Ds.okX N ds → RVs E.solid w ι' (Ds.ren ρ ds) vs
  | [], [], _, _ => by rw [Ds.ren, RVs]; trivial
  | _ :: _, _ :: _, h, ho => by rw [Ds.ren, RVs]; rw [RVs] at h; rw [Ds.okX] at ho; exact ⟨RV.out hi h.1 ho.1, RVs.out hi h.2 ho.2⟩
  | [], _ :: _, h, _ => by simp [RVs] at h
  | _ :: _, [], h, _ => by simp [RVs] at h
end
end
/-! ### New blocks are taken in -/
def addsH (H : Hp) (nx : Nat) : List Blk → Hp
  | [] => H
  | x :: l => addsH (H.set nx (some x)) (nx + 1) l
def St.adds (st : St) (fr : List Blk) : St := ⟨st.n, st.tm, addsH st.H st.nx fr, st.nx + fr.length⟩
theorem RB.allD {E : Env} {w : World} {ι ι' : Nms} {n m : Nat} {x : Blk} (h : RB E w ι n x) (ha : allD x) (hi : ι n = ι' m) : RB E w ι' m x := by
  obtain ⟨b, cap, h1, h2, h3, h4⟩ := h
  refine ⟨b, cap, by rw [← hi]; exact h1, h2, h3, fun hc => ?_⟩
  obtain ⟨arr, g1, g2, g3, g4⟩ := h4 hc
  refine ⟨arr, g1, g2, g3, fun i j c hj => ?_⟩
  obtain ⟨v, k1, k2⟩ := g4 i j c hj
  have hl := nth2_lt hj h3
  have hm : ∃ e ∈ x.es, c ∈ e := by
    unfold nth2 at hj
    cases he : x.es[i]? with
    | none => simp [he] at hj
    | some e => exact ⟨e, List.mem_of_getElem? he, List.mem_of_getElem? (by simpa [he] using hj)⟩
  obtain ⟨e, he, hce⟩ := hm
  obtain ⟨y, rfl⟩ := ha e he c hce
  exact ⟨v, k1, k2⟩
theorem HpOk.adopt {β : Base} {F : Nat → Prop} {w : World} {ι : Nms} {H : Hp} {nx : Nat} (h : HpOk β F w ι H nx) {x : Blk} {b cap : Nat} (hx : RB ⟨F, β.B⟩ w (ι.set nx (b, cap)) nx x)
    (hb : 0 < cap → b < w.heap.size ∧ ¬ F b ∧ (β.N0 b ∨ β.w0.heap.size ≤ b)) (hne : ∀ n c, H n ≠ none → ι n = some (b, c) → 0 < c → 0 < cap → False) :
    HpOk β F w (ι.set nx (b, cap)) (H.set nx (some x)) (nx + 1) ∧ Nms.le ι (ι.set nx (b, cap)) := by
  have hnew : ι nx = none := h.nx nx (Nat.le_refl _)
  have hi := Nms.le_set (x := (b, cap)) hnew
  have hset : ∀ m, m ≠ nx → ι.set nx (b, cap) m = ι m := fun m hm => by simp [Nms.set, hm]
  have hle : Env.le ⟨F, β.B⟩ ⟨F, β.B⟩ w w := ⟨fun _ h => h, fun _ h => h, fun _ _ => rfl, fun _ _ => rfl⟩
  refine ⟨⟨h.size, h.keep, h.Flt, h.Fof, h.F0, fun n y hn => ?_, fun n b' cap' hn hb' hcp => ?_, fun n m b' c1 c2 hn hm hb1 hb2 p1 p2 => ?_, fun n hn => ?_, fun m y hm => hi m y (h.nm m y hm), h.io⟩, hi⟩
  · by_cases e : n = nx
    · subst e
      simp only [Hp.set_same, Option.some.injEq] at hn
      subst hn
      exact hx
    · rw [Hp.set_ne _ _ e] at hn
      exact (h.blk n y hn).keep hle hi fun _ _ _ _ => rfl
  · by_cases e : n = nx
    · subst e
      simp only [Nms.set, if_true, Option.some.injEq, Prod.mk.injEq] at hb'
      obtain ⟨rfl, rfl⟩ := hb'
      exact hb hcp
    · rw [Hp.set_ne _ _ e] at hn
      rw [hset n e] at hb'
      exact h.own n b' cap' hn hb' hcp
  · by_cases e1 : n = nx <;> by_cases e2 : m = nx
    · rw [e1, e2]
    · subst e1
      rw [Hp.set_ne _ _ e2] at hm
      rw [hset m e2] at hb2
      simp only [Nms.set, if_true, Option.some.injEq, Prod.mk.injEq] at hb1
      obtain ⟨rfl, rfl⟩ := hb1
      exact (hne m _ hm hb2 p2 p1).elim
    · subst e2
      rw [Hp.set_ne _ _ e1] at hn
      rw [hset n e1] at hb1
      simp only [Nms.set, if_true, Option.some.injEq, Prod.mk.injEq] at hb2
      obtain ⟨rfl, rfl⟩ := hb2
      exact (hne n _ hn hb1 p1 p2).elim
    · rw [Hp.set_ne _ _ e1] at hn
      rw [Hp.set_ne _ _ e2] at hm
      rw [hset n e1] at hb1
      rw [hset m e2] at hb2
      exact h.inj n m b' c1 c2 hn hm hb1 hb2 p1 p2
  · rw [hset n (by omega)]
    exact h.nx n (by omega)
theorem HpOk.adopts {β : Base} {F : Nat → Prop} {w : World} {ι' : Nms} : ∀ (fr : List Blk) (i0 : Nat) {ι : Nms} {H : Hp} {nx : Nat}, HpOk β F w ι H nx →
    (∀ i x, fr[i]? = some x → RB ⟨F, β.B⟩ w ι' (i0 + i) x ∧ allD x) →
    (∀ i b cap, i < fr.length → ι' (i0 + i) = some (b, cap) → 0 < cap → b < w.heap.size ∧ ¬ F b ∧ (β.N0 b ∨ β.w0.heap.size ≤ b) ∧ ∀ n c, H n ≠ none → ι n = some (b, c) → 0 < c → False) →
    (∀ i j b c c', i < fr.length → j < fr.length → ι' (i0 + i) = some (b, c) → ι' (i0 + j) = some (b, c') → 0 < c → 0 < c' → i = j) →
    ∃ ι2, HpOk β F w ι2 (addsH H nx fr) (nx + fr.length) ∧ Nms.le ι ι2 ∧ ∀ i, i < fr.length → ι2 (nx + i) = ι' (i0 + i)
  | [], i0, ι, H, nx, h, _, _, _ => ⟨ι, h, Nms.le_refl _, fun i hi => by simp at hi⟩
  | x :: fr, i0, ι, H, nx, h, hb, ho, hj => by
    obtain ⟨b, cap, hn, -⟩ := (hb 0 x rfl).1
    rw [Nat.add_zero] at hn
    have hx : RB ⟨F, β.B⟩ w (ι.set nx (b, cap)) nx x := (hb 0 x rfl).1.allD (hb 0 x rfl).2 (by simp [Nms.set, hn])
    obtain ⟨h1, h2⟩ := h.adopt hx (fun hc => let ⟨a1, a2, a3, _⟩ := ho 0 b cap (by simp) hn hc; ⟨a1, a2, a3⟩) (fun n c hn' hb' hc hc' => (ho 0 b cap (by simp) hn hc').2.2.2 n c hn' hb' hc)
    obtain ⟨ι2, g1, g2, g3⟩ := HpOk.adopts fr (i0 + 1) h1 (fun i y hy => by have := hb (i + 1) y (by simpa using hy); rwa [show i0 + (i + 1) = i0 + 1 + i by omega] at this)
      (fun i b' cap' hi hb' hc => by
        rw [show i0 + 1 + i = i0 + (i + 1) by omega] at hb'
        obtain ⟨a1, a2, a3, a4⟩ := ho (i + 1) b' cap' (by simp; omega) hb' hc
        refine ⟨a1, a2, a3, fun n c hn' hb2 hc' => ?_⟩
        by_cases e : n = nx
        · subst e
          simp only [Nms.set, if_true, Option.some.injEq, Prod.mk.injEq] at hb2
          obtain ⟨rfl, rfl⟩ := hb2
          have := hj 0 (i + 1) b cap cap' (by simp) (by simp; omega) hn hb' hc' hc
          omega
        · rw [Hp.set_ne _ _ e] at hn'
          exact a4 n c hn' (by simpa [Nms.set, e] using hb2) hc')
      (fun i j b' c c' hi hj' h1 h2 p1 p2 => by
        rw [show i0 + 1 + i = i0 + (i + 1) by omega] at h1
        rw [show i0 + 1 + j = i0 + (j + 1) by omega] at h2
        have := hj (i + 1) (j + 1) b' c c' (by simp; omega) (by simp; omega) h1 h2 p1 p2
        omega)
    refine ⟨ι2, by rw [show nx + (x :: fr).length = nx + 1 + fr.length by simp; omega]; exact g1, fun n y hn' => g2 n y (h2 n y hn'), fun i hi => ?_⟩
    cases i with
    | zero =>
      have := g2 nx (b, cap) (by simp [Nms.set])
      simpa [hn] using this
    | succ i =>
      have := g3 i (by simpa using hi)
      rw [show nx + (i + 1) = nx + 1 + i by omega, show i0 + (i + 1) = i0 + 1 + i by omega]
      exact this
end Go.Proofs.YtalippdhfkpbmaaDoor
