/- Contracts that were proved without the evaluator, as the evaluator takes them. -/
import Derived.Test.YtalippdhfkpbmaaDoorEvX
namespace Go.Proofs.YtalippdhfkpbmaaDoor
open Go.RowKit Go
def keyDs : List D → Option (List Value)
  | [] => some []
  | d :: ds => (keyD d).bind fun v => (keyDs ds).map fun l => v :: l
theorem keyDs_ok {E : Env} {w : World} {ι : Nms} : ∀ {ds : List D} {vs us : List Value}, RVs E w ι ds vs → keyDs ds = some us → vs = us
  | [], [], us, _, h => by simp only [keyDs, Option.some.injEq] at h; exact h
  | [], _ :: _, _, h, _ => by simp [RVs] at h
  | _ :: _, [], _, h, _ => by simp [RVs] at h
  | d :: ds, v :: vs, us, h, hk => by
    rw [RVs] at h
    simp only [keyDs] at hk
    obtain ⟨x, h1, h2⟩ := Option.bind_eq_some_iff.1 hk
    cases h3 : keyDs ds with
    | none => simp [h3] at h2
    | some l =>
      simp only [h3, Option.map_some, Option.some.injEq] at h2
      subst h2
      rw [keyD_ok h.1 h1, keyDs_ok h.2 h3]
/-- of plain values to what needs no memory -/
theorem DPure.ofBelow {P : Program} {f : FuncId} {ds : List D} {K : D → List Blk → Prop} (us : List Value) (hu : keyDs ds = some us) (hg : goFn P f = true) (v : Value) (d : D) (hv : ∀ E w ι, RV E w ι d v)
    (h : ∀ w, Calls P f us.toArray w fun e w' => e = .returned v ∧ Below w.heap.size w w') (hK : K d []) : DPure P f ds K :=
  ⟨hg, fun F w vs hF hgl hvs => by
    rw [keyDs_ok hvs hu]
    refine (h w).mono ?_
    rintro e w' ⟨rfl, hb⟩
    exact ⟨F, fun _ => none, d, [], v, rfl, ⟨hb.size, fun b h => hb.block b h, fun _ h => h, fun b h => ⟨.inl h, Nat.lt_of_lt_of_le (hF b h) hb.size⟩, fun i x hx => by simp at hx, fun i b cap hi => by simp at hi, fun i j b c c' hi => by simp at hi, fun _ _ => rfl, hv _ _ _, hb.os, hb.output, hb.tape⟩, hK⟩⟩
/-- to a new row of plain values -/
theorem DPure.ofRow {P : Program} {f : FuncId} {ds : List D} {K : D → List Blk → Prop} (us : List Value) (hu : keyDs ds = some us) (hg : goFn P f = true) (t : TypeId) (xs : List Value) (h1 : xs.all Value.oneCell' = true) (h0 : 0 < xs.length) (hm : xs.length ≤ maxLen)
    (h : ∀ F w, GlOk F w → Calls P f us.toArray w fun e w' => e = .returned (.slice (some ⟨w.heap.size, 0, none⟩) xs.length xs.length) ∧ w' = w.alloc (.cells xs.toArray t)) (hK : K (.one (.own 0 1 xs.length)) [⟨.c t, 1, xs.map fun v => [.d (.lit v)]⟩]) : DPure P f ds K :=
  ⟨hg, fun F w vs hF hgl hvs => by
    rw [keyDs_ok hvs hu]
    refine (h F w hgl).mono ?_
    rintro e w' ⟨rfl, rfl⟩
    have hs : (w.alloc (.cells xs.toArray t)).heap.size = w.heap.size + 1 := by show (w.heap.push _).size = _; rw [Array.size_push]
    refine ⟨F, fun i => if i = 0 then some (w.heap.size, xs.length) else none, _, _, _, rfl, ⟨by omega, fun b hb => old_alloc w _ b hb, fun _ h => h, fun b h => ⟨.inl h, by have := hF b h; omega⟩, fun i x hx => ?_, fun i b cap hi hb hc => ?_, fun i j b c c' hi hj _ _ _ _ => ?_, fun i hi => ?_, ?_, rfl, rfl, rfl⟩, hK⟩
    · cases i with
      | zero =>
        simp only [List.getElem?_cons_zero, Option.some.injEq] at hx
        subst hx
        refine ⟨⟨w.heap.size, xs.length, rfl, by simp, by simp, fun _ => ⟨xs.toArray, ?_, by simp, fun v hv => List.all_eq_true.1 h1 v (by simpa using hv), fun i j c hc => ?_⟩⟩, fun e he c hc => ?_⟩
        · show (w.heap.push _)[w.heap.size]? = _
          simp
        · unfold nth2 at hc
          simp only [List.getElem?_map] at hc
          cases hx : xs[i]? with
          | none => simp [hx] at hc
          | some v =>
            simp only [hx, Option.map_some, Option.bind_some] at hc
            cases j with
            | zero =>
              simp only [List.getElem?_cons_zero, Option.some.injEq] at hc
              subst hc
              exact ⟨v, by simp [hx], RD.lit (List.all_eq_true.1 h1 v (List.mem_of_getElem? hx))⟩
            | succ j => simp at hc
        · obtain ⟨v, -, rfl⟩ := List.mem_map.1 he
          exact ⟨_, List.mem_singleton.1 hc⟩
      | succ i => simp at hx
    · simp at hi; subst hi
      simp at hb
      obtain ⟨rfl, rfl⟩ := hb
      exact ⟨Nat.le_refl _, by omega, fun hF' => by have := hF _ hF'; omega⟩
    · simp at hi hj; omega
    · simp at hi; have : i ≠ 0 := by omega
      simp [this]
    · rw [RV]
      exact ⟨w.heap.size, xs.length, rfl, Nat.le_refl _, hm, .inr ⟨h0, rfl⟩⟩⟩
end Go.Proofs.YtalippdhfkpbmaaDoor
