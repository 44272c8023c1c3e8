/- Rules: rows: append. -/
import Derived.Test.YtalippdhfkpbmaaDoorEvM
namespace Go.Proofs.YtalippdhfkpbmaaDoor
open Go.RowKit Go
def byOf (P : Program) (t : TypeId) : Option Nat := (P.info? t).map (·.bytes)
/-- the elements that a source of an append shows -/
def srcOf (st : St) (d : D) : Option (List (List C)) := match d with
  | .one (.d (.sl _ es)) => some (es.map fun e => e.map .d)
  | .one (.d .emp) => some []
  | .one (.own n k l) => (st.H n).bind fun x => if x.k = k ∧ l ≤ x.es.length then some (x.es.take l) else none
  | _ => none
structure SrcC (P : Program) (E : Env) (w : World) (ι : Nms) (k : Nat) (tx : TypeId) (v : Value) (es : List (List C)) (news : List Value) : Prop where
  src : Src P k tx v es.length news w
  rel : ∀ i j c, nth2 es i j = some c → ∃ u, news[i * k + j]? = some u ∧ RC E w ι c u
theorem lt_mul {i j m k : Nat} (h : i < m) (hj : j < k) : i * k + j < m * k := by
  have : (i + 1) * k ≤ m * k := Nat.mul_le_mul_right k h
  rw [Nat.succ_mul] at this
  omega
theorem flat_at {α : Type} {k : Nat} (f : Nat → Nat → α) {m : Nat} (hk : 0 < k) (i j : Nat) (hi : i < m) (hj : j < k) : ((List.range (m * k)).map fun x => f (x / k) (x % k))[i * k + j]? = some (f i j) := by
  have h1 : i * k + j < m * k := lt_mul hi hj
  have h2 : (i * k + j) / k = i := by rw [Nat.mul_comm, Nat.mul_add_div hk, Nat.div_eq_of_lt hj, Nat.add_zero]
  have h3 : (i * k + j) % k = j := by rw [Nat.mul_comm, Nat.mul_add_mod]; exact Nat.mod_eq_of_lt hj
  simp [h1, h2, h3]
theorem src_ok {P : Program} {β : Base} {F : Nat → Prop} {ι : Nms} {st : St} {a : Act} {w : World} (h : Holds β F ι st a w) {d : D} {v : Value} (hd : RV ⟨F, β.B⟩ w ι d v) {es : List (List C)} (hs : srcOf st d = some es) {k : Nat} (hk0 : 0 < k) (hk : ∀ e ∈ es, e.length = k)
    {tx e' : TypeId} (hu : P.underlying tx = some (.slice e')) : ∃ news, SrcC P ⟨F, β.B⟩ w ι k tx v es news := by
  unfold srcOf at hs
  split at hs
  · rename_i S ds
    simp only [Option.some.injEq] at hs
    subst hs
    rw [RV] at hd
    cases hd with
    | sl X h1 h2 hk' h3 h4 h5 =>
      rename_i A cap k'
      have hlen : (ds.map fun e => e.map C.d).length = ds.length := by simp
      cases ds with
      | nil =>
        refine ⟨[], ⟨?_, fun i j c hc => by simp [nth2] at hc⟩⟩
        cases A with
        | none => exact Src.ofNil w hu _
        | some ad => exact Src.ofSlice w hu ad _ _ [] (by simp) (fun j u hj => by simp at hj) (fun u hu => by simp at hu)
      | cons d0 ds =>
        obtain ⟨b, o, rfl, hok, hc⟩ := h4 (by simp)
        have hkk : k' = k := by
          rw [← hk' d0 (List.mem_cons_self ..), ← hk (d0.map C.d) (by simp)]; simp
        subst hkk
        generalize hds : (d0 :: ds) = L at *
        have hfull : ∀ i j, i < L.length → j < k' → ∃ c, nth2 L i j = some c := fun i j hi hj => by
          have := hk' L[i] (List.getElem_mem hi)
          exact ⟨(L[i])[j]'(by omega), by simp [nth2, hi]⟩
        refine ⟨(List.range (L.length * k')).map fun x => X (x / k') (x % k'), ⟨?_, fun i j c hn => ?_⟩⟩
        · rw [hlen]
          refine Src.ofSlice w hu ⟨b, o, none⟩ _ _ _ (by simp) (fun j u hj => ?_) (fun u hu => ?_)
          · have hjl : j < L.length * k' := by have := (List.getElem?_eq_some_iff.1 hj).1; simpa using this
            have hi : j / k' < L.length := (Nat.div_lt_iff_lt_mul hk0).2 hjl
            have hm : j % k' < k' := Nat.mod_lt _ hk0
            obtain ⟨c, hcc⟩ := hfull (j / k') (j % k') hi hm
            have hq := hc _ _ c hcc
            rw [Addr.add_mid]
            rw [Nat.add_assoc, show j / k' * k' + j % k' = j by rw [Nat.mul_comm]; exact Nat.div_add_mod j k'] at hq
            simp [hjl] at hj
            rw [hq, ← hj]
          · obtain ⟨x, hx, rfl⟩ := List.mem_map.1 hu
            have hx := List.mem_range.1 hx
            obtain ⟨c, hcc⟩ := hfull (x / k') (x % k') ((Nat.div_lt_iff_lt_mul hk0).2 hx) (Nat.mod_lt _ hk0)
            exact (h5 _ _ c hcc).one
        · have hn' : ∃ c', nth2 L i j = some c' ∧ c = .d c' := by
            unfold nth2 at hn ⊢
            rw [List.getElem?_map] at hn
            cases hq : L[i]? with
            | none => simp [hq] at hn
            | some e =>
              simp only [hq, Option.map_some, Option.bind_some, List.getElem?_map] at hn ⊢
              cases hq2 : e[j]? with
              | none => simp [hq2] at hn
              | some c' => simp only [hq2, Option.map_some, Option.some.injEq] at hn; exact ⟨c', rfl, hn.symm⟩
          obtain ⟨c', hc', rfl⟩ := hn'
          have hl := nth2_lt hc' hk'
          exact ⟨_, flat_at X hk0 i j hl.1 hl.2, (h5 i j c' hc').keep (solid_le _ w)⟩
  · simp only [Option.some.injEq] at hs
    subst hs
    rw [RV] at hd
    cases hd with
    | emp =>
      rename_i A
      refine ⟨[], ⟨?_, fun i j c hc => by simp [nth2] at hc⟩⟩
      cases A with
      | none => exact Src.ofNil w hu _
      | some ad => exact Src.ofSlice w hu ad _ _ [] (by simp) (fun j u hj => by simp at hj) (fun u hu => by simp at hu)
  · rename_i n k' l
    cases hH : st.H n with
    | none => simp [hH] at hs
    | some x =>
      simp only [hH, Option.bind_some] at hs
      split at hs
      · rename_i hcond
        obtain ⟨rfl, hl⟩ := hcond
        simp only [Option.some.injEq] at hs
        subst hs
        rw [RV] at hd
        obtain ⟨b, cap, p1, p2, p3, p4⟩ := hd
        obtain ⟨b', cap', q1, q2, q3, q4⟩ := h.heap.blk n x hH
        rw [p1] at q1
        simp only [Option.some.injEq, Prod.mk.injEq] at q1
        obtain ⟨rfl, rfl⟩ := q1
        have hlen : (x.es.take l).length = l := by simp; omega
        rcases p4 with ⟨h0, A, rfl⟩ | ⟨h0, rfl⟩
        · subst h0
          obtain rfl : l = 0 := Nat.le_zero.1 p2
          refine ⟨[], ⟨?_, fun i j c hc => by simp [nth2] at hc⟩⟩
          rw [hlen]
          cases A with
          | none => exact Src.ofNil w hu _
          | some ad => exact Src.ofSlice w hu ad _ _ [] (by simp) (fun j u hj => by simp at hj) (fun u hu => by simp at hu)
        · obtain ⟨arr, r1, r2, r3, r4⟩ := q4 h0
          by_cases hl0 : l = 0
          · subst hl0
            refine ⟨[], ⟨Src.ofSlice w hu _ _ _ [] (by simp) (fun j u hj => by simp at hj) (fun u hu => by simp at hu), fun i j c hc => by simp [nth2] at hc⟩⟩
          · have hkk : x.k = k := by
              cases hes : x.es with
              | nil => simp [hes] at hl; omega
              | cons e es =>
                rw [← q3 e (by rw [hes]; exact List.mem_cons_self ..)]
                exact hk e (by rw [hes]; obtain ⟨m, rfl⟩ : ∃ m, l = m + 1 := ⟨l - 1, by omega⟩; simp)
            have hsz : l * k ≤ arr.size := by rw [r2, hkk]; exact Nat.mul_le_mul_right k p2
            refine ⟨arr.toList.take (l * k), ⟨?_, fun i j c hc => ?_⟩⟩
            · rw [hlen]
              refine Src.ofSlice w hu _ _ _ _ (by simp; omega) (fun j u hj => ?_) (fun u hu => r3 u (by simpa using List.mem_of_mem_take hu))
              rw [Addr.add_mid, Nat.zero_add]
              rw [List.getElem?_take] at hj
              split at hj
              · exact r1.cell (by simpa using hj)
              · cases hj
            · have hlt := nth2_lt hc (fun e he => q3 e (List.mem_of_mem_take he))
              rw [hlen] at hlt
              have hc' : nth2 x.es i j = some c := by
                unfold nth2 at hc ⊢
                rw [List.getElem?_take, if_pos hlt.1] at hc
                exact hc
              obtain ⟨u, g1, g2⟩ := r4 i j c hc'
              rw [hkk] at g1 hlt
              exact ⟨u, by rw [List.getElem?_take, if_pos (lt_mul hlt.1 hlt.2)]; simpa using g1, g2⟩
      · cases hs
  · cases hs
end Go.Proofs.YtalippdhfkpbmaaDoor
