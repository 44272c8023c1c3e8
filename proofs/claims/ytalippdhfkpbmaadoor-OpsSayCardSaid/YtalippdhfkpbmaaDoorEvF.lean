/- Rules: boxes, zero variables, stores. -/
import Derived.Test.YtalippdhfkpbmaaDoorEvE
namespace Go.Proofs.YtalippdhfkpbmaaDoor
open Go.RowKit Go
def Dcells : D → Option (List C)
  | .one c => some [c]
  | .agg cs => some cs
  | _ => none
theorem Dcells_ok {E : Env} {w : World} {ι : Nms} {d : D} {v : Value} {cs : List C} (h : RV E w ι d v) (hc : Dcells d = some cs) : RCs E w ι cs v.cells.toList ∧ ∀ x ∈ v.cells, x.oneCell' = true := by
  unfold Dcells at hc
  split at hc
  · simp only [Option.some.injEq] at hc
    subst hc
    rw [RV] at h
    have h1 := h.one
    have hv : v.cells = #[v] := by cases v <;> first | rfl | cases h1
    rw [hv]
    exact ⟨⟨h, trivial⟩, by simpa using h1⟩
  · simp only [Option.some.injEq] at hc
    subst hc
    rw [RV] at h
    obtain ⟨xs, rfl, h⟩ := h
    exact ⟨h, fun x hx => RCs.one h x (by simpa [Value.cells] using hx)⟩
  · simp at hc
theorem old_alloc (w : World) (x : Obj) : Old w (w.alloc x) := fun b hb => by
  show (w.heap.push x)[b]? = _
  rw [Array.getElem?_push_lt hb, Array.getElem?_eq_getElem hb]
/-- the block of one new variable -/
def St.newVar (st : St) (t : TypeId) (cs : List C) : St := ⟨st.n, st.tm, st.H.set st.nx (some ⟨.c t, cs.length, [cs]⟩), st.nx + 1⟩
theorem nth2_one {α : Type} {cs : List α} {i j : Nat} {y : α} (h : nth2 [cs] i j = some y) : i = 0 ∧ cs[j]? = some y := by
  unfold nth2 at h
  cases i with
  | zero => exact ⟨rfl, by simpa using h⟩
  | succ i => simp at h
theorem Holds.newVar {β : Base} {F : Nat → Prop} {ι : Nms} {st : St} {a : Act} {w : World} (h : Holds β F ι st a w) (t : TypeId) {cs : List C} {vs : Array Value} (hr : RCs ⟨F, β.B⟩ w ι cs vs.toList) :
    Holds β F (ι.set st.nx (w.heap.size, 1)) (st.newVar t cs) a (w.alloc (.cells vs t)) ∧ RV ⟨F, β.B⟩ (w.alloc (.cells vs t)) (ι.set st.nx (w.heap.size, 1)) (.one (.ptr st.nx cs.length 0 0)) (.pointer (some ⟨w.heap.size, 0, none⟩)) := by
  have hlen := hr.len
  obtain ⟨h1, h2, h3⟩ := h.heap.alloc (w' := w.alloc (.cells vs t)) vs t cs.length [cs] 1 (by omega) rfl ⟨rfl, rfl, rfl⟩ (by simp) (by simp) (by simpa using hlen) (fun v hv => RCs.one hr v (by simpa using hv)) (fun i j y hy => by
    obtain ⟨rfl, hy⟩ := nth2_one hy
    obtain ⟨v, g1, g2⟩ := hr.get hy
    exact ⟨v, by simpa using g1, g2⟩)
  refine ⟨⟨h.good, h.defers, h.size, fun u => (h.tm u).keep h2 h3, h1⟩, ?_⟩
  rw [RV]
  exact ⟨w.heap.size, 1, by simp [Nms.set], by omega, by simp⟩
section
variable {P : Program} {qt : Bool} {o : Oper} {st : St} {K : St → Prop} {t : Nat}
theorem ev_box {ty : TypeId} {x : Operand} {cs : List C} (ho : o.op = .box ty x) (hx : Dcells (ev st x) = some cs) (ht : o.dst = some t) (hn : t < st.n) (hK : K ((st.newVar ty cs).put t (.one (.ptr st.nx cs.length 0 0)))) : EvO P qt o st K :=
  EvO.val ht hn (st.newVar ty cs) rfl _ hK fun β F ι a w h => by
    obtain ⟨h1, h2⟩ := Dcells_ok (h.ev x) hx
    obtain ⟨g1, g2⟩ := h.newVar ty h1
    exact ⟨_, F, _, _, by simp [execOp, ho, Instr.box, newVar, newRow], g1, g2, fun _ => old_alloc w _⟩
theorem zeroOf_run {P : Program} {ty : TypeId} {zs : List Value} (h : zeroOf P ty = some zs) (w : World) : ∃ z, (zeroValue ty).run P w = .ok z w ∧ z.cells = zs.toArray := by
  unfold zeroOf at h
  cases hi : P.info? ty with
  | none => simp [hi] at h
  | some i =>
    cases hz : i.zero with
    | none => simp [hi, hz] at h
    | some z =>
      simp only [hi, hz, Option.bind_some, Option.map_some, Option.some.injEq] at h
      exact ⟨z, by simp [zeroValue, typeInfo, hi, hz], by rw [← h]⟩
theorem ev_alloc {ty : TypeId} {zs : List Value} (ho : o.op = .alloc ty) (hz : zeroOf P ty = some zs) (h1 : zs.all Value.oneCell' = true) (ht : o.dst = some t) (hn : t < st.n)
    (hK : K ((st.newVar ty (zs.map fun v => .d (cellOf v))).put t (.one (.ptr st.nx (zs.map fun v => C.d (cellOf v)).length 0 0)))) : EvO P qt o st K :=
  EvO.val ht hn (st.newVar ty (zs.map fun v => .d (cellOf v))) rfl _ hK fun β F ι a w h => by
    obtain ⟨z, hr, hc⟩ := zeroOf_run hz w
    obtain ⟨g1, g2⟩ := h.newVar ty (vs := zs.toArray) (cs := zs.map fun v => .d (cellOf v)) (by simpa using RCs.ofList h1)
    refine ⟨_, F, _, _, ?_, g1, g2, fun _ => old_alloc w _⟩
    simp [execOp, ho, Instr.alloc, hr, newVar, newRow, hc]
/-- cells from o on replaced -/
def splice (e : List C) (o : Nat) (cs : List C) : List C := e.take o ++ cs ++ e.drop (o + cs.length)
theorem splice_len {e : List C} {o : Nat} {cs : List C} (h : o + cs.length ≤ e.length) : (splice e o cs).length = e.length := by
  unfold splice; simp; omega
theorem splice_get {α : Type} {e cs : List α} {o j : Nat} (h : o + cs.length ≤ e.length) : (e.take o ++ cs ++ e.drop (o + cs.length))[j]? = if o ≤ j ∧ j < o + cs.length then cs[j - o]? else e[j]? := by
  by_cases h1 : j < o
  · have : ¬ (o ≤ j ∧ j < o + cs.length) := by omega
    rw [if_neg this, List.append_assoc, List.getElem?_append_left (by simp; omega), List.getElem?_take, if_pos h1]
  · by_cases h2 : j < o + cs.length
    · rw [if_pos ⟨by omega, h2⟩, List.append_assoc, List.getElem?_append_right (by simp; omega)]
      have hl : (e.take o).length = o := by simp; omega
      rw [hl, List.getElem?_append_left (by omega)]
    · rw [if_neg (by omega), List.getElem?_append_right (by simp; omega)]
      have hl : (e.take o ++ cs).length = o + cs.length := by simp; omega
      rw [hl, List.getElem?_drop]
      congr 1; omega
theorem cellAt_ne {i i' j o k m : Nat} (hne : i' ≠ i) (hj : j < k) (ho : o + m ≤ k) : ¬ (i * k + o ≤ i' * k + j ∧ i' * k + j < i * k + o + m) := by
  rcases Nat.lt_or_gt_of_ne hne with h | h
  · have : (i' + 1) * k ≤ i * k := Nat.mul_le_mul_right k h
    rw [Nat.succ_mul] at this
    omega
  · have : (i + 1) * k ≤ i' * k := Nat.mul_le_mul_right k h
    rw [Nat.succ_mul] at this
    omega
theorem nth2_set {α : Type} {es : List (List α)} {i i' j : Nat} {e : List α} {y : α} (h : nth2 (es.set i e) i' j = some y) : (i' = i ∧ i < es.length ∧ e[j]? = some y) ∨ (i' ≠ i ∧ nth2 es i' j = some y) := by
  unfold nth2 at h ⊢
  by_cases hi : i' = i
  · subst hi
    by_cases hl : i' < es.length
    · exact .inl ⟨rfl, hl, by simpa [hl] using h⟩
    · have hnone : (es.set i' e)[i']? = none := List.getElem?_eq_none (by simp; omega)
      rw [hnone] at h
      cases h
  · exact .inr ⟨hi, by rw [List.getElem?_set_ne (fun e => hi e.symm)] at h; exact h⟩
theorem nth2_lt {α : Type} {es : List (List α)} {k i j : Nat} {y : α} (h : nth2 es i j = some y) (hk : ∀ e ∈ es, e.length = k) : i < es.length ∧ j < k := by
  unfold nth2 at h
  cases hi : es[i]? with
  | none => simp [hi] at h
  | some e =>
    simp only [hi, Option.bind_some] at h
    exact ⟨(List.getElem?_eq_some_iff.1 hi).1, by rw [← hk e (List.mem_of_getElem? hi)]; exact (List.getElem?_eq_some_iff.1 h).1⟩
theorem ev_store {ty bt : TypeId} {x y : Operand} {n k i of : Nat} {b : Blk} {e cs : List C} (ho : o.op = .store ty x y) (hx : ev st x = .one (.ptr n k i of)) (hb : st.H n = some b) (hbt : b.t = .c bt) (hk : b.k = k) (he : b.es[i]? = some e) (hy : Dcells (ev st y) = some cs)
    (hz : szOf P ty = some cs.length) (hl : of + cs.length ≤ e.length) (ht : o.dst = none) (hK : K ⟨st.n, st.tm, st.H.set n (some ⟨.c bt, b.k, b.es.set i (splice e of cs)⟩), st.nx⟩) : EvO P qt o st K :=
  EvO.unit ht (by rw [ho]; rfl) _ hK (by rw [ho]; rfl) fun β F ι a w h => by
    subst hk
    obtain ⟨h1, h2⟩ := Dcells_ok (h.ev y) hy
    have hp := h.ev x
    rw [hx, RV] at hp
    obtain ⟨bn, cap, p1, p2, p3⟩ := hp
    obtain ⟨bn', cap', q1, q2, q3, q4⟩ := h.heap.blk n b hb
    rw [p1] at q1
    simp only [Option.some.injEq, Prod.mk.injEq] at q1
    obtain ⟨rfl, rfl⟩ := q1
    obtain ⟨arr, r1, r2, r3, r4⟩ := q4 p2
    rw [hbt] at r1
    replace r1 : w.heap[bn]? = some (.cells arr bt (0, 0)) := r1
    have hi := (List.getElem?_eq_some_iff.1 he).1
    have hek := q3 e (List.mem_of_getElem? he)
    have hfit : i * b.k + of + cs.length ≤ arr.size := by
      have : (i + 1) * b.k ≤ cap * b.k := Nat.mul_le_mul_right _ (by omega)
      rw [Nat.succ_mul] at this
      omega
    have hvl : (a.eval y).cells.toList.length = cs.length := h1.len
    have hst := run_storeCells_at (P := P) bn (i * b.k + of) bt (a.eval y).cells.toList 0 arr w r1 (by rw [hvl]; omega) (fun v hv => h2 v (by simpa using hv))
    simp only [Nat.add_zero] at hst
    generalize hA : arr.toList.take (i * b.k + of) ++ (a.eval y).cells.toList ++ arr.toList.drop (i * b.k + of + (a.eval y).cells.toList.length) = L at hst
    have hLl : L.length = arr.size := by rw [← hA]; simp at hvl ⊢; omega
    have hget : ∀ j, L[j]? = if i * b.k + of ≤ j ∧ j < i * b.k + of + cs.length then (a.eval y).cells.toList[j - (i * b.k + of)]? else arr[j]? := fun j => by
      rw [← hA, splice_get (by rw [hvl]; simpa using hfit), hvl]
      simp
    obtain ⟨g1, g2⟩ := h.heap.write (w' := w.setRow bn L.toArray) hb p1 p2 L.toArray ⟨.c bt, b.k, b.es.set i (splice e of cs)⟩ (fun b' hb' => setRow_other w bn b' _ hb') (by first | exact setRow_size .. | simp) ⟨rfl, rfl, rfl⟩ (setRow_heap w bn arr _ bt _ r1)
      (by simpa using q2) (fun e' he' => by
        rcases List.mem_or_eq_of_mem_set he' with he' | rfl
        · exact q3 e' he'
        · rw [splice_len hl]; exact hek) (by simp only [List.size_toArray]; rw [hLl]; exact r2) (fun v hv => by
        have hv : v ∈ L := by simpa using hv
        obtain ⟨j, hj⟩ := List.getElem?_of_mem hv
        rw [hget] at hj
        split at hj
        · exact h2 v (by have := List.mem_of_getElem? hj; simpa using this)
        · exact r3 v (Array.mem_of_getElem? hj)) (fun i' j y' hy' => by
        have hkk : ∀ e' ∈ b.es.set i (splice e of cs), e'.length = b.k := fun e' he' => by
          rcases List.mem_or_eq_of_mem_set he' with he' | rfl
          · exact q3 e' he'
          · rw [splice_len hl]; exact hek
        have hlt := (nth2_lt hy' hkk).2
        simp only [List.getElem?_toArray, hget]
        rcases nth2_set hy' with ⟨rfl, -, hy'⟩ | ⟨hne, hy'⟩
        · unfold splice at hy'
          rw [splice_get hl] at hy'
          split at hy'
          · rename_i hin
            rw [if_pos (by omega)]
            obtain ⟨v, k1, k2⟩ := h1.get hy'
            exact ⟨v, by rw [show i' * b.k + j - (i' * b.k + of) = j - of by omega]; exact k1, k2⟩
          · rename_i hin
            rw [if_neg (by omega)]
            exact r4 i' j y' (by simp [nth2, he, hy'])
        · rw [if_neg (cellAt_ne hne hlt (by rw [← hek]; exact hl))]
          exact r4 i' j y' hy')
    have hpk : ∀ ty x y, o.op = .store ty x y → ∃ b', Poke b' w (w.setRow bn L.toArray) ∧ ∀ b2 of s, a.eval x = .pointer (some ⟨b2, of, s⟩) → b2 = b' := fun ty' x' y' e => by
      rw [ho] at e
      cases e
      refine ⟨bn, ⟨by first | exact Nat.le_of_eq (setRow_size ..).symm | simp [World.setRow], fun c hc => setRow_other w bn c _ hc⟩, fun b2 of2 s hp => ?_⟩
      rw [p3] at hp
      cases hp; rfl
    refine ⟨F, ι, _, ?_, ⟨h.good, h.defers, h.size, fun u => (h.tm u).keep g2 (Nms.le_refl _), g1⟩, hpk⟩
    have hz' : ¬ (a.eval y).cells.size ≠ cs.length := by simpa using hvl
    simp only [execOp, ho, Instr.storeAt, p3, Instr.sureAddr, storeVar]
    simp [szOf_run hz, hz', hst]
    try simp at hvl
    try simp [hvl, hst]
end
end Go.Proofs.YtalippdhfkpbmaaDoor
