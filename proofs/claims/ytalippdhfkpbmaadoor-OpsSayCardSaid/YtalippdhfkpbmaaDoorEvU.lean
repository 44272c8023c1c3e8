/- A region whose order is drawn: walked once, along its plan. -/
import Derived.Test.YtalippdhfkpbmaaDoorEvV
namespace Go.Proofs.YtalippdhfkpbmaaDoor
open Go.RowKit Go
/-- the new variables of a region, each with the readings that were done ahead of it -/
abbrev Frs := List (Nat × List Nat)
def DoneOk (P : Program) (l : List Oper) (a : Act) (w : World) (done : List Nat) (fr : Frs) : Prop := ∀ i ∈ done, ∀ o, nthOp l i = some o → Region.wanted o (yielded l.toArray a.tmps) = true →
  ∃ s, s ≤ w.heap.size ∧ (∀ w', (freeO o.op = true ∨ ∀ b, b < s → w'.heap[b]? = w.heap[b]?) → (execOp a.eval o).run P w' = .ok (.value (slotOf a o)) w') ∧
    ∀ x ∈ fr, i ∈ x.2 → ∃ b of sp, a.tmps[x.1]? = some (.pointer (some ⟨b, of, sp⟩)) ∧ s ≤ b
/-- reading i is not touched by a write to temporary t -/
def staysT (l : List Oper) (t : Option Nat) (k : Nat) : Bool := match nthOp l k, t with
  | some o, some t => plainOp o.op && !(o.looksAt l.toArray).contains t && o.dst != some t
  | _, _ => true
def nextDone (l : List Oper) (i : Nat) (done : List Nat) : List Nat := match nthOp l i with
  | some o => match o.dst with
    | some t => (if plainOp o.op && !(o.looksAt l.toArray).contains t then [i] else []) ++ done.filter (staysT l (some t))
    | none => []
  | none => []
def nextFr (l : List Oper) (i : Nat) (fr : Frs) : Frs := match nthOp l i with
  | some o => match o.dst with
    | some t => (fr.filter fun x => x.1 != t).map fun x => (x.1, x.2.filter (· != i))
    | none => []
  | none => []
def pokes (fr : Frs) (o : Op) (k : Nat) : Bool := match o with
  | .store _ (.tmp t) _ => fr.any fun x => x.1 == t && x.2.contains k
  | _ => false
def effDone (qt : Bool) (l : List Oper) (j : Nat) (done : List Nat) (fr : Frs) : List Nat := match nthOp l j with
  | some o => done.filter fun k => staysT l o.dst k && ((qt && quietO o.op) || pokes fr o.op k || match nthOp l k with | some o' => freeO o'.op | none => true)
  | none => []
def effFr (l : List Oper) (j : Nat) (done : List Nat) (fr : Frs) : Frs := match nthOp l j with
  | some o => match o.dst with
    | some t => (if newO o.op && o.guard.isNone then [(t, done)] else []) ++ fr.filter fun x => x.1 != t
    | none => fr
  | none => []
def Plan.pends (l : List Oper) : Plan → List Nat → Frs → Bool
  | .last, _, _ => true
  | .seg i p, done, fr => Plan.pends l p (nextDone l i done) (nextFr l i fr)
  | .eff j pend p, done, fr => pend.all ((effDone (!pend.isEmpty) l j done fr).contains ·) && Plan.pends l p (effDone (!pend.isEmpty) l j done fr) (effFr l j done fr)
  | .fork j pend p rest, done, fr => pend.all ((effDone (!pend.isEmpty) l j done fr).contains ·) && Plan.pends l p (effDone (!pend.isEmpty) l j done fr) (effFr l j done fr) && Plan.pends l rest done fr
def segK (st : St) (t : Nat) (K : St → Prop) (d : D) : Prop := K (st.put t d)
def vcPl (P : Program) (l : List Oper) (K : St → Prop) : Plan → St → Prop
  | .last, st => K st
  | .seg i p, st => match nthOp l i with
    | some o => match o.dst, gd l st o with
      | some t, some (x, y, d) => t < st.n ∧ (if x = y then vcS P (st.told d y) o.op (segK (st.told d y) t (vcPl P l K p)) else vcPl P l K p ((st.told d (!y)).put t (.tup [])))
      | _, _ => False
    | none => False
  | .eff j pend p, st => match nthOp l j with
    | some o => match gd l st o with
      | some (x, y, d) => (∀ t, o.dst = some t → t < st.n) ∧ (if x = y then vcOp P (!pend.isEmpty) (st.told d y) o (vcPl P l K p) else vcPl P l K p ((st.told d (!y)).skip o))
      | none => False
    | none => False
  | .fork j pend p rest, st => (match nthOp l j with
    | some o => match gd l st o with
      | some (x, y, d) => (∀ t, o.dst = some t → t < st.n) ∧ (if x = y then vcOp P (!pend.isEmpty) (st.told d y) o (vcPl P l K p) else vcPl P l K p ((st.told d (!y)).skip o))
      | none => False
    | none => False) ∧ vcPl P l K rest st
theorem Old.trans {w w1 w2 : World} (h1 : Old w w1) (h2 : Old w1 w2) : Old w w2 := fun b hb => by
  have e := h1 b hb
  have : b < w1.heap.size := by
    rw [Array.getElem?_eq_getElem hb] at e
    exact (Array.getElem?_eq_some_iff.1 e).1
  rw [h2 b this, e]
section
variable {P : Program} {l : List Oper}
theorem put_get {a : Act} {t u : Nat} {v : Value} (h : u ≠ t) : (a.put (some t) v).tmps[u]? = a.tmps[u]? := by
  simp only [Act.put]
  exact Array.getElem?_setIfInBounds_ne (fun e => h e.symm)
theorem stays_run {a : Act} {t : Option Nat} {v : Value} {k : Nat} {o : Oper} (ho : nthOp l k = some o) (hs : staysT l t k = true) :
    execOp (a.put t v).eval o = execOp a.eval o ∧ Region.wanted o (yielded l.toArray (a.put t v).tmps) = Region.wanted o (yielded l.toArray a.tmps) ∧ slotOf (a.put t v) o = slotOf a o := by
  cases t with
  | none => exact ⟨rfl, rfl, rfl⟩
  | some t =>
    unfold staysT at hs
    simp only [ho, Bool.and_eq_true, Bool.not_eq_true', bne_iff_ne, ne_eq] at hs
    obtain ⟨⟨h1, h2⟩, h3⟩ := hs
    have hne : ∀ u ∈ o.looksAt l.toArray, u ≠ t := fun u hu e => by
      subst e
      rw [List.contains_iff_mem.2 hu] at h2
      cases h2
    obtain ⟨g1, g2⟩ := looks_same (ops := l.toArray) (plain_noselect h1) (a := a.put (some t) v) (a' := a) fun u hu => put_get (hne u hu)
    refine ⟨g1, g2, ?_⟩
    unfold slotOf
    cases hd : o.dst with
    | none => rfl
    | some d =>
      have hdt : d ≠ t := fun e => h3 (by rw [hd, e])
      show (a.put (some t) v).tmps.getD d undef = a.tmps.getD d undef
      simp only [Array.getD_eq_getD_getElem?]
      rw [put_get hdt]
theorem done_seg {a : Act} {w : World} {done : List Nat} {fr : Frs} (h : DoneOk P l a w done fr) {i t : Nat} {o : Oper} (ho : nthOp l i = some o) (hd : o.dst = some t) {v : Value} (ht : t < a.tmps.size)
    (hv : Region.wanted o (yielded l.toArray a.tmps) = true → ∀ w', (freeO o.op = true ∨ Old w w') → (execOp a.eval o).run P w' = .ok (.value v) w') : DoneOk P l (a.put (some t) v) w (nextDone l i done) (nextFr l i fr) := by
  intro k hk o' ho' hw
  unfold nextDone at hk
  simp only [ho, hd] at hk
  rcases List.mem_append.1 hk with hk | hk
  · split at hk
    · rename_i hc
      simp only [Bool.and_eq_true, Bool.not_eq_true'] at hc
      obtain rfl := List.mem_singleton.1 hk
      rw [ho] at ho'
      cases ho'
      have hne : ∀ u ∈ o.looksAt l.toArray, u ≠ t := fun u hu e => by
        subst e
        rw [List.contains_iff_mem.2 hu] at hc
        cases hc.2
      obtain ⟨g1, g2⟩ := looks_same (ops := l.toArray) (plain_noselect hc.1) (a := a.put (some t) v) (a' := a) fun u hu => put_get (hne u hu)
      rw [g2] at hw
      refine ⟨w.heap.size, Nat.le_refl _, fun w' hw' => ?_, fun x hx hkx => ?_⟩
      · rw [g1, hv hw w' hw']
        unfold slotOf
        simp only [hd, Act.put, Array.getD_eq_getD_getElem?]
        simp [ht]
      · unfold nextFr at hx
        simp only [ho, hd] at hx
        obtain ⟨y, -, rfl⟩ := List.mem_map.1 hx
        have := (List.mem_filter.1 hkx).2
        simp at this
    · cases hk
  · obtain ⟨hk1, hk2⟩ := List.mem_filter.1 hk
    obtain ⟨g1, g2, g3⟩ := stays_run (a := a) (v := v) ho' hk2
    rw [g2] at hw
    obtain ⟨s, s1, s2, s3⟩ := h k hk1 o' ho' hw
    refine ⟨s, s1, fun w' hw' => by rw [g1, g3]; exact s2 w' hw', fun x hx hkx => ?_⟩
    unfold nextFr at hx
    simp only [ho, hd] at hx
    obtain ⟨y, hy, rfl⟩ := List.mem_map.1 hx
    obtain ⟨hy1, hy2⟩ := List.mem_filter.1 hy
    obtain ⟨b, of, sp, e1, e2⟩ := s3 y hy1 (List.mem_filter.1 hkx).1
    exact ⟨b, of, sp, by rw [put_get (by simpa using hy2)]; exact e1, e2⟩
theorem Old.size {w w1 : World} (h : Old w w1) : w.heap.size ≤ w1.heap.size := by
  rcases Nat.eq_zero_or_pos w.heap.size with h0 | h0
  · omega
  · have hb : w.heap.size - 1 < w.heap.size := by omega
    have e := h _ hb
    rw [Array.getElem?_eq_getElem hb] at e
    have := (Array.getElem?_eq_some_iff.1 e).1
    omega
theorem done_eff {a : Act} {w w1 : World} {done : List Nat} {fr : Frs} (h : DoneOk P l a w done fr) {j : Nat} {o : Oper} (ho : nthOp l j = some o) {v : Value} {qt : Bool} (hdt : ∀ t, o.dst = some t → t < a.tmps.size) (hc : Chg qt o a w v w1 ∨ (w1 = w ∧ o.guard.isNone = false)) : DoneOk P l (a.put o.dst v) w1 (effDone qt l j done fr) (effFr l j done fr) := by
  intro k hk o' ho' hw
  unfold effDone at hk
  simp only [ho] at hk
  obtain ⟨hk1, hk2⟩ := List.mem_filter.1 hk
  simp only [ho', Bool.and_eq_true, Bool.or_eq_true] at hk2
  obtain ⟨g1, g2, g3⟩ := stays_run (a := a) (v := v) ho' hk2.1
  rw [g2] at hw
  obtain ⟨s, s1, s2, s3⟩ := h k hk1 o' ho' hw
  have hfr : ∀ x ∈ effFr l j done fr, k ∈ x.2 → ∃ b of sp, (a.put o.dst v).tmps[x.1]? = some (.pointer (some ⟨b, of, sp⟩)) ∧ s ≤ b := fun x hx hkx => by
    unfold effFr at hx
    simp only [ho] at hx
    cases hd : o.dst with
    | none => rw [hd] at hx; exact s3 x hx hkx
    | some t =>
      simp only [hd] at hx
      rcases List.mem_append.1 hx with hx | hx
      · split at hx
        · rename_i hn
          simp only [Bool.and_eq_true] at hn
          obtain rfl := List.mem_singleton.1 hx
          rcases hc with hc | ⟨-, hc⟩
          · refine ⟨w.heap.size, 0, none, ?_, s1⟩
            rw [← hc.new hn.1]
            simp [Act.put, hdt t hd]
          · rw [hn.2] at hc; cases hc
        · cases hx
      · obtain ⟨hx1, hx2⟩ := List.mem_filter.1 hx
        obtain ⟨b, of, sp, e1, e2⟩ := s3 x hx1 hkx
        exact ⟨b, of, sp, by rw [put_get (by simpa using hx2)]; exact e1, e2⟩
  rcases hc with hc | ⟨rfl, hc⟩
  · rcases hk2.2 with (hq | hp) | hf
    · have hold := hc.old hq.1 hq.2
      refine ⟨s, Nat.le_trans s1 hold.size, fun w' hw' => ?_, hfr⟩
      rw [g1, g3]
      refine s2 w' (hw'.imp id fun hw' b hb => ?_)
      rw [hw' b hb, hold b (Nat.lt_of_lt_of_le hb s1)]
    · unfold pokes at hp
      split at hp
      · rename_i ty t y hop
        obtain ⟨x, hx, hx2⟩ := List.any_eq_true.1 hp
        simp only [Bool.and_eq_true, beq_iff_eq] at hx2
        obtain ⟨b, of, sp, e1, e2⟩ := s3 x hx (List.contains_iff_mem.1 hx2.2)
        obtain ⟨b', ⟨p1, p2⟩, p3⟩ := hc.poke _ _ _ hop
        have hbb : b = b' := p3 b of sp (by
          show a.tmps.getD t undef = _
          rw [← hx2.1, Array.getD_eq_getD_getElem?, e1]; rfl)
        refine ⟨s, Nat.le_trans s1 p1, fun w' hw' => ?_, hfr⟩
        rw [g1, g3]
        refine s2 w' (hw'.imp id fun hw' c hcs => ?_)
        rw [hw' c hcs, p2 c (by omega)]
      · cases hp
    · refine ⟨0, Nat.zero_le _, fun w' _ => by rw [g1, g3]; exact s2 w' (.inl hf), fun x hx hkx => ?_⟩
      obtain ⟨b, of, sp, e1, -⟩ := hfr x hx hkx
      exact ⟨b, of, sp, e1, Nat.zero_le _⟩
  · exact ⟨s, s1, fun w' hw' => by rw [g1, g3]; exact s2 w' hw', hfr⟩
theorem pend_of {a : Act} {w : World} {done : List Nat} {fr : Frs} (h : DoneOk P l a w done fr) : ∀ {pend : List Nat}, pend.all (done.contains ·) = true → pendOk P l.toArray a w pend
  | [], _ => trivial
  | i :: pend, hp => by
    simp only [List.all_cons, Bool.and_eq_true] at hp
    refine ⟨fun o ho hw => ?_, pend_of h hp.2⟩
    rw [← nthOp_eq] at ho
    obtain ⟨s, -, s2, -⟩ := h i (List.contains_iff_mem.1 hp.1) o ho hw
    exact s2 w (.inr fun _ _ => rfl)
theorem unwanted_guard {o : Oper} {ts : Nat → Option Bool} (h : Region.wanted o ts = false) : o.guard.isNone = false := by
  unfold Region.wanted at h
  cases hg : o.guard with
  | none => rw [hg] at h; cases h
  | some _ => rfl
theorem wpl_one {o : Oper} {Q : Exit → Act → World → Prop} {a : Act} {w : World} (h1 : Region.wanted o (yielded l.toArray a.tmps) = true → o.wp P a w (fun a w => Q .normal a w) Q) (h2 : Region.wanted o (yielded l.toArray a.tmps) = false → Q .normal (a.put o.dst undef) w) : wpList P l.toArray Q [o] a w := by
  unfold wpList
  cases h : Region.wanted o (yielded l.toArray a.tmps) with
  | true => simp only [if_true]; exact .inl (h1 h)
  | false => simp only [Bool.false_eq_true, if_false]; exact h2 h
theorem vcPl_ok {K : St → Prop} : ∀ {p : Plan} {done : List Nat} {fr : Frs} {st : St}, Plan.pends l p done fr = true → vcPl P l K p st → ∀ β F ι a w, Holds β F ι st a w → DoneOk P l a w done fr →
    ∀ Q : Exit → Act → World → Prop, (∀ F' ι' st' a' w', Holds β F' ι' st' a' w' → K st' → Q .normal a' w') → Plan.wp P l.toArray Q p a w
  | .last, done, fr, st, _, h, β, F, ι, a, w, hh, _, Q, hQ => hQ F ι st a w hh h
  | .seg i p, done, fr, st, hp, h, β, F, ι, a, w, hh, hd, Q, hQ => by
    have hp : Plan.pends l p (nextDone l i done) (nextFr l i fr) = true := hp
    intro o ho Q' hQ'
    rw [← nthOp_eq] at ho
    simp only [vcPl, ho] at h
    split at h
    · rename_i t x y d hdst hg
      obtain ⟨ht, h12⟩ := h
      obtain ⟨h1, h2⟩ := alt_if h12
      have hlt : t < a.tmps.size := by rw [hh.size]; exact ht
      have htold := told_ok hh hg
      have hw := gd_ok hh hg
      have hn : ∀ b, (st.told d b).n = st.n := fun b => by cases d <;> rfl
      by_cases e : x = y
      · subst e
        rcases vcS_ok (h1 rfl) with ⟨dd, hK, hE⟩ | hno
        · obtain ⟨v, hv, hr⟩ := hE β F ι a w htold
          refine wpl_one (fun _ => ?_) (fun hf => by rw [hw] at hf; simp at hf)
          unfold Oper.wp
          rw [hv w (.inr (Old.refl w)), Oper.upon_value, hdst]
          refine hQ' _ (vcPl_ok hp hK β F ι _ w (htold.put hr (by rw [hn]; exact ht)) (done_seg hd ho hdst hlt fun _ => hv) Q hQ)
        · exact (hno β F ι a w htold).elim
      · have e' : x = !y := by cases x <;> cases y <;> simp_all
        subst e'
        refine wpl_one (fun hf => by rw [hw] at hf; cases y <;> simp at hf) (fun hf => ?_)
        rw [hdst]
        exact hQ' _ (vcPl_ok hp (h2 rfl) β F ι _ w (htold.put RV.undef (by rw [hn]; exact ht)) (done_seg hd ho hdst hlt fun hw' => by rw [hf] at hw'; cases hw') Q hQ)
    · exact h.elim
  | .eff j pend p, done, fr, st, hp, h, β, F, ι, a, w, hh, hd, Q, hQ => by
    simp only [Plan.pends, Bool.and_eq_true] at hp
    intro o ho Q' hQ'
    rw [← nthOp_eq] at ho
    simp only [vcPl, ho] at h
    split at h
    · rename_i x y d hg
      obtain ⟨ht, h12⟩ := h
      obtain ⟨h1, h2⟩ := alt_if h12
      have htold := told_ok hh hg
      have hw := gd_ok hh hg
      have hn : ∀ b, (st.told d b).n = st.n := fun b => by cases d <;> rfl
      by_cases e : x = y
      · subst e
        refine wpl_one (fun _ => vcOp_ok (h1 rfl) β F ι a w htold _ _ fun F' ι' st' v w' hold g1 g2 => ?_) (fun hf => by rw [hw] at hf; simp at hf)
        have hdone := done_eff (v := v) hd ho (fun t ht' => by rw [hh.size]; exact ht t ht') (.inl hold)
        exact hQ' _ _ (pend_of hdone hp.1) (vcPl_ok hp.2 g2 β F' ι' _ w' g1 hdone Q hQ)
      · have e' : x = !y := by cases x <;> cases y <;> simp_all
        subst e'
        refine wpl_one (fun hf => by rw [hw] at hf; cases y <;> simp at hf) (fun hf => ?_)
        have hdone := done_eff (v := undef) (qt := !pend.isEmpty) hd ho (fun t ht' => by rw [hh.size]; exact ht t ht') (.inr ⟨rfl, unwanted_guard hf⟩)
        refine hQ' _ _ (pend_of hdone hp.1) (vcPl_ok hp.2 (h2 rfl) β F ι _ w ?_ hdone Q hQ)
        unfold St.skip
        cases hdst : o.dst with
        | none => exact htold
        | some t => exact htold.put RV.undef (by rw [hn]; exact ht t hdst)
    · exact h.elim
  | .fork j pend p rest, done, fr, st, hp, h, β, F, ι, a, w, hh, hd, Q, hQ => by
    simp only [Plan.pends, Bool.and_eq_true] at hp
    simp only [vcPl] at h
    refine ⟨?_, vcPl_ok hp.2 h.2 β F ι a w hh hd Q hQ⟩
    have h := h.1
    intro o ho Q' hQ'
    rw [← nthOp_eq] at ho
    simp only [ho] at h
    split at h
    · rename_i x y d hg
      obtain ⟨ht, h12⟩ := h
      obtain ⟨h1, h2⟩ := alt_if h12
      have htold := told_ok hh hg
      have hw := gd_ok hh hg
      have hn : ∀ b, (st.told d b).n = st.n := fun b => by cases d <;> rfl
      by_cases e : x = y
      · subst e
        refine wpl_one (fun _ => vcOp_ok (h1 rfl) β F ι a w htold _ _ fun F' ι' st' v w' hold g1 g2 => ?_) (fun hf => by rw [hw] at hf; simp at hf)
        have hdone := done_eff (v := v) hd ho (fun t ht' => by rw [hh.size]; exact ht t ht') (.inl hold)
        exact hQ' _ _ (pend_of hdone hp.1.1) (vcPl_ok hp.1.2 g2 β F' ι' _ w' g1 hdone Q hQ)
      · have e' : x = !y := by cases x <;> cases y <;> simp_all
        subst e'
        refine wpl_one (fun hf => by rw [hw] at hf; cases y <;> simp at hf) (fun hf => ?_)
        have hdone := done_eff (v := undef) (qt := !pend.isEmpty) hd ho (fun t ht' => by rw [hh.size]; exact ht t ht') (.inr ⟨rfl, unwanted_guard hf⟩)
        refine hQ' _ _ (pend_of hdone hp.1.1) (vcPl_ok hp.1.2 (h2 rfl) β F ι _ w ?_ hdone Q hQ)
        unfold St.skip
        cases hdst : o.dst with
        | none => exact htold
        | some t => exact htold.put RV.undef (by rw [hn]; exact ht t hdst)
    · exact h.elim
/-- the plans of a function's drawn regions -/
abbrev Pls := List (Nat × List Nat × Plan)
def plAt : Pls → Nat → Option (List Nat × Plan)
  | [], _ => none
  | (i, x) :: l, j => if j = i then some x else plAt l j
def regOk (n : Nat) (l : List Oper) (x : List Nat × Plan) : Bool := planOk l x.1 x.2 && Plan.pends l x.2 [] [] && l.all fun o => match o.dst with | some d => decide (d < n) | none => true
def plsOk (pl : Pls) (n : Nat) : Code → Bool
  | .region id ops true => match plAt pl id with
    | some x => regOk n ops.toList x
    | none => false
  | .seq a b => plsOk pl n a && plsOk pl n b
  | .cond _ a b => plsOk pl n a && plsOk pl n b
  | .block _ a => plsOk pl n a
  | .loop a => plsOk pl n a
  | _ => true
theorem Holds.drew {β : Base} {F : Nat → Prop} {ι : Nms} {st : St} {a : Act} {w : World} (h : Holds β F ι st a w) : Holds β F ι st a w.drew := by
  obtain ⟨h1, h2⟩ := h.heap.drew
  exact ⟨h.good, h.defers, h.size, fun t => (h.tm t).keep h2 (Nms.le_refl _), h1⟩
theorem ev_region_draw {id : Nat} {x : List Nat × Plan} {st : St} {K : Exit → St → Prop} (hm : P.follows .mixedOrders = true) (hok : regOk st.n l x = true) (h : vcPl P l (K .normal) x.2 st) : Ev P (.region id l.toArray true) K st := fun β F ι a w hh Q hQ => by
  simp only [regOk, Bool.and_eq_true] at hok
  refine wp_region_plan x.1 x.2 hm hok.1.1 (by rw [hh.size]; exact hok.2) ?_
  exact vcPl_ok hok.1.2 h β F ι a w.drew hh.drew (fun i hi => by cases hi) Q fun F' ι' st' a' w' h1 h2 => hQ .normal F' ι' st' a' w' h1 h2
end
def vc (P : Program) (pl : Pls) (n : Nat) (ks : List Nat) : Code → (Exit → St → Prop) → St → Prop
  | .skip, K, st => K .normal st
  | .region _ ops false, K, st => vcL P ops.toList (onlyK ks K) ops.toList st
  | .region id ops true, K, st => match plAt pl id with
    | some x => st.n = n ∧ vcPl P ops.toList (onlyK ks K) x.2 st
    | none => False
  | .seq a b, K, st => vc P pl n ks a (thenK (vc P pl n ks b K) K) st
  | .cond c x y, K, st => match ev st c with
    | .one (.d (.lit (.bool b))) => (if b = true then vc P pl n ks x K st else vc P pl n ks y K st)
    | _ => False
  | .block id c, K, st => vc P pl n ks c (blockK id K) st
  | .exit id, K, st => K (.exit id) st
  | .ret, K, st => K .ret st
  | c, K, st => Ev P c K st
theorem Ev.mono {P : Program} {c : Code} {st : St} {K K' : Exit → St → Prop} (h : Ev P c K st) (hk : ∀ e st, K e st → K' e st) : Ev P c K' st := fun β F ι a w hh Q hn => h β F ι a w hh Q fun e F' ι' st' a' w' h1 h2 => hn e F' ι' st' a' w' h1 (hk _ _ h2)
theorem evl_weakK {P : Program} {l rest : List Oper} {st : St} {K : St → Prop} {f : St → St} (h : EvL P l rest (fun st => K (f st)) st) (hf : ∀ st, Wk st (f st)) : EvL P l rest K st := fun β F ι a w hh Q hn => h β F ι a w hh Q fun F' ι' st' a' w' h1 h2 => by
  obtain ⟨F2, ι2, h3⟩ := hf st' β F' ι' a' w' h1
  exact hn F2 ι2 _ a' w' h3 h2
theorem ev_weakK {P : Program} {c : Code} {st : St} {K : Exit → St → Prop} {f : St → St} (h : Ev P c (fun e st => K e (f st)) st) (hf : ∀ st, Wk st (f st)) : Ev P c K st := fun β F ι a w hh Q hn => h β F ι a w hh Q fun e F' ι' st' a' w' h1 h2 => by
  obtain ⟨F2, ι2, h3⟩ := hf st' β F' ι' a' w' h1
  exact hn e F2 ι2 _ a' w' h3 h2
theorem vc_ok {P : Program} {pl : Pls} {ks : List Nat} {n : Nat} (hm : P.follows .mixedOrders = true) : ∀ {c : Code} {K : Exit → St → Prop} {st : St}, plsOk pl n c = true → vc P pl n ks c K st → Ev P c K st
  | .skip, K, st, _, h => ev_skip h
  | .region id ops false, K, st, _, h => by
    have h' : vcL P ops.toList (onlyK ks K) ops.toList st := h
    have := ev_region (id := id) (K := K) (evl_weakK (f := fun st => st.only ks) (K := K .normal) (vcL_ok h') fun st => Wk.only st ks)
    simpa using this
  | .region id ops true, K, st, hp, h => by
    unfold vc at h
    unfold plsOk at hp
    split at h
    · rename_i x hx
      simp only [hx] at hp
      have := ev_weakK (ev_region_draw (id := id) (K := fun e s => K e (s.only ks)) hm (by rw [h.1]; exact hp) h.2) fun st => Wk.only st ks
      simpa using this
    · exact h.elim
  | .seq a b, K, st, hp, h => by
    simp only [plsOk, Bool.and_eq_true] at hp
    exact ev_seq ((vc_ok hm (c := a) hp.1 h).mono fun e st h => by
      cases e with
      | normal => exact vc_ok hm (c := b) hp.2 h
      | _ => exact h)
  | .cond c x y, K, st, hp, h => by
    simp only [plsOk, Bool.and_eq_true] at hp
    unfold vc at h
    split at h
    · rename_i hc; exact ev_cond hc (fun e => vc_ok hm hp.1 ((alt_if h).1 e)) (fun e => vc_ok hm hp.2 ((alt_if h).2 e))
    · exact h.elim
  | .block id c, K, st, hp, h => ev_block (vc_ok hm (c := c) hp h)
  | .exit id, K, st, _, h => ev_exit h
  | .ret, K, st, _, h => ev_ret h
  | .loop _, K, st, _, h => h
  | .rangeFunc .., K, st, _, h => h
  | .scope _, K, st, _, h => h
  | .label _, K, st, _, h => h
  | .goto _, K, st, _, h => h
  | .refuse _, K, st, _, h => h
end Go.Proofs.YtalippdhfkpbmaaDoor
