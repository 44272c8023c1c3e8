/- Control: regions, branches, loops; what is forgotten. -/
import Derived.Test.YtalippdhfkpbmaaDoorEvF
namespace Go.Proofs.YtalippdhfkpbmaaDoor
open Go.RowKit Go
theorem RV.undef {E : Env} {w : World} {ι : Nms} : RV E w ι (.tup []) undef := by rw [RV]; exact ⟨#[], rfl, by rw [RVs]; trivial⟩
/-- the guard of an operation: its value, and the one that is wanted -/
def gd (l : List Oper) (st : St) (o : Oper) : Option (Bool × Bool × Option Nat) := match o.guard with
  | none => some (true, true, none)
  | some (j, want) => match (nthOp l j).bind (·.dst) with
    | some d => match lk st.tm d with
      | .one (.d (.lit (.bool b))) => if d < st.n then some (b, want, some d) else none
      | .tup [] => if d < st.n then some (!want, want, none) else none
      | _ => none
    | none => none
theorem gd_ok {β : Base} {F : Nat → Prop} {ι : Nms} {st : St} {a : Act} {w : World} (h : Holds β F ι st a w) {l : List Oper} {o : Oper} {x y : Bool} {dd : Option Nat} (hg : gd l st o = some (x, y, dd)) : Region.wanted o (yielded l.toArray a.tmps) = (x == y) := by
  unfold gd at hg
  unfold Region.wanted
  cases hgo : o.guard with
  | none =>
    simp only [hgo, Option.some.injEq, Prod.mk.injEq] at hg
    obtain ⟨rfl, rfl, -⟩ := hg
    rfl
  | some jw =>
    obtain ⟨j, want⟩ := jw
    simp only [hgo] at hg ⊢
    unfold yielded
    rw [← nthOp_eq]
    cases hd : (nthOp l j).bind (·.dst) with
    | none => simp [hd] at hg
    | some d =>
      simp only [hd] at hg
      split at hg
      · rename_i b hb
        split at hg
        · rename_i hlt
          simp only [Option.some.injEq, Prod.mk.injEq] at hg
          obtain ⟨rfl, rfl, -⟩ := hg
          have := h.tm d
          rw [hb, RV] at this
          have hv := RD.lit_inv this
          have hlt' : d < a.tmps.size := by rw [h.size]; exact hlt
          have hq : a.tmps[d]? = some (.bool b) := by
            rw [Array.getElem?_eq_getElem hlt']
            simpa [Array.getD, hlt'] using hv
          simp [hq]
        · simp at hg
      · rename_i hb
        split at hg
        · rename_i hlt
          simp only [Option.some.injEq, Prod.mk.injEq] at hg
          obtain ⟨rfl, rfl, -⟩ := hg
          have := h.tm d
          rw [hb, RV] at this
          obtain ⟨xs, hv, hr⟩ := this
          have hlt' : d < a.tmps.size := by rw [h.size]; exact hlt
          have hq : a.tmps[d]? = some (.tuple xs) := by
            rw [Array.getElem?_eq_getElem hlt']
            simpa [Array.getD, hlt'] using hv
          cases want <;> simp [hq]
        · simp at hg
      · simp at hg
def EvL (P : Program) (l : List Oper) (rest : List Oper) (K : St → Prop) (st : St) : Prop :=
  ∀ β F ι a w, Holds β F ι st a w → ∀ Q : Exit → Act → World → Prop, (∀ F' ι' st' a' w', Holds β F' ι' st' a' w' → K st' → Q .normal a' w') → wpList P l.toArray Q rest a w
def Ev (P : Program) (c : Code) (K : Exit → St → Prop) (st : St) : Prop :=
  ∀ β F ι a w, Holds β F ι st a w → ∀ Q : Exit → Act → World → Prop, (∀ e F' ι' st' a' w', Holds β F' ι' st' a' w' → K e st' → Q e a' w') → c.wp P Q a w
/-- what a guard has told -/
def St.told (st : St) (d : Option Nat) (b : Bool) : St := match d with
  | some d => st.put d (.one (.d (.lit (.bool b))))
  | none => st
theorem told_ok {β : Base} {F : Nat → Prop} {ι : Nms} {st : St} {a : Act} {w : World} (h : Holds β F ι st a w) {l : List Oper} {o : Oper} {x y : Bool} {d : Option Nat} (hg : gd l st o = some (x, y, d)) : Holds β F ι (st.told d x) a w := by
  unfold gd at hg
  cases hgo : o.guard with
  | none => simp only [hgo, Option.some.injEq, Prod.mk.injEq] at hg; obtain ⟨-, -, rfl⟩ := hg; exact h
  | some jw =>
    obtain ⟨j, want⟩ := jw
    simp only [hgo] at hg
    split at hg
    · split at hg
      · rename_i b hb
        split at hg
        · simp only [Option.some.injEq, Prod.mk.injEq] at hg
          obtain ⟨rfl, rfl, rfl⟩ := hg
          refine ⟨h.good, h.defers, h.size, fun u => ?_, h.heap⟩
          simp only [St.told, St.put, lk_ins]
          split
          · rename_i e; subst e; rw [← hb]; exact h.tm u
          · exact h.tm u
        · cases hg
      · split at hg
        · simp only [Option.some.injEq, Prod.mk.injEq] at hg
          obtain ⟨rfl, rfl, rfl⟩ := hg
          exact h
        · cases hg
      · cases hg
    · cases hg
def St.skip (st : St) (o : Oper) : St := match o.dst with
  | some t => st.put t (.tup [])
  | none => st
section
variable {P : Program} {l rest : List Oper} {o : Oper} {st : St}
theorem evl_nil {K : St → Prop} (h : K st) : EvL P l [] K st := fun β F ι a w hh Q hQ => hQ F ι st a w hh h
theorem evl_if {K : St → Prop} {x y : Bool} {d : Option Nat} (hg : gd l st o = some (x, y, d)) (hd : ∀ t, o.dst = some t → t < st.n) (h1 : x = y → EvO P false o (st.told d y) (EvL P l rest K)) (h2 : x = !y → EvL P l rest K ((st.told d (!y)).skip o)) : EvL P l (o :: rest) K st := fun β F ι a w hh Q hQ => by
  have ht := told_ok hh hg
  unfold wpList
  rw [gd_ok hh hg]
  by_cases e : x = y
  · subst e
    simp only [beq_self_eq_true, if_true]
    exact .inl (h1 rfl β F ι a w ht _ _ fun F' ι' st' v w' _ h1 h2 => h2 β F' ι' _ w' h1 Q hQ)
  · have e' : x = !y := by cases x <;> cases y <;> simp_all
    have hne : (x == y) = false := by simpa using e
    rw [hne]
    simp only [Bool.false_eq_true, if_false]
    subst e'
    refine h2 rfl β F ι _ w ?_ Q hQ
    have hn : (st.told d (!y)).n = st.n := by cases d <;> rfl
    unfold St.skip
    cases ho : o.dst with
    | none => simpa [Act.put] using ht
    | some t => exact ht.put RV.undef (by rw [hn]; exact hd t ho)
variable {K : Exit → St → Prop}
theorem ev_region {id : Nat} (h : EvL P l l (K .normal) st) : Ev P (.region id l.toArray false) K st := fun β F ι a w hh Q hQ => by
  refine wp_region ?_
  have : wpOps P l.toArray Q (List.range l.toArray.size) = wpList P l.toArray Q l := by
    rw [List.size_toArray, List.range_eq_range']
    exact wpOps_eq_wpList l 0 (fun j => by simp)
  rw [this]
  exact h β F ι a w hh Q fun F' ι' st' a' w' h1 h2 => hQ .normal F' ι' st' a' w' h1 h2
theorem ev_skip (h : K .normal st) : Ev P .skip K st := fun β F ι a w hh Q hQ => wp_skip (hQ .normal F ι st a w hh h)
theorem ev_ret (h : K .ret st) : Ev P .ret K st := fun β F ι a w hh Q hQ => wp_ret (hQ .ret F ι st a w hh h)
theorem ev_exit {id : Nat} (h : K (.exit id) st) : Ev P (.exit id) K st := fun β F ι a w hh Q hQ => wp_exit (hQ (.exit id) F ι st a w hh h)
def thenK (K1 : St → Prop) (K : Exit → St → Prop) : Exit → St → Prop
  | .normal, st => K1 st
  | e, st => K e st
theorem ev_seq {x y : Code} (h : Ev P x (thenK (Ev P y K) K) st) : Ev P (.seq x y) K st := fun β F ι a w hh Q hQ => by
  refine wp_seq (h β F ι a w hh _ fun e F' ι' st' a' w' h1 h2 => ?_)
  cases e with
  | normal => exact h2 β F' ι' a' w' h1 Q hQ
  | _ => exact hQ _ F' ι' st' a' w' h1 h2
def blockK (id : Nat) (K : Exit → St → Prop) : Exit → St → Prop
  | .exit id', st => if id' = id then K .normal st else K (.exit id') st
  | e, st => K e st
theorem ev_block {id : Nat} {c : Code} (h : Ev P c (blockK id K) st) : Ev P (.block id c) K st := fun β F ι a w hh Q hQ => by
  refine wp_block (h β F ι a w hh _ fun e F' ι' st' a' w' h1 h2 => ?_)
  cases e with
  | exit id' =>
    simp only [blockK] at h2
    simp only [Exit.inBlock]
    split at h2
    · rename_i e; rw [if_pos e]; exact hQ .normal F' ι' st' a' w' h1 h2
    · rename_i e; rw [if_neg e]; exact hQ _ F' ι' st' a' w' h1 h2
  | _ => exact hQ _ F' ι' st' a' w' h1 h2
theorem ev_cond {c : Operand} {x y : Code} {b : Bool} (hc : ev st c = .one (.d (.lit (.bool b)))) (h1 : b = true → Ev P x K st) (h2 : b = false → Ev P y K st) : Ev P (.cond c x y) K st := fun β F ι a w hh Q hQ => by
  have := hh.ev c
  rw [hc, RV] at this
  refine wp_cond_split (RD.lit_inv this) (fun e => h1 e β F ι a w hh Q hQ) (fun e => h2 e β F ι a w hh Q hQ)
/-- st' says no more than st -/
def Wk (st st' : St) : Prop := ∀ β F ι a w, Holds β F ι st a w → ∃ F' ι', Holds β F' ι' st' a w
theorem Wk.refl (st : St) : Wk st st := fun _ F ι _ _ h => ⟨F, ι, h⟩
theorem Wk.trans {s1 s2 s3 : St} (h1 : Wk s1 s2) (h2 : Wk s2 s3) : Wk s1 s3 := fun β F ι a w h => by
  obtain ⟨F', ι', h'⟩ := h1 β F ι a w h
  exact h2 β F' ι' a w h'
theorem Ev.weak {c : Code} {st' : St} (h : Ev P c K st') (hw : Wk st st') : Ev P c K st := fun β F ι a w hh Q hQ => by
  obtain ⟨F', ι', h'⟩ := hw β F ι a w hh
  exact h β F' ι' a w h' Q hQ
theorem EvL.weak {K : St → Prop} {st' : St} (h : EvL P l rest K st') (hw : Wk st st') : EvL P l rest K st := fun β F ι a w hh Q hQ => by
  obtain ⟨F', ι', h'⟩ := hw β F ι a w hh
  exact h β F' ι' a w h' Q hQ
def loopK {α : Type} (S : α → St) (m : α → Nat) (x : α) (K : Exit → St → Prop) : Exit → St → Prop
  | .normal, st => ∃ x', m x' < m x ∧ Wk st (S x')
  | e, st => K e st
theorem ev_loop {α : Type} {c : Code} (S : α → St) (m : α → Nat) (x0 : α) (h0 : Wk st (S x0)) (round : ∀ x, Ev P c (loopK S m x K) (S x)) : Ev P (.loop c) K st := fun β F ι a w hh Q hQ => by
  classical
  let G : Nat → Act → World → Prop := fun n a w => ∃ x F ι, m x = n ∧ Holds β F ι (S x) a w
  let μ : Act → World → Nat := fun a w => if h : ∃ n, G n a w ∧ ∀ n', G n' a w → n ≤ n' then h.choose else 0
  have hμ : ∀ n a w, G n a w → G (μ a w) a w ∧ μ a w ≤ n := fun n a w hn => by
    have hex : ∃ n, G n a w ∧ ∀ n', G n' a w → n ≤ n' := by
      induction n using Nat.strongRecOn with
      | _ n ih =>
        by_cases hlt : ∃ n', n' < n ∧ G n' a w
        · obtain ⟨n', h1, h2⟩ := hlt
          exact ih n' h1 h2
        · exact ⟨n, hn, fun n' hn' => Nat.le_of_not_lt fun h => hlt ⟨n', h, hn'⟩⟩
    have he : μ a w = hex.choose := dif_pos hex
    rw [he]
    exact ⟨hex.choose_spec.1, hex.choose_spec.2 n hn⟩
  refine wp_loop (fun a w => ∃ n, G n a w) μ ?_ ?_
  · obtain ⟨F', ι', h'⟩ := h0 β F ι a w hh
    exact ⟨m x0, x0, F', ι', rfl, h'⟩
  · rintro a w ⟨n, hn⟩
    obtain ⟨⟨x, F1, ι1, hm, h1⟩, -⟩ := hμ n a w hn
    refine round x β F1 ι1 a w h1 _ fun e F' ι' st' a' w' g1 g2 => ?_
    cases e with
    | normal =>
      obtain ⟨x', hlt, hwk⟩ := g2
      obtain ⟨F2, ι2, g3⟩ := hwk β F' ι' a' w' g1
      have hG : G (m x') a' w' := ⟨x', F2, ι2, rfl, g3⟩
      exact ⟨⟨_, hG⟩, by have := (hμ _ a' w' hG).2; omega⟩
    | _ => exact hQ _ F' ι' st' a' w' g1 g2
end
/-- only those temporaries are kept (both in order) -/
def keepF : Nat → List (Nat × D) → List Nat → List (Nat × D)
  | 0, _, _ => []
  | _, [], _ => []
  | _, _ :: _, [] => []
  | n + 1, (t, d) :: l, k :: ks => if t = k then (t, d) :: keepF n l ks else if t < k then keepF n l (k :: ks) else keepF n ((t, d) :: l) ks
def ascB : List Nat → Bool
  | a :: b :: l => decide (a < b) && ascB (b :: l)
  | _ => true
theorem ascB_lt : ∀ {l : List Nat} {a : Nat}, ascB (a :: l) = true → ∀ b ∈ l, a < b
  | [], _, _, b, hb => by cases hb
  | c :: l, a, h, b, hb => by
    simp only [ascB, Bool.and_eq_true, decide_eq_true_eq] at h
    rcases List.mem_cons.1 hb with rfl | hb
    · exact h.1
    · exact Nat.lt_trans h.1 (ascB_lt h.2 b hb)
theorem ascB_tail {l : List Nat} {a : Nat} (h : ascB (a :: l) = true) : ascB l = true := by
  cases l with
  | nil => rfl
  | cons b l => simp only [ascB, Bool.and_eq_true] at h; exact h.2
theorem keepF_none : ∀ (n : Nat) (l : List (Nat × D)) (ks : List Nat) (u : Nat), u ∉ ks → lk (keepF n l ks) u = .top
  | 0, _, _, _, _ => rfl
  | _ + 1, [], _, _, _ => by unfold keepF; rfl
  | _ + 1, _ :: _, [], _, _ => by unfold keepF; rfl
  | n + 1, (t, d) :: l, k :: ks, u, hu => by
    unfold keepF
    split
    · rename_i e
      subst e
      have h1 : u ≠ t := fun e => hu (e ▸ List.mem_cons_self ..)
      simp only [lk, h1, if_false]
      exact keepF_none n l ks u fun h => hu (List.mem_cons_of_mem _ h)
    · split
      · exact keepF_none n l (k :: ks) u hu
      · exact keepF_none n ((t, d) :: l) ks u fun h => hu (List.mem_cons_of_mem _ h)
theorem lk_keepF (u : Nat) : ∀ (n : Nat) (l : List (Nat × D)) (ks : List Nat), ascB ks = true → lk (keepF n l ks) u = lk l u ∨ lk (keepF n l ks) u = .top
  | 0, _, _, _ => .inr rfl
  | _ + 1, [], _, _ => by unfold keepF; exact .inl rfl
  | _ + 1, _ :: _, [], _ => by unfold keepF; exact .inr rfl
  | n + 1, (t, d) :: l, k :: ks, h => by
    unfold keepF
    split
    · simp only [lk]
      by_cases hu : u = t
      · simp [hu]
      · simp only [hu, if_false]; exact lk_keepF u n l ks (ascB_tail h)
    · rename_i hne
      split
      · rename_i hlt
        by_cases hu : u = t
        · subst hu
          exact .inr (keepF_none n l (k :: ks) u fun hm => by
            rcases List.mem_cons.1 hm with e | hm
            · exact hne e
            · have := ascB_lt h u hm; omega)
        · simp only [lk, hu, if_false]; exact lk_keepF u n l (k :: ks) h
      · exact lk_keepF u n ((t, d) :: l) ks (ascB_tail h)
/-- out of order nothing is kept -/
def keepT (l : List (Nat × D)) (ks : List Nat) : List (Nat × D) := if ascB ks = true then keepF (l.length + ks.length) l ks else []
theorem lk_keepT (ks : List Nat) (u : Nat) (l : List (Nat × D)) : lk (keepT l ks) u = lk l u ∨ lk (keepT l ks) u = .top := by
  unfold keepT
  split
  · rename_i h; exact lk_keepF u _ l ks h
  · exact .inr rfl
def St.only (st : St) (ks : List Nat) : St := ⟨st.n, keepT st.tm ks, st.H, st.nx⟩
theorem Wk.only (st : St) (ks : List Nat) : Wk st (st.only ks) := fun β F ι a w h => ⟨F, ι, h.good, h.defers, h.size, fun t => by
  rcases lk_keepT ks t st.tm with e | e
  · simp only [St.only, e]; exact h.tm t
  · simp only [St.only, e]; rw [RV]; trivial, h.heap⟩
end Go.Proofs.YtalippdhfkpbmaaDoor
