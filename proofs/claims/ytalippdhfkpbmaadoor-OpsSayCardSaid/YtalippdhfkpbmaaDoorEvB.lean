/- States of a walk, told apart from memory; what an operation may do to them: the frame of all rules. -/
import Derived.Test.YtalippdhfkpbmaaDoorEvA
namespace Go.Proofs.YtalippdhfkpbmaaDoor
open Go.RowKit Go
def lk : List (Nat × D) → Nat → D
  | [], _ => .top
  | (s, d) :: l, t => if t = s then d else lk l t
def ins : List (Nat × D) → Nat → D → List (Nat × D)
  | [], t, d => [(t, d)]
  | (s, e) :: l, t, d => if t = s then (t, d) :: l else if t < s then (t, d) :: (s, e) :: l else (s, e) :: ins l t d
theorem lk_ins (t : Nat) (d : D) (u : Nat) : ∀ l : List (Nat × D), lk (ins l t d) u = if u = t then d else lk l u
  | [] => by simp [ins, lk]
  | (s, e) :: l => by
    unfold ins
    split
    · rename_i h; subst h
      by_cases hu : u = t <;> simp [lk, hu]
    · split
      · by_cases hu : u = t <;> simp [lk, hu]
      · simp only [lk, lk_ins t d u l]
        by_cases hu : u = t
        · subst hu
          rename_i h1 _
          simp [h1]
        · simp [hu]
structure St where
  n : Nat
  tm : List (Nat × D)
  H : Hp
  nx : Nat
def St.put (st : St) (t : Nat) (d : D) : St := ⟨st.n, ins st.tm t d, st.H, st.nx⟩
structure Holds (β : Base) (F : Nat → Prop) (ι : Nms) (st : St) (a : Act) (w : World) : Prop where
  good : β.good
  defers : a.defers = []
  size : a.tmps.size = st.n
  tm : ∀ t, RV ⟨F, β.B⟩ w ι (lk st.tm t) (a.tmps.getD t undef)
  heap : HpOk β F w ι st.H st.nx
/-- of a constant -/
def cellOf : Value → Dt
  | .slice none 0 0 => .emp
  | v => .lit v
theorem cellOf_ok {E : Env} {w : World} {v : Value} (h : v.oneCell' = true) : RD E w (cellOf v) v := by
  unfold cellOf
  split
  · exact .emp
  · exact .lit h
def ofVal : Value → D
  | .agg xs => if xs.toList.all Value.oneCell' then .agg (xs.toList.map fun v => .d (cellOf v)) else .top
  | .tuple _ => .top
  | v => .one (.d (cellOf v))
theorem RCs.ofList {E : Env} {w : World} {ι : Nms} : ∀ {xs : List Value}, xs.all Value.oneCell' = true → RCs E w ι (xs.map fun v => .d (cellOf v)) xs
  | [], _ => trivial
  | x :: xs, h => by
    simp only [List.all_cons, Bool.and_eq_true] at h
    exact ⟨cellOf_ok h.1, RCs.ofList h.2⟩
theorem RV.ofVal {E : Env} {w : World} {ι : Nms} (v : Value) : RV E w ι (ofVal v) v := by
  unfold Go.Proofs.YtalippdhfkpbmaaDoor.ofVal
  split
  · rename_i xs
    split
    · rename_i h
      rw [RV]
      exact ⟨xs, rfl, RCs.ofList h⟩
    · rw [RV]; trivial
  · rw [RV]; trivial
  · rename_i h1 h2
    rw [RV]
    refine cellOf_ok (E := E) ?_
    cases v <;> first | rfl | (exact absurd rfl (h1 _)) | (exact absurd rfl (h2 _))
def ev (st : St) : Operand → D
  | .tmp t => lk st.tm t
  | .const v => ofVal v
  | .global _ => .top
  | .func f => .one (.d (.fn (.func f) [] []))
theorem Holds.ev {β : Base} {F : Nat → Prop} {ι : Nms} {st : St} {a : Act} {w : World} (h : Holds β F ι st a w) (x : Operand) : RV ⟨F, β.B⟩ w ι (ev st x) (a.eval x) := by
  cases x with
  | tmp t => exact h.tm t
  | const v => exact RV.ofVal v
  | global g => simp only [Go.Proofs.YtalippdhfkpbmaaDoor.ev]; rw [RV]; trivial
  | func f => simp only [Go.Proofs.YtalippdhfkpbmaaDoor.ev]; rw [RV]; exact .fn rfl rfl (fun j c x hc _ => by simp at hc) (fun j c x hc _ => by simp at hc)
theorem Holds.put {β : Base} {F : Nat → Prop} {ι : Nms} {st : St} {a : Act} {w : World} (h : Holds β F ι st a w) {d : D} {v : Value} (hd : RV ⟨F, β.B⟩ w ι d v) {t : Nat} (ht : t < st.n) :
    Holds β F ι (st.put t d) (a.put (some t) v) w := by
  refine ⟨h.good, h.defers, by simpa [Act.put, St.put] using h.size, fun u => ?_, h.heap⟩
  simp only [St.put, lk_ins, Act.put]
  by_cases hu : u = t
  · subst hu
    simp only [if_true]
    have : (a.tmps.setIfInBounds u v).getD u undef = v := by simp [Array.getD, h.size, ht]
    rw [this]; exact hd
  · simp only [hu, if_false]
    have : (a.tmps.setIfInBounds t v).getD u undef = a.tmps.getD u undef := by
      simp only [Array.getD_eq_getD_getElem?]
      rw [Array.getElem?_setIfInBounds_ne (fun e => hu e.symm)]
    rw [this]; exact h.tm u
/-- all that lay in w lies so in w' -/
def Old (w w' : World) : Prop := ∀ b, b < w.heap.size → w'.heap[b]? = w.heap[b]?
theorem Old.refl (w : World) : Old w w := fun _ _ => rfl
/-- operations that make memory and write none that was there -/
def quietO : Op → Bool
  | .alloc _ | .box .. | .buildSlice .. | .makeSlice .. => true
  | .call { callee := .value _, .. } => true
  | _ => false
/-- operations that make a new variable -/
def newO : Op → Bool
  | .alloc _ | .box .. => true
  | _ => false
/-- only block b changed -/
def Poke (b : Nat) (w w' : World) : Prop := w.heap.size ≤ w'.heap.size ∧ ∀ c, c ≠ b → w'.heap[c]? = w.heap[c]?
/-- what changed -/
structure Chg (qt : Bool) (o : Oper) (a : Act) (w : World) (v : Value) (w' : World) : Prop where
  old : qt = true → quietO o.op = true → Old w w'
  new : newO o.op = true → v = .pointer (some ⟨w.heap.size, 0, none⟩)
  poke : ∀ ty x y, o.op = .store ty x y → ∃ b, Poke b w w' ∧ ∀ b' of s, a.eval x = .pointer (some ⟨b', of, s⟩) → b' = b
theorem Chg.call {qt : Bool} {o : Oper} {a : Act} {w : World} {v : Value} {w' : World} {c : Call} (ho : o.op = .call c) (h : qt = true → quietO o.op = true → Old w w') : Chg qt o a w v w' :=
  ⟨h, fun e => (by rw [ho] at e; cases e), fun ty x y e => (by rw [ho] at e; cases e)⟩
theorem zeroValue_same {P : Program} {ty : TypeId} {w w1 : World} {z : Value} (h : (zeroValue ty).run P w = .ok z w1) : w1 = w := by
  cases hi : P.info? ty with
  | none => simp [zeroValue, typeInfo, hi] at h
  | some i =>
    cases hz : i.zero with
    | none => simp [zeroValue, typeInfo, hi, hz] at h
    | some z => simp [zeroValue, typeInfo, hi, hz] at h; exact h.2.symm
theorem new_run {P : Program} {o : Oper} {ρ : Operand → Value} {w w' : World} {v : Value} (hn : newO o.op = true) (h : (execOp ρ o).run P w = .ok (.value v) w') : v = .pointer (some ⟨w.heap.size, 0, none⟩) := by
  unfold newO at hn
  split at hn
  · rename_i ty ho
    cases hz : (zeroValue ty).run P w with
    | ok z w1 =>
      obtain rfl := zeroValue_same hz
      simp [execOp, ho, Instr.alloc, hz, newVar, newRow] at h
      exact h.1.symm
    | halt x w1 => simp [execOp, ho, Instr.alloc, hz] at h
  · rename_i ty x ho
    simp [execOp, ho, Instr.box, newVar, newRow] at h
    exact h.1.symm
  · cases hn
/-- Behind an operation K holds of the state. -/
def EvO (P : Program) (qt : Bool) (o : Oper) (st : St) (K : St → Prop) : Prop :=
  ∀ β F ι a w, Holds β F ι st a w → ∀ (next : Act → World → Prop) (Q : Exit → Act → World → Prop), (∀ F' ι' st' v w', Chg qt o a w v w' → Holds β F' ι' st' (a.put o.dst v) w' → K st' → next (a.put o.dst v) w') → o.wp P a w next Q
/-- An operation that only reads: it gives what shows d, and gives it again, later, too. -/
def EvS (P : Program) (o : Oper) (st : St) (d : D) (free : Bool) : Prop :=
  ∀ β F ι a w, Holds β F ι st a w → ∃ v, (∀ w', (free = true ∨ Old w w') → (execOp a.eval o).run P w' = .ok (.value v) w') ∧ RV ⟨F, β.B⟩ w ι d v
theorem EvO.val {P : Program} {qt : Bool} {o : Oper} {st : St} {K : St → Prop} {t : Nat} (ht : o.dst = some t) (hn : t < st.n) (st' : St) (hs : st'.n = st.n) (d : D) (hK : K (st'.put t d))
    (h : ∀ β F ι a w, Holds β F ι st a w → ∃ v F' ι' w', (execOp a.eval o).run P w = .ok (.value v) w' ∧ Holds β F' ι' st' a w' ∧ RV ⟨F', β.B⟩ w' ι' d v ∧ (quietO o.op = true → Old w w')) (hst : ∀ ty x y, o.op = .store ty x y → False := by intro _ _ _ e; simp_all) : EvO P qt o st K := by
  intro β F ι a w hh next Q hnext
  obtain ⟨v, F', ι', w', hr, h1, h2, h3⟩ := h β F ι a w hh
  unfold Oper.wp
  rw [hr, Oper.upon_value]
  have := h1.put h2 (t := t) (by rw [hs]; exact hn)
  rw [ht]
  rw [ht] at hnext
  exact hnext _ _ _ v w' ⟨fun _ => h3, fun e => new_run e hr, fun ty x y e => (hst ty x y e).elim⟩ this hK
def blockOf : Value → Nat
  | .pointer (some ad) => ad.block
  | _ => 0
theorem Chg.same {P : Program} {qt : Bool} {o : Oper} {a : Act} {w : World} {v : Value} (hr : (execOp a.eval o).run P w = .ok (.value v) w) : Chg qt o a w v w :=
  ⟨fun _ _ => Old.refl w, fun e => new_run e hr, fun _ x _ _ => ⟨blockOf (a.eval x), ⟨Nat.le_refl _, fun _ _ => rfl⟩, fun b' of s e => by rw [e]; rfl⟩⟩
theorem EvS.toO {P : Program} {qt : Bool} {o : Oper} {st : St} {K : St → Prop} {t : Nat} {d : D} {fr : Bool} (h : EvS P o st d fr) (ht : o.dst = some t) (hn : t < st.n) (hK : K (st.put t d))   : EvO P qt o st K := by
  intro β F ι a w hh next Q hnext
  obtain ⟨v, h1, h2⟩ := h β F ι a w hh
  have hr := h1 w (.inr (Old.refl w))
  unfold Oper.wp
  rw [hr, Oper.upon_value]
  have := hh.put h2 (t := t) hn
  rw [ht]
  rw [ht] at hnext
  exact hnext _ _ _ v w (Chg.same hr) this hK
theorem EvO.unit {P : Program} {qt : Bool} {o : Oper} {st : St} {K : St → Prop} (ht : o.dst = none) (hq : quietO o.op = false) (st' : St) (hK : K st')
    (hnew : newO o.op = false) (h : ∀ β F ι a w, Holds β F ι st a w → ∃ F' ι' w', (execOp a.eval o).run P w = .ok .skip w' ∧ Holds β F' ι' st' a w' ∧ ∀ ty x y, o.op = .store ty x y → ∃ b, Poke b w w' ∧ ∀ b' of s, a.eval x = .pointer (some ⟨b', of, s⟩) → b' = b)   : EvO P qt o st K := by
  intro β F ι a w hh next Q hnext
  obtain ⟨F', ι', w', hr, h1, h2⟩ := h β F ι a w hh
  unfold Oper.wp
  rw [hr, Oper.upon_skip, ht]
  rw [ht] at hnext
  exact hnext _ _ _ undef _ ⟨fun _ h => (by rw [hq] at h; cases h), fun e => (by rw [hnew] at e; cases e), h2⟩ h1 hK
/-! ### What of the types a walk asks -/
def szOf (P : Program) (t : TypeId) : Option Nat := (P.info? t).map (·.size)
def rowT (P : Program) (t : TypeId) : Option Bool := (P.underlying t).map fun | .struct _ => true | .array _ _ => true | _ => false
def fldOf (P : Program) (s : TypeId) (f : Nat) : Option (Nat × Nat) := match P.underlying s with
  | some (.struct fs) => (fs[f]?).bind fun x => (szOf P x.type).map fun k => (x.offset, k)
  | _ => none
def elOf (P : Program) (t : TypeId) : Option (TypeId × Nat) := match P.underlying t with
  | some (.slice e) => (szOf P e).map fun k => (e, k)
  | _ => none
def zeroOf (P : Program) (t : TypeId) : Option (List Value) := (P.info? t).bind fun i => i.zero.map fun z => z.cells.toList
theorem szOf_run {P : Program} {t : TypeId} {k : Nat} (h : szOf P t = some k) (w : World) : (sizeOf t).run P w = .ok k w := by
  unfold szOf at h
  cases hi : P.info? t with
  | none => simp [hi] at h
  | some i => simp [hi] at h; simp [sizeOf, typeInfo, hi, h]
theorem rowT_run {P : Program} {t : TypeId} {b : Bool} (h : rowT P t = some b) (w : World) : (isAgg t).run P w = .ok b w := by
  unfold rowT at h
  cases hu : P.underlying t with
  | none => simp [hu] at h
  | some d =>
    simp only [hu, Option.map_some, Option.some.injEq] at h
    unfold isAgg
    rw [Sem.run_bind, run_underlying hu w]
    cases d <;> simp_all
end Go.Proofs.YtalippdhfkpbmaaDoor
