/- A region whose order is drawn may be walked along a plan (XPlan): the proof, for every region of whatever program. -/
import Derived.Test.YtalippdhfkpbmaaDoorPlan
namespace Go.Proofs.YtalippdhfkpbmaaDoor
open Go.RowKit

section sound
variable {P : Program} {ops : Array Oper} {Q : Exit → Act → World → Prop}

/-- State a is a0, with the values v in the slots of the operations D. -/
structure Rep (ops : Array Oper) (a0 : Act) (v : Nat → Value) (D : Nat → Prop) (a : Act) : Prop where
  size : a.tmps.size = a0.tmps.size
  hit : ∀ i d, D i → dstOf ops i = some d → a.tmps[d]? = if d < a0.tmps.size then some (v i) else none
  miss : ∀ t, (∀ i, D i → dstOf ops i ≠ some t) → a.tmps[t]? = a0.tmps[t]?

def Own (ops : Array Oper) : Prop := ∀ i k d, i < ops.size → k < ops.size → i ≠ k → dstOf ops i = some d → dstOf ops k ≠ some d

theorem dst_lt {i : Nat} {d : Tmp} (h : dstOf ops i = some d) : i < ops.size := by
  unfold dstOf at h
  rcases Nat.lt_or_ge i ops.size with h' | h'
  · exact h'
  · simp [Array.getElem?_eq_none h'] at h

theorem Rep.put {a0 : Act} {v : Nat → Value} {D : Nat → Prop} {a : Act} (hr : Rep ops a0 v D a) (ho : Own ops) {i : Nat} (hi : ¬ D i) (x : Value) (v' : Nat → Value) (hv : v' i = x)
    (hv' : ∀ k, D k → v' k = v k) : Rep ops a0 v' (fun k => k = i ∨ D k) (a.put (dstOf ops i) x) := by
  cases hd : dstOf ops i with
  | none =>
    refine ⟨hr.size, ?_, ?_⟩
    · rintro k d (rfl | hk) hkd
      · rw [hd] at hkd; cases hkd
      · show a.tmps[d]? = _
        rw [hr.hit k d hk hkd, hv' k hk]
    · intro t ht
      exact hr.miss t (fun k hk => ht k (.inr hk))
  | some e =>
    refine ⟨by simp [Act.put, hr.size], ?_, ?_⟩
    · rintro k d (rfl | hk) hkd
      · rw [hd] at hkd; cases hkd
        show (a.tmps.setIfInBounds e x)[e]? = _
        rw [Array.getElem?_setIfInBounds]
        simp [hr.size, hv]
      · have hne : e ≠ d := by
          intro he
          subst he
          by_cases hki : k = i
          · exact hi (hki ▸ hk)
          · exact ho i k e (dst_lt hd) (dst_lt hkd) (fun h => hki h.symm) hd hkd
        show (a.tmps.setIfInBounds e x)[d]? = _
        rw [Array.getElem?_setIfInBounds_ne hne, hr.hit k d hk hkd, hv' k hk]
    · intro t ht
      have hne : e ≠ t := fun he => ht i (.inl rfl) (he ▸ hd)
      show (a.tmps.setIfInBounds e x)[t]? = _
      rw [Array.getElem?_setIfInBounds_ne hne]
      exact hr.miss t (fun k hk => ht k (.inr hk))

theorem Rep.agree {a0 : Act} {v : Nat → Value} {D D' : Nat → Prop} {a a' : Act} (h : Rep ops a0 v D a) (h' : Rep ops a0 v D' a') {t : Tmp}
    (hk : ∀ k, dstOf ops k = some t → (D k ↔ D' k)) : a.tmps[t]? = a'.tmps[t]? := by
  by_cases hx : ∃ k, D k ∧ dstOf ops k = some t
  · obtain ⟨k, hD, hd⟩ := hx
    rw [h.hit k t hD hd, h'.hit k t ((hk k hd).1 hD) hd]
  · rw [h.miss t (fun i hi hd => hx ⟨i, hi, hd⟩), h'.miss t (fun i hi hd => hx ⟨i, (hk i hd).2 hi, hd⟩)]

theorem Rep.mono_v {a0 : Act} {v v' : Nat → Value} {D : Nat → Prop} {a : Act} (h : Rep ops a0 v D a) (hv : ∀ k, D k → v' k = v k) : Rep ops a0 v' D a :=
  ⟨h.size, fun i d hi hd => by rw [h.hit i d hi hd, hv i hi], h.miss⟩

theorem Rep.iff {a0 : Act} {v : Nat → Value} {D D' : Nat → Prop} {a : Act} (h : Rep ops a0 v D a) (hD : ∀ k, D k ↔ D' k) : Rep ops a0 v D' a := by
  have : D = D' := funext fun k => propext (hD k)
  exact this ▸ h

theorem looks_same {o : Oper} (hs : ∀ cs b, o.op ≠ .select cs b) {a a' : Act} (h : ∀ t ∈ o.looksAt ops, a.tmps[t]? = a'.tmps[t]?) :
    execOp a.eval o = execOp a'.eval o ∧ Region.wanted o (yielded ops a.tmps) = Region.wanted o (yielded ops a'.tmps) := by
  constructor
  · refine execOp_congr o hs fun x hx => ?_
    cases x with
    | tmp t =>
      have := h t (List.mem_append_left _ (List.mem_filterMap.2 ⟨.tmp t, by simpa using hx, rfl⟩))
      simp only [Act.eval, Array.getD_eq_getD_getElem?, this]
    | _ => rfl
  · unfold Region.wanted
    cases hg : o.guard with
    | none => rfl
    | some gw =>
      obtain ⟨g, want⟩ := gw
      have hy : yielded ops a.tmps g = yielded ops a'.tmps g := by
        unfold yielded
        cases ht : (ops[g]?).bind (·.dst) with
        | none => rfl
        | some t =>
          have := h t (List.mem_append_right _ (by simp [hg, ht]))
          simp only [Option.bind_some, this]
      simp only [hy]

theorem free_run {o : Oper} (hf : freeOp o.op = true) {ρ : Operand → Value} {w w' : World} {x : Value} (h : (execOp ρ o).run P w = .ok (.value x) w) :
    (execOp ρ o).run P w' = .ok (.value x) w' := by
  obtain ⟨dst, op, type, pos, after, guard⟩ := o
  cases op <;> simp only [freeOp, Bool.false_eq_true] at hf
  case move y => simp only [execOp, Sem.run_pure, Result.ok.injEq, Next.value.injEq] at h ⊢; exact ⟨h.1, trivial⟩
  case assign y => simp only [execOp, Sem.run_pure, Result.ok.injEq, Next.value.injEq] at h ⊢; exact ⟨h.1, trivial⟩
  case pick c y z =>
    simp only [execOp] at h ⊢
    cases hc : ρ c <;> simp [hc, asBool, stuck] at h ⊢
    exact h
  case extract y k =>
    simp only [execOp, Instr.extract] at h ⊢
    cases hy : ρ y <;> simp [hy, stuck] at h ⊢
    rename_i vs
    cases hk : vs[k]? <;> simp [hk] at h ⊢
    exact h

theorem bind_back {α β : Type} {m : Sem α} {k : α → Sem β} {w w' : World} {n : β} {Q : Prop} (hk : ∀ a w1, (k a).run P w1 = .ok n w' → Q) (h : (m >>= k).run P w = .ok n w') : Q := by
  rw [Sem.run_bind] at h
  cases hr : m.run P w with
  | ok x w1 => rw [hr] at h; exact hk _ _ h
  | halt x w1 => rw [hr] at h; simp at h
theorem val_run {o : Oper} (hv : valOp o.op = true) {ρ : Operand → Value} {w w' : World} {n : Next} (h : (execOp ρ o).run P w = .ok n w') :
    (∃ x, n = .value x) ∨ n = .skip := by
  have key : ∀ (s : Sem Value) (n : Next), Sem.run P (do let x ← s; Pure.pure (Next.value x)) w = .ok n w' → (∃ x, n = .value x) ∨ n = .skip := by
    intro s n hs
    simp only [Sem.run_bind, Sem.run_pure] at hs
    cases hr : s.run P w with
    | ok x w1 => rw [hr] at hs; simp at hs; exact .inl ⟨x, hs.1.symm⟩
    | halt x w1 => rw [hr] at hs; simp at hs
  have keyu : ∀ (s : Sem Unit) (n : Next), Sem.run P (do s; Pure.pure Next.skip) w = .ok n w' → (∃ x, n = .value x) ∨ n = .skip := by
    intro s n hs
    simp only [Sem.run_bind, Sem.run_pure] at hs
    cases hr : s.run P w with
    | ok x w1 => rw [hr] at hs; simp at hs; exact .inr hs.1.symm
    | halt x w1 => rw [hr] at hs; simp at hs
  obtain ⟨dst, op, type, pos, after, guard⟩ := o
  cases op <;> simp only [valOp, Bool.false_eq_true] at hv
  case call c =>
    obtain ⟨callee, args, argTypes⟩ := c
    cases callee <;> simp at hv
    rename_i b
    simp only [execOp, resolve, pure_bind, invoke] at h
    cases b <;> simp at hv <;> (simp only [builtin] at h; exact key _ _ h)
  case move => simp only [execOp, Sem.run_pure, Result.ok.injEq] at h; exact .inl ⟨_, h.1.symm⟩
  case assign => simp only [execOp, Sem.run_pure, Result.ok.injEq] at h; exact .inl ⟨_, h.1.symm⟩
  case pick c y z =>
    simp only [execOp, Sem.run_bind, Sem.run_pure] at h
    cases hr : Sem.run P (asBool (ρ c)) w with
    | ok x w1 => rw [hr] at h; simp at h; exact .inl ⟨_, h.1.symm⟩
    | halt x w1 => rw [hr] at h; simp at h
  case nilCheck x =>
    simp only [execOp] at h
    repeat' split at h
    all_goals first
      | (simp only [Sem.run_pure, Result.ok.injEq] at h; exact .inl ⟨_, h.1.symm⟩)
      | (simp [runtimePanic] at h; done)
      | (refine bind_back (fun _ _ h => ?_) h
         refine bind_back (fun _ _ h => ?_) h
         split at h
         · refine bind_back (fun _ _ h => ?_) h
           simp only [Sem.run_pure, Result.ok.injEq] at h; exact .inl ⟨_, h.1.symm⟩
         · simp only [Sem.run_pure, Result.ok.injEq] at h; exact .inl ⟨_, h.1.symm⟩)
  all_goals (simp only [execOp] at h; first | exact key _ _ h | exact keyu _ _ h)

theorem anc_mem {T : List Nat} (hT : ancOk ops T = true) (S : Nat → Prop) (hS : ∀ i o, S i → ops[i]? = some o → ∀ e ∈ o.after, Region.binds .any e = true → S e.on) :
    ∀ (i : Nat) (o : Oper), ops[i]? = some o → (∀ e ∈ o.after, Region.binds .any e = true → S e.on) → ∀ k, k < ops.size → ancB T k i = true → S k := by
  intro i
  induction i using Nat.strongRecOn with
  | _ i ih =>
    intro o ho hd k hk ha
    have hi : i < ops.size := (Array.getElem?_eq_some_iff.1 ho).1
    unfold ancOk at hT
    rw [List.all_eq_true] at hT
    have h1 := hT i (List.mem_range.2 hi)
    rw [List.all_eq_true] at h1
    have h2 := h1 k (List.mem_range.2 hk)
    unfold ancB at ha
    simp only [ha, Bool.not_true, ho, Bool.false_or, List.any_eq_true, Bool.and_eq_true, decide_eq_true_eq, Bool.or_eq_true, beq_iff_eq] at h2
    obtain ⟨e, he, ⟨hb, hlt⟩, h3⟩ := h2
    have he' : e ∈ o.after := Array.mem_toList_iff.1 he
    have hSe := hd e he' hb
    rcases h3 with rfl | h3
    · exact hSe
    · have hes : e.on < ops.size := by omega
      exact ih e.on hlt ops[e.on] (Array.getElem?_eq_getElem hes) (hS e.on _ hSe (Array.getElem?_eq_getElem hes)) k hk h3

theorem countP_lt (p q : Nat → Bool) : ∀ (l : List Nat), (∀ x ∈ l, p x = true → q x = true) → (∃ x ∈ l, q x = true ∧ p x = false) → l.countP p < l.countP q
  | [], _, ⟨_, h, _⟩ => (List.not_mem_nil h).elim
  | y :: l, h, ⟨x, hx, hq, hp⟩ => by
    have hle : l.countP p ≤ l.countP q := List.countP_mono_left (fun z hz => h z (List.mem_cons_of_mem _ hz))
    simp only [List.countP_cons]
    rcases List.mem_cons.1 hx with rfl | hx'
    · simp [hq, hp]; omega
    · have := countP_lt p q l (fun z hz => h z (List.mem_cons_of_mem _ hz)) ⟨x, hx', hq, hp⟩
      have hy := h y (List.mem_cons_self ..)
      cases hpy : p y <;> cases hqy : q y <;> simp_all <;> omega

/-- how many operations are still to come -/
def unl (n : Nat) (S : Array Bool) : Nat := (List.range n).countP fun i => !S.getD i false

theorem unl_set {n : Nat} {S : Array Bool} {i : Nat} (hn : S.size = n) (hi : i < n) (hS : S.getD i false = false) : unl n (S.setIfInBounds i true) < unl n S := by
  unfold unl
  refine countP_lt _ _ _ ?_ ⟨i, List.mem_range.2 hi, by simp [hS], ?_⟩
  · intro x hx h
    by_cases hxi : i = x
    · subst hxi
      simp [hS]
    · rw [getD_set_ne false hxi] at h
      exact h
  · have hi' : i < S.size := hn ▸ hi
    simp [hi']

theorem unl_zero {n : Nat} {S : Array Bool} (h : unl n S = 0) {i : Nat} (hi : i < n) : S.getD i false = true := by
  unfold unl at h
  rw [List.countP_eq_zero] at h
  simpa using h i (List.mem_range.2 hi)

/-- The next act of a plan may be j: behind its reads come. -/
def Alt : Plan → Nat → List Nat → Plan → Prop
  | .eff j pend p, i, q, r => i = j ∧ q = pend ∧ r = p
  | .fork j pend p rest, i, q, r => (i = j ∧ q = pend ∧ r = p) ∨ Alt rest i q r
  | _, _, _, _ => False

theorem alt_wp {a : Act} {w : World} : ∀ {p : Plan} {j : Nat} {pend : List Nat} {r : Plan}, Plan.wp P ops Q p a w → Alt p j pend r →
    ∀ o, ops[j]? = some o → ∀ Q' : Exit → Act → World → Prop, (∀ a' w', pendOk P ops a' w' pend → Plan.wp P ops Q r a' w' → Q' .normal a' w') → wpList P ops Q' [o] a w
  | .last, _, _, _, _, h2 => h2.elim
  | .seg _ _, _, _, _, _, h2 => h2.elim
  | .eff _ _ _, _, _, _, h1, ⟨e1, e2, e3⟩ => by subst e1 e2 e3; exact h1
  | .fork _ _ _ rest, _, _, _, h1, h2 => by
    rcases h2 with ⟨e1, e2, e3⟩ | h2
    · subst e1 e2 e3; exact h1.1
    · exact alt_wp h1.2 h2

theorem alt_ok {T D E : List Nat} : ∀ {p : Plan} {alts : List Nat} {j : Nat} {pend : List Nat} {r : Plan}, Plan.ok ops T D E alts p = true → Alt p j pend r →
    effOk ops T D E j pend = true ∧ Plan.ok ops T (j :: D) (j :: E) [] r = true
  | .last, _, _, _, _, _, h2 => h2.elim
  | .seg _ _, _, _, _, _, _, h2 => h2.elim
  | .eff _ _ _, _, _, _, _, h1, ⟨e1, e2, e3⟩ => by
    subst e1 e2 e3
    simp only [Plan.ok, Bool.and_eq_true] at h1
    exact ⟨h1.1.1, h1.2⟩
  | .fork _ _ _ rest, _, _, _, _, h1, h2 => by
    simp only [Plan.ok, Bool.and_eq_true] at h1
    rcases h2 with ⟨e1, e2, e3⟩ | h2
    · subst e1 e2 e3; exact ⟨h1.1.1.1, h1.1.1.2⟩
    · exact alt_ok h1.2 h2

/-- Whatever is not done, and waits for nothing that is not done, is among the acts that the plan foresees. -/
theorem alt_all {T D E : List Nat} : ∀ {p : Plan} {alts : List Nat}, Plan.ok ops T D E alts p = true → (∀ i q, p ≠ .seg i q) →
    ∀ i, i < ops.size → i ∉ D → i ∈ alts ∨ (∃ pend r, Alt p i pend r) ∨ ∃ k, k < ops.size ∧ k ∉ D ∧ ancB T k i = true
  | .last, alts, h1, _, i, hi, hD => by
    simp only [Plan.ok, Bool.and_eq_true, List.all_eq_true, List.mem_range, List.contains_iff_mem] at h1
    exact absurd (h1.2 i hi) hD
  | .seg i q, _, _, h2, _, _, _ => absurd rfl (h2 i q)
  | .eff j pend p, alts, h1, _, i, hi, hD => by
    simp only [Plan.ok, Bool.and_eq_true, List.all_eq_true, List.mem_range, Bool.or_eq_true, beq_iff_eq, List.contains_iff_mem, List.any_eq_true, Bool.not_eq_true', ← Bool.not_eq_true] at h1
    rcases h1.1.2 i hi with ((rfl | h) | h) | ⟨k, hk, h3, h4⟩
    · exact .inr (.inl ⟨pend, p, rfl, rfl, rfl⟩)
    · exact absurd h hD
    · exact .inl h
    · exact .inr (.inr ⟨k, hk, by simpa using h3, h4⟩)
  | .fork j pend p rest, alts, h1, _, i, hi, hD => by
    simp only [Plan.ok, Bool.and_eq_true] at h1
    have hrest : ∀ i q, rest ≠ .seg i q := by
      intro i q e
      subst e
      simp at h1
    rcases alt_all h1.2 hrest i hi hD with h | ⟨pend', r, h⟩ | h
    · rcases List.mem_cons.1 h with rfl | h
      · exact .inr (.inl ⟨pend, p, .inl ⟨rfl, rfl, rfl⟩⟩)
      · exact .inl h
    · exact .inr (.inl ⟨pend', r, .inr h⟩)
    · exact .inr (.inr h)

/-- What a reading that is still to come is known to give. -/
def Waits (P : Program) (ops : Array Oper) (a0 : Act) (v : Nat → Value) (D : List Nat) (i : Nat) (w : World) : Prop :=
  ∃ (o : Oper) (snap : Act) (Di : Nat → Prop), ops[i]? = some o ∧ Rep ops a0 v Di snap ∧ (∀ k, Di k → k ∈ D) ∧
    (∀ k o', Di k → ops[k]? = some o' → ∀ e ∈ o'.after, Region.binds .any e = true → Di e.on) ∧ ¬ Di i ∧ (∀ e ∈ o.after, Region.binds .any e = true → Di e.on) ∧ YV P ops o snap w (v i)

structure Inv (P : Program) (ops : Array Oper) (a0 : Act) (v : Nat → Value) (S : Array Bool) (D E : List Nat) (aL a' : Act) (w : World) : Prop where
  size : S.size = ops.size
  sub : ∀ i, S.getD i false = true → i ∈ D
  effs : ∀ i ∈ E, S.getD i false = true
  clS : ∀ i o, S.getD i false = true → ops[i]? = some o → ∀ e ∈ o.after, Region.binds .any e = true → S.getD e.on false = true
  clD : ∀ i o, i ∈ D → ops[i]? = some o → ∀ e ∈ o.after, Region.binds .any e = true → e.on ∈ D
  inb : ∀ i ∈ D, i < ops.size
  repL : Rep ops a0 v (· ∈ D) aL
  repS : Rep ops a0 v (fun i => S.getD i false = true) a'
  defs : a'.defers = aL.defers
  pend : ∀ i ∈ D, S.getD i false = false → Waits P ops a0 v D i w

def OnlyN (K : Act → World → Prop) : Exit → Act → World → Prop
  | .normal, a, w => K a w
  | _, _, _ => False

theorem onlyN_lets {K : Act → World → Prop} (h : LetsOut (OnlyN K)) : False := by
  obtain ⟨a, w, h⟩ := h
  exact h

theorem ite_off {S : Array Bool} {i : Nat} (h : S.getD i false ≠ true) : S.getD i false = false := by
  cases hh : S.getD i false
  · rfl
  · exact absurd hh h

theorem set_iff {S : Array Bool} {i k : Nat} (hi : i < S.size) : (S.setIfInBounds i true).getD k false = true ↔ k = i ∨ S.getD k false = true := by
  by_cases hki : i = k
  · subst hki
    simp [hi]
  · rw [getD_set_ne false hki]
    exact ⟨.inr, fun h => h.resolve_left (fun e => hki e.symm)⟩

/-- The step of a reading: what the plan's walk has found. -/
theorem seg_step {o : Oper} {p : Plan} {a : Act} {w : World} (hv : valOp o.op = true)
    (h : ∀ Q' : Exit → Act → World → Prop, (∀ a', Plan.wp P ops Q p a' w → Q' .normal a' w) → wpList P ops Q' [o] a w) :
    ∃ x, YV P ops o a w x ∧ Plan.wp P ops Q p (a.put o.dst x) w := by
  have h1 := h (OnlyN fun a' w' => w' = w ∧ Plan.wp P ops Q p a' w') (fun a' hp => ⟨rfl, hp⟩)
  unfold wpList at h1
  split at h1
  · rename_i hw
    rcases h1 with h1 | ⟨_, h1⟩
    · unfold Oper.wp at h1
      generalize hr : (execOp a.eval o).run P w = r at h1
      cases r with
      | ok n w1 =>
        rcases val_run hv hr with ⟨x, rfl⟩ | rfl
        · obtain ⟨rfl, h2⟩ := (h1 : w1 = w ∧ Plan.wp P ops Q p (a.put o.dst x) w1)
          exact ⟨x, .inl ⟨hw, .inl hr⟩, h2⟩
        · obtain ⟨rfl, h2⟩ := (h1 : w1 = w ∧ Plan.wp P ops Q p (a.put o.dst undef) w1)
          exact ⟨undef, .inl ⟨hw, .inr ⟨hr, rfl⟩⟩, h2⟩
      | halt x w1 => cases x <;> exact (h1 : False).elim
    · exact (onlyN_lets h1).elim
  · rename_i hw
    obtain ⟨_, h2⟩ := (h1 : w = w ∧ Plan.wp P ops Q p (a.put o.dst undef) w)
    exact ⟨undef, .inr ⟨by simpa using hw, rfl⟩, h2⟩

theorem free_noskip {o : Oper} (hf : freeOp o.op = true) {ρ : Operand → Value} {w : World} (h : (execOp ρ o).run P w = .ok .skip w) : False := by
  obtain ⟨dst, op, type, pos, after, guard⟩ := o
  cases op <;> simp only [freeOp, Bool.false_eq_true] at hf
  case move y => simp [execOp] at h
  case assign y => simp [execOp] at h
  case pick c y z =>
    simp only [execOp] at h
    cases hc : ρ c <;> simp [hc, asBool, stuck] at h
  case extract y k =>
    simp only [execOp, Instr.extract] at h
    cases hy : ρ y <;> simp [hy, stuck] at h
    rename_i vs
    cases hk : vs[k]? <;> simp [hk] at h

theorem reads_spec {T : List Nat} (h : readsOk ops T = true) {i : Nat} {o : Oper} (ho : ops[i]? = some o) {t : Tmp} (ht : t ∈ o.looksAt ops) {k : Nat} (hk : dstOf ops k = some t) :
    k = i ∨ ancB T k i = true ∨ ancB T i k = true := by
  unfold readsOk at h
  rw [List.all_eq_true] at h
  have h1 := h i (List.mem_range.2 (Array.getElem?_eq_some_iff.1 ho).1)
  simp only [ho, List.all_eq_true, List.mem_range] at h1
  have h2 := h1 t ht k (dst_lt hk)
  simp only [Bool.or_eq_true, beq_iff_eq, bne_iff_ne, ne_eq, hk, not_true, or_false] at h2
  rcases h2 with (h2 | h2) | h2
  · exact .inl h2
  · exact .inr (.inl h2)
  · exact .inr (.inr h2)

/-- Two states that have done all that i waits for, and not i, look alike to i. -/
theorem agree_at {T : List Nat} {a0 : Act} {v : Nat → Value} (hT : ancOk ops T = true) (hR : readsOk ops T = true) {A B : Nat → Prop} {a b : Act} (ha : Rep ops a0 v A a) (hb : Rep ops a0 v B b)
    (cA : ∀ k o', A k → ops[k]? = some o' → ∀ e ∈ o'.after, Region.binds .any e = true → A e.on)
    (cB : ∀ k o', B k → ops[k]? = some o' → ∀ e ∈ o'.after, Region.binds .any e = true → B e.on)
    {i : Nat} {o : Oper} (ho : ops[i]? = some o) (nA : ¬ A i) (nB : ¬ B i)
    (dA : ∀ e ∈ o.after, Region.binds .any e = true → A e.on) (dB : ∀ e ∈ o.after, Region.binds .any e = true → B e.on) :
    ∀ t ∈ o.looksAt ops, a.tmps[t]? = b.tmps[t]? := by
  intro t ht
  refine ha.agree hb (fun k hk => ?_)
  have hi := (Array.getElem?_eq_some_iff.1 ho).1
  have hkl := dst_lt hk
  rcases reads_spec hR ho ht hk with rfl | h | h
  · exact ⟨fun h => absurd h nA, fun h => absurd h nB⟩
  · exact ⟨fun _ => anc_mem hT B cB i o ho dB k hkl h, fun _ => anc_mem hT A cA i o ho dA k hkl h⟩
  · have ho' : ops[k]? = some ops[k] := Array.getElem?_eq_getElem hkl
    exact ⟨fun hA => absurd (anc_mem hT A cA k _ ho' (cA k _ hA ho') i hi h) nA, fun hB => absurd (anc_mem hT B cB k _ ho' (cB k _ hB ho') i hi h) nB⟩

theorem YV.wpOp {i : Nat} {o : Oper} {x : Value} {a : Act} {w : World} (hi : ops[i]? = some o) (hy : YV P ops o a w x) {K : Act → World → Prop} (h : K (a.put o.dst x) w) : wpOp P ops Q i K a w := by
  unfold Go.wpOp
  simp only [hi]
  rcases hy with ⟨hw, hv | ⟨hv, rfl⟩⟩ | ⟨hw, rfl⟩
  · simp only [hw, if_true, Oper.wp, hv, Oper.upon]; exact .inl h
  · simp only [hw, if_true, Oper.wp, hv, Oper.upon]; exact .inl h
  · simp only [hw, Bool.false_eq_true, if_false]; exact h

theorem YV.same {o : Oper} {x : Value} {a b : Act} {w : World} (hs : ∀ cs b, o.op ≠ .select cs b) (h : ∀ t ∈ o.looksAt ops, a.tmps[t]? = b.tmps[t]?) (hy : YV P ops o a w x) : YV P ops o b w x := by
  obtain ⟨h1, h2⟩ := looks_same hs h
  unfold YV at *
  rw [← h1, ← h2]
  exact hy

theorem plain_noselect {o : Oper} (h : plainOp o.op = true) : ∀ cs b, o.op ≠ .select cs b := by
  intro cs b e
  rw [e] at h
  cases h

structure Fit (ops : Array Oper) (T : List Nat) : Prop where
  anc : ancOk ops T = true
  own : Own ops
  reads : readsOk ops T = true
  back : ∀ i o, ops[i]? = some o → (∀ e ∈ o.after, Region.binds .any e = true → e.on < i) ∧ plainOp o.op = true

theorem fit_of {T : List Nat} (h1 : ancOk ops T = true) (h2 : ownOk ops = true) (h3 : readsOk ops T = true) (h4 : backOk ops = true) : Fit ops T := by
  refine ⟨h1, ?_, h3, ?_⟩
  · intro i k d hi hk hik hd
    unfold ownOk at h2
    rw [List.all_eq_true] at h2
    have h5 := h2 i (List.mem_range.2 hi)
    rw [List.all_eq_true] at h5
    have h6 := h5 k (List.mem_range.2 hk)
    simpa [hd, hik] using h6
  · intro i o ho
    unfold backOk at h4
    rw [List.all_eq_true] at h4
    have h5 := h4 i (List.mem_range.2 (Array.getElem?_eq_some_iff.1 ho).1)
    simp only [ho, Bool.and_eq_true, List.all_eq_true, Bool.or_eq_true, Bool.not_eq_true', decide_eq_true_eq] at h5
    refine ⟨fun e he hb => ?_, h5.2⟩
    rcases h5.1 e (Array.mem_toList_iff.2 he) with h | h
    · rw [hb] at h; cases h
    · exact h

theorem all_of_ready {T : List Nat} (hF : Fit ops T) {S : Array Bool} (hn : S.size = ops.size) (hr : Region.ready .any ops S = []) : ∀ i, i < ops.size → S.getD i false = true := by
  intro i
  induction i using Nat.strongRecOn with
  | _ i ih =>
    intro hi
    apply Classical.byContradiction
    intro hS
    have ho : ops[i]? = some ops[i] := Array.getElem?_eq_getElem hi
    have : i ∈ Region.ready .any ops S := by
      rw [mem_ready]
      refine ⟨?_, _, ho, fun e he hb => ?_⟩
      · have hi' : i < S.size := hn ▸ hi
        have := ite_off hS
        simpa [hi'] using this
      · have hlt := (hF.back i _ ho).1 e he hb
        exact ih e.on hlt (by omega)
    rw [hr] at this
    cases this

theorem Inv.done {a0 : Act} {v : Nat → Value} {S : Array Bool} {D E : List Nat} {aL a' : Act} {w : World} (h : Inv P ops a0 v S D E aL a' w) (hall : ∀ i, i < ops.size → S.getD i false = true) : a' = aL := by
  have hsets : ∀ k, S.getD k false = true ↔ k ∈ D := fun k => ⟨h.sub k, fun hk => hall k (h.inb k hk)⟩
  have ht : a'.tmps = aL.tmps := by
    apply Array.ext_getElem?
    intro t
    exact h.repS.agree h.repL (fun k _ => hsets k)
  cases a'
  cases aL
  simp only at ht
  have := h.defs
  simp only at this
  rw [ht, this]

theorem last_of_all {a0 : Act} {v : Nat → Value} {S : Array Bool} {D E : List Nat} {aL a' : Act} {w : World} {T : List Nat} {p : Plan} (h : Inv P ops a0 v S D E aL a' w)
    (hall : ∀ i, i < ops.size → S.getD i false = true) (hp : Plan.ok ops T D E [] p = true) (hns : ∀ i q, p ≠ .seg i q) (hwp : Plan.wp P ops Q p aL w) : Q .normal a' w := by
  have bad : ∀ j pend, effOk ops T D E j pend = true → False := by
    intro j pend he
    unfold effOk at he
    simp only [Bool.and_eq_true, Bool.not_eq_true', ← Bool.not_eq_true, List.contains_iff_mem] at he
    cases ho : ops[j]? with
    | none => simp [ho] at he
    | some o =>
      have hj := (Array.getElem?_eq_some_iff.1 ho).1
      exact he.1.1 (h.sub j (hall j hj))
  cases p with
  | last => rw [h.done hall]; exact hwp
  | seg i q => exact absurd rfl (hns i q)
  | eff j pend q =>
    simp only [Plan.ok, Bool.and_eq_true] at hp
    exact (bad _ _ hp.1.1).elim
  | fork j pend q r =>
    simp only [Plan.ok, Bool.and_eq_true] at hp
    exact (bad _ _ hp.1.1.1).elim

theorem Waits.mono {a0 : Act} {v v' : Nat → Value} {D D' : List Nat} {i : Nat} {w : World} (h : Waits P ops a0 v D i w) (hD : ∀ k ∈ D, k ∈ D') (hi : v' i = v i) (hv : ∀ k ∈ D, v' k = v k) : Waits P ops a0 v' D' i w := by
  obtain ⟨o, snap, Di, h1, h2, h3, h4, h5, h6, h7⟩ := h
  exact ⟨o, snap, Di, h1, h2.mono_v (fun k hk => hv k (h3 k hk)), fun k hk => hD k (h3 k hk), h4, h5, h6, by rw [hi]; exact h7⟩

end sound
end Go.Proofs.YtalippdhfkpbmaaDoor
