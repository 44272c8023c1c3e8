/- Rules: closures, slices of slices, parts, literals, new rows. -/
import Derived.Test.YtalippdhfkpbmaaDoorEvO
namespace Go.Proofs.YtalippdhfkpbmaaDoor
open Go.RowKit Go
/-! ### A block that nobody writes any more -/
def C.frz (n : Nat) (e : List Dt) : C → C
  | .ptr m k i o => if m = n ∧ i = 0 then .d (.at_ true (e.drop o)) else .ptr m k i o
  | c => c
def D.frz (n : Nat) (e : List Dt) : D → D
  | .one c => .one (c.frz n e)
  | d => d
def frzT (n : Nat) (e : List Dt) : List (Nat × D) → List (Nat × D)
  | [] => []
  | (t, d) :: l => (t, d.frz n e) :: frzT n e l
theorem lk_frzT (n : Nat) (e : List Dt) (u : Nat) : ∀ l, lk (frzT n e l) u = (lk l u).frz n e
  | [] => rfl
  | (t, d) :: l => by
    simp only [frzT, lk]
    by_cases h : u = t
    · simp [h]
    · simp [h, lk_frzT n e u l]
def St.frz (st : St) (n : Nat) : St := match st.H n with
  | some x => match x.es with
    | [e] => if (e.all C.isD) = true then ⟨st.n, frzT n (e.map C.dt) st.tm, st.H.set n none, st.nx⟩ else st
    | _ => st
  | none => st
theorem Wk.frz (st : St) (n : Nat) : Wk st (st.frz n) := fun β F ι a w h => by
  unfold St.frz
  split
  · rename_i x hx
    split
    · rename_i e he
      split
      · rename_i hall
        obtain ⟨b, cap, p1, p2, p3, p4⟩ := h.heap.blk n x hx
        rw [he] at p2 p3 p4
        have hc : 0 < cap := by simp at p2; omega
        obtain ⟨arr, r1, r2, r3, r4⟩ := p4 hc
        obtain ⟨o1, o2, o3⟩ := h.heap.own n b cap (by rw [hx]; simp) p1 hc
        have hk : e.length = x.k := p3 e (by simp)
        let F' : Nat → Prop := fun q => F q ∨ q = b
        have hle : Env.le ⟨F, β.B⟩ ⟨F', β.B⟩ w w := ⟨fun _ h => .inl h, fun _ h => h, fun _ _ => rfl, fun _ _ => rfl⟩
        have hd := h.heap.drop n
        have hset : ∀ m, st.H.set n none m ≠ none → m ≠ n ∧ st.H m ≠ none := fun m hm => by
          by_cases e : m = n
          · subst e; simp at hm
          · exact ⟨e, by rwa [Hp.set_ne _ _ e] at hm⟩
        refine ⟨F', ι, h.good, h.defers, h.size, fun t => ?_, ⟨h.heap.size, h.heap.keep, fun q hq => ?_, fun q hq => ?_, fun q hq => .inl (h.heap.F0 q hq), fun m y hm => (hd.blk m y hm).keep hle (Nms.le_refl _) fun _ _ _ _ => rfl,
          fun m q c hm hq hc' => ?_, hd.inj, h.heap.nx, h.heap.nm, h.heap.io⟩⟩
        · simp only [lk_frzT]
          have ht := (h.tm t).keep hle (Nms.le_refl ι)
          cases hl : lk st.tm t with
          | one c =>
            rw [hl] at ht
            cases c with
            | ptr m k i o =>
              simp only [D.frz, C.frz]
              split
              · rename_i hmi
                obtain ⟨rfl, rfl⟩ := hmi
                rw [RV] at ht ⊢
                obtain ⟨b', cap', q1, q2, q3⟩ := ht
                rw [p1] at q1
                simp only [Option.some.injEq, Prod.mk.injEq] at q1
                obtain ⟨rfl, rfl⟩ := q1
                rw [q3, Nat.zero_mul, Nat.zero_add]
                have hcell : ∀ (j : Nat) c, ((e.map C.dt).drop o)[j]? = some c → arr[o + j]? = some (arr.getD (o + j) undef) ∧ RD ⟨F', noB⟩ w c (arr.getD (o + j) undef) := fun j c hj => by
                  rw [List.getElem?_drop, List.getElem?_map] at hj
                  cases hq : e[o + j]? with
                  | none => simp [hq] at hj
                  | some c' =>
                    simp only [hq, Option.map_some, Option.some.injEq] at hj
                    subst hj
                    obtain ⟨v, g1, g2⟩ := r4 0 (o + j) c' (by simp [nth2, hq])
                    rw [Nat.zero_mul, Nat.zero_add] at g1
                    have e2 : arr.getD (o + j) undef = v := by simp [Array.getD_eq_getD_getElem?, g1]
                    rw [e2]
                    exact ⟨g1, (g2.keep hle (Nms.le_refl ι)).dtSolid (all_isD hall hq)⟩
                exact RD.at_ (fun j => arr.getD (o + j) undef) (.inl (.inr rfl)) (fun j c hj => r1.cell (hcell j c hj).1) (fun j c hj => (hcell j c hj).2)
              · exact ht
            | _ => exact ht
          | _ => rw [hl] at ht; exact ht
        · rcases hq with hq | rfl
          · exact h.heap.Flt q hq
          · exact o1
        · rcases hq with hq | rfl
          · exact h.heap.Fof q hq
          · exact .inr o3
        · obtain ⟨g1, g2⟩ := hset m hm
          obtain ⟨s1, s2, s3⟩ := h.heap.own m q c g2 hq hc'
          refine ⟨s1, fun hF => ?_, s3⟩
          rcases hF with hF | rfl
          · exact s2 hF
          · exact g1 (h.heap.inj m n q c cap g2 (by rw [hx]; simp) hq p1 hc' hc)
      · exact ⟨F, ι, h⟩
    · exact ⟨F, ι, h⟩
  · exact ⟨F, ι, h⟩
def ptrOf : D → List Nat
  | .one (.ptr n _ _ _) => [n]
  | _ => []
/-- those that are caught are written no more -/
def St.frzs (st : St) : List Nat → St
  | [] => st
  | n :: l => (st.frz n).frzs l
theorem Wk.frzs : ∀ (l : List Nat) (st : St), Wk st (st.frzs l)
  | [], st => Wk.refl st
  | n :: l, st => (Wk.frz st n).trans (Wk.frzs l _)
theorem frz_n (st : St) (n : Nat) : (st.frz n).n = st.n := by
  unfold St.frz
  repeat' split
  all_goals rfl
theorem frzs_n : ∀ (l : List Nat) (st : St), (st.frzs l).n = st.n
  | [], _ => rfl
  | n :: l, st => by rw [St.frzs, frzs_n l, frz_n]
def dsOf (st : St) : List Operand → Option (List Dt)
  | [] => some []
  | x :: xs => match ev st x with
    | .one (.d y) => (dsOf st xs).map fun l => y :: l
    | _ => none
theorem dsOf_ok {β : Base} {F : Nat → Prop} {ι : Nms} {st : St} {a : Act} {w : World} (h : Holds β F ι st a w) : ∀ {xs : List Operand} {ds : List Dt}, dsOf st xs = some ds → ds.length = xs.length ∧ ∀ (j : Nat) c x, ds[j]? = some c → (xs.map a.eval)[j]? = some x → RD ⟨F, β.B⟩ w c x
  | [], ds, hd => by simp only [dsOf, Option.some.injEq] at hd; subst hd; exact ⟨rfl, fun j c x hc => by simp at hc⟩
  | x :: xs, ds, hd => by
    unfold dsOf at hd
    split at hd
    · rename_i y hy
      cases h2 : dsOf st xs with
      | none => simp [h2] at hd
      | some l =>
        simp only [h2, Option.map_some, Option.some.injEq] at hd
        subst hd
        obtain ⟨g1, g2⟩ := dsOf_ok h h2
        refine ⟨by simp [g1], fun j c x' hc hx => ?_⟩
        cases j with
        | zero =>
          simp only [List.getElem?_cons_zero, Option.some.injEq, List.map_cons] at hc hx
          subst hc hx
          have := h.ev x
          rw [hy, RV] at this
          exact this
        | succ j => exact g2 j c x' (by simpa using hc) (by simpa using hx)
    · cases hd
section
variable {P : Program} {qt : Bool} {o : Oper} {st : St} {K : St → Prop} {t : Nat}
theorem EvO.weak {st' : St} (h : EvO P qt o st' K) (hw : Wk st st') : EvO P qt o st K := fun β F ι a w hh next Q hn => by
  obtain ⟨F', ι', h'⟩ := hw β F ι a w hh
  exact h β F' ι' a w h' next Q hn
theorem ev_makeFunc {fn : Fn} {xs ys : Array Operand} {fs cs : List Dt} (ho : o.op = .makeFunc fn xs ys) (hx : dsOf st xs.toList = some fs) (hy : dsOf st ys.toList = some cs) : EvS P o st (.one (.d (.fn fn fs cs))) true := fun β F ι a w h => by
    obtain ⟨l1, h1⟩ := dsOf_ok h hx
    obtain ⟨l2, h2⟩ := dsOf_ok h hy
    refine ⟨.func fn (xs.map a.eval) (ys.map a.eval), fun w' _ => by simp [execOp, ho, Instr.makeFunc], ?_⟩
    rw [RV]
    exact .fn (by simpa using l1.symm) (by simpa using l2.symm) (fun j c x hc hx => h1 j c x hc (by simpa using hx)) (fun j c x hc hx => h2 j c x hc (by simpa using hx))
/-- what a part of a slice shows -/
def subC : C → Nat → Nat → Option C
  | .d (.sl S es), lo, hi => some (.d (.sl S ((es.take hi).drop lo)))
  | .d .emp, lo, hi => if lo = 0 ∧ hi = 0 then some (.d .emp) else none
  | .own n k _, lo, hi => if lo = 0 then some (.own n k hi) else none
  | _, _, _ => none
def optInt (st : St) : Option Operand → Int → Option Int
  | none, n => some n
  | some x, _ => intOf? (ev st x)
theorem RC.sub {E : Env} {w : World} {ι : Nms} {c c' : C} {lo hi l z : Nat} {v : Value} (h : RC E w ι c v) (hl : lenOf? (.one c) = some l) (h1 : lo ≤ hi) (h2 : hi ≤ l) (hs : subC c lo hi = some c') (hz : ∀ S es, c = .d (.sl S es) → ∀ e ∈ es, e.length = z) :
    ∃ A cap, v = .slice A l cap ∧ l ≤ cap ∧ RC E w ι c' (.slice (if cap = lo then A else A.map (·.add (lo * z))) (hi - lo) (cap - lo)) := by
  cases c with
  | d x =>
    cases x with
    | sl S es =>
      simp only [lenOf?, Option.some.injEq] at hl
      subst hl
      simp only [subC, Option.some.injEq] at hs
      subst hs
      cases h with
      | sl X g1 g2 hk g3 g4 g5 =>
        rename_i A cap k
        refine ⟨A, cap, rfl, g1, ?_⟩
        have hlen : ((es.take hi).drop lo).length = hi - lo := by simp; omega
        have hn2 : ∀ i j c, nth2 ((es.take hi).drop lo) i j = some c → nth2 es (lo + i) j = some c := fun i j c hc => by
          unfold nth2 at hc ⊢
          rw [List.getElem?_drop, List.getElem?_take] at hc
          split at hc
          · exact hc
          · simp at hc
        show RD E w _ _
        rw [show hi - lo = ((es.take hi).drop lo).length from hlen.symm]
        refine RD.sl (k := k) (fun i j => X (lo + i) j) (by rw [hlen]; omega) (by omega) (fun e he => hk e (List.mem_of_mem_take (List.mem_of_mem_drop he))) (fun hA => ?_) (fun h0 => ?_) (fun i j c hc => g5 _ j c (hn2 i j c hc))
        · split at hA
          · rename_i he; omega
          · cases A with
            | none => have := g3 rfl; omega
            | some a => simp at hA
        · rw [hlen] at h0
          obtain ⟨b, o, rfl, hok, hc⟩ := g4 (by omega)
          have hne : ¬ cap = lo := by omega
          rw [if_neg hne]
          cases hes : es with
          | nil => subst hes; simp at h2; omega
          | cons e0 es' =>
            have hzk : z = k := by rw [← hz S es rfl e0 (by rw [hes]; simp), hk e0 (by rw [hes]; simp)]
            refine ⟨b, o + lo * z, by simp [Addr.add_mid], hok, fun i j c hj => ?_⟩
            have := hc (lo + i) j c (by rw [← hes] at hj; exact hn2 i j c hj)
            rw [hzk, ← this]
            congr 2
            rw [Nat.add_mul]; omega
    | emp =>
      simp only [lenOf?, Option.some.injEq] at hl
      subst hl
      obtain rfl : hi = 0 := by omega
      obtain rfl : lo = 0 := by omega
      simp only [subC, and_self, if_true, Option.some.injEq] at hs
      subst hs
      cases h with
      | emp => exact ⟨_, 0, rfl, Nat.le_refl _, .emp⟩
    | _ => cases hl
  | own n k m =>
    simp only [lenOf?, Option.some.injEq] at hl
    subst hl
    simp only [subC] at hs
    split at hs
    · rename_i h0
      subst h0
      simp only [Option.some.injEq] at hs
      subst hs
      obtain ⟨b, cap, p1, p2, p3, p4⟩ := h
      rcases p4 with ⟨q1, A, rfl⟩ | ⟨q1, rfl⟩
      · subst q1
        obtain rfl : m = 0 := Nat.le_zero.1 p2
        obtain rfl : hi = 0 := by omega
        exact ⟨A, 0, rfl, Nat.le_refl _, b, 0, p1, Nat.le_refl _, p3, .inl ⟨rfl, _, rfl⟩⟩
      · refine ⟨_, cap, rfl, p2, b, cap, p1, by omega, p3, .inr ⟨q1, ?_⟩⟩
        simp [Addr.add_mid]
    · cases hs
  | _ => cases hl
theorem ev_slice {ty e : TypeId} {z : Nat} {x : Operand} {lo hi : Option Operand} {c c' : C} {l : Nat} {i j : Int} (ho : o.op = .slice ty x lo hi none) (hx : ev st x = .one c) (he : elOf P ty = some (e, z)) (hl : lenOf? (.one c) = some l) (hlo : optInt st lo 0 = some i) (hhi : optInt st hi l = some j)
    (h0 : 0 ≤ i) (h1 : i ≤ j) (h2 : j ≤ l) (hz : ∀ S es, c = .d (.sl S es) → ∀ e ∈ es, e.length = z) (hs : subC c i.toNat j.toNat = some c') : EvS P o st (.one c') true := fun β F ι a w h => by
    have hv := h.ev x
    rw [hx, RV] at hv
    obtain ⟨A, cap, hv, hcap, hr⟩ := RC.sub hv hl (by omega) (by omega) hs hz
    obtain ⟨hu, hsz⟩ := elOf_run he
    refine ⟨_, fun w' _ => ?_, by rw [RV]; exact hr⟩
    have hb : ∀ (y : Operand) (n : Int), intOf? (ev st y) = some n → ∃ k, a.eval y = .int k n := fun y n hy => intOf_ok h hy
    have key : (Instr.slice ty (a.eval x) (lo.map a.eval) (hi.map a.eval) none).run P w' = .ok (.slice (if cap = i.toNat then A else A.map (·.add (i.toNat * z))) (j.toNat - i.toNat) (cap - i.toNat)) w' := by
      rw [hv]
      cases hi with
      | none =>
        simp only [optInt, Option.some.injEq] at hhi
        subst hhi
        cases lo with
        | none =>
          simp only [optInt, Option.some.injEq] at hlo
          subst hlo
          simp [Instr.slice, run_underlying hu, Instr.sliceBounds, szOf_run hsz]
        | some y =>
          obtain ⟨k, hk⟩ := hb y i hlo
          simp [Instr.slice, run_underlying hu, Instr.sliceBounds, Instr.sliceBound, asIntOf, szOf_run hsz, hk, h0, h1]
      | some u =>
        obtain ⟨k, hk⟩ := hb u j hhi
        have hj0 : 0 ≤ j := by omega
        have hjc : j ≤ cap := by omega
        cases lo with
        | none =>
          simp only [optInt, Option.some.injEq] at hlo
          subst hlo
          simp [Instr.slice, run_underlying hu, Instr.sliceBounds, Instr.sliceBound, asIntOf, szOf_run hsz, hk, hj0, hjc]
        | some y =>
          obtain ⟨k', hk'⟩ := hb y i hlo
          have : i ≤ (j.toNat : Int) := by omega
          have hmx : ¬ max j 0 < i := by omega
          simp [hmx, Instr.slice, run_underlying hu, Instr.sliceBounds, Instr.sliceBound, asIntOf, szOf_run hsz, hk, hk', hj0, hjc, h0, this]
    have hsa : (Instr.sliceAt ty (a.eval x) (lo.map a.eval) (hi.map a.eval) none).run P w' = .ok (.slice (if cap = i.toNat then A else A.map (·.add (i.toNat * z))) (j.toNat - i.toNat) (cap - i.toNat)) w' := by
      simp only [Instr.sliceAt, Sem.run_bind, run_underlying hu, Result.andThen]
      exact key
    simp [execOp, ho, hsa]
end
end Go.Proofs.YtalippdhfkpbmaaDoor
