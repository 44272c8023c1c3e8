/- A function's contract out of its body. -/
import Derived.Test.YtalippdhfkpbmaaDoorEvK
namespace Go.Proofs.YtalippdhfkpbmaaDoor
open Go.RowKit Go
theorem resD_ok {P : Program} {β : Base} {F : Nat → Prop} {ι : Nms} {st : St} {a : Act} {w : World} (h : Holds β F ι st a w) {r : ResultVar} {d : D} (hr : resD P st r = some d) :
    ∃ v, (match r with | .tmp t => (pure (a.tmps.getD t undef) : Sem Value) | .cell x t => (do loadVar t (← asAddr (a.tmps.getD x undef)))).run P w = .ok v w ∧ RV ⟨F, β.B⟩ w ι d v := by
  cases r with
  | tmp t =>
    simp only [resD, Option.some.injEq] at hr
    subst hr
    exact ⟨_, rfl, h.tm t⟩
  | cell t ty =>
    simp only [resD] at hr
    cases hrd : rd st (.tmp t) with
    | none => simp [hrd] at hr
    | some cs =>
      cases hrow : rowT P ty with
      | none => simp [hrd, hrow] at hr
      | some b =>
        obtain ⟨bb, off, he, vs, h1, h2⟩ := rd_ok h hrd
        have he' : a.tmps.getD t undef = .pointer (some ⟨bb, off, none⟩) := he
        simp only [hrd, hrow, Option.bind_some] at hr
        cases b with
        | true =>
          simp only [if_true] at hr
          cases hk : szOf P ty with
          | none => simp [hk] at hr
          | some k =>
            simp only [hk, Option.bind_some] at hr
            split at hr
            · rename_i hl
              simp only [Option.some.injEq] at hr
              subst hr
              have h3 := h1.take k
              have hlen := h3.len
              have hvl : (vs.take k).length = k := by rw [hlen, List.length_take]; omega
              have hc := run_loadCells_list (P := P) w ⟨bb, off, none⟩ (vs.take k) (fun j v hj => by
                rw [Addr.add_mid]
                rw [List.getElem?_take] at hj
                split at hj
                · exact h2 j v hj
                · simp at hj)
              rw [hvl] at hc
              refine ⟨.agg (vs.take k).toArray, ?_, by rw [RV]; exact ⟨_, rfl, by simpa using h3⟩⟩
              simp [he', asAddr, loadVar, rowT_run hrow, szOf_run hk, hc]
            · cases hr
        | false =>
          simp only [Bool.false_eq_true, if_false] at hr
          cases cs with
          | nil => cases hr
          | cons c cs =>
            simp only [List.head?_cons, Option.map_some, Option.some.injEq] at hr
            subst hr
            obtain ⟨v, hv, hc⟩ := h1.get (j := 0) (c := c) rfl
            have := h2 0 v hv
            refine ⟨v, ?_, by rw [RV]; exact hc⟩
            simp [he', asAddr, loadVar, rowT_run hrow, load, Sem.run, World.cell?] at this ⊢
            simp [this]
def resRun (a : Act) : ResultVar → Sem Value
  | .tmp t => pure (a.tmps.getD t undef)
  | .cell x t => do loadVar t (← asAddr (a.tmps.getD x undef))
theorem resDs_ok {P : Program} {β : Base} {F : Nat → Prop} {ι : Nms} {st : St} {a : Act} {w : World} (h : Holds β F ι st a w) : ∀ {rs : List ResultVar} {ds : List D}, resDs P st rs = some ds →
    ∃ vs : List Value, (rs.mapM (resRun a)).run P w = .ok vs w ∧ RVs ⟨F, β.B⟩ w ι ds vs
  | [], ds, hr => by
    simp only [resDs, Option.some.injEq] at hr
    subst hr
    exact ⟨[], rfl, by rw [RVs]; trivial⟩
  | r :: rs, ds, hr => by
    simp only [resDs] at hr
    cases h1 : resD P st r with
    | none => simp [h1] at hr
    | some d =>
      cases h2 : resDs P st rs with
      | none => simp [h1, h2] at hr
      | some l =>
        simp only [h1, h2, Option.bind_some, Option.map_some, Option.some.injEq] at hr
        subst hr
        obtain ⟨v, g1, g2⟩ := resD_ok h h1
        obtain ⟨vs, g3, g4⟩ := resDs_ok h h2
        refine ⟨v :: vs, ?_, by rw [RVs]; exact ⟨g2, g4⟩⟩
        have g1' : (resRun a r).run P w = .ok v w := by
          cases r <;> exact g1
        simp [List.mapM_cons, g1', g3]
theorem results_ok {P : Program} {β : Base} {F : Nat → Prop} {ι : Nms} {st : St} {a : Act} {w : World} (h : Holds β F ι st a w) {fn : Func} {ds : List D} (hr : resDs P st fn.results.toList = some ds) :
    ∃ v, (results fn a.tmps).run P w = .ok v w ∧ RV ⟨F, β.B⟩ w ι (resT ds) v := by
  obtain ⟨vs, g1, g2⟩ := resDs_ok h hr
  have hm : (fn.results.mapM (resRun a)).run P w = .ok vs.toArray w := by
    rw [Array.mapM_eq_mapM_toList, Sem.run_map, g1]
    rfl
  have hres : (results fn a.tmps).run P w = .ok (if h : vs.toArray.size = 1 then vs.toArray[0] else .tuple vs.toArray) w := by
    have e : results fn a.tmps = (fn.results.mapM (resRun a) >>= fun vs => pure (if h : vs.size = 1 then vs[0] else .tuple vs)) := by
      unfold results
      congr 2
    rw [e, Sem.run_bind, hm]
    rfl
  refine ⟨_, hres, ?_⟩
  cases ds with
  | nil =>
    cases vs with
    | nil => rw [dif_neg (by simp)]; unfold resT; rw [RV]; exact ⟨#[], rfl, by rw [RVs]; trivial⟩
    | cons v vs => simp [RVs] at g2
  | cons d ds =>
    cases vs with
    | nil => simp [RVs] at g2
    | cons v vs =>
      rw [RVs] at g2
      cases ds with
      | nil =>
        cases vs with
        | nil => rw [dif_pos (by simp)]; simpa [resT] using g2.1
        | cons _ _ => simp [RVs] at g2
      | cons d2 ds =>
        cases vs with
        | nil => simp [RVs] at g2
        | cons v2 vs =>
          rw [dif_neg (by simp)]
          show RV _ _ _ (.tup (d :: d2 :: ds)) _
          rw [RV]
          refine ⟨_, rfl, ?_⟩
          rw [RVs]
          exact g2
theorem blks_ok {H : Hp} : ∀ {ns : List Nat} {fr : List Blk}, blks H ns = some fr → fr.length = ns.length ∧ ∀ (i : Nat) x, fr[i]? = some x → ∃ n, ns[i]? = some n ∧ H n = some x ∧ (x.es.all fun e => e.all C.isD) = true
  | [], fr, h => by simp only [blks, Option.some.injEq] at h; subst h; exact ⟨rfl, fun i x hx => by simp at hx⟩
  | n :: ns, fr, h => by
    simp only [blks] at h
    cases h1 : H n with
    | none => simp [h1] at h
    | some x =>
      simp only [h1, Option.bind_some] at h
      split at h
      · rename_i hall
        cases h2 : blks H ns with
        | none => simp [h2] at h
        | some l =>
          simp only [h2, Option.map_some, Option.some.injEq] at h
          subst h
          obtain ⟨g1, g2⟩ := blks_ok h2
          refine ⟨by simp [g1], fun i y hy => ?_⟩
          cases i with
          | zero => simp only [List.getElem?_cons_zero, Option.some.injEq] at hy; subst hy; exact ⟨n, rfl, h1, hall⟩
          | succ i => exact g2 i y (by simpa using hy)
      · cases h
theorem dpure_of_ev {P : Program} {f : FuncId} {fn : Func} {c : Code} {ds : List D} {K : D → List Blk → Prop} (hf : P.funcs[f]? = some fn) (hb : fn.body = some c) (hg : goFn P f = true) (hn : ds.length ≤ fn.ntmps)
    (h : Ev P c (retK P fn.results.toList K) ⟨fn.ntmps, tms 0 ds, Hp.none, 0⟩) : DPure P f ds K := by
  refine ⟨hg, fun F w vs hF hgl hvs => calls_of_wp hf hb ?_⟩
  have hvl : vs.length = ds.length := by
    have : ∀ {ds : List D} {vs : List Value} {E ι}, RVs E w ι ds vs → vs.length = ds.length := by
      intro ds
      induction ds with
      | nil => intro vs E ι h; cases vs with
        | nil => rfl
        | cons _ _ => simp [RVs] at h
      | cons d ds ih => intro vs E ι h; cases vs with
        | nil => simp [RVs] at h
        | cons _ _ => rw [RVs] at h; simp [ih h.2]
    exact this hvs
  have hget : ∀ {ds : List D} {vs : List Value} {E : Env} {ι : Nms}, RVs E w ι ds vs → ∀ t : Nat, RV E w ι ((ds[t]?).getD .top) ((vs[t]?).getD undef) := by
    intro ds
    induction ds with
    | nil => intro vs E ι h t; simp only [List.getElem?_nil, Option.getD_none]; rw [RV]; trivial
    | cons d ds ih => intro vs E ι h t; cases vs with
      | nil => simp [RVs] at h
      | cons v vs =>
        rw [RVs] at h
        cases t with
        | zero => simpa using h.1
        | succ t => simpa using ih h.2 t
  let β : Base := ⟨w, fun _ => False, F, fun _ => none⟩
  have hle : Env.le ⟨F, fun b => b < w.heap.size⟩ ⟨F, β.B⟩ w w := ⟨fun _ h => h, fun b hb => ⟨hb, fun h => h⟩, fun _ _ => rfl, fun _ _ => rfl⟩
  have hH : Holds β F (fun _ => none) ⟨fn.ntmps, tms 0 ds, Hp.none, 0⟩ { tmps := vs.toArray ++ Array.replicate (fn.ntmps - vs.toArray.size) undef, defers := [] } w := by
    refine ⟨⟨hgl, hF, fun _ _ h => h⟩, rfl, by simp; omega, fun t => ?_, ⟨Nat.le_refl _, fun _ _ _ => rfl, hF, fun b hb => .inl hb, fun _ h => h, fun n x h => (by cases h), fun n b cap h => absurd rfl h, fun n m b c c' h => absurd rfl h, fun _ _ => rfl, fun _ _ h => (by cases h), SameIo.refl _⟩⟩
    rw [lk_tms, if_pos (Nat.zero_le _), Nat.sub_zero]
    have := (hget hvs t).keep hle (Nms.le_refl _)
    by_cases ht : t < vs.length
    · have e : (vs.toArray ++ Array.replicate (fn.ntmps - vs.toArray.size) undef).getD t undef = (vs[t]?).getD undef := by
        simp [Array.getD_eq_getD_getElem?, Array.getElem?_append, ht]
      rw [e]; exact this
    · have e : ds[t]? = none := List.getElem?_eq_none (by omega)
      rw [e, Option.getD_none, RV]; trivial
  refine h β F _ _ w hH _ fun e F' ι' st' a' w' h1 h2 => ?_
  have key : ∀ {e}, (e = Exit.normal ∨ e = Exit.ret) → retK P fn.results.toList K e st' → a'.defers = [] ∧ ∃ v, (results fn a'.tmps).run P w' = .ok v w' ∧ ∃ F' ι d fr v', Ending.returned v = .returned v' ∧ Out F w w' F' ι d fr v' ∧ K d fr := by
    intro e he hk
    have hk' : ∃ ds fr, resDs P st' fn.results.toList = some ds ∧ (resT ds).owns.Nodup ∧ (resT ds).okX (fun n => n ∈ (resT ds).owns) ∧ blks st'.H (resT ds).owns = some fr ∧ K ((resT ds).ren fun n => (resT ds).owns.idxOf n) fr := by
      rcases he with rfl | rfl <;> exact hk
    obtain ⟨rs, fr, k1, k2, k3, k4, k5⟩ := hk'
    obtain ⟨v, r1, r2⟩ := results_ok h1 k1
    obtain ⟨hlen, hfr⟩ := blks_ok k4
    generalize (resT rs).owns = ns at *
    have hh := h1.heap
    refine ⟨h1.defers, v, r1, F', fun i => (ns[i]?).bind ι', _, fr, v, rfl, ?_, k5⟩
    have hown : ∀ i n x, ns[i]? = some n → fr[i]? = some x → st'.H n ≠ none := fun i n x hi hx => by
      obtain ⟨n', g1, g2, -⟩ := hfr i x hx
      rw [hi] at g1
      cases g1
      rw [g2]; simp
    have hsome : ∀ i, i < fr.length → ∃ n x, ns[i]? = some n ∧ fr[i]? = some x := fun i hi => by
      obtain ⟨n, g1, -, -⟩ := hfr i _ (List.getElem?_eq_getElem hi)
      exact ⟨n, _, g1, List.getElem?_eq_getElem hi⟩
    refine ⟨hh.size, fun b hb => hh.keep b hb fun h => h, fun b hb => hh.F0 b hb, fun b hb => ⟨?_, hh.Flt b hb⟩, fun i x hx => ?_, fun i b cap hi hb hc => ?_, fun i j b c c' hi hj hb1 hb2 p1 p2 => ?_, fun i hi => ?_, ?_, hh.io⟩
    · rcases hh.Fof b hb with h | h | h
      · exact .inl h
      · exact h.elim
      · exact .inr h
    · obtain ⟨n, g1, g2, g3⟩ := hfr i x hx
      have had : allD x := fun e he c hc => by
        have := List.all_eq_true.1 (List.all_eq_true.1 g3 e he) c hc
        cases c with
        | d y => exact ⟨y, rfl⟩
        | _ => cases this
      refine ⟨?_, had⟩
      obtain ⟨b, cap, a1, a2, a3, a4⟩ := hh.blk n x g2
      refine ⟨b, cap, by simp [g1, a1], a2, a3, fun hc => ?_⟩
      obtain ⟨arr, b1, b2, b3, b4⟩ := a4 hc
      refine ⟨arr, b1, b2, b3, fun i j c hj => ?_⟩
      obtain ⟨v, q1, q2⟩ := b4 i j c hj
      have hm : ∃ e ∈ x.es, c ∈ e := by
        unfold nth2 at hj
        cases he : x.es[i]? with
        | none => simp [he] at hj
        | some e => exact ⟨e, List.mem_of_getElem? he, List.mem_of_getElem? (by simpa [he] using hj)⟩
      obtain ⟨e, he, hce⟩ := hm
      have hcd := List.all_eq_true.1 (List.all_eq_true.1 g3 e he) c hce
      obtain ⟨y, rfl⟩ := had e he c hce
      exact ⟨v, q1, RD.toSolid q2 hcd⟩
    · obtain ⟨n, x, g1, g2⟩ := hsome i hi
      simp only [g1, Option.bind_some] at hb
      obtain ⟨q1, q2, q3⟩ := hh.own n b cap (hown i n x g1 g2) hb hc
      exact ⟨q3.resolve_left fun h => h, q1, q2⟩
    · obtain ⟨n, x, g1, g2⟩ := hsome i hi
      obtain ⟨m, y, g3, g4⟩ := hsome j hj
      simp only [g1, Option.bind_some] at hb1
      simp only [g3, Option.bind_some] at hb2
      have := hh.inj n m b c c' (hown i n x g1 g2) (hown j m y g3 g4) hb1 hb2 p1 p2
      subst this
      have hi' : i < ns.length := by omega
      exact (List.getElem?_inj hi' k2).1 (by rw [g1, g3])
    · simp [List.getElem?_eq_none (show ns.length ≤ i by omega)]
    · refine r2.out (N := fun n => n ∈ ns) (ρ := fun n => ns.idxOf n) (fun n x hn hx => ?_) k3
      have : ns[ns.idxOf n]? = some n := by
        rw [List.getElem?_eq_getElem (List.idxOf_lt_length_of_mem hn)]
        simp
      simp [this, hx]
  cases e with
  | normal => exact key (.inl rfl) h2
  | ret => exact key (.inr rfl) h2
  | _ => exact h2.elim
end Go.Proofs.YtalippdhfkpbmaaDoor
