/- Calls that may write what the caller owns: the whole heap is handed on and back. -/
import Derived.Test.YtalippdhfkpbmaaDoorEvG
namespace Go.Proofs.YtalippdhfkpbmaaDoor
open Go.RowKit Go
def C.solidC : C → Bool
  | .d x => x.solidT
  | _ => true
mutual
def D.sol : D → Prop
  | .one c => c.solidC = true
  | .agg cs => ∀ c ∈ cs, C.solidC c = true
  | .tup ds => Ds.sol ds
  | .top => True
def Ds.sol : List D → Prop
  | [] => True
  | d :: ds => d.sol ∧ Ds.sol ds
end
def HSol (H : Hp) : Prop := ∀ n x, H n = some x → ∀ e ∈ x.es, ∀ c ∈ e, C.solidC c = true
section
variable {F : Nat → Prop} {B B' : Nat → Prop} {w : World} {ι : Nms}
theorem RC.sol {c : C} {v : Value} (h : RC ⟨F, B⟩ w ι c v) (hs : c.solidC = true) : RC ⟨F, B'⟩ w ι c v := by
  cases c with
  | d x => exact (RD.toSolid h hs).keep (show Env.le ⟨F, fun _ => False⟩ ⟨F, B'⟩ w w from ⟨fun _ h => h, fun _ h => h.elim, fun _ _ => rfl, fun _ _ => rfl⟩)
  | own n k l => exact h
  | ptr n k i o => exact h
  | map n => exact h
  | any => exact h
theorem RCs.sol : ∀ {cs : List C} {vs : List Value}, RCs ⟨F, B⟩ w ι cs vs → (∀ c ∈ cs, C.solidC c = true) → RCs ⟨F, B'⟩ w ι cs vs
  | [], [], _, _ => trivial
  | c :: _, _ :: _, h, hs => ⟨h.1.sol (hs c (List.mem_cons_self ..)), RCs.sol h.2 fun c hc => hs c (List.mem_cons_of_mem _ hc)⟩
mutual
theorem RV.sol : ∀ {d : D} {v : Value}, RV ⟨F, B⟩ w ι d v → d.sol → RV ⟨F, B'⟩ w ι d v
  | .one _, _, h, hs => by rw [RV] at h ⊢; rw [D.sol] at hs; exact RC.sol h hs
  | .agg _, _, h, hs => by rw [RV] at h ⊢; rw [D.sol] at hs; obtain ⟨xs, h1, h2⟩ := h; exact ⟨xs, h1, RCs.sol h2 hs⟩
  | .tup _, _, h, hs => by rw [RV] at h ⊢; rw [D.sol] at hs; obtain ⟨xs, h1, h2⟩ := h; exact ⟨xs, h1, RVs.sol h2 hs⟩
  | .top, _, _, _ => by rw [RV]; trivial
theorem RVs.sol : ∀ {ds : List D} {vs : List Value}, RVs ⟨F, B⟩ w ι ds vs → Ds.sol ds → RVs ⟨F, B'⟩ w ι ds vs
  | [], [], _, _ => by rw [RVs]; trivial
  | _ :: _, _ :: _, h, hs => by rw [RVs] at h ⊢; rw [Ds.sol] at hs; exact ⟨RV.sol h.1 hs.1, RVs.sol h.2 hs.2⟩
  | [], _ :: _, h, _ => by simp [RVs] at h
  | _ :: _, [], h, _ => by simp [RVs] at h
end
end
/-- Called with what shows ds, in a walk that owns H, function f returns what shows d; the walk owns H' then. -/
def ICall (P : Program) (f : FuncId) (ds : List D) (H : Hp) (nx : Nat) (K : D → Hp → Nat → Prop) : Prop := goFn P f = true ∧
  ∀ β F ι w vs, β.good → HpOk β F w ι H nx → RVs ⟨F, β.B⟩ w ι ds vs → Calls P f vs.toArray w fun e w' => ∃ F' ι' H' nx' d v, e = .returned v ∧ HpOk β F' w' ι' H' nx' ∧ Env.le ⟨F, β.B⟩ ⟨F', β.B⟩ w w' ∧ Nms.le ι ι' ∧ RV ⟨F', β.B⟩ w' ι' d v ∧ K d H' nx'
theorem ICall.mono {P : Program} {f : FuncId} {ds : List D} {H : Hp} {nx : Nat} {K K' : D → Hp → Nat → Prop} (h : ICall P f ds H nx K) (hk : ∀ d H' nx', K d H' nx' → K' d H' nx') : ICall P f ds H nx K' :=
  ⟨h.1, fun β F ι w vs h1 h2 h3 => (h.2 β F ι w vs h1 h2 h3).mono fun _ _ ⟨F', ι', H', nx', d, v, e1, e2, e3, e4, e5, e6⟩ => ⟨F', ι', H', nx', d, v, e1, e2, e3, e4, e5, hk _ _ _ e6⟩⟩
/-- what only reads leaves all that the walk owns -/
theorem ICall.ofPure {P : Program} {f : FuncId} {ds es : List D} {H : Hp} {nx : Nat} {K : D → Hp → Nat → Prop} (hl : lends H ds = some es) (h : DPure P f es fun d fr => K (d.ren (· + nx)) (addsH H nx fr) (nx + fr.length)) : ICall P f ds H nx K :=
  ⟨h.1, fun β F ι w vs hg hH hvs => (h.2 F w vs hH.Flt (hH.gl hg) (lends_ok hH hvs hl)).mono fun _ w' ⟨F', ι', d, fr, v, e1, ho, e3⟩ => by
    have hh : Holds β F ι ⟨0, [], H, nx⟩ ⟨#[], []⟩ w := ⟨hg, rfl, rfl, fun t => by rw [show lk [] t = D.top from rfl, RV]; trivial, hH⟩
    obtain ⟨ι2, g1, g2, g3⟩ := hh.out ho
    have hle : Env.le ⟨F, β.B⟩ ⟨F', β.B⟩ w w' := ⟨ho.Fle, fun _ h => h, fun b hb => ho.old b (hH.Flt b hb), fun b hb => ho.old b (Nat.lt_of_lt_of_le hb.1 hH.size)⟩
    exact ⟨F', ι2, _, _, _, v, e1, g1.heap, hle, g3, g2, e3⟩⟩
def callKI (st : St) (t : Option Nat) (K : St → Prop) (d : D) (H : Hp) (nx : Nat) : Prop := K (St.putO ⟨st.n, st.tm, H, nx⟩ t d)
theorem ev_icall {P : Program} {o : Oper} {st : St} {K : St → Prop} {x : Operand} {xs : Array Operand} {tys : Array TypeId} {f : FuncId} {fs cs : List Dt} (ho : o.op = .call { callee := .value x, args := xs, argTypes := tys }) (hx : ev st x = .one (.d (.fn (.func f) fs cs)))
    (ht : ∀ t, o.dst = some t → t < st.n) (hC : ICall P f (callArgs st fs cs xs.toList) st.H st.nx (callKI st o.dst K)) : EvO P false o st K := by
  intro β F ι a w h next Q hnext
  have he := h.ev x
  rw [hx, RV] at he
  obtain ⟨ys, zs, hv, l1, l2, h1, h2⟩ : ∃ ys zs, a.eval x = .func (.func f) ys zs ∧ ys.size = fs.length ∧ zs.size = cs.length ∧ (∀ (j : Nat) c x, fs[j]? = some c → ys[j]? = some x → RD ⟨F, β.B⟩ w c x) ∧ (∀ (j : Nat) c x, cs[j]? = some c → zs[j]? = some x → RD ⟨F, β.B⟩ w c x) := by
    cases hq : a.eval x with
    | func fn ys zs =>
      rw [hq] at he
      cases he with
      | fn l1 l2 h1 h2 => exact ⟨ys, zs, rfl, l1, l2, h1, h2⟩
    | _ => rw [hq] at he; cases he
  have hrun : (execOp a.eval o).run P w = .ok (.enter f (ys ++ xs.map a.eval ++ zs)) w := by
    simp [execOp, ho, resolve, hv, Deferred.ofValue, invoke, goFn_run hC.1]
  unfold Oper.wp
  rw [hrun, Oper.upon_enter]
  have hargs : RVs ⟨F, β.B⟩ w ι (callArgs st fs cs xs.toList) (ys.toList ++ xs.toList.map a.eval ++ zs.toList) :=
    ((RVs.ofRD (by simpa using l1) fun j c x hc hx => h1 j c x hc (by simpa using hx)).append (evs_ok h xs.toList)).append (RVs.ofRD (by simpa using l2) fun j c x hc hx => h2 j c x hc (by simpa using hx))
  have hc := hC.2 β F ι w _ h.good h.heap hargs
  rw [show (ys.toList ++ xs.toList.map a.eval ++ zs.toList).toArray = ys ++ xs.map a.eval ++ zs by apply Array.ext'; simp] at hc
  refine hc.mono ?_
  rintro e w' ⟨F', ι', H', nx', d, v, rfl, hH, hle, hi, hr, hK⟩
  have g1 : Holds β F' ι' ⟨st.n, st.tm, H', nx'⟩ a w' := ⟨h.good, h.defers, h.size, fun u => (h.tm u).keep hle hi, hH⟩
  refine hnext F' ι' (St.putO ⟨st.n, st.tm, H', nx'⟩ o.dst d) v w' (Chg.call ho fun h => by cases h) ?_ hK
  cases hdst : o.dst with
  | none => exact g1
  | some t => exact g1.put hr (ht t hdst)
def retI (P : Program) (rs : List ResultVar) (K : D → Hp → Nat → Prop) : Exit → St → Prop
  | .normal, st | .ret, st => ∃ ds, resDs P st rs = some ds ∧ (resT ds).sol ∧ HSol st.H ∧ K (resT ds) st.H st.nx
  | _, _ => False
theorem icall_of_ev {P : Program} {f : FuncId} {fn : Func} {c : Code} {ds : List D} {H : Hp} {nx : Nat} {K : D → Hp → Nat → Prop} (hf : P.funcs[f]? = some fn) (hb : fn.body = some c) (hg : goFn P f = true) (hn : ds.length ≤ fn.ntmps)
    (h : Ev P c (retI P fn.results.toList K) ⟨fn.ntmps, tms 0 ds, H, nx⟩) : ICall P f ds H nx K := by
  refine ⟨hg, fun β F ι w vs hgood hH hvs => calls_of_wp hf hb ?_⟩
  have hlen : ∀ {ds : List D} {vs : List Value} {E : Env} {ι : Nms}, RVs E w ι ds vs → vs.length = ds.length ∧ ∀ t : Nat, RV E w ι ((ds[t]?).getD .top) ((vs[t]?).getD undef) := by
    intro ds
    induction ds with
    | nil => intro vs E ι h; cases vs with
      | nil => exact ⟨rfl, fun t => by simp only [List.getElem?_nil, Option.getD_none]; rw [RV]; trivial⟩
      | cons _ _ => simp [RVs] at h
    | cons d ds ih => intro vs E ι h; cases vs with
      | nil => simp [RVs] at h
      | cons v vs =>
        rw [RVs] at h
        obtain ⟨i1, i2⟩ := ih h.2
        refine ⟨by simp [i1], fun t => ?_⟩
        cases t with
        | zero => simpa using h.1
        | succ t => simpa using i2 t
  obtain ⟨hvl, hget⟩ := hlen hvs
  let N : Nat → Prop := fun b => ∃ n cap, H n ≠ none ∧ ι n = some (b, cap) ∧ 0 < cap
  let β' : Base := ⟨w, N, F, ι⟩
  have hNF : ∀ b, F b → ¬ N b := fun b hb ⟨n, cap, h1, h2, h3⟩ => (hH.own n b cap h1 h2 h3).2.1 hb
  have hNo : ∀ b, N b → β.N0 b ∨ β.w0.heap.size ≤ b := fun b ⟨n, cap, h1, h2, h3⟩ => (hH.own n b cap h1 h2 h3).2.2
  have hBB : ∀ b, β.B b → b < w.heap.size ∧ ¬ N b := fun b hb => ⟨Nat.lt_of_lt_of_le hb.1 hH.size, fun hN => by
    rcases hNo b hN with h0 | h0
    · exact hb.2 h0
    · have := hb.1; omega⟩
  have hle : Env.le ⟨F, β.B⟩ ⟨F, β'.B⟩ w w := ⟨fun _ h => h, fun b hb => hBB b hb, fun _ _ => rfl, fun _ _ => rfl⟩
  have hHo : Holds β' F ι ⟨fn.ntmps, tms 0 ds, H, nx⟩ { tmps := vs.toArray ++ Array.replicate (fn.ntmps - vs.toArray.size) undef, defers := [] } w := by
    refine ⟨⟨hH.gl hgood, hH.Flt, hNF⟩, rfl, by simp; omega, fun t => ?_, ⟨Nat.le_refl _, fun _ _ _ => rfl, hH.Flt, fun b hb => .inl hb, fun _ h => h, fun n x hx => (hH.blk n x hx).keep hle (Nms.le_refl _) fun _ _ _ _ => rfl, fun n b cap h1 h2 h3 => ?_, hH.inj, hH.nx, Nms.le_refl _, SameIo.refl _⟩⟩
    · rw [lk_tms, if_pos (Nat.zero_le _), Nat.sub_zero]
      have := (hget t).keep hle (Nms.le_refl _)
      by_cases ht : t < vs.length
      · have e : (vs.toArray ++ Array.replicate (fn.ntmps - vs.toArray.size) undef).getD t undef = (vs[t]?).getD undef := by
          simp [Array.getD_eq_getD_getElem?, Array.getElem?_append, ht]
        rw [e]; exact this
      · have e : ds[t]? = none := List.getElem?_eq_none (by omega)
        rw [e, Option.getD_none, RV]; trivial
    · obtain ⟨g1, g2, -⟩ := hH.own n b cap h1 h2 h3
      exact ⟨g1, g2, .inl ⟨n, cap, h1, h2, h3⟩⟩
  refine h β' F _ _ w hHo _ fun e F' ι' st' a' w' h1 h2 => ?_
  have key : ∀ {e}, (e = Exit.normal ∨ e = Exit.ret) → retI P fn.results.toList K e st' → a'.defers = [] ∧ ∃ v, (results fn a'.tmps).run P w' = .ok v w' ∧ ∃ F' ι' H' nx' d v', Ending.returned v = .returned v' ∧ HpOk β F' w' ι' H' nx' ∧ Env.le ⟨F, β.B⟩ ⟨F', β.B⟩ w w' ∧ Nms.le ι ι' ∧ RV ⟨F', β.B⟩ w' ι' d v' ∧ K d H' nx' := by
    intro e he hk
    have hk' : ∃ ds, resDs P st' fn.results.toList = some ds ∧ (resT ds).sol ∧ HSol st'.H ∧ K (resT ds) st'.H st'.nx := by
      rcases he with rfl | rfl <;> exact hk
    obtain ⟨rs, k1, k2, k3, k4⟩ := hk'
    obtain ⟨v, r1, r2⟩ := results_ok h1 k1
    have hh := h1.heap
    refine ⟨h1.defers, v, r1, F', ι', st'.H, st'.nx, resT rs, v, rfl, ⟨Nat.le_trans hH.size hh.size, fun b hb hN => ?_, hh.Flt, fun b hb => ?_, fun b hb => hh.F0 b (hH.F0 b hb), fun n x hx => ?_, fun n b cap g1 g2 g3 => ?_, hh.inj, hh.nx, fun n y hy => hh.nm n y (hH.nm n y hy), hH.io.trans hh.io⟩, ⟨fun b hb => hh.F0 b hb, fun _ h => h, fun b hb => hh.keep b (hH.Flt b hb) (hNF b hb), fun b hb => hh.keep b (hBB b hb).1 (hBB b hb).2⟩, hh.nm, r2.sol k2, k4⟩
    · have hB := hBB b ⟨hb, hN⟩
      rw [hh.keep b hB.1 hB.2]; exact hH.keep b hb hN
    · rcases hh.Fof b hb with h0 | h0 | h0
      · exact hH.Fof b h0
      · exact .inr (hNo b h0)
      · exact .inr (.inr (Nat.le_trans hH.size h0))
    · obtain ⟨b, cap, p1, p2, p3, p4⟩ := hh.blk n x hx
      refine ⟨b, cap, p1, p2, p3, fun hc => ?_⟩
      obtain ⟨arr, q1, q2, q3, q4⟩ := p4 hc
      refine ⟨arr, q1, q2, q3, fun i j c hj => ?_⟩
      obtain ⟨v, s1, s2⟩ := q4 i j c hj
      have hm : ∃ e ∈ x.es, c ∈ e := by
        unfold nth2 at hj
        cases he : x.es[i]? with
        | none => simp [he] at hj
        | some e => exact ⟨e, List.mem_of_getElem? he, List.mem_of_getElem? (by simpa [he] using hj)⟩
      obtain ⟨e, he, hce⟩ := hm
      exact ⟨v, s1, s2.sol (k3 n x hx e he c hce)⟩
    · obtain ⟨s1, s2, s3⟩ := hh.own n b cap g1 g2 g3
      refine ⟨s1, s2, ?_⟩
      rcases s3 with s3 | s3
      · exact hNo b s3
      · exact .inr (Nat.le_trans hH.size s3)
  cases e with
  | normal => exact key (.inl rfl) h2
  | ret => exact key (.inr rfl) h2
  | _ => exact h2.elim
end Go.Proofs.YtalippdhfkpbmaaDoor
