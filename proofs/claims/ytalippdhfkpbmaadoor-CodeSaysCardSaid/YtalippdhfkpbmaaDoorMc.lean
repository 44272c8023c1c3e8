/- Several texts in one: EvS, EvV, EvU, EvW, EvY, LibA, LibB, CodA, CodB, CodC. -/
import Derived.IntWalk
import Derived.Test.YtalippdhfkpbmaaDoorChecked
import Derived.Test.YtalippdhfkpbmaaDoorMa
import Derived.Test.YtalippdhfkpbmaaDoorMb
set_option linter.unusedSimpArgs false
set_option linter.unusedVariables false
/- Calls that may write what the caller owns: the whole heap is handed on and back. -/
namespace Go.Proofs.YtalippdhfkpbmaaDoor
open Go.RowKit Go
def C.solidC : C → Bool
  | .d x => x.solidT
  | _ => true
mutual
def D.sol : D → Prop
  | .one c => c.solidC = true
  | .agg cs => ∀ c ∈ cs, C.solidC c = true
  | .tup ds => Ds.sol ds
  | .top => True
def Ds.sol : List D → Prop
  | [] => True
  | d :: ds => d.sol ∧ Ds.sol ds
end
def HSol (H : Hp) : Prop := ∀ n x, H n = some x → ∀ e ∈ x.es, ∀ c ∈ e, C.solidC c = true
section
variable {F : Nat → Prop} {B B' : Nat → Prop} {w : World} {ι : Nms}
theorem RC.sol {c : C} {v : Value} (h : RC ⟨F, B⟩ w ι c v) (hs : c.solidC = true) : RC ⟨F, B'⟩ w ι c v := by
  cases c with
  | d x => exact (RD.toSolid h hs).keep (show Env.le ⟨F, fun _ => False⟩ ⟨F, B'⟩ w w from ⟨fun _ h => h, fun _ h => h.elim, fun _ _ => rfl, fun _ _ => rfl⟩)
  | own n k l => exact h
  | ptr n k i o => exact h
  | map n => exact h
  | any => exact h
theorem RCs.sol : ∀ {cs : List C} {vs : List Value}, RCs ⟨F, B⟩ w ι cs vs → (∀ c ∈ cs, C.solidC c = true) → RCs ⟨F, B'⟩ w ι cs vs
  | [], [], _, _ => trivial
  | c :: _, _ :: _, h, hs => ⟨h.1.sol (hs c (List.mem_cons_self ..)), RCs.sol h.2 fun c hc => hs c (List.mem_cons_of_mem _ hc)⟩
mutual
theorem RV.sol : ∀ {d : D} {v : Value}, RV ⟨F, B⟩ w ι d v → d.sol → RV ⟨F, B'⟩ w ι d v
  | .one _, _, h, hs => by rw [RV] at h ⊢; rw [D.sol] at hs; exact RC.sol h hs
  | .agg _, _, h, hs => by rw [RV] at h ⊢; rw [D.sol] at hs; obtain ⟨xs, h1, h2⟩ := h; exact ⟨xs, h1, RCs.sol h2 hs⟩
  | .tup _, _, h, hs => by rw [RV] at h ⊢; rw [D.sol] at hs; obtain ⟨xs, h1, h2⟩ := h; exact ⟨xs, h1, RVs.sol h2 hs⟩
  | .top, _, _, _ => by rw [RV]; trivial
theorem RVs.sol : ∀ {ds : List D} {vs : List Value}, RVs ⟨F, B⟩ w ι ds vs → Ds.sol ds → RVs ⟨F, B'⟩ w ι ds vs
  | [], [], _, _ => by rw [RVs]; trivial
  | _ :: _, _ :: _, h, hs => by rw [RVs] at h ⊢; rw [Ds.sol] at hs; exact ⟨RV.sol h.1 hs.1, RVs.sol h.2 hs.2⟩
  | [], _ :: _, h, _ => by simp [RVs] at h
  | _ :: _, [], h, _ => by simp [RVs] at h
end
end
/-- Called with what shows ds, in a walk that owns H, function f returns what shows d; the walk owns H' then. -/
def ICall (P : Program) (f : FuncId) (ds : List D) (H : Hp) (nx : Nat) (K : D → Hp → Nat → Prop) : Prop := goFn P f = true ∧
  ∀ β F ι w vs, β.good → HpOk β F w ι H nx → RVs ⟨F, β.B⟩ w ι ds vs → Calls P f vs.toArray w fun e w' => ∃ F' ι' H' nx' d v, e = .returned v ∧ HpOk β F' w' ι' H' nx' ∧ Env.le ⟨F, β.B⟩ ⟨F', β.B⟩ w w' ∧ Nms.le ι ι' ∧ RV ⟨F', β.B⟩ w' ι' d v ∧ K d H' nx'
theorem ICall.mono {P : Program} {f : FuncId} {ds : List D} {H : Hp} {nx : Nat} {K K' : D → Hp → Nat → Prop} (h : ICall P f ds H nx K) (hk : ∀ d H' nx', K d H' nx' → K' d H' nx') : ICall P f ds H nx K' :=
  ⟨h.1, fun β F ι w vs h1 h2 h3 => (h.2 β F ι w vs h1 h2 h3).mono fun _ _ ⟨F', ι', H', nx', d, v, e1, e2, e3, e4, e5, e6⟩ => ⟨F', ι', H', nx', d, v, e1, e2, e3, e4, e5, hk _ _ _ e6⟩⟩
/-- what only reads leaves all that the walk owns -/
theorem ICall.ofPure {P : Program} {f : FuncId} {ds es : List D} {H : Hp} {nx : Nat} {K : D → Hp → Nat → Prop} (hl : lends H ds = some es) (h : DPure P f es fun d fr => K (d.ren (· + nx)) (addsH H nx fr) (nx + fr.length)) : ICall P f ds H nx K :=
  ⟨h.1, fun β F ι w vs hg hH hvs => (h.2 F w vs hH.Flt (hH.gl hg) (lends_ok hH hvs hl)).mono fun _ w' ⟨F', ι', d, fr, v, e1, ho, e3⟩ => by
    have hh : Holds β F ι ⟨0, [], H, nx⟩ ⟨#[], []⟩ w := ⟨hg, rfl, rfl, fun t => by rw [show lk [] t = D.top from rfl, RV]; trivial, hH⟩
    obtain ⟨ι2, g1, g2, g3⟩ := hh.out ho
    have hle : Env.le ⟨F, β.B⟩ ⟨F', β.B⟩ w w' := ⟨ho.Fle, fun _ h => h, fun b hb => ho.old b (hH.Flt b hb), fun b hb => ho.old b (Nat.lt_of_lt_of_le hb.1 hH.size)⟩
    exact ⟨F', ι2, _, _, _, v, e1, g1.heap, hle, g3, g2, e3⟩⟩
def callKI (st : St) (t : Option Nat) (K : St → Prop) (d : D) (H : Hp) (nx : Nat) : Prop := K (St.putO ⟨st.n, st.tm, H, nx⟩ t d)
theorem ev_icall {P : Program} {o : Oper} {st : St} {K : St → Prop} {x : Operand} {xs : Array Operand} {tys : Array TypeId} {f : FuncId} {fs cs : List Dt} (ho : o.op = .call { callee := .value x, args := xs, argTypes := tys }) (hx : ev st x = .one (.d (.fn (.func f) fs cs)))
    (ht : ∀ t, o.dst = some t → t < st.n) (hC : ICall P f (callArgs st fs cs xs.toList) st.H st.nx (callKI st o.dst K)) : EvO P false o st K := by
  intro β F ι a w h next Q hnext
  have he := h.ev x
  rw [hx, RV] at he
  obtain ⟨ys, zs, hv, l1, l2, h1, h2⟩ : ∃ ys zs, a.eval x = .func (.func f) ys zs ∧ ys.size = fs.length ∧ zs.size = cs.length ∧ (∀ (j : Nat) c x, fs[j]? = some c → ys[j]? = some x → RD ⟨F, β.B⟩ w c x) ∧ (∀ (j : Nat) c x, cs[j]? = some c → zs[j]? = some x → RD ⟨F, β.B⟩ w c x) := by
    cases hq : a.eval x with
    | func fn ys zs =>
      rw [hq] at he
      cases he with
      | fn l1 l2 h1 h2 => exact ⟨ys, zs, rfl, l1, l2, h1, h2⟩
    | _ => rw [hq] at he; cases he
  have hrun : (execOp a.eval o).run P w = .ok (.enter f (ys ++ xs.map a.eval ++ zs)) w := by
    simp [execOp, ho, resolve, hv, Deferred.ofValue, invoke, goFn_run hC.1]
  unfold Oper.wp
  rw [hrun, Oper.upon_enter]
  have hargs : RVs ⟨F, β.B⟩ w ι (callArgs st fs cs xs.toList) (ys.toList ++ xs.toList.map a.eval ++ zs.toList) :=
    ((RVs.ofRD (by simpa using l1) fun j c x hc hx => h1 j c x hc (by simpa using hx)).append (evs_ok h xs.toList)).append (RVs.ofRD (by simpa using l2) fun j c x hc hx => h2 j c x hc (by simpa using hx))
  have hc := hC.2 β F ι w _ h.good h.heap hargs
  rw [show (ys.toList ++ xs.toList.map a.eval ++ zs.toList).toArray = ys ++ xs.map a.eval ++ zs by apply Array.ext'; simp] at hc
  refine hc.mono ?_
  rintro e w' ⟨F', ι', H', nx', d, v, rfl, hH, hle, hi, hr, hK⟩
  have g1 : Holds β F' ι' ⟨st.n, st.tm, H', nx'⟩ a w' := ⟨h.good, h.defers, h.size, fun u => (h.tm u).keep hle hi, hH⟩
  refine hnext F' ι' (St.putO ⟨st.n, st.tm, H', nx'⟩ o.dst d) v w' (Chg.call ho fun h => by cases h) ?_ hK
  cases hdst : o.dst with
  | none => exact g1
  | some t => exact g1.put hr (ht t hdst)
def retI (P : Program) (rs : List ResultVar) (K : D → Hp → Nat → Prop) : Exit → St → Prop
  | .normal, st | .ret, st => ∃ ds, resDs P st rs = some ds ∧ (resT ds).sol ∧ HSol st.H ∧ K (resT ds) st.H st.nx
  | _, _ => False
theorem icall_of_ev {P : Program} {f : FuncId} {fn : Func} {c : Code} {ds : List D} {H : Hp} {nx : Nat} {K : D → Hp → Nat → Prop} (hf : P.funcs[f]? = some fn) (hb : fn.body = some c) (hg : goFn P f = true) (hn : ds.length ≤ fn.ntmps)
    (h : Ev P c (retI P fn.results.toList K) ⟨fn.ntmps, tms 0 ds, H, nx⟩) : ICall P f ds H nx K := by
  refine ⟨hg, fun β F ι w vs hgood hH hvs => calls_of_wp hf hb ?_⟩
  have hlen : ∀ {ds : List D} {vs : List Value} {E : Env} {ι : Nms}, RVs E w ι ds vs → vs.length = ds.length ∧ ∀ t : Nat, RV E w ι ((ds[t]?).getD .top) ((vs[t]?).getD undef) := by
    intro ds
    induction ds with
    | nil => intro vs E ι h; cases vs with
      | nil => exact ⟨rfl, fun t => by simp only [List.getElem?_nil, Option.getD_none]; rw [RV]; trivial⟩
      | cons _ _ => simp [RVs] at h
    | cons d ds ih => intro vs E ι h; cases vs with
      | nil => simp [RVs] at h
      | cons v vs =>
        rw [RVs] at h
        obtain ⟨i1, i2⟩ := ih h.2
        refine ⟨by simp [i1], fun t => ?_⟩
        cases t with
        | zero => simpa using h.1
        | succ t => simpa using i2 t
  obtain ⟨hvl, hget⟩ := hlen hvs
  let N : Nat → Prop := fun b => ∃ n cap, H n ≠ none ∧ ι n = some (b, cap) ∧ 0 < cap
  let β' : Base := ⟨w, N, F, ι⟩
  have hNF : ∀ b, F b → ¬ N b := fun b hb ⟨n, cap, h1, h2, h3⟩ => (hH.own n b cap h1 h2 h3).2.1 hb
  have hNo : ∀ b, N b → β.N0 b ∨ β.w0.heap.size ≤ b := fun b ⟨n, cap, h1, h2, h3⟩ => (hH.own n b cap h1 h2 h3).2.2
  have hBB : ∀ b, β.B b → b < w.heap.size ∧ ¬ N b := fun b hb => ⟨Nat.lt_of_lt_of_le hb.1 hH.size, fun hN => by
    rcases hNo b hN with h0 | h0
    · exact hb.2 h0
    · have := hb.1; omega⟩
  have hle : Env.le ⟨F, β.B⟩ ⟨F, β'.B⟩ w w := ⟨fun _ h => h, fun b hb => hBB b hb, fun _ _ => rfl, fun _ _ => rfl⟩
  have hHo : Holds β' F ι ⟨fn.ntmps, tms 0 ds, H, nx⟩ { tmps := vs.toArray ++ Array.replicate (fn.ntmps - vs.toArray.size) undef, defers := [] } w := by
    refine ⟨⟨hH.gl hgood, hH.Flt, hNF⟩, rfl, by simp; omega, fun t => ?_, ⟨Nat.le_refl _, fun _ _ _ => rfl, hH.Flt, fun b hb => .inl hb, fun _ h => h, fun n x hx => (hH.blk n x hx).keep hle (Nms.le_refl _) fun _ _ _ _ => rfl, fun n b cap h1 h2 h3 => ?_, hH.inj, hH.nx, Nms.le_refl _, SameIo.refl _⟩⟩
    · rw [lk_tms, if_pos (Nat.zero_le _), Nat.sub_zero]
      have := (hget t).keep hle (Nms.le_refl _)
      by_cases ht : t < vs.length
      · have e : (vs.toArray ++ Array.replicate (fn.ntmps - vs.toArray.size) undef).getD t undef = (vs[t]?).getD undef := by
          simp [Array.getD_eq_getD_getElem?, Array.getElem?_append, ht]
        rw [e]; exact this
      · have e : ds[t]? = none := List.getElem?_eq_none (by omega)
        rw [e, Option.getD_none, RV]; trivial
    · obtain ⟨g1, g2, -⟩ := hH.own n b cap h1 h2 h3
      exact ⟨g1, g2, .inl ⟨n, cap, h1, h2, h3⟩⟩
  refine h β' F _ _ w hHo _ fun e F' ι' st' a' w' h1 h2 => ?_
  have key : ∀ {e}, (e = Exit.normal ∨ e = Exit.ret) → retI P fn.results.toList K e st' → a'.defers = [] ∧ ∃ v, (results fn a'.tmps).run P w' = .ok v w' ∧ ∃ F' ι' H' nx' d v', Ending.returned v = .returned v' ∧ HpOk β F' w' ι' H' nx' ∧ Env.le ⟨F, β.B⟩ ⟨F', β.B⟩ w w' ∧ Nms.le ι ι' ∧ RV ⟨F', β.B⟩ w' ι' d v' ∧ K d H' nx' := by
    intro e he hk
    have hk' : ∃ ds, resDs P st' fn.results.toList = some ds ∧ (resT ds).sol ∧ HSol st'.H ∧ K (resT ds) st'.H st'.nx := by
      rcases he with rfl | rfl <;> exact hk
    obtain ⟨rs, k1, k2, k3, k4⟩ := hk'
    obtain ⟨v, r1, r2⟩ := results_ok h1 k1
    have hh := h1.heap
    refine ⟨h1.defers, v, r1, F', ι', st'.H, st'.nx, resT rs, v, rfl, ⟨Nat.le_trans hH.size hh.size, fun b hb hN => ?_, hh.Flt, fun b hb => ?_, fun b hb => hh.F0 b (hH.F0 b hb), fun n x hx => ?_, fun n b cap g1 g2 g3 => ?_, hh.inj, hh.nx, fun n y hy => hh.nm n y (hH.nm n y hy), hH.io.trans hh.io⟩, ⟨fun b hb => hh.F0 b hb, fun _ h => h, fun b hb => hh.keep b (hH.Flt b hb) (hNF b hb), fun b hb => hh.keep b (hBB b hb).1 (hBB b hb).2⟩, hh.nm, r2.sol k2, k4⟩
    · have hB := hBB b ⟨hb, hN⟩
      rw [hh.keep b hB.1 hB.2]; exact hH.keep b hb hN
    · rcases hh.Fof b hb with h0 | h0 | h0
      · exact hH.Fof b h0
      · exact .inr (hNo b h0)
      · exact .inr (.inr (Nat.le_trans hH.size h0))
    · obtain ⟨b, cap, p1, p2, p3, p4⟩ := hh.blk n x hx
      refine ⟨b, cap, p1, p2, p3, fun hc => ?_⟩
      obtain ⟨arr, q1, q2, q3, q4⟩ := p4 hc
      refine ⟨arr, q1, q2, q3, fun i j c hj => ?_⟩
      obtain ⟨v, s1, s2⟩ := q4 i j c hj
      have hm : ∃ e ∈ x.es, c ∈ e := by
        unfold nth2 at hj
        cases he : x.es[i]? with
        | none => simp [he] at hj
        | some e => exact ⟨e, List.mem_of_getElem? he, List.mem_of_getElem? (by simpa [he] using hj)⟩
      obtain ⟨e, he, hce⟩ := hm
      exact ⟨v, s1, s2.sol (k3 n x hx e he c hce)⟩
    · obtain ⟨s1, s2, s3⟩ := hh.own n b cap g1 g2 g3
      refine ⟨s1, s2, ?_⟩
      rcases s3 with s3 | s3
      · exact hNo b s3
      · exact .inr (Nat.le_trans hH.size s3)
  cases e with
  | normal => exact key (.inl rfl) h2
  | ret => exact key (.inr rfl) h2
  | _ => exact h2.elim
end Go.Proofs.YtalippdhfkpbmaaDoor
/- What is left to show of a walk, computed: operations, regions, code. -/
namespace Go.Proofs.YtalippdhfkpbmaaDoor
open Go.RowKit Go
/-- no functions stand where simp would enter them -/
def putK (st : St) (o : Oper) (s' : St) (d : D) (K : St → Prop) : Prop := match o.dst with
  | some t => t < st.n ∧ K (s'.put t d)
  | none => False
def callK (st : St) (t : Option Nat) (K : St → Prop) (d : D) (fr : List Blk) : Prop := K ((st.adds fr).putO t (d.ren (· + st.nx)))
def onlyK (ks : List Nat) (K : Exit → St → Prop) (st : St) : Prop := K .normal (st.only ks)
/-- operations that only read: those that give the same in whatever world -/
def freeO : Op → Bool
  | .load .. => false
  | .lookup .. => false
  | _ => true
def vcLen (P : Program) (st : St) (x : Operand) (ty : TypeId) (K : D → Prop) : Prop := match litOf (ev st x) with
  | some (.string s) => isStr P ty = true ∧ K (.one (.d (.lit (.int .i64 s.size))))
  | _ => match elOf P ty, lenOf? (ev st x) with
    | some _, some n => n ≤ 9223372036854775807 → K (.one (.d (.lit (.int .i64 n))))
    | _, _ => False
def vcS (P : Program) (st : St) (o : Op) (K : D → Prop) : Prop := match o with
  | .move x => K (ev st x)
  | .assign x => K (ev st x)
  | .pick c x y => match ev st c with
    | .one (.d (.lit (.bool b))) => K (if b then ev st x else ev st y)
    | _ => False
  | .load ty x => match rowT P ty, rd st x with
    | some false, some cs => match cs.head? with
      | some c => K (.one c)
      | none => False
    | some true, some cs => match szOf P ty with
      | some k => k ≤ cs.length ∧ K (.agg (cs.take k))
      | none => False
    | _, _ => False
  | .nilCheck x => match ev st x, rd st x with
    | .one c, some _ => K (.one c)
    | _, _ => False
  | .fieldAddr s x f => match ev st x, fldOf P s f with
    | .one c, some (off, k) => match fieldA c off with
      | some c' => 0 < k ∧ K (.one c')
      | none => False
    | _, _ => False
  | .indexAddr ty x y => match ev st x, intOf? (ev st y) with
    | .one c, some n => match elOf P ty with
      | some (_, z) => 0 ≤ n ∧ match idxA c n.toNat z with
        | some c' => K (.one c')
        | none => False
      | none => match arrOf P ty with
        | some (m, _, k, _) => 0 ≤ n ∧ n < m ∧ match fieldA c (n.toNat * k) with
          | some c' => K (.one c')
          | none => False
        | none => False
    | _, _ => False
  | .binOp op ty x y _ => match litOf (ev st x), litOf (ev st y) with
    | some (.bool p), some (.bool q) => (op = .eql ∨ op = .neq) ∧ boolT P ty = true ∧ K (.one (.d (.lit (.bool (if op = .eql then p == q else p != q)))))
    | some u, some v => match sc op u v with
      | some r => K (.one (.d (.lit r)))
      | none => False
    | _, _ => match (aggOf (ev st x)).bind intsOf, (aggOf (ev st y)).bind intsOf with
      | some l, some m => (op = .eql ∨ op = .neq) ∧ EqI P ty l.length ∧ l.length = m.length ∧ K (.one (.d (.lit (.bool (if op = .eql then decide (l = m) else !decide (l = m))))))
      | _, _ => False
  | .unOp .not _ x => match litOf (ev st x) with
    | some (.bool b) => K (.one (.d (.lit (.bool (!b)))))
    | _ => False
  | .unOp .neg _ x => match litOf (ev st x) with
    | some (.int k n) => K (.one (.d (.lit (.int k (k.wrap (0 - n))))))
    | some (.float k n) => K (.one (.d (.lit (.float k (Op.negFloat k n)))))
    | _ => False
  | .lookup ty x y false => match mapOf st (ev st x), mapT P ty, keyD (ev st y) with
    | some (_, kt, f, _), some kt', some u => P = Tryd.prog ∧ kt' = kt ∧ Go.Maps.Keyed Tryd.prog kt ∧ KeyIn kt u ∧ K (.one (.d (.lit (.int .i64 (f u)))))
    | _, _, _ => False
  | .convert s d x => match litOf (ev st x), intT P s, intT P d with
    | some (.int k n), some k1, some k2 => k = k1 ∧ K (.one (.d (.lit (.int k2 (k2.wrap n)))))
    | _, _, _ => False
  | .extract x i => match ev st x with
    | .tup ds => match ds[i]? with
      | some d => K d
      | none => False
    | _ => False
  | .slice ty x lo hi none => match ev st x, elOf P ty with
    | .one c, some (_, z) => match lenOf? (.one c) with
      | some l => match optInt st lo 0, optInt st hi l with
        | some i, some j => 0 ≤ i ∧ i ≤ j ∧ j ≤ l ∧ (∀ S es, c = .d (.sl S es) → ∀ e ∈ es, e.length = z) ∧ match subC c i.toNat j.toNat with
          | some c' => K (.one c')
          | none => False
        | _, _ => False
      | none => False
    | _, _ => False
  | .field s x f => match ev st x, ftyOf P s f with
    | .agg cs, some (off, k, row) => match partD cs off k row with
      | some d => K d
      | none => False
    | _, _ => False
  | .index ty x y => match intOf? (ev st y) with
    | some i => match ev st x with
      | .agg cs => match arrOf P ty with
        | some (n, _, k, b) => 0 ≤ i ∧ i < n ∧ match partD cs (i.toNat * k) k b with
          | some d => K d
          | none => False
        | none => False
      | .one (.d (.lit (.string s))) => isStr P ty = true ∧ 0 ≤ i ∧ match s.data.toList[i.toNat]? with
        | some c => K (.one (.d (.lit (.int .u8 c.toNat))))
        | none => False
      | _ => False
    | none => False
  | .build ty parts => match zeroOf P ty with
    | some zs => zs.all Value.oneCell' = true ∧ match fldsOf P ty, arrOf P ty with
      | some pl, _ => match layC (fun i => pl[i]?) st parts.toList (zs.map fun v => .d (cellOf v)) with
        | some r => K (.agg r)
        | none => False
      | none, some (_, _, k, _) => match layC (fun i => some (i * k, k)) st parts.toList (zs.map fun v => .d (cellOf v)) with
        | some r => K (.agg r)
        | none => False
      | _, _ => False
    | none => False
  | .call c => match c.callee with
    | .builtin .len => match c.args.toList, c.argTypes.toList with
      | [x], [ty] => vcLen P st x ty K
      | _, _ => False
    | _ => False
  | _ => False
/-- what a reading comes to, in whatever the state shows -/
def Reading (P : Program) (o : Oper) (st : St) (K : D → Prop) : Prop := (∃ d, K d ∧ EvS P o st d (freeO o.op)) ∨ ∀ β F ι a w, ¬ Holds β F ι st a w
theorem Reading.mk {P : Program} {o : Oper} {st : St} {K : D → Prop} {d : D} {fr : Bool} (hK : K d) (h : EvS P o st d fr) (hf : freeO o.op = fr) : Reading P o st K := .inl ⟨d, hK, by rw [hf]; exact h⟩
theorem vcS_ok {P : Program} {st : St} {o : Oper} {K : D → Prop} (h : vcS P st o.op K) : Reading P o st K := by
  unfold vcS at h
  split at h
  · rename_i ho; exact .mk h (ev_move (.inl ho)) (by rw [ho]; rfl)
  · rename_i ho; exact .mk h (ev_move (.inr ho)) (by rw [ho]; rfl)
  · rename_i ho
    split at h
    · rename_i hc; exact .mk h (ev_pick ho hc) (by rw [ho]; rfl)
    · exact h.elim
  · rename_i ho
    split at h
    · rename_i cs h0 hr
      cases cs with
      | nil => exact h.elim
      | cons c cs => exact .mk h (ev_load_one ho hr h0) (by rw [ho]; rfl)
    · rename_i h0 hr
      split at h
      · rename_i hk; exact .mk h.2 (ev_load_agg ho hr h0 hk h.1) (by rw [ho]; rfl)
      · exact h.elim
    · exact h.elim
  · rename_i ho
    split at h
    · rename_i hx hr; exact .mk h (ev_nilCheck ho hx ⟨_, hr⟩) (by rw [ho]; rfl)
    · exact h.elim
  · rename_i ho
    split at h
    · rename_i hx hf
      split at h
      · rename_i hc; exact .mk h.2 (ev_fieldAddr ho hx hf h.1 hc) (by rw [ho]; rfl)
      · exact h.elim
    · exact h.elim
  · rename_i ho
    split at h
    · rename_i hx hy
      split at h
      · rename_i he
        obtain ⟨h0, h⟩ := h
        split at h
        · rename_i hc; exact .mk h (ev_indexAddr ho hx hy h0 he hc) (by rw [ho]; rfl)
        · exact h.elim
      · split at h
        · rename_i ha
          obtain ⟨h0, h1, h⟩ := h
          split at h
          · rename_i hc; exact .mk h (ev_indexArr ho hx hy ha h0 h1 hc) (by rw [ho]; rfl)
          · exact h.elim
        · exact h.elim
    · exact h.elim
  · rename_i ho
    split at h
    · rename_i hx hy
      exact .mk h.2.2 (ev_eqB ho h.1 h.2.1 hx hy) (by rw [ho]; rfl)
    · rename_i hx hy
      split at h
      · rename_i hr; exact .mk h (ev_binOp ho hx hy hr) (by rw [ho]; rfl)
      · exact h.elim
    · split at h
      · rename_i hx hy
        obtain ⟨hop, hE, hlm, h⟩ := h
        obtain ⟨cs, g1, g2⟩ := Option.bind_eq_some_iff.1 hx
        obtain ⟨ds, g3, g4⟩ := Option.bind_eq_some_iff.1 hy
        exact .mk h (ev_eqI ho hop hE g1 g3 g2 g4 rfl hlm.symm) (by rw [ho]; rfl)
      · exact h.elim
  · rename_i ho
    split at h
    · rename_i hx; exact .mk h (ev_not ho hx) (by rw [ho]; rfl)
    · exact h.elim
  · rename_i ho
    split at h
    · rename_i hx; exact .mk h (ev_neg ho hx) (by rw [ho]; rfl)
    · rename_i hx; exact .mk h (ev_negF ho hx) (by rw [ho]; rfl)
    · exact h.elim
  · rename_i ho
    split at h
    · rename_i hx ht hy
      obtain ⟨rfl, rfl, hk, hi, h⟩ := h
      exact .mk h (ev_lookup ho hx ht hy hk hi) (by rw [ho]; rfl)
    · exact h.elim
  · rename_i ho
    split at h
    · rename_i hx hs hd; obtain ⟨rfl, h⟩ := h; exact .mk h (ev_conv ho hx hs hd) (by rw [ho]; rfl)
    · exact h.elim
  · rename_i ho
    split at h
    · rename_i hx
      split at h
      · rename_i hd; exact .mk h (ev_extract ho hx hd) (by rw [ho]; rfl)
      · exact h.elim
    · exact h.elim
  · rename_i ho
    split at h
    · rename_i hx he
      split at h
      · rename_i hl
        split at h
        · rename_i hlo hhi
          obtain ⟨a1, a2, a3, a4, h⟩ := h
          split at h
          · rename_i hs; exact .mk h (ev_slice ho hx he hl hlo hhi a1 a2 a3 a4 hs) (by rw [ho]; rfl)
          · exact h.elim
        · exact h.elim
      · exact h.elim
    · exact h.elim
  · rename_i ho
    split at h
    · rename_i hx hf
      split at h
      · rename_i hd; exact .mk h (ev_field ho hx hf hd) (by rw [ho]; rfl)
      · exact h.elim
    · exact h.elim
  · rename_i ho
    split at h
    · rename_i hy
      split at h
      · rename_i hx
        split at h
        · rename_i ha
          obtain ⟨a1, a2, h⟩ := h
          split at h
          · rename_i hd; exact .mk h (ev_index ho hx hy ha a1 a2 hd) (by rw [ho]; rfl)
          · exact h.elim
        · exact h.elim
      · rename_i hx
        obtain ⟨a1, a2, h⟩ := h
        split at h
        · rename_i hc; exact .mk h (ev_indexS ho (by rw [hx]; rfl) hy a1 a2 hc) (by rw [ho]; rfl)
        · exact h.elim
      · exact h.elim
    · exact h.elim
  · rename_i ho
    split at h
    · rename_i hz
      obtain ⟨a1, h⟩ := h
      split at h
      · rename_i hf
        split at h
        · rename_i hl; exact .mk h (ev_build ho hf hz a1 hl) (by rw [ho]; rfl)
        · exact h.elim
      · rename_i hf ha
        split at h
        · rename_i hl; exact .mk h (ev_buildA ho ha hz a1 hl) (by rw [ho]; rfl)
        · exact h.elim
      · exact h.elim
    · exact h.elim
  · rename_i c ho
    obtain ⟨ce, args, tys⟩ := c
    simp only at h
    split at h
    · split at h
      · rename_i x ty hxs hts
        obtain rfl : args = #[x] := by apply Array.ext'; simpa using hxs
        obtain rfl : tys = #[ty] := by apply Array.ext'; simpa using hts
        unfold vcLen at h
        split at h
        · rename_i hx; exact .mk h.2 (ev_lenS ho h.1 hx) (by rw [ho]; rfl)
        · split at h
          · rename_i nn he hx
            by_cases hb : nn ≤ 9223372036854775807
            · exact .mk (h hb) (ev_len ho he hx) (by rw [ho]; rfl)
            · exact .inr fun β F ι a w hh => absurd (lenOf_ok (hh.ev x) hx).choose_spec.choose_spec.2 hb
          · exact h.elim
      · exact h.elim
    · exact h.elim
  · exact h.elim
theorem Reading.toO {P : Program} {qt : Bool} {o : Oper} {st : St} {K : St → Prop} {s0 : St} (hs : s0.n = st.n) (h : Reading P o st fun d => putK s0 o st d K) : EvO P qt o st K := by
  rcases h with ⟨d, hK, he⟩ | h
  · unfold putK at hK
    split at hK
    · rename_i t ht; exact he.toO ht (by rw [← hs]; exact hK.1) hK.2
    · exact hK.elim
  · exact fun β F ι a w hh => (h β F ι a w hh).elim
def putD (st : St) (o : Oper) (K : St → Prop) (d : D) : Prop := putK st o st d K
def vcApp (P : Program) (st : St) (o : Oper) (x y : Operand) (ty tx : TypeId) (K : St → Prop) : Prop := match elOf P ty, elOf P tx, baseOf st (ev st x), srcOf st (ev st y) with
  | some (e, k), some _, some (n, es), some ns => match byOf P e, zeroOf P e with
    | some bt, some zs => 0 < k ∧ bt ≤ 1024 ∧ zs.length = k ∧ zs.all Value.oneCell' = true ∧ (∀ m b, n = some m → st.H m = some b → b.t = .c e ∧ b.k = k) ∧ (∀ d ∈ ns, d.length = k) ∧ es.length + ns.length ≤ 100000000000 ∧
      putK st o (st.row n ⟨.c e, k, es ++ ns⟩) (.one (.own st.nx k (es.length + ns.length))) K
    | _, _ => False
  | _, _, _, _ => False
def vcExt (P : Program) (st : St) (o : Oper) (f : FuncId) (fs cs : List Dt) (xs : List Operand) (K : St → Prop) (L : Prop) : Prop := match ext st f xs with
  | some r => P = Tryd.prog ∧ fs = [] ∧ cs = [] ∧ putK st o st (.one (.d (.lit r))) K
  | none => L
def vcC0 (P : Program) (st : St) (o : Oper) (x : Operand) (xs : List Operand) (K : St → Prop) : Prop := match ev st x with
  | .one (.d (.fn (.func f) fs cs)) => match lends st.H (callArgs st fs cs xs) with
    | some ds => (∀ t, o.dst = some t → t < st.n) ∧ DPure P f ds (callK st o.dst K)
    | none => False
  | _ => False
/-- functions that are handed what is never written again: the walk may give it up ahead of the call -/
def frzFn (f : FuncId) : Bool :=
  f == 50 ||
  f == 19 ||
  f == 25 ||
  false
/-- what can't be lent as it is: some of it may be given up as memory of the walk's own -/
def vcFz (P : Program) (st : St) (o : Oper) (x : Operand) (xs : List Operand) (K : St → Prop) : Prop := ∃ st', st'.n = st.n ∧ Wk st st' ∧ vcC0 P st' o x xs K
def vcC (P : Program) (st : St) (o : Oper) (x : Operand) (xs : List Operand) (K : St → Prop) : Prop := match ev st x with
  | .one (.d (.fn (.func f) fs cs)) => vcExt P st o f fs cs xs K <| if frzFn f = true then vcFz P st o x xs K else match lends st.H (callArgs st fs cs xs) with
    | some ds => (∀ t, o.dst = some t → t < st.n) ∧ DPure P f ds (callK st o.dst K)
    | none => vcFz P st o x xs K
  | _ => False
/-- functions that write what they are handed, where that is a slice -/
def wrFn (f : FuncId) : Bool :=
  false
def hasPtr : D → Bool
  | .one (.ptr _ _ _ _) => true
  | .agg cs => cs.any fun c => match c with
    | .ptr _ _ _ _ => true
    | _ => false
  | _ => false
def vcCI (P : Program) (st : St) (o : Oper) (x : Operand) (xs : List Operand) (K : St → Prop) : Prop := match ev st x with
  | .one (.d (.fn (.func f) fs cs)) => match wrFn f || xs.any fun x => hasPtr (ev st x) with
    | true => (∀ t, o.dst = some t → t < st.n) ∧ ICall P f (callArgs st fs cs xs) st.H st.nx (callKI st o.dst K)
    | false => vcC P st o x xs K
  | _ => False
def vcNil (P : Program) (st : St) (o : Oper) (op : BinOp) (ty : TypeId) (x : Operand) (K : St → Prop) : Prop := match ev st x, elOf P ty with
  | .one c, some _ => match lenOf? (.one c) with
    | some n => (op = .eql ∨ op = .neq) ∧ (n = 0 → putK st o st (.one (.d (.lit (.bool (decide (op = .eql)))))) K) ∧ putK st o st (.one (.d (.lit (.bool (decide (op = .neq)))))) K
    | none => False
  | _, _ => False
def isNilC : Operand → Bool
  | .const (.slice none 0 0) => true
  | _ => false
theorem isNilC_ok {x : Operand} (h : isNilC x = true) : x = .const (.slice none 0 0) := by
  unfold isNilC at h
  split at h
  · rfl
  · cases h
def vcFlt (op : BinOp) (p q : Nat) (K : D → Prop) : Prop := (∀ r, floatBits op .f64 p q = some r → K (.one (.d (.lit (.float .f64 r))))) ∧ (floatBits op .f64 p q = none → ∀ r, isNum r = false → K (.one (.d (.lit (.float .f64 r)))))
theorem putD_out {st : St} {o : Oper} {K : St → Prop} {d : D} {t : Nat} (h : putD st o K d) (ht : o.dst = some t) : K (st.put t d) := by
  unfold putD putK at h
  rw [ht] at h
  exact h.2
noncomputable def vcOp (P : Program) (qt : Bool) (st : St) (o : Oper) (K : St → Prop) : Prop := match o.op with
  | .binOp op ty x y _ => match isNilC y with
    | true => vcNil P st o op ty x K
    | false => match fltA op (litOf (ev st x)) (litOf (ev st y)) with
      | some (p, q) => vcFlt op p q (putD st o K)
      | none => vcS P st o.op (putD st o K)
  | .makeMap ty none => match mapT P ty with
    | some kt => P = Tryd.prog ∧ putK st o (st.newMap kt) (.one (.map st.nx)) K
    | none => False
  | .mapUpdate ty x y z => match mapOf st (ev st x), mapT P ty, keyD (ev st y), litOf (ev st z) with
    | some (n, kt, f, c), some kt', some u, some (.int .i64 v) => P = Tryd.prog ∧ kt' = kt ∧ Go.Maps.Keyed Tryd.prog kt ∧ KeyIn kt u ∧ (Lit.int .i64 v).wf = true ∧ c < 100000000000 ∧ o.dst = none ∧ K ⟨st.n, st.tm, st.H.set n (some ⟨.m kt (fun k => if k = u then v else f k) (c + 1), 0, []⟩), st.nx⟩
    | _, _, _, _ => False
  | .box ty x => match Dcells (ev st x) with
    | some cs => putK st o (st.newVar ty cs) (.one (.ptr st.nx cs.length 0 0)) K
    | none => False
  | .alloc ty => match zeroOf P ty with
    | some zs => zs.all Value.oneCell' = true ∧ putK st o (st.newVar ty (zs.map fun v => .d (cellOf v))) (.one (.ptr st.nx (zs.map fun v => C.d (cellOf v)).length 0 0)) K
    | none => False
  | .store ty x y => match ev st x, Dcells (ev st y), szOf P ty with
    | .one (.ptr n k i of), some cs, some z => match st.H n with
      | some b => match b.t, b.es[i]? with
        | .c bt, some e => b.k = k ∧ z = cs.length ∧ of + cs.length ≤ e.length ∧ o.dst = none ∧ K ⟨st.n, st.tm, st.H.set n (some ⟨.c bt, b.k, b.es.set i (splice e of cs)⟩), st.nx⟩
        | _, _ => False
      | none => False
    | _, _, _ => False
  | .makeFunc fn xs ys => match dsOf (st.frzs (ys.toList.flatMap fun y => ptrOf (ev st y))) xs.toList, dsOf (st.frzs (ys.toList.flatMap fun y => ptrOf (ev st y))) ys.toList with
    | some fs, some cs => putK st o (st.frzs (ys.toList.flatMap fun y => ptrOf (ev st y))) (.one (.d (.fn fn fs cs))) K
    | _, _ => False
  | .buildSlice ty len parts => match elOf P ty with
    | some (e, k) => (len = 0 → parts.toList = [] ∧ putK st o st (.one (.d .emp)) K) ∧ (0 < len → match zeroOf P e with
      | some zs => zs.length = k ∧ 0 < k ∧ zs.all Value.oneCell' = true ∧ 0 < len ∧ len * k ≤ 16777216 ∧ match layE st k parts.toList (List.replicate len (zs.map fun v => .d (cellOf v))) with
        | some r => putK st o (st.row none ⟨.c e, k, r⟩) (.one (.own st.nx k len)) K
        | none => False
      | none => False)
    | none => False
  | .makeSlice ty x y => match elOf P ty, intOf? (ev st x), intOf? (ev st y) with
    | some (e, k), some m, some m' => match zeroOf P e, byOf P e with
      | some zs, some bt => m = m' ∧ zs.length = k ∧ 0 < k ∧ zs.all Value.oneCell' = true ∧ bt ≤ 1024 ∧ 0 ≤ m ∧ m ≤ 100000000000 ∧ putK st o (st.row none ⟨.c e, k, List.replicate m.toNat (zs.map fun v => .d (cellOf v))⟩) (.one (.own st.nx k m.toNat)) K
      | _, _ => False
    | _, _, _ => False
  | .call c => match c.callee with
    | .builtin .append => match c.args.toList, c.argTypes.toList with
      | [x, y], [ty, tx] => vcApp P st o x y ty tx K
      | _, _ => False
    | .value x => match qt with
      | true => vcC P st o x c.args.toList K
      | false => vcCI P st o x c.args.toList K
    | _ => vcS P st o.op (putD st o K)
  | _ => vcS P st o.op (putD st o K)
theorem dstP_out {st s' : St} {o : Oper} {d : D} {K : St → Prop} (h : putK st o s' d K) : ∃ t, o.dst = some t ∧ t < st.n ∧ K (s'.put t d) := by
  unfold putK at h
  split at h
  · rename_i t ht; exact ⟨t, ht, h⟩
  · exact h.elim
theorem vcC0_ok {P : Program} {qt : Bool} {st : St} {o : Oper} {K : St → Prop} {x : Operand} {args : Array Operand} {tys : Array TypeId} (ho : o.op = .call { callee := .value x, args := args, argTypes := tys }) (h : vcC0 P st o x args.toList K) : EvO P qt o st K := by
  unfold vcC0 at h
  split at h
  · rename_i hx
    split at h
    · rename_i hd; exact ev_call ho hx hd h.1 h.2
    · exact h.elim
  · exact h.elim
theorem vcC_ok {P : Program} {qt : Bool} {st : St} {o : Oper} {K : St → Prop} {x : Operand} {args : Array Operand} {tys : Array TypeId} (ho : o.op = .call { callee := .value x, args := args, argTypes := tys }) (h : vcC P st o x args.toList K) : EvO P qt o st K := by
  unfold vcC at h
  split at h
  · rename_i hx
    unfold vcExt at h
    split at h
    · rename_i he
      obtain ⟨rfl, rfl, rfl, h⟩ := h
      exact Reading.toO (s0 := st) rfl (.inl ⟨_, h, by rw [show freeO o.op = true by rw [ho]; rfl]; exact ev_ext ho hx he⟩)
    split at h
    · obtain ⟨st', -, hw, h⟩ := h
      exact (vcC0_ok ho h).weak hw
    split at h
    · rename_i hd; exact ev_call ho hx hd h.1 h.2
    · obtain ⟨st', -, hw, h⟩ := h
      exact (vcC0_ok ho h).weak hw
  · exact h.elim
theorem vcOp_ok {P : Program} {qt : Bool} {st : St} {o : Oper} {K : St → Prop} (h : vcOp P qt st o K) : EvO P qt o st K := by
  unfold vcOp at h
  split at h
  · rename_i op ty x y yt ho
    split at h
    · rename_i hy
      obtain rfl := isNilC_ok hy
      unfold vcNil at h
      split at h
      · rename_i hx he
        split at h
        · rename_i hl
          obtain ⟨a1, a2, a3⟩ := h
          obtain ⟨t, h1, h2, h3⟩ := dstP_out a3
          exact ev_eqNil ho a1 he hx hl h1 h2 (fun e => by
            obtain ⟨t', g1, g2, g3⟩ := dstP_out (a2 e)
            rw [h1] at g1
            cases g1
            exact g3) h3
        · exact h.elim
      · exact h.elim
    · split at h
      · rename_i p q hf
        cases hd : o.dst with
        | none =>
          exfalso
          cases hb : floatBits op .f64 p q with
          | some r => have := h.1 r hb; unfold putD putK at this; rw [hd] at this; exact this
          | none =>
            have := h.2 hb 9218868437227405313 (by decide)
            unfold putD putK at this; rw [hd] at this; exact this
        | some t =>
          have hlt : t < st.n := by
            cases hb : floatBits op .f64 p q with
            | some r => have := h.1 r hb; unfold putD putK at this; rw [hd] at this; exact this.1
            | none =>
              have := h.2 hb 9218868437227405313 (by decide)
              unfold putD putK at this; rw [hd] at this; exact this.1
          exact ev_floatA ho hf hd hlt (fun r hr => putD_out (h.1 r hr) hd) (fun hr r hn => putD_out (h.2 hr r hn) hd)
      · exact Reading.toO rfl (vcS_ok h)
  · rename_i ho
    split at h
    · rename_i ht
      obtain ⟨rfl, h⟩ := h
      obtain ⟨t, h1, h2, h3⟩ := dstP_out h
      exact ev_makeMap ho h1 h2 h3
    · exact h.elim
  · rename_i ho
    split at h
    · rename_i hx ht hy hz
      obtain ⟨rfl, rfl, hk, hi, hv, hc, hd, h⟩ := h
      exact ev_mapUpdate ho hx ht hy hz hk hi hv hc hd h
    · exact h.elim
  · rename_i ho
    split at h
    · rename_i hx; obtain ⟨t, h1, h2, h3⟩ := dstP_out h; exact ev_box ho hx h1 h2 h3
    · exact h.elim
  · rename_i ho
    split at h
    · rename_i hz; obtain ⟨h0, h⟩ := h; obtain ⟨t, h1, h2, h3⟩ := dstP_out h; exact ev_alloc ho hz h0 h1 h2 h3
    · exact h.elim
  · rename_i ho
    split at h
    · rename_i hx hy hz
      split at h
      · rename_i hb
        split at h
        · rename_i hbt he; obtain ⟨hk, rfl, hl, ht, h⟩ := h; exact ev_store ho hx hb hbt hk he hy hz hl ht h
        · exact h.elim
      · exact h.elim
    · exact h.elim
  · rename_i ho
    split at h
    · rename_i hx hy
      obtain ⟨t, h1, h2, h3⟩ := dstP_out h
      exact ((ev_makeFunc ho hx hy).toO h1 (by rw [frzs_n]; exact h2) h3).weak (Wk.frzs _ _)
    · exact h.elim
  · rename_i ty len parts ho
    split at h
    · rename_i he
      by_cases hl0 : len = 0
      · subst hl0
        obtain ⟨g1, g2⟩ := h.1 rfl
        obtain ⟨t, h1, h2, h3⟩ := dstP_out g2
        exact ev_buildSlice0 ho g1 he h1 h2 h3
      have h := h.2 (by omega)
      split at h
      · rename_i hz
        obtain ⟨a1, a2, a3, a4, a5, h⟩ := h
        split at h
        · rename_i hl; obtain ⟨t, h1, h2, h3⟩ := dstP_out h; exact ev_buildSlice ho he hz a1 a2 a3 a4 a5 hl h1 h2 h3
        · exact h.elim
      · exact h.elim
    · exact h.elim
  · rename_i ho
    split at h
    · rename_i he hx hy
      split at h
      · rename_i hz hb
        obtain ⟨rfl, a1, a2, a3, a4, a5, a6, h⟩ := h
        obtain ⟨t, h1, h2, h3⟩ := dstP_out h
        exact ev_makeSlice ho he hz a1 a2 a3 hb a4 hx hy a5 a6 h1 h2 h3
      · exact h.elim
    · exact h.elim
  · rename_i c ho
    obtain ⟨ce, args, tys⟩ := c
    simp only at h
    split at h
    · split at h
      · rename_i x y ty tx hxs hts
        obtain rfl : args = #[x, y] := by apply Array.ext'; simpa using hxs
        obtain rfl : tys = #[ty, tx] := by apply Array.ext'; simpa using hts
        unfold vcApp at h
        split at h
        · rename_i he hex hx hy
          split at h
          · rename_i hb hz
            obtain ⟨a1, a2, a3, a4, a5, a6, a7, h⟩ := h
            obtain ⟨t, h1, h2, h3⟩ := dstP_out h
            exact ev_append ho he a1 hb a2 hz a3 a4 hex hx a5 hy a6 a7 h1 h2 h3
          · exact h.elim
        · exact h.elim
      · exact h.elim
    · split at h
      · exact vcC_ok ho h
      · unfold vcCI at h
        split at h
        · rename_i hx
          split at h
          · exact ev_icall ho hx h.1 h.2
          · exact vcC_ok ho h
        · exact h.elim
    · exact Reading.toO rfl (vcS_ok h)
  · exact Reading.toO rfl (vcS_ok h)
def dstLt (n : Nat) : Option Nat → Bool
  | some t => decide (t < n)
  | none => true
theorem dstLt_iff {n : Nat} {d : Option Nat} (h : dstLt n d = true) : ∀ t, d = some t → t < n := by
  cases d with
  | none => intro t e; cases e
  | some t => intro u e; cases e; simpa [dstLt] using h
def vcL (P : Program) (l : List Oper) (K : St → Prop) : List Oper → St → Prop
  | [], st => K st
  | o :: rest, st => match o.guard with
    | none => dstLt st.n o.dst = true ∧ vcOp P false st o (vcL P l K rest)
    | some _ => match gd l st o with
      | some (x, y, d) => dstLt st.n o.dst = true ∧ (if x = y then vcOp P false (st.told d y) o (vcL P l K rest) else vcL P l K rest ((st.told d (!y)).skip o))
      | none => False
theorem EvO.mono {P : Program} {qt : Bool} {o : Oper} {st : St} {K K' : St → Prop} (h : EvO P qt o st K) (hk : ∀ st, K st → K' st) : EvO P qt o st K' := fun β F ι a w hh next Q hn => h β F ι a w hh next Q fun F' ι' st' v w' ho h1 h2 => hn F' ι' st' v w' ho h1 (hk _ h2)
theorem alt_if {x y : Bool} {A B : Prop} (h : if x = y then A else B) : (x = y → A) ∧ (x = !y → B) := by
  cases x <;> cases y <;> simp_all
theorem vcL_ok {P : Program} {l : List Oper} {K : St → Prop} : ∀ {rest : List Oper} {st : St}, vcL P l K rest st → EvL P l rest K st
  | [], st, h => evl_nil h
  | o :: rest, st, h => by
    unfold vcL at h
    split at h
    · rename_i hg
      exact evl_if (d := none) (x := true) (y := true) (by simp [gd, hg]) (dstLt_iff h.1) (fun _ => (vcOp_ok h.2).mono fun st h => vcL_ok h) (fun e => by cases e)
    · split at h
      · rename_i x y d hg
        exact evl_if hg (dstLt_iff h.1) (fun e => (vcOp_ok ((alt_if h.2).1 e)).mono fun st h => vcL_ok h) (fun e => vcL_ok ((alt_if h.2).2 e))
      · exact h.elim
end Go.Proofs.YtalippdhfkpbmaaDoor
/- A region whose order is drawn: walked once, along its plan. -/
namespace Go.Proofs.YtalippdhfkpbmaaDoor
open Go.RowKit Go
/-- the new variables of a region, each with the readings that were done ahead of it -/
abbrev Frs := List (Nat × List Nat)
def DoneOk (P : Program) (l : List Oper) (a : Act) (w : World) (done : List Nat) (fr : Frs) : Prop := ∀ i ∈ done, ∀ o, nthOp l i = some o → Region.wanted o (yielded l.toArray a.tmps) = true →
  ∃ s, s ≤ w.heap.size ∧ (∀ w', (freeO o.op = true ∨ ∀ b, b < s → w'.heap[b]? = w.heap[b]?) → (execOp a.eval o).run P w' = .ok (.value (slotOf a o)) w') ∧
    ∀ x ∈ fr, i ∈ x.2 → ∃ b of sp, a.tmps[x.1]? = some (.pointer (some ⟨b, of, sp⟩)) ∧ s ≤ b
/-- reading i is not touched by a write to temporary t -/
def staysT (l : List Oper) (t : Option Nat) (k : Nat) : Bool := match nthOp l k, t with
  | some o, some t => plainOp o.op && !(o.looksAt l.toArray).contains t && o.dst != some t
  | _, _ => true
def nextDone (l : List Oper) (i : Nat) (done : List Nat) : List Nat := match nthOp l i with
  | some o => match o.dst with
    | some t => (if plainOp o.op && !(o.looksAt l.toArray).contains t then [i] else []) ++ done.filter (staysT l (some t))
    | none => []
  | none => []
def nextFr (l : List Oper) (i : Nat) (fr : Frs) : Frs := match nthOp l i with
  | some o => match o.dst with
    | some t => (fr.filter fun x => x.1 != t).map fun x => (x.1, x.2.filter (· != i))
    | none => []
  | none => []
def pokes (fr : Frs) (o : Op) (k : Nat) : Bool := match o with
  | .store _ (.tmp t) _ => fr.any fun x => x.1 == t && x.2.contains k
  | _ => false
def effDone (qt : Bool) (l : List Oper) (j : Nat) (done : List Nat) (fr : Frs) : List Nat := match nthOp l j with
  | some o => done.filter fun k => staysT l o.dst k && ((qt && quietO o.op) || pokes fr o.op k || match nthOp l k with | some o' => freeO o'.op | none => true)
  | none => []
def effFr (l : List Oper) (j : Nat) (done : List Nat) (fr : Frs) : Frs := match nthOp l j with
  | some o => match o.dst with
    | some t => (if newO o.op && o.guard.isNone then [(t, done)] else []) ++ fr.filter fun x => x.1 != t
    | none => fr
  | none => []
def Plan.pends (l : List Oper) : Plan → List Nat → Frs → Bool
  | .last, _, _ => true
  | .seg i p, done, fr => Plan.pends l p (nextDone l i done) (nextFr l i fr)
  | .eff j pend p, done, fr => pend.all ((effDone (!pend.isEmpty) l j done fr).contains ·) && Plan.pends l p (effDone (!pend.isEmpty) l j done fr) (effFr l j done fr)
  | .fork j pend p rest, done, fr => pend.all ((effDone (!pend.isEmpty) l j done fr).contains ·) && Plan.pends l p (effDone (!pend.isEmpty) l j done fr) (effFr l j done fr) && Plan.pends l rest done fr
def segK (st : St) (t : Nat) (K : St → Prop) (d : D) : Prop := K (st.put t d)
def vcPl (P : Program) (l : List Oper) (K : St → Prop) : Plan → St → Prop
  | .last, st => K st
  | .seg i p, st => match nthOp l i with
    | some o => match o.dst, gd l st o with
      | some t, some (x, y, d) => t < st.n ∧ (if x = y then vcS P (st.told d y) o.op (segK (st.told d y) t (vcPl P l K p)) else vcPl P l K p ((st.told d (!y)).put t (.tup [])))
      | _, _ => False
    | none => False
  | .eff j pend p, st => match nthOp l j with
    | some o => match gd l st o with
      | some (x, y, d) => (∀ t, o.dst = some t → t < st.n) ∧ (if x = y then vcOp P (!pend.isEmpty) (st.told d y) o (vcPl P l K p) else vcPl P l K p ((st.told d (!y)).skip o))
      | none => False
    | none => False
  | .fork j pend p rest, st => (match nthOp l j with
    | some o => match gd l st o with
      | some (x, y, d) => (∀ t, o.dst = some t → t < st.n) ∧ (if x = y then vcOp P (!pend.isEmpty) (st.told d y) o (vcPl P l K p) else vcPl P l K p ((st.told d (!y)).skip o))
      | none => False
    | none => False) ∧ vcPl P l K rest st
theorem Old.trans {w w1 w2 : World} (h1 : Old w w1) (h2 : Old w1 w2) : Old w w2 := fun b hb => by
  have e := h1 b hb
  have : b < w1.heap.size := by
    rw [Array.getElem?_eq_getElem hb] at e
    exact (Array.getElem?_eq_some_iff.1 e).1
  rw [h2 b this, e]
section
variable {P : Program} {l : List Oper}
theorem put_get {a : Act} {t u : Nat} {v : Value} (h : u ≠ t) : (a.put (some t) v).tmps[u]? = a.tmps[u]? := by
  simp only [Act.put]
  exact Array.getElem?_setIfInBounds_ne (fun e => h e.symm)
theorem stays_run {a : Act} {t : Option Nat} {v : Value} {k : Nat} {o : Oper} (ho : nthOp l k = some o) (hs : staysT l t k = true) :
    execOp (a.put t v).eval o = execOp a.eval o ∧ Region.wanted o (yielded l.toArray (a.put t v).tmps) = Region.wanted o (yielded l.toArray a.tmps) ∧ slotOf (a.put t v) o = slotOf a o := by
  cases t with
  | none => exact ⟨rfl, rfl, rfl⟩
  | some t =>
    unfold staysT at hs
    simp only [ho, Bool.and_eq_true, Bool.not_eq_true', bne_iff_ne, ne_eq] at hs
    obtain ⟨⟨h1, h2⟩, h3⟩ := hs
    have hne : ∀ u ∈ o.looksAt l.toArray, u ≠ t := fun u hu e => by
      subst e
      rw [List.contains_iff_mem.2 hu] at h2
      cases h2
    obtain ⟨g1, g2⟩ := looks_same (ops := l.toArray) (plain_noselect h1) (a := a.put (some t) v) (a' := a) fun u hu => put_get (hne u hu)
    refine ⟨g1, g2, ?_⟩
    unfold slotOf
    cases hd : o.dst with
    | none => rfl
    | some d =>
      have hdt : d ≠ t := fun e => h3 (by rw [hd, e])
      show (a.put (some t) v).tmps.getD d undef = a.tmps.getD d undef
      simp only [Array.getD_eq_getD_getElem?]
      rw [put_get hdt]
theorem done_seg {a : Act} {w : World} {done : List Nat} {fr : Frs} (h : DoneOk P l a w done fr) {i t : Nat} {o : Oper} (ho : nthOp l i = some o) (hd : o.dst = some t) {v : Value} (ht : t < a.tmps.size)
    (hv : Region.wanted o (yielded l.toArray a.tmps) = true → ∀ w', (freeO o.op = true ∨ Old w w') → (execOp a.eval o).run P w' = .ok (.value v) w') : DoneOk P l (a.put (some t) v) w (nextDone l i done) (nextFr l i fr) := by
  intro k hk o' ho' hw
  unfold nextDone at hk
  simp only [ho, hd] at hk
  rcases List.mem_append.1 hk with hk | hk
  · split at hk
    · rename_i hc
      simp only [Bool.and_eq_true, Bool.not_eq_true'] at hc
      obtain rfl := List.mem_singleton.1 hk
      rw [ho] at ho'
      cases ho'
      have hne : ∀ u ∈ o.looksAt l.toArray, u ≠ t := fun u hu e => by
        subst e
        rw [List.contains_iff_mem.2 hu] at hc
        cases hc.2
      obtain ⟨g1, g2⟩ := looks_same (ops := l.toArray) (plain_noselect hc.1) (a := a.put (some t) v) (a' := a) fun u hu => put_get (hne u hu)
      rw [g2] at hw
      refine ⟨w.heap.size, Nat.le_refl _, fun w' hw' => ?_, fun x hx hkx => ?_⟩
      · rw [g1, hv hw w' hw']
        unfold slotOf
        simp only [hd, Act.put, Array.getD_eq_getD_getElem?]
        simp [ht]
      · unfold nextFr at hx
        simp only [ho, hd] at hx
        obtain ⟨y, -, rfl⟩ := List.mem_map.1 hx
        have := (List.mem_filter.1 hkx).2
        simp at this
    · cases hk
  · obtain ⟨hk1, hk2⟩ := List.mem_filter.1 hk
    obtain ⟨g1, g2, g3⟩ := stays_run (a := a) (v := v) ho' hk2
    rw [g2] at hw
    obtain ⟨s, s1, s2, s3⟩ := h k hk1 o' ho' hw
    refine ⟨s, s1, fun w' hw' => by rw [g1, g3]; exact s2 w' hw', fun x hx hkx => ?_⟩
    unfold nextFr at hx
    simp only [ho, hd] at hx
    obtain ⟨y, hy, rfl⟩ := List.mem_map.1 hx
    obtain ⟨hy1, hy2⟩ := List.mem_filter.1 hy
    obtain ⟨b, of, sp, e1, e2⟩ := s3 y hy1 (List.mem_filter.1 hkx).1
    exact ⟨b, of, sp, by rw [put_get (by simpa using hy2)]; exact e1, e2⟩
theorem Old.size {w w1 : World} (h : Old w w1) : w.heap.size ≤ w1.heap.size := by
  rcases Nat.eq_zero_or_pos w.heap.size with h0 | h0
  · omega
  · have hb : w.heap.size - 1 < w.heap.size := by omega
    have e := h _ hb
    rw [Array.getElem?_eq_getElem hb] at e
    have := (Array.getElem?_eq_some_iff.1 e).1
    omega
theorem done_eff {a : Act} {w w1 : World} {done : List Nat} {fr : Frs} (h : DoneOk P l a w done fr) {j : Nat} {o : Oper} (ho : nthOp l j = some o) {v : Value} {qt : Bool} (hdt : ∀ t, o.dst = some t → t < a.tmps.size) (hc : Chg qt o a w v w1 ∨ (w1 = w ∧ o.guard.isNone = false)) : DoneOk P l (a.put o.dst v) w1 (effDone qt l j done fr) (effFr l j done fr) := by
  intro k hk o' ho' hw
  unfold effDone at hk
  simp only [ho] at hk
  obtain ⟨hk1, hk2⟩ := List.mem_filter.1 hk
  simp only [ho', Bool.and_eq_true, Bool.or_eq_true] at hk2
  obtain ⟨g1, g2, g3⟩ := stays_run (a := a) (v := v) ho' hk2.1
  rw [g2] at hw
  obtain ⟨s, s1, s2, s3⟩ := h k hk1 o' ho' hw
  have hfr : ∀ x ∈ effFr l j done fr, k ∈ x.2 → ∃ b of sp, (a.put o.dst v).tmps[x.1]? = some (.pointer (some ⟨b, of, sp⟩)) ∧ s ≤ b := fun x hx hkx => by
    unfold effFr at hx
    simp only [ho] at hx
    cases hd : o.dst with
    | none => rw [hd] at hx; exact s3 x hx hkx
    | some t =>
      simp only [hd] at hx
      rcases List.mem_append.1 hx with hx | hx
      · split at hx
        · rename_i hn
          simp only [Bool.and_eq_true] at hn
          obtain rfl := List.mem_singleton.1 hx
          rcases hc with hc | ⟨-, hc⟩
          · refine ⟨w.heap.size, 0, none, ?_, s1⟩
            rw [← hc.new hn.1]
            simp [Act.put, hdt t hd]
          · rw [hn.2] at hc; cases hc
        · cases hx
      · obtain ⟨hx1, hx2⟩ := List.mem_filter.1 hx
        obtain ⟨b, of, sp, e1, e2⟩ := s3 x hx1 hkx
        exact ⟨b, of, sp, by rw [put_get (by simpa using hx2)]; exact e1, e2⟩
  rcases hc with hc | ⟨rfl, hc⟩
  · rcases hk2.2 with (hq | hp) | hf
    · have hold := hc.old hq.1 hq.2
      refine ⟨s, Nat.le_trans s1 hold.size, fun w' hw' => ?_, hfr⟩
      rw [g1, g3]
      refine s2 w' (hw'.imp id fun hw' b hb => ?_)
      rw [hw' b hb, hold b (Nat.lt_of_lt_of_le hb s1)]
    · unfold pokes at hp
      split at hp
      · rename_i ty t y hop
        obtain ⟨x, hx, hx2⟩ := List.any_eq_true.1 hp
        simp only [Bool.and_eq_true, beq_iff_eq] at hx2
        obtain ⟨b, of, sp, e1, e2⟩ := s3 x hx (List.contains_iff_mem.1 hx2.2)
        obtain ⟨b', ⟨p1, p2⟩, p3⟩ := hc.poke _ _ _ hop
        have hbb : b = b' := p3 b of sp (by
          show a.tmps.getD t undef = _
          rw [← hx2.1, Array.getD_eq_getD_getElem?, e1]; rfl)
        refine ⟨s, Nat.le_trans s1 p1, fun w' hw' => ?_, hfr⟩
        rw [g1, g3]
        refine s2 w' (hw'.imp id fun hw' c hcs => ?_)
        rw [hw' c hcs, p2 c (by omega)]
      · cases hp
    · refine ⟨0, Nat.zero_le _, fun w' _ => by rw [g1, g3]; exact s2 w' (.inl hf), fun x hx hkx => ?_⟩
      obtain ⟨b, of, sp, e1, -⟩ := hfr x hx hkx
      exact ⟨b, of, sp, e1, Nat.zero_le _⟩
  · exact ⟨s, s1, fun w' hw' => by rw [g1, g3]; exact s2 w' hw', hfr⟩
theorem pend_of {a : Act} {w : World} {done : List Nat} {fr : Frs} (h : DoneOk P l a w done fr) : ∀ {pend : List Nat}, pend.all (done.contains ·) = true → pendOk P l.toArray a w pend
  | [], _ => trivial
  | i :: pend, hp => by
    simp only [List.all_cons, Bool.and_eq_true] at hp
    refine ⟨fun o ho hw => ?_, pend_of h hp.2⟩
    rw [← nthOp_eq] at ho
    obtain ⟨s, -, s2, -⟩ := h i (List.contains_iff_mem.1 hp.1) o ho hw
    exact s2 w (.inr fun _ _ => rfl)
theorem unwanted_guard {o : Oper} {ts : Nat → Option Bool} (h : Region.wanted o ts = false) : o.guard.isNone = false := by
  unfold Region.wanted at h
  cases hg : o.guard with
  | none => rw [hg] at h; cases h
  | some _ => rfl
theorem wpl_one {o : Oper} {Q : Exit → Act → World → Prop} {a : Act} {w : World} (h1 : Region.wanted o (yielded l.toArray a.tmps) = true → o.wp P a w (fun a w => Q .normal a w) Q) (h2 : Region.wanted o (yielded l.toArray a.tmps) = false → Q .normal (a.put o.dst undef) w) : wpList P l.toArray Q [o] a w := by
  unfold wpList
  cases h : Region.wanted o (yielded l.toArray a.tmps) with
  | true => simp only [if_true]; exact .inl (h1 h)
  | false => simp only [Bool.false_eq_true, if_false]; exact h2 h
theorem vcPl_ok {K : St → Prop} : ∀ {p : Plan} {done : List Nat} {fr : Frs} {st : St}, Plan.pends l p done fr = true → vcPl P l K p st → ∀ β F ι a w, Holds β F ι st a w → DoneOk P l a w done fr →
    ∀ Q : Exit → Act → World → Prop, (∀ F' ι' st' a' w', Holds β F' ι' st' a' w' → K st' → Q .normal a' w') → Plan.wp P l.toArray Q p a w
  | .last, done, fr, st, _, h, β, F, ι, a, w, hh, _, Q, hQ => hQ F ι st a w hh h
  | .seg i p, done, fr, st, hp, h, β, F, ι, a, w, hh, hd, Q, hQ => by
    have hp : Plan.pends l p (nextDone l i done) (nextFr l i fr) = true := hp
    intro o ho Q' hQ'
    rw [← nthOp_eq] at ho
    simp only [vcPl, ho] at h
    split at h
    · rename_i t x y d hdst hg
      obtain ⟨ht, h12⟩ := h
      obtain ⟨h1, h2⟩ := alt_if h12
      have hlt : t < a.tmps.size := by rw [hh.size]; exact ht
      have htold := told_ok hh hg
      have hw := gd_ok hh hg
      have hn : ∀ b, (st.told d b).n = st.n := fun b => by cases d <;> rfl
      by_cases e : x = y
      · subst e
        rcases vcS_ok (h1 rfl) with ⟨dd, hK, hE⟩ | hno
        · obtain ⟨v, hv, hr⟩ := hE β F ι a w htold
          refine wpl_one (fun _ => ?_) (fun hf => by rw [hw] at hf; simp at hf)
          unfold Oper.wp
          rw [hv w (.inr (Old.refl w)), Oper.upon_value, hdst]
          refine hQ' _ (vcPl_ok hp hK β F ι _ w (htold.put hr (by rw [hn]; exact ht)) (done_seg hd ho hdst hlt fun _ => hv) Q hQ)
        · exact (hno β F ι a w htold).elim
      · have e' : x = !y := by cases x <;> cases y <;> simp_all
        subst e'
        refine wpl_one (fun hf => by rw [hw] at hf; cases y <;> simp at hf) (fun hf => ?_)
        rw [hdst]
        exact hQ' _ (vcPl_ok hp (h2 rfl) β F ι _ w (htold.put RV.undef (by rw [hn]; exact ht)) (done_seg hd ho hdst hlt fun hw' => by rw [hf] at hw'; cases hw') Q hQ)
    · exact h.elim
  | .eff j pend p, done, fr, st, hp, h, β, F, ι, a, w, hh, hd, Q, hQ => by
    simp only [Plan.pends, Bool.and_eq_true] at hp
    intro o ho Q' hQ'
    rw [← nthOp_eq] at ho
    simp only [vcPl, ho] at h
    split at h
    · rename_i x y d hg
      obtain ⟨ht, h12⟩ := h
      obtain ⟨h1, h2⟩ := alt_if h12
      have htold := told_ok hh hg
      have hw := gd_ok hh hg
      have hn : ∀ b, (st.told d b).n = st.n := fun b => by cases d <;> rfl
      by_cases e : x = y
      · subst e
        refine wpl_one (fun _ => vcOp_ok (h1 rfl) β F ι a w htold _ _ fun F' ι' st' v w' hold g1 g2 => ?_) (fun hf => by rw [hw] at hf; simp at hf)
        have hdone := done_eff (v := v) hd ho (fun t ht' => by rw [hh.size]; exact ht t ht') (.inl hold)
        exact hQ' _ _ (pend_of hdone hp.1) (vcPl_ok hp.2 g2 β F' ι' _ w' g1 hdone Q hQ)
      · have e' : x = !y := by cases x <;> cases y <;> simp_all
        subst e'
        refine wpl_one (fun hf => by rw [hw] at hf; cases y <;> simp at hf) (fun hf => ?_)
        have hdone := done_eff (v := undef) (qt := !pend.isEmpty) hd ho (fun t ht' => by rw [hh.size]; exact ht t ht') (.inr ⟨rfl, unwanted_guard hf⟩)
        refine hQ' _ _ (pend_of hdone hp.1) (vcPl_ok hp.2 (h2 rfl) β F ι _ w ?_ hdone Q hQ)
        unfold St.skip
        cases hdst : o.dst with
        | none => exact htold
        | some t => exact htold.put RV.undef (by rw [hn]; exact ht t hdst)
    · exact h.elim
  | .fork j pend p rest, done, fr, st, hp, h, β, F, ι, a, w, hh, hd, Q, hQ => by
    simp only [Plan.pends, Bool.and_eq_true] at hp
    simp only [vcPl] at h
    refine ⟨?_, vcPl_ok hp.2 h.2 β F ι a w hh hd Q hQ⟩
    have h := h.1
    intro o ho Q' hQ'
    rw [← nthOp_eq] at ho
    simp only [ho] at h
    split at h
    · rename_i x y d hg
      obtain ⟨ht, h12⟩ := h
      obtain ⟨h1, h2⟩ := alt_if h12
      have htold := told_ok hh hg
      have hw := gd_ok hh hg
      have hn : ∀ b, (st.told d b).n = st.n := fun b => by cases d <;> rfl
      by_cases e : x = y
      · subst e
        refine wpl_one (fun _ => vcOp_ok (h1 rfl) β F ι a w htold _ _ fun F' ι' st' v w' hold g1 g2 => ?_) (fun hf => by rw [hw] at hf; simp at hf)
        have hdone := done_eff (v := v) hd ho (fun t ht' => by rw [hh.size]; exact ht t ht') (.inl hold)
        exact hQ' _ _ (pend_of hdone hp.1.1) (vcPl_ok hp.1.2 g2 β F' ι' _ w' g1 hdone Q hQ)
      · have e' : x = !y := by cases x <;> cases y <;> simp_all
        subst e'
        refine wpl_one (fun hf => by rw [hw] at hf; cases y <;> simp at hf) (fun hf => ?_)
        have hdone := done_eff (v := undef) (qt := !pend.isEmpty) hd ho (fun t ht' => by rw [hh.size]; exact ht t ht') (.inr ⟨rfl, unwanted_guard hf⟩)
        refine hQ' _ _ (pend_of hdone hp.1.1) (vcPl_ok hp.1.2 (h2 rfl) β F ι _ w ?_ hdone Q hQ)
        unfold St.skip
        cases hdst : o.dst with
        | none => exact htold
        | some t => exact htold.put RV.undef (by rw [hn]; exact ht t hdst)
    · exact h.elim
/-- the plans of a function's drawn regions -/
abbrev Pls := List (Nat × List Nat × Plan)
def plAt : Pls → Nat → Option (List Nat × Plan)
  | [], _ => none
  | (i, x) :: l, j => if j = i then some x else plAt l j
def regOk (n : Nat) (l : List Oper) (x : List Nat × Plan) : Bool := planOk l x.1 x.2 && Plan.pends l x.2 [] [] && l.all fun o => match o.dst with | some d => decide (d < n) | none => true
def plsOk (pl : Pls) (n : Nat) : Code → Bool
  | .region id ops true => match plAt pl id with
    | some x => regOk n ops.toList x
    | none => false
  | .seq a b => plsOk pl n a && plsOk pl n b
  | .cond _ a b => plsOk pl n a && plsOk pl n b
  | .block _ a => plsOk pl n a
  | .loop a => plsOk pl n a
  | _ => true
theorem Holds.drew {β : Base} {F : Nat → Prop} {ι : Nms} {st : St} {a : Act} {w : World} (h : Holds β F ι st a w) : Holds β F ι st a w.drew := by
  obtain ⟨h1, h2⟩ := h.heap.drew
  exact ⟨h.good, h.defers, h.size, fun t => (h.tm t).keep h2 (Nms.le_refl _), h1⟩
theorem ev_region_draw {id : Nat} {x : List Nat × Plan} {st : St} {K : Exit → St → Prop} (hm : P.follows .mixedOrders = true) (hok : regOk st.n l x = true) (h : vcPl P l (K .normal) x.2 st) : Ev P (.region id l.toArray true) K st := fun β F ι a w hh Q hQ => by
  simp only [regOk, Bool.and_eq_true] at hok
  refine wp_region_plan x.1 x.2 hm hok.1.1 (by rw [hh.size]; exact hok.2) ?_
  exact vcPl_ok hok.1.2 h β F ι a w.drew hh.drew (fun i hi => by cases hi) Q fun F' ι' st' a' w' h1 h2 => hQ .normal F' ι' st' a' w' h1 h2
end
def vc (P : Program) (pl : Pls) (n : Nat) (ks : List Nat) : Code → (Exit → St → Prop) → St → Prop
  | .skip, K, st => K .normal st
  | .region _ ops false, K, st => vcL P ops.toList (onlyK ks K) ops.toList st
  | .region id ops true, K, st => match plAt pl id with
    | some x => st.n = n ∧ vcPl P ops.toList (onlyK ks K) x.2 st
    | none => False
  | .seq a b, K, st => vc P pl n ks a (thenK (vc P pl n ks b K) K) st
  | .cond c x y, K, st => match ev st c with
    | .one (.d (.lit (.bool b))) => (if b = true then vc P pl n ks x K st else vc P pl n ks y K st)
    | _ => False
  | .block id c, K, st => vc P pl n ks c (blockK id K) st
  | .exit id, K, st => K (.exit id) st
  | .ret, K, st => K .ret st
  | c, K, st => Ev P c K st
theorem Ev.mono {P : Program} {c : Code} {st : St} {K K' : Exit → St → Prop} (h : Ev P c K st) (hk : ∀ e st, K e st → K' e st) : Ev P c K' st := fun β F ι a w hh Q hn => h β F ι a w hh Q fun e F' ι' st' a' w' h1 h2 => hn e F' ι' st' a' w' h1 (hk _ _ h2)
theorem evl_weakK {P : Program} {l rest : List Oper} {st : St} {K : St → Prop} {f : St → St} (h : EvL P l rest (fun st => K (f st)) st) (hf : ∀ st, Wk st (f st)) : EvL P l rest K st := fun β F ι a w hh Q hn => h β F ι a w hh Q fun F' ι' st' a' w' h1 h2 => by
  obtain ⟨F2, ι2, h3⟩ := hf st' β F' ι' a' w' h1
  exact hn F2 ι2 _ a' w' h3 h2
theorem ev_weakK {P : Program} {c : Code} {st : St} {K : Exit → St → Prop} {f : St → St} (h : Ev P c (fun e st => K e (f st)) st) (hf : ∀ st, Wk st (f st)) : Ev P c K st := fun β F ι a w hh Q hn => h β F ι a w hh Q fun e F' ι' st' a' w' h1 h2 => by
  obtain ⟨F2, ι2, h3⟩ := hf st' β F' ι' a' w' h1
  exact hn e F2 ι2 _ a' w' h3 h2
theorem vc_ok {P : Program} {pl : Pls} {ks : List Nat} {n : Nat} (hm : P.follows .mixedOrders = true) : ∀ {c : Code} {K : Exit → St → Prop} {st : St}, plsOk pl n c = true → vc P pl n ks c K st → Ev P c K st
  | .skip, K, st, _, h => ev_skip h
  | .region id ops false, K, st, _, h => by
    have h' : vcL P ops.toList (onlyK ks K) ops.toList st := h
    have := ev_region (id := id) (K := K) (evl_weakK (f := fun st => st.only ks) (K := K .normal) (vcL_ok h') fun st => Wk.only st ks)
    simpa using this
  | .region id ops true, K, st, hp, h => by
    unfold vc at h
    unfold plsOk at hp
    split at h
    · rename_i x hx
      simp only [hx] at hp
      have := ev_weakK (ev_region_draw (id := id) (K := fun e s => K e (s.only ks)) hm (by rw [h.1]; exact hp) h.2) fun st => Wk.only st ks
      simpa using this
    · exact h.elim
  | .seq a b, K, st, hp, h => by
    simp only [plsOk, Bool.and_eq_true] at hp
    exact ev_seq ((vc_ok hm (c := a) hp.1 h).mono fun e st h => by
      cases e with
      | normal => exact vc_ok hm (c := b) hp.2 h
      | _ => exact h)
  | .cond c x y, K, st, hp, h => by
    simp only [plsOk, Bool.and_eq_true] at hp
    unfold vc at h
    split at h
    · rename_i hc; exact ev_cond hc (fun e => vc_ok hm hp.1 ((alt_if h).1 e)) (fun e => vc_ok hm hp.2 ((alt_if h).2 e))
    · exact h.elim
  | .block id c, K, st, hp, h => ev_block (vc_ok hm (c := c) hp h)
  | .exit id, K, st, _, h => ev_exit h
  | .ret, K, st, _, h => ev_ret h
  | .loop _, K, st, _, h => h
  | .rangeFunc .., K, st, _, h => h
  | .scope _, K, st, _, h => h
  | .label _, K, st, _, h => h
  | .goto _, K, st, _, h => h
  | .refuse _, K, st, _, h => h
end Go.Proofs.YtalippdhfkpbmaaDoor
/- How simp computes what is left to show: equations at a state that is written out. -/
namespace Go.Proofs.YtalippdhfkpbmaaDoor
open Go.RowKit Go
section
variable {P : Program} {pl : Pls} {n0 : Nat} {ks : List Nat} {K : Exit → St → Prop} {K1 : St → Prop} {n nx : Nat} {tm : List (Nat × D)} {H : Hp}
@[simp] theorem vc_skip : vc P pl n0 ks .skip K ⟨n, tm, H, nx⟩ = K .normal ⟨n, tm, H, nx⟩ := rfl
@[simp] theorem vc_region {id : Nat} {ops : List Oper} : vc P pl n0 ks (.region id ops.toArray false) K ⟨n, tm, H, nx⟩ = vcL P ops (onlyK ks K) ops ⟨n, tm, H, nx⟩ := rfl
@[simp] theorem vc_draw {id : Nat} {ops : List Oper} : vc P pl n0 ks (.region id ops.toArray true) K ⟨n, tm, H, nx⟩ = (match plAt pl id with
    | some x => n = n0 ∧ vcPl P ops (onlyK ks K) x.2 ⟨n, tm, H, nx⟩
    | none => False) := rfl
@[simp] theorem vc_seq {a b : Code} : vc P pl n0 ks (.seq a b) K ⟨n, tm, H, nx⟩ = vc P pl n0 ks a (thenK (vc P pl n0 ks b K) K) ⟨n, tm, H, nx⟩ := rfl
@[simp] theorem vc_cond {c : Operand} {x y : Code} : vc P pl n0 ks (.cond c x y) K ⟨n, tm, H, nx⟩ = (match ev ⟨n, tm, H, nx⟩ c with
    | .one (.d (.lit (.bool b))) => (if b = true then vc P pl n0 ks x K ⟨n, tm, H, nx⟩ else vc P pl n0 ks y K ⟨n, tm, H, nx⟩)
    | _ => False) := rfl
@[simp] theorem vc_block {id : Nat} {c : Code} : vc P pl n0 ks (.block id c) K ⟨n, tm, H, nx⟩ = vc P pl n0 ks c (blockK id K) ⟨n, tm, H, nx⟩ := rfl
@[simp] theorem vc_exit {id : Nat} : vc P pl n0 ks (.exit id) K ⟨n, tm, H, nx⟩ = K (.exit id) ⟨n, tm, H, nx⟩ := rfl
@[simp] theorem vc_ret : vc P pl n0 ks .ret K ⟨n, tm, H, nx⟩ = K .ret ⟨n, tm, H, nx⟩ := rfl
@[simp] theorem vc_loop {c : Code} : vc P pl n0 ks (.loop c) K ⟨n, tm, H, nx⟩ = Ev P (.loop c) K ⟨n, tm, H, nx⟩ := rfl
@[simp] theorem vcL_nil {l : List Oper} : vcL P l K1 [] ⟨n, tm, H, nx⟩ = K1 ⟨n, tm, H, nx⟩ := rfl
@[simp] theorem vcL_cons {l rest : List Oper} {o : Oper} : vcL P l K1 (o :: rest) ⟨n, tm, H, nx⟩ = (match o.guard with
    | none => dstLt n o.dst = true ∧ vcOp P false ⟨n, tm, H, nx⟩ o (vcL P l K1 rest)
    | some _ => match gd l ⟨n, tm, H, nx⟩ o with
      | some (x, y, d) => dstLt n o.dst = true ∧ (if x = y then vcOp P false (St.told ⟨n, tm, H, nx⟩ d y) o (vcL P l K1 rest) else vcL P l K1 rest ((St.told ⟨n, tm, H, nx⟩ d (!y)).skip o))
      | none => False) := rfl
@[simp] theorem vcPl_last {l : List Oper} : vcPl P l K1 .last ⟨n, tm, H, nx⟩ = K1 ⟨n, tm, H, nx⟩ := rfl
@[simp] theorem vcPl_seg {l : List Oper} {i : Nat} {p : Plan} : vcPl P l K1 (.seg i p) ⟨n, tm, H, nx⟩ = (match nthOp l i with
    | some o => match o.dst, gd l ⟨n, tm, H, nx⟩ o with
      | some t, some (x, y, d) => t < n ∧ (if x = y then vcS P (St.told ⟨n, tm, H, nx⟩ d y) o.op (segK (St.told ⟨n, tm, H, nx⟩ d y) t (vcPl P l K1 p)) else vcPl P l K1 p ((St.told ⟨n, tm, H, nx⟩ d (!y)).put t (.tup [])))
      | _, _ => False
    | none => False) := rfl
@[simp] theorem vcPl_eff {l : List Oper} {j : Nat} {pend : List Nat} {p : Plan} : vcPl P l K1 (.eff j pend p) ⟨n, tm, H, nx⟩ = (match nthOp l j with
    | some o => match gd l ⟨n, tm, H, nx⟩ o with
      | some (x, y, d) => (∀ t, o.dst = some t → t < n) ∧ (if x = y then vcOp P (!pend.isEmpty) (St.told ⟨n, tm, H, nx⟩ d y) o (vcPl P l K1 p) else vcPl P l K1 p ((St.told ⟨n, tm, H, nx⟩ d (!y)).skip o))
      | none => False
    | none => False) := rfl
@[simp] theorem vcPl_fork {l : List Oper} {j : Nat} {pend : List Nat} {p rest : Plan} : vcPl P l K1 (.fork j pend p rest) ⟨n, tm, H, nx⟩ = (vcPl P l K1 (.eff j pend p) ⟨n, tm, H, nx⟩ ∧ vcPl P l K1 rest ⟨n, tm, H, nx⟩) := rfl
@[simp] theorem segK_mk {t : Nat} {d : D} : segK ⟨n, tm, H, nx⟩ t K1 d = K1 ⟨n, ins tm t d, H, nx⟩ := rfl
@[simp] theorem putD_mk {o : Oper} {d : D} : putD ⟨n, tm, H, nx⟩ o K1 d = (match o.dst with
    | some t => t < n ∧ K1 ⟨n, ins tm t d, H, nx⟩
    | none => False) := rfl
@[simp] theorem onlyK_mk : onlyK ks K ⟨n, tm, H, nx⟩ = K .normal ⟨n, keepT tm ks, H, nx⟩ := rfl
@[simp] theorem thenK_normal : thenK K1 K .normal ⟨n, tm, H, nx⟩ = K1 ⟨n, tm, H, nx⟩ := rfl
@[simp] theorem thenK_exit {id : Nat} : thenK K1 K (.exit id) ⟨n, tm, H, nx⟩ = K (.exit id) ⟨n, tm, H, nx⟩ := rfl
@[simp] theorem thenK_ret : thenK K1 K .ret ⟨n, tm, H, nx⟩ = K .ret ⟨n, tm, H, nx⟩ := rfl
@[simp] theorem blockK_normal {id : Nat} : blockK id K .normal ⟨n, tm, H, nx⟩ = K .normal ⟨n, tm, H, nx⟩ := rfl
@[simp] theorem blockK_ret {id : Nat} : blockK id K .ret ⟨n, tm, H, nx⟩ = K .ret ⟨n, tm, H, nx⟩ := rfl
@[simp] theorem blockK_exit {id id' : Nat} : blockK id K (.exit id') ⟨n, tm, H, nx⟩ = if id' = id then K .normal ⟨n, tm, H, nx⟩ else K (.exit id') ⟨n, tm, H, nx⟩ := rfl
@[simp] theorem loopK_normal {α : Type} {S : α → St} {m : α → Nat} {x : α} : loopK S m x K .normal ⟨n, tm, H, nx⟩ = ∃ x', m x' < m x ∧ Wk ⟨n, tm, H, nx⟩ (S x') := rfl
@[simp] theorem loopK_exit {α : Type} {S : α → St} {m : α → Nat} {x : α} {id : Nat} : loopK S m x K (.exit id) ⟨n, tm, H, nx⟩ = K (.exit id) ⟨n, tm, H, nx⟩ := rfl
@[simp] theorem loopK_ret {α : Type} {S : α → St} {m : α → Nat} {x : α} : loopK S m x K .ret ⟨n, tm, H, nx⟩ = K .ret ⟨n, tm, H, nx⟩ := rfl
@[simp] theorem callK_mk {t : Option Nat} {d : D} {fr : List Blk} : callK ⟨n, tm, H, nx⟩ t K1 d fr = K1 ((St.adds ⟨n, tm, H, nx⟩ fr).putO t (d.ren (· + nx))) := rfl
@[simp] theorem callKI_mk {t : Option Nat} {d : D} {H' : Hp} {nx' : Nat} : callKI ⟨n, tm, H, nx⟩ t K1 d H' nx' = K1 (St.putO ⟨n, tm, H', nx'⟩ t d) := rfl
def retPI (P : Program) (rs : List ResultVar) (K : D → Hp → Nat → Prop) (st : St) : Prop := match resDs P st rs with
  | some ds => (resT ds).sol ∧ HSol st.H ∧ K (resT ds) st.H st.nx
  | none => False
theorem retPI_ok {rs : List ResultVar} {K : D → Hp → Nat → Prop} {st : St} (h : retPI P rs K st) : retI P rs K .ret st := by
  unfold retPI at h
  split at h
  · rename_i ds h1; exact ⟨ds, h1, h⟩
  · exact h.elim
def retJ (P : Program) (rs : List ResultVar) (K : D → Hp → Nat → Prop) : Exit → St → Prop
  | .normal, st | .ret, st => retPI P rs K st
  | _, _ => False
theorem retJ_ok {rs : List ResultVar} {K : D → Hp → Nat → Prop} {e : Exit} {st : St} (h : retJ P rs K e st) : retI P rs K e st := by
  cases e <;> first | exact retPI_ok h | exact h.elim
@[simp] theorem retJ_normal {rs : List ResultVar} {K : D → Hp → Nat → Prop} : retJ P rs K .normal ⟨n, tm, H, nx⟩ = match resDs P ⟨n, tm, H, nx⟩ rs with
    | some ds => (resT ds).sol ∧ HSol H ∧ K (resT ds) H nx
    | none => False := rfl
@[simp] theorem retJ_ret {rs : List ResultVar} {K : D → Hp → Nat → Prop} : retJ P rs K .ret ⟨n, tm, H, nx⟩ = match resDs P ⟨n, tm, H, nx⟩ rs with
    | some ds => (resT ds).sol ∧ HSol H ∧ K (resT ds) H nx
    | none => False := rfl
def retP (P : Program) (rs : List ResultVar) (K : D → List Blk → Prop) (st : St) : Prop := match resDs P st rs with
  | some ds => (resT ds).owns.Nodup ∧ (resT ds).okX (fun n => n ∈ (resT ds).owns) ∧ match blks st.H (resT ds).owns with
    | some fr => K ((resT ds).ren fun n => (resT ds).owns.idxOf n) fr
    | none => False
  | none => False
theorem retP_ok {rs : List ResultVar} {K : D → List Blk → Prop} {st : St} (h : retP P rs K st) : retK P rs K .ret st := by
  unfold retP at h
  split at h
  · rename_i ds h1
    obtain ⟨h2, h3, h⟩ := h
    split at h
    · rename_i fr h4; exact ⟨ds, fr, h1, h2, h3, h4, h⟩
    · exact h.elim
  · exact h.elim
/-- what stands at the end of a function -/
def retQ (P : Program) (rs : List ResultVar) (K : D → List Blk → Prop) : Exit → St → Prop
  | .normal, st | .ret, st => retP P rs K st
  | _, _ => False
theorem retQ_ok {rs : List ResultVar} {K : D → List Blk → Prop} {e : Exit} {st : St} (h : retQ P rs K e st) : retK P rs K e st := by
  cases e <;> first | exact retP_ok h | exact h.elim
@[simp] theorem retQ_normal {rs : List ResultVar} {K : D → List Blk → Prop} : retQ P rs K .normal ⟨n, tm, H, nx⟩ = retP P rs K ⟨n, tm, H, nx⟩ := rfl
@[simp] theorem retQ_ret {rs : List ResultVar} {K : D → List Blk → Prop} : retQ P rs K .ret ⟨n, tm, H, nx⟩ = retP P rs K ⟨n, tm, H, nx⟩ := rfl
@[simp] theorem retP_mk {rs : List ResultVar} {K : D → List Blk → Prop} : retP P rs K ⟨n, tm, H, nx⟩ = match resDs P ⟨n, tm, H, nx⟩ rs with
  | some ds => (resT ds).owns.Nodup ∧ (resT ds).okX (fun n => n ∈ (resT ds).owns) ∧ match blks H (resT ds).owns with
    | some fr => K ((resT ds).ren fun n => (resT ds).owns.idxOf n) fr
    | none => False
  | none => False := rfl
theorem fn_ok {f : FuncId} {fn : Func} {c : Code} {ds : List D} {rs : List ResultVar} {m : Nat} {K : D → List Blk → Prop} (ks : List Nat) (pl : Pls) (hf : P.funcs[f]? = some fn) (hb : fn.body = some c) (hg : goFn P f = true) (hr : fn.results.toList = rs) (hm : fn.ntmps = m) (hn : decide (ds.length ≤ m) = true)
    (hx : P.follows .mixedOrders = true) (hp : plsOk pl m c = true) (h : vc P pl m ks c (retQ P rs K) ⟨m, tms 0 ds, Hp.none, 0⟩) : DPure P f ds K := by
  subst hr hm
  exact dpure_of_ev hf hb hg (by simpa using hn) ((vc_ok hx hp h).mono fun e st h => retQ_ok h)
theorem fni_ok {f : FuncId} {fn : Func} {c : Code} {ds : List D} {rs : List ResultVar} {m : Nat} {K : D → Hp → Nat → Prop} (ks : List Nat) (pl : Pls) (hf : P.funcs[f]? = some fn) (hb : fn.body = some c) (hg : goFn P f = true) (hr : fn.results.toList = rs) (hm : fn.ntmps = m) (hn : decide (ds.length ≤ m) = true)
    (hx : P.follows .mixedOrders = true) (hp : plsOk pl m c = true) (h : vc P pl m ks c (retJ P rs K) ⟨m, tms 0 ds, H, nx⟩) : ICall P f ds H nx K := by
  subst hr hm
  exact icall_of_ev hf hb hg (by simpa using hn) ((vc_ok hx hp h).mono fun e st h => retJ_ok h)
/-- an empty slice that cannot grow in place is a row of one's own, too -/
theorem DPure.own {f : FuncId} {ds : List D} {K : D → List Blk → Prop} (e : TypeId) (k : Nat) (h : DPure P f ds fun d fr => K d fr ∨ (d = .one (.d .emp) ∧ fr = [] ∧ K (.one (.own 0 k 0)) [⟨.c e, k, []⟩])) : DPure P f ds K :=
  ⟨h.1, fun F w vs h1 hgl h2 => (h.2 F w vs h1 hgl h2).mono fun _ w' ⟨F', ι, d, fr, v, e1, e2, e3⟩ => by
    rcases e3 with e3 | ⟨rfl, rfl, e3⟩
    · exact ⟨F', ι, d, fr, v, e1, e2, e3⟩
    · refine ⟨F', fun i => if i = 0 then some (0, 0) else none, _, _, v, e1, ⟨e2.size, e2.old, e2.Fle, e2.new, fun i x hx => ?_, fun i b cap hi hb hc => ?_, fun i j b c c' hi hj hb hb' hc => ?_, fun i hi => ?_, ?_, e2.io⟩, e3⟩
      · cases i with
        | zero =>
          simp only [List.getElem?_cons_zero, Option.some.injEq] at hx
          subst hx
          exact ⟨⟨0, 0, rfl, Nat.le_refl _, by simp, fun h => absurd h (by omega)⟩, fun e he => by cases he⟩
        | succ i => simp at hx
      · simp at hi; subst hi; simp at hb; omega
      · simp at hi; subst hi; simp at hb; omega
      · simp at hi; have : i ≠ 0 := by omega
        simp [this]
      · have hv := e2.val
        rw [RV] at hv ⊢
        have hv' : ∃ A, v = .slice A 0 0 := by cases hv; exact ⟨_, rfl⟩
        exact ⟨0, 0, rfl, Nat.le_refl _, by simp [maxLen], .inl ⟨rfl, hv'⟩⟩⟩
def puts (tm : List (Nat × D)) : List (Nat × D) → List (Nat × D)
  | [] => tm
  | (t, d) :: l => puts (ins tm t d) l
/-- a loop: which temporaries change, and how they stand -/
theorem loop_ok {α : Type} {c : Code} (u : α → List (Nat × D)) (m : α → Nat) (x0 : α) (hx : P.follows .mixedOrders = true) (hp : plsOk pl n0 c = true) (h0 : Wk ⟨n, tm, H, nx⟩ ⟨n, puts tm (u x0), H, nx⟩)
    (round : ∀ x, vc P pl n0 ks c (loopK (fun x => ⟨n, puts tm (u x), H, nx⟩) m x K) ⟨n, puts tm (u x), H, nx⟩) : Ev P (.loop c) K ⟨n, tm, H, nx⟩ :=
  ev_loop (fun x => ⟨n, puts tm (u x), H, nx⟩) m x0 h0 fun x => vc_ok hx hp (round x)
theorem Wk.sub {tm' : List (Nat × D)} (h : keepT tm (tm'.map (·.1)) = tm') : Wk ⟨n, tm, H, nx⟩ ⟨n, tm', H, nx⟩ := by
  have := Wk.only ⟨n, tm, H, nx⟩ (tm'.map (·.1))
  simp only [St.only] at this
  rwa [h] at this
end
@[simp] theorem lends_map {H : Hp} {l : List D} : ∀ fs : List Dt, lends H (fs.map (fun x => D.one (C.d x)) ++ l) = (lends H l).map fun r => fs.map (fun x => D.one (C.d x)) ++ r
  | [] => by simp
  | f :: fs => by
    simp only [List.map_cons, List.cons_append, lends, lendD, lendC, Option.map_some, Option.bind_some, lends_map fs]
    cases lends H l <;> rfl
@[simp] theorem lends_map0 {H : Hp} (fs : List Dt) : lends H (fs.map (fun x => D.one (C.d x))) = some (fs.map fun x => D.one (C.d x)) := by
  have := lends_map (H := H) (l := []) fs
  simpa [lends] using this
@[simp] theorem solid_lit (v : Value) : (Dt.lit v).solidT = true := rfl
@[simp] theorem solid_emp : Dt.emp.solidT = true := rfl
@[simp] theorem solid_sl (S : Bool) (es : List (List Dt)) : (Dt.sl S es).solidT = S := rfl
@[simp] theorem solid_at (S : Bool) (es : List Dt) : (Dt.at_ S es).solidT = S := rfl
@[simp] theorem solid_fn (f : Fn) (fs cs : List Dt) : (Dt.fn f fs cs).solidT = (fs.isEmpty && cs.isEmpty) := rfl
@[simp] theorem isD_d (x : Dt) : (C.d x).isD = x.solidT := rfl
@[simp] theorem isD_own (n k l : Nat) : (C.own n k l).isD = false := rfl
@[simp] theorem isD_ptr (n k i o : Nat) : (C.ptr n k i o).isD = false := rfl
@[simp] theorem isD_map (n : Nat) : (C.map n).isD = false := rfl
@[simp] theorem isD_any : C.any.isD = false := rfl
@[simp] theorem dt_d (x : Dt) : (C.d x).dt = x := rfl
@[simp] theorem solidC_d (x : Dt) : (C.d x).solidC = x.solidT := rfl
@[simp] theorem solidC_own (n k l : Nat) : (C.own n k l).solidC = true := rfl
@[simp] theorem solidC_map (n : Nat) : (C.map n).solidC = true := rfl
@[simp] theorem solidC_ptr (n k i o : Nat) : (C.ptr n k i o).solidC = true := rfl
attribute [simp] wrFn frzFn vcFz keyD mapOf St.newMap fltA vcFlt vcExt ext ext1 dstLt keepF ascB Value.oneCell' Hp.set_ne D.sol Ds.sol hasPtr vcCI putK vcNil isNilC vcOp vcS vcC vcLen vcApp plAt puts gd nthOp ev lk ins St.put St.skip St.told St.only keepT St.adds St.putO addsH litOf aggOf intsOf intOf? lenOf? idxA fieldA rd sc ofVal cellOf resDs resD resT tms Ds.ren D.ren C.ren D.owns Ds.owns ownsC D.okX Ds.okX C.okX blks lends lendD lendC lendCs callArgs Dcells splice layC layE partD optInt subC dsOf ptrOf St.frzs St.frz frzT D.frz C.frz baseOf srcOf St.row dropO Hp.set Hp.none St.newVar
theorem Wk.of_eq {st st' : St} (h : st = st') : Wk st st' := h ▸ Wk.refl st
theorem wrap_id {n : Int} (h1 : -9223372036854775808 ≤ n) (h2 : n ≤ 9223372036854775807) : IntKind.i64.wrap n = n := IntWalk.i64_in n ⟨h1, h2⟩
/-- two ways at an undecided condition -/
theorem alt {c : Prop} [Decidable c] {A B : Prop} (h : c → A) (g : ¬ c → B) : if c then A else B := by
  by_cases e : c
  · rw [if_pos e]; exact h e
  · rw [if_neg e]; exact g e
end Go.Proofs.YtalippdhfkpbmaaDoor
/- What the walks ask of the types of this program. -/
namespace Go.Proofs.YtalippdhfkpbmaaDoor
open Go.RowKit Go
@[simp] theorem arr110 : arrOf Tryd.prog 110 = some (3, 3, 1, false) := by kernel_rfl
@[simp] theorem arr133 : arrOf Tryd.prog 133 = some (39, 9, 1, false) := by kernel_rfl
@[simp] theorem bool4 : boolT Tryd.prog 4 = true := by kernel_rfl
@[simp] theorem by23 : byOf Tryd.prog 23 = some 16 := by kernel_rfl
@[simp] theorem by3 : byOf Tryd.prog 3 = some 8 := by kernel_rfl
@[simp] theorem by4 : byOf Tryd.prog 4 = some 1 := by kernel_rfl
@[simp] theorem by43 : byOf Tryd.prog 43 = some 40 := by kernel_rfl
@[simp] theorem by47 : byOf Tryd.prog 47 = some 72 := by kernel_rfl
@[simp] theorem by49 : byOf Tryd.prog 49 = some 24 := by kernel_rfl
@[simp] theorem by51 : byOf Tryd.prog 51 = some 16 := by kernel_rfl
@[simp] theorem by63 : byOf Tryd.prog 63 = some 32 := by kernel_rfl
@[simp] theorem by73 : byOf Tryd.prog 73 = some 8 := by kernel_rfl
@[simp] theorem by9 : byOf Tryd.prog 9 = some 16 := by kernel_rfl
@[simp] theorem el29 : elOf Tryd.prog 29 = some (9, 1) := by kernel_rfl
@[simp] theorem el32 : elOf Tryd.prog 32 = some (47, 5) := by kernel_rfl
@[simp] theorem el33 : elOf Tryd.prog 33 = some (23, 2) := by kernel_rfl
@[simp] theorem el36 : elOf Tryd.prog 36 = some (49, 1) := by kernel_rfl
@[simp] theorem el37 : elOf Tryd.prog 37 = some (4, 1) := by kernel_rfl
@[simp] theorem el44 : elOf Tryd.prog 44 = some (3, 1) := by kernel_rfl
@[simp] theorem el45 : elOf Tryd.prog 45 = some (43, 5) := by kernel_rfl
@[simp] theorem el49 : elOf Tryd.prog 49 = some (51, 2) := by kernel_rfl
@[simp] theorem el59 : elOf Tryd.prog 59 = some (63, 2) := by kernel_rfl
@[simp] theorem el77 : elOf Tryd.prog 77 = some (73, 1) := by kernel_rfl
@[simp] theorem eqi23 : EqI Tryd.prog 23 2 := by
  intro x y l m w hl hm
  obtain ⟨a0, a1, rfl⟩ : ∃ a0 a1, l = [a0, a1] := by match l, hl with | [a0, a1], _ => exact ⟨a0, a1, rfl⟩
  obtain ⟨b0, b1, rfl⟩ : ∃ b0 b1, m = [b0, b1] := by match m, hm with | [b0, b1], _ => exact ⟨b0, b1, rfl⟩
  constructor <;> (simp [go_sem]; by_cases h0 : a0 = b0 <;> by_cases h1 : a1 = b1 <;> simp [h0, h1])
@[simp] theorem eqi51 : EqI Tryd.prog 51 2 := by
  intro x y l m w hl hm
  obtain ⟨a0, a1, rfl⟩ : ∃ a0 a1, l = [a0, a1] := by match l, hl with | [a0, a1], _ => exact ⟨a0, a1, rfl⟩
  obtain ⟨b0, b1, rfl⟩ : ∃ b0 b1, m = [b0, b1] := by match m, hm with | [b0, b1], _ => exact ⟨b0, b1, rfl⟩
  constructor <;> (simp [go_sem]; by_cases h0 : a0 = b0 <;> by_cases h1 : a1 = b1 <;> simp [h0, h1])
@[simp] theorem fld107_0 : fldOf Tryd.prog 107 0 = some (0, 3) := by kernel_rfl
@[simp] theorem fld107_1 : fldOf Tryd.prog 107 1 = some (3, 5) := by kernel_rfl
@[simp] theorem fld23_0 : fldOf Tryd.prog 23 0 = some (0, 1) := by kernel_rfl
@[simp] theorem fld23_1 : fldOf Tryd.prog 23 1 = some (1, 1) := by kernel_rfl
@[simp] theorem fld35_0 : fldOf Tryd.prog 35 0 = some (0, 1) := by kernel_rfl
@[simp] theorem fld35_1 : fldOf Tryd.prog 35 1 = some (1, 1) := by kernel_rfl
@[simp] theorem fld35_2 : fldOf Tryd.prog 35 2 = some (2, 1) := by kernel_rfl
@[simp] theorem fld43_0 : fldOf Tryd.prog 43 0 = some (0, 1) := by kernel_rfl
@[simp] theorem fld43_1 : fldOf Tryd.prog 43 1 = some (1, 1) := by kernel_rfl
@[simp] theorem fld43_2 : fldOf Tryd.prog 43 2 = some (2, 1) := by kernel_rfl
@[simp] theorem fld43_3 : fldOf Tryd.prog 43 3 = some (3, 1) := by kernel_rfl
@[simp] theorem fld43_4 : fldOf Tryd.prog 43 4 = some (4, 1) := by kernel_rfl
@[simp] theorem fld47_0 : fldOf Tryd.prog 47 0 = some (0, 1) := by kernel_rfl
@[simp] theorem fld47_1 : fldOf Tryd.prog 47 1 = some (1, 1) := by kernel_rfl
@[simp] theorem fld47_2 : fldOf Tryd.prog 47 2 = some (2, 1) := by kernel_rfl
@[simp] theorem fld47_3 : fldOf Tryd.prog 47 3 = some (3, 1) := by kernel_rfl
@[simp] theorem fld47_4 : fldOf Tryd.prog 47 4 = some (4, 1) := by kernel_rfl
@[simp] theorem fld63_0 : fldOf Tryd.prog 63 0 = some (0, 1) := by kernel_rfl
@[simp] theorem fld63_1 : fldOf Tryd.prog 63 1 = some (1, 1) := by kernel_rfl
@[simp] theorem fld98_0 : fldOf Tryd.prog 98 0 = some (0, 5) := by kernel_rfl
@[simp] theorem fld98_1 : fldOf Tryd.prog 98 1 = some (5, 1) := by kernel_rfl
@[simp] theorem fld98_2 : fldOf Tryd.prog 98 2 = some (6, 1) := by kernel_rfl
@[simp] theorem fld98_3 : fldOf Tryd.prog 98 3 = some (7, 1) := by kernel_rfl
@[simp] theorem fld98_4 : fldOf Tryd.prog 98 4 = some (8, 1) := by kernel_rfl
@[simp] theorem flds107 : fldsOf Tryd.prog 107 = some [(0, 3), (3, 5)] := by kernel_rfl
@[simp] theorem flds23 : fldsOf Tryd.prog 23 = some [(0, 1), (1, 1)] := by kernel_rfl
@[simp] theorem flds35 : fldsOf Tryd.prog 35 = some [(0, 1), (1, 1), (2, 1)] := by kernel_rfl
@[simp] theorem flds43 : fldsOf Tryd.prog 43 = some [(0, 1), (1, 1), (2, 1), (3, 1), (4, 1)] := by kernel_rfl
@[simp] theorem flds47 : fldsOf Tryd.prog 47 = some [(0, 1), (1, 1), (2, 1), (3, 1), (4, 1)] := by kernel_rfl
@[simp] theorem flds51 : fldsOf Tryd.prog 51 = some [(0, 1), (1, 1)] := by kernel_rfl
@[simp] theorem flds63 : fldsOf Tryd.prog 63 = some [(0, 1), (1, 1)] := by kernel_rfl
@[simp] theorem flds98 : fldsOf Tryd.prog 98 = some [(0, 5), (5, 1), (6, 1), (7, 1), (8, 1)] := by kernel_rfl
@[simp] theorem int3 : intT Tryd.prog 3 = some .i64 := by kernel_rfl
@[simp] theorem int64 : intT Tryd.prog 64 = some .u64 := by kernel_rfl
@[simp] theorem int90 : intT Tryd.prog 90 = some .u64 := by kernel_rfl
@[simp] theorem map103 : mapT Tryd.prog 103 = some 9 := by kernel_rfl
@[simp] theorem keyed9 : Go.Maps.Keyed Tryd.prog 9 := Go.Maps.string_keyed (by kernel_rfl)
theorem keyin9 {s : ByteArray} (h : s.size ≤ maxLen) : KeyIn 9 (.string s) := ⟨_, Go.WideMaps.keyOf_string_mk (by kernel_rfl) h⟩
@[simp] theorem el133 : elOf Tryd.prog 133 = none := by kernel_rfl
@[simp] theorem flds110 : fldsOf Tryd.prog 110 = none := by kernel_rfl
@[simp] theorem flds133 : fldsOf Tryd.prog 133 = none := by kernel_rfl
@[simp] theorem row107 : rowT Tryd.prog 107 = some true := by kernel_rfl
@[simp] theorem row23 : rowT Tryd.prog 23 = some true := by kernel_rfl
@[simp] theorem row29 : rowT Tryd.prog 29 = some false := by kernel_rfl
@[simp] theorem row3 : rowT Tryd.prog 3 = some false := by kernel_rfl
@[simp] theorem row32 : rowT Tryd.prog 32 = some false := by kernel_rfl
@[simp] theorem row33 : rowT Tryd.prog 33 = some false := by kernel_rfl
@[simp] theorem row35 : rowT Tryd.prog 35 = some true := by kernel_rfl
@[simp] theorem row36 : rowT Tryd.prog 36 = some false := by kernel_rfl
@[simp] theorem row37 : rowT Tryd.prog 37 = some false := by kernel_rfl
@[simp] theorem row4 : rowT Tryd.prog 4 = some false := by kernel_rfl
@[simp] theorem row43 : rowT Tryd.prog 43 = some true := by kernel_rfl
@[simp] theorem row44 : rowT Tryd.prog 44 = some false := by kernel_rfl
@[simp] theorem row45 : rowT Tryd.prog 45 = some false := by kernel_rfl
@[simp] theorem row47 : rowT Tryd.prog 47 = some true := by kernel_rfl
@[simp] theorem row49 : rowT Tryd.prog 49 = some false := by kernel_rfl
@[simp] theorem row51 : rowT Tryd.prog 51 = some true := by kernel_rfl
@[simp] theorem row63 : rowT Tryd.prog 63 = some true := by kernel_rfl
@[simp] theorem row73 : rowT Tryd.prog 73 = some false := by kernel_rfl
@[simp] theorem row9 : rowT Tryd.prog 9 = some false := by kernel_rfl
@[simp] theorem str9 : isStr Tryd.prog 9 = true := by kernel_rfl
@[simp] theorem sz107 : szOf Tryd.prog 107 = some 8 := by kernel_rfl
@[simp] theorem sz133 : szOf Tryd.prog 133 = some 39 := by kernel_rfl
@[simp] theorem sz23 : szOf Tryd.prog 23 = some 2 := by kernel_rfl
@[simp] theorem sz29 : szOf Tryd.prog 29 = some 1 := by kernel_rfl
@[simp] theorem sz3 : szOf Tryd.prog 3 = some 1 := by kernel_rfl
@[simp] theorem sz32 : szOf Tryd.prog 32 = some 1 := by kernel_rfl
@[simp] theorem sz33 : szOf Tryd.prog 33 = some 1 := by kernel_rfl
@[simp] theorem sz35 : szOf Tryd.prog 35 = some 3 := by kernel_rfl
@[simp] theorem sz4 : szOf Tryd.prog 4 = some 1 := by kernel_rfl
@[simp] theorem sz43 : szOf Tryd.prog 43 = some 5 := by kernel_rfl
@[simp] theorem sz44 : szOf Tryd.prog 44 = some 1 := by kernel_rfl
@[simp] theorem sz45 : szOf Tryd.prog 45 = some 1 := by kernel_rfl
@[simp] theorem sz47 : szOf Tryd.prog 47 = some 5 := by kernel_rfl
@[simp] theorem sz49 : szOf Tryd.prog 49 = some 1 := by kernel_rfl
@[simp] theorem sz51 : szOf Tryd.prog 51 = some 2 := by kernel_rfl
@[simp] theorem sz63 : szOf Tryd.prog 63 = some 2 := by kernel_rfl
@[simp] theorem zero107 : zeroOf Tryd.prog 107 = some [.slice none 0 0, .slice none 0 0, .slice none 0 0, .int .i64 0, .int .i64 0, .bool false, .slice none 0 0, .slice none 0 0] := by kernel_rfl
@[simp] theorem zero110 : zeroOf Tryd.prog 110 = some [.int .i64 0, .int .i64 0, .int .i64 0] := by kernel_rfl
@[simp] theorem zero133 : zeroOf Tryd.prog 133 = some [.string ByteArray.empty, .string ByteArray.empty, .string ByteArray.empty, .string ByteArray.empty, .string ByteArray.empty, .string ByteArray.empty, .string ByteArray.empty, .string ByteArray.empty, .string ByteArray.empty, .string ByteArray.empty, .string ByteArray.empty, .string ByteArray.empty, .string ByteArray.empty, .string ByteArray.empty, .string ByteArray.empty, .string ByteArray.empty, .string ByteArray.empty, .string ByteArray.empty, .string ByteArray.empty, .string ByteArray.empty, .string ByteArray.empty, .string ByteArray.empty, .string ByteArray.empty, .string ByteArray.empty, .string ByteArray.empty, .string ByteArray.empty, .string ByteArray.empty, .string ByteArray.empty, .string ByteArray.empty, .string ByteArray.empty, .string ByteArray.empty, .string ByteArray.empty, .string ByteArray.empty, .string ByteArray.empty, .string ByteArray.empty, .string ByteArray.empty, .string ByteArray.empty, .string ByteArray.empty, .string ByteArray.empty] := by kernel_rfl
@[simp] theorem zero23 : zeroOf Tryd.prog 23 = some [.int .i64 0, .int .i64 0] := by kernel_rfl
@[simp] theorem zero3 : zeroOf Tryd.prog 3 = some [.int .i64 0] := by kernel_rfl
@[simp] theorem zero35 : zeroOf Tryd.prog 35 = some [.slice none 0 0, .slice none 0 0, .slice none 0 0] := by kernel_rfl
@[simp] theorem zero4 : zeroOf Tryd.prog 4 = some [.bool false] := by kernel_rfl
@[simp] theorem zero43 : zeroOf Tryd.prog 43 = some [.int .i64 0, .int .i64 0, .int .i64 0, .int .i64 0, .int .i64 0] := by kernel_rfl
@[simp] theorem zero47 : zeroOf Tryd.prog 47 = some [.int .i64 0, .int .i64 0, .bool false, .slice none 0 0, .slice none 0 0] := by kernel_rfl
@[simp] theorem zero49 : zeroOf Tryd.prog 49 = some [.slice none 0 0] := by kernel_rfl
@[simp] theorem zero51 : zeroOf Tryd.prog 51 = some [.int .i64 0, .int .i64 0] := by kernel_rfl
@[simp] theorem zero63 : zeroOf Tryd.prog 63 = some [.bool false, .slice none 0 0] := by kernel_rfl
@[simp] theorem zero73 : zeroOf Tryd.prog 73 = some [.float .f64 0] := by kernel_rfl
@[simp] theorem zero9 : zeroOf Tryd.prog 9 = some [.string ByteArray.empty] := by kernel_rfl
@[simp] theorem zero98 : zeroOf Tryd.prog 98 = some [.int .i64 0, .int .i64 0, .bool false, .slice none 0 0, .slice none 0 0, .slice none 0 0, .slice none 0 0, .slice none 0 0, .bool false] := by kernel_rfl
end Go.Proofs.YtalippdhfkpbmaaDoor
/- Contracts of Go's library, at the types of this program: how data are spelled, Equal, Contains. -/
namespace Go.Proofs.YtalippdhfkpbmaaDoor
open Go.RowKit Go
abbrev eI (n : Int) : Dt := .lit (.int .i64 n)
abbrev eB (b : Bool) : Dt := .lit (.bool b)
abbrev eS (s : ByteArray) : Dt := .lit (.string s)
abbrev dI (n : Int) : D := .one (.d (eI n))
abbrev dB (b : Bool) : D := .one (.d (eB b))
abbrev dS (s : ByteArray) : D := .one (.d (eS s))
abbrev dL (S : Bool) (es : List (List Dt)) : D := .one (.d (.sl S es))
theorem kD {K : D → List Blk → Prop} {a b : D} (h : K a []) (e : a = b) : K b [] := e ▸ h
theorem kB {K : D → List Blk → Prop} {a b : Bool} (h : K (dB a) []) (e : a = b) : K (dB b) [] := e ▸ h
@[simp] theorem wrap_add {n : Nat} (h : n < 9223372036854775807) : IntKind.i64.wrap ((n : Int) + 1) = ((n + 1 : Nat) : Int) := by rw [wrap_id (by omega) (by omega)]; omega
theorem take_eq_succ {α : Type} {L M : List α} {k : Nat} (h : L.take k = M.take k) (hl : k < L.length) (hm : k < M.length) (e : L[k] = M[k]) : L.take (k + 1) = M.take (k + 1) := by
  rw [List.take_succ_eq_append_getElem hl, List.take_succ_eq_append_getElem hm, h, e]
structure GTry where
  reg : Int
  at_ : Int
def eTry (t : GTry) : List Dt := [eI t.reg, eI t.at_]
attribute [simp] eTry
@[simp] theorem eTry_len (t : GTry) : (eTry t).length = 2 := rfl
instance : DecidableEq GTry := fun a b => decidable_of_iff (a.reg = b.reg ∧ a.at_ = b.at_) (by cases a; cases b; simp)
theorem equalT_ok (S T : Bool) (L M : List GTry) {K : D → List Blk → Prop} (h : K (dB (decide (L = M))) []) : DPure Tryd.prog 21 [dL S (L.map eTry), dL T (M.map eTry)] K := by
  refine fn_ok [0,1,4,5,10,12,13,14,24] [(6, [0,0,3,7,0,0,48,112,255], (.seg 0 (.seg 1 (.seg 2 (.seg 3 (.seg 4 (.seg 5 (.seg 6 (.seg 7 (.seg 8 .last))))))))))] Tryd.func21 rfl (by kernel_rfl) rfl rfl rfl rfl (by kernel_rfl) ?_
  simp
  intro hl hm
  refine alt (fun he => ?_) (fun hne => kB h (by simp; rintro rfl; exact hne rfl))
  have he : L.length = M.length := by omega
  intro _
  refine loop_ok (ks := [0,1,4,5,10,12,13,14,24]) (pl := [(6, [0,0,3,7,0,0,48,112,255], (.seg 0 (.seg 1 (.seg 2 (.seg 3 (.seg 4 (.seg 5 (.seg 6 (.seg 7 (.seg 8 .last))))))))))]) (n0 := 26) (fun x : {k : Nat // k ≤ L.length ∧ L.take k = M.take k} => [(13, dI x.1)]) (fun x => L.length - x.1) ⟨0, by simp⟩ rfl (by kernel_rfl) (Wk.sub (by simp)) ?_
  rintro ⟨k, hk, ht⟩
  by_cases h1 : k < L.length
  · have h2 : k < M.length := by omega
    simp [h1, h2]
    refine alt (fun hne => kB h (by simp; rintro rfl; simp at hne)) (fun hc => ?_); simp at hc; obtain ⟨e1, e2⟩ := hc
    exact ⟨k + 1, by omega, ⟨by omega, take_eq_succ ht h1 h2 (by cases hx : L[k]; cases hy : M[k]; simp_all)⟩, Wk.sub (by simp [wrap_add (show k < 9223372036854775807 by omega)])⟩
  · simp [h1]
    obtain rfl : k = L.length := by omega
    rw [List.take_length, he, List.take_length] at ht
    exact kB h (by simpa using ht)
theorem equalB_ok (S T : Bool) (L M : List Bool) {K : D → List Blk → Prop} (h : K (dB (decide (L = M))) []) : DPure Tryd.prog 51 [dL S (L.map (fun b => [eB b])), dL T (M.map (fun b => [eB b]))] K := by
  refine fn_ok [0,1,4,5,10,12,13,14,24] [(6, [0,0,3,7,0,0,48,112,255], (.seg 0 (.seg 1 (.seg 2 (.seg 3 (.seg 4 (.seg 5 (.seg 6 (.seg 7 (.seg 8 .last))))))))))] Tryd.func51 rfl (by kernel_rfl) rfl rfl rfl rfl (by kernel_rfl) ?_
  simp
  intro hl hm
  refine alt (fun he => ?_) (fun hne => kB h (by simp; rintro rfl; exact hne rfl))
  have he : L.length = M.length := by omega
  intro _
  refine loop_ok (ks := [0,1,4,5,10,12,13,14,24]) (pl := [(6, [0,0,3,7,0,0,48,112,255], (.seg 0 (.seg 1 (.seg 2 (.seg 3 (.seg 4 (.seg 5 (.seg 6 (.seg 7 (.seg 8 .last))))))))))]) (n0 := 26) (fun x : {k : Nat // k ≤ L.length ∧ L.take k = M.take k} => [(13, dI x.1)]) (fun x => L.length - x.1) ⟨0, by simp⟩ rfl (by kernel_rfl) (Wk.sub (by simp)) ?_
  rintro ⟨k, hk, ht⟩
  by_cases h1 : k < L.length
  · have h2 : k < M.length := by omega
    simp [h1, h2]
    refine alt (fun e1 => ?_) (fun hne => kB h (by simp; rintro rfl; simp at hne))
    exact ⟨k + 1, by omega, ⟨by omega, take_eq_succ ht h1 h2 (by exact e1)⟩, Wk.sub (by simp [wrap_add (show k < 9223372036854775807 by omega)])⟩
  · simp [h1]
    obtain rfl : k = L.length := by omega
    rw [List.take_length, he, List.take_length] at ht
    exact kB h (by simpa using ht)
theorem equalS_ok (S T : Bool) (L M : List ByteArray) {K : D → List Blk → Prop} (h : K (dB (decide (L = M))) []) : DPure Tryd.prog 16 [dL S (L.map (fun b => [eS b])), dL T (M.map (fun b => [eS b]))] K := by
  refine fn_ok [0,1,4,5,10,12,13,14,24] [(6, [0,0,3,7,0,0,48,112,255], (.seg 0 (.seg 1 (.seg 2 (.seg 3 (.seg 4 (.seg 5 (.seg 6 (.seg 7 (.seg 8 .last))))))))))] Tryd.func16 rfl (by kernel_rfl) rfl rfl rfl rfl (by kernel_rfl) ?_
  simp
  intro hl hm
  refine alt (fun he => ?_) (fun hne => kB h (by simp; rintro rfl; exact hne rfl))
  have he : L.length = M.length := by omega
  intro _
  refine loop_ok (ks := [0,1,4,5,10,12,13,14,24]) (pl := [(6, [0,0,3,7,0,0,48,112,255], (.seg 0 (.seg 1 (.seg 2 (.seg 3 (.seg 4 (.seg 5 (.seg 6 (.seg 7 (.seg 8 .last))))))))))]) (n0 := 26) (fun x : {k : Nat // k ≤ L.length ∧ L.take k = M.take k} => [(13, dI x.1)]) (fun x => L.length - x.1) ⟨0, by simp⟩ rfl (by kernel_rfl) (Wk.sub (by simp)) ?_
  rintro ⟨k, hk, ht⟩
  by_cases h1 : k < L.length
  · have h2 : k < M.length := by omega
    simp [h1, h2]
    refine alt (fun e1 => ?_) (fun hne => kB h (by simp; rintro rfl; simp at hne))
    exact ⟨k + 1, by omega, ⟨by omega, take_eq_succ ht h1 h2 (by exact e1)⟩, Wk.sub (by simp [wrap_add (show k < 9223372036854775807 by omega)])⟩
  · simp [h1]
    obtain rfl : k = L.length := by omega
    rw [List.take_length, he, List.take_length] at ht
    exact kB h (by simpa using ht)
end Go.Proofs.YtalippdhfkpbmaaDoor
/- Contracts of Go's library, at the types of this program: IndexFunc, ContainsFunc, Clone, Index. -/
namespace Go.Proofs.YtalippdhfkpbmaaDoor
open Go.RowKit Go
theorem any_take_succ {α : Type} {L : List α} {p : α → Bool} {k : Nat} (h : (L.take k).any p = false) (hk : k < L.length) (e : p L[k] = false) : (L.take (k + 1)).any p = false := by
  rw [List.take_succ_eq_append_getElem hk, List.any_append, h]; simp [e]
/-- indexFI_ok -/
theorem indexFI_ok {α : Type} (S : Bool) (L : List α) (en : α → List Dt) (el : α → D) (p : α → Bool) (g : FuncId) (hx : ∀ v, ext1 g v = none) (hz : frzFn g = false) (fs cs : List Dt) (he : ∀ x, ∃ c, en x = [c] ∧ el x = .one (.d c))
    (hp : ∀ x ∈ L, ∀ K : D → List Blk → Prop, K (dB (p x)) [] → DPure Tryd.prog g (fs.map (fun x => .one (.d x)) ++ (el x :: cs.map fun x => .one (.d x))) K) {K : D → List Blk → Prop} (h : ∀ n : Int, (0 ≤ n ↔ L.any p = true) → K (dI n) []) :
    DPure Tryd.prog 91 [dL S (L.map en), .one (.d (.fn (.func g) fs cs))] K := by
  refine fn_ok [0,1,4,5,7,8,9,16] [] Tryd.func91 rfl (by kernel_rfl) rfl rfl rfl rfl (by kernel_rfl) ?_
  simp
  intro hl
  refine loop_ok (ks := [0,1,4,5,7,8,9,16]) (pl := []) (n0 := 19) (fun x : {k : Nat // k ≤ L.length ∧ (L.take k).any p = false} => [(8, dI x.1)]) (fun x => L.length - x.1) ⟨0, by simp⟩ rfl (by kernel_rfl) (Wk.sub (by simp)) ?_
  rintro ⟨k, hk, ht⟩
  by_cases h1 : k < L.length
  · have he' := he L[k]
    obtain ⟨c, e1, e2⟩ := he'
    simp [h1, e1, hx, hz, -ext1, -frzFn]
    rw [← e2]
    refine hp L[k] (List.getElem_mem h1) _ ?_
    simp
    refine alt (fun hb => h _ ⟨fun _ => List.any_eq_true.2 ⟨_, List.getElem_mem h1, hb⟩, fun _ => by omega⟩) (fun hb => ⟨k + 1, by omega, ⟨by omega, by simpa using any_take_succ ht h1 (by simpa using hb)⟩, Wk.sub (by simp [wrap_add (show k < 9223372036854775807 by omega)])⟩)
  · simp [h1]
    obtain rfl : k = L.length := by omega
    rw [List.take_length] at ht
    exact h _ (by simp [ht])
theorem containsFI_ok {α : Type} (S : Bool) (L : List α) (en : α → List Dt) (el : α → D) (p : α → Bool) (g : FuncId) (hx : ∀ v, ext1 g v = none) (hz : frzFn g = false) (fs cs : List Dt) (he : ∀ x, ∃ c, en x = [c] ∧ el x = .one (.d c))
    (hp : ∀ x ∈ L, ∀ K : D → List Blk → Prop, K (dB (p x)) [] → DPure Tryd.prog g (fs.map (fun x => .one (.d x)) ++ (el x :: cs.map fun x => .one (.d x))) K) {K : D → List Blk → Prop} (h : K (dB (L.any p)) []) :
    DPure Tryd.prog 89 [dL S (L.map en), .one (.d (.fn (.func g) fs cs))] K := by
  refine fn_ok [0,1,4] [] Tryd.func89 rfl (by kernel_rfl) rfl rfl rfl rfl (by kernel_rfl) ?_
  simp
  refine indexFI_ok S L en el p g hx hz fs cs he hp fun n hn => ?_
  simp
  exact kB h (by rw [Bool.eq_iff_iff]; simp [← hn])
/-- indexFS_ok -/
theorem indexFS_ok {α : Type} (S : Bool) (L : List α) (en : α → List Dt) (el : α → D) (p : α → Bool) (g : FuncId) (hx : ∀ v, ext1 g v = none) (hz : frzFn g = false) (fs cs : List Dt) (he : ∀ x, ∃ c, en x = [c] ∧ el x = .one (.d c))
    (hp : ∀ x ∈ L, ∀ K : D → List Blk → Prop, K (dB (p x)) [] → DPure Tryd.prog g (fs.map (fun x => .one (.d x)) ++ (el x :: cs.map fun x => .one (.d x))) K) {K : D → List Blk → Prop} (h : ∀ n : Int, (0 ≤ n ↔ L.any p = true) → K (dI n) []) :
    DPure Tryd.prog 78 [dL S (L.map en), .one (.d (.fn (.func g) fs cs))] K := by
  refine fn_ok [0,1,4,5,7,8,9,16] [] Tryd.func78 rfl (by kernel_rfl) rfl rfl rfl rfl (by kernel_rfl) ?_
  simp
  intro hl
  refine loop_ok (ks := [0,1,4,5,7,8,9,16]) (pl := []) (n0 := 19) (fun x : {k : Nat // k ≤ L.length ∧ (L.take k).any p = false} => [(8, dI x.1)]) (fun x => L.length - x.1) ⟨0, by simp⟩ rfl (by kernel_rfl) (Wk.sub (by simp)) ?_
  rintro ⟨k, hk, ht⟩
  by_cases h1 : k < L.length
  · have he' := he L[k]
    obtain ⟨c, e1, e2⟩ := he'
    simp [h1, e1, hx, hz, -ext1, -frzFn]
    rw [← e2]
    refine hp L[k] (List.getElem_mem h1) _ ?_
    simp
    refine alt (fun hb => h _ ⟨fun _ => List.any_eq_true.2 ⟨_, List.getElem_mem h1, hb⟩, fun _ => by omega⟩) (fun hb => ⟨k + 1, by omega, ⟨by omega, by simpa using any_take_succ ht h1 (by simpa using hb)⟩, Wk.sub (by simp [wrap_add (show k < 9223372036854775807 by omega)])⟩)
  · simp [h1]
    obtain rfl : k = L.length := by omega
    rw [List.take_length] at ht
    exact h _ (by simp [ht])
theorem containsFS_ok {α : Type} (S : Bool) (L : List α) (en : α → List Dt) (el : α → D) (p : α → Bool) (g : FuncId) (hx : ∀ v, ext1 g v = none) (hz : frzFn g = false) (fs cs : List Dt) (he : ∀ x, ∃ c, en x = [c] ∧ el x = .one (.d c))
    (hp : ∀ x ∈ L, ∀ K : D → List Blk → Prop, K (dB (p x)) [] → DPure Tryd.prog g (fs.map (fun x => .one (.d x)) ++ (el x :: cs.map fun x => .one (.d x))) K) {K : D → List Blk → Prop} (h : K (dB (L.any p)) []) :
    DPure Tryd.prog 68 [dL S (L.map en), .one (.d (.fn (.func g) fs cs))] K := by
  refine fn_ok [0,1,4] [] Tryd.func68 rfl (by kernel_rfl) rfl rfl rfl rfl (by kernel_rfl) ?_
  simp
  refine indexFS_ok S L en el p g hx hz fs cs he hp fun n hn => ?_
  simp
  exact kB h (by rw [Bool.eq_iff_iff]; simp [← hn])
/-- indexFV_ok -/
theorem indexFV_ok {α : Type} (S : Bool) (L : List α) (en : α → List Dt) (el : α → D) (p : α → Bool) (g : FuncId) (hx : ∀ v, ext1 g v = none) (hz : frzFn g = false) (fs cs : List Dt) (he : ∀ x, ∃ a b, en x = [a, b] ∧ el x = .agg [.d a, .d b])
    (hp : ∀ x ∈ L, ∀ K : D → List Blk → Prop, K (dB (p x)) [] → DPure Tryd.prog g (fs.map (fun x => .one (.d x)) ++ (el x :: cs.map fun x => .one (.d x))) K) {K : D → List Blk → Prop} (h : ∀ n : Int, (0 ≤ n ↔ L.any p = true) → K (dI n) []) :
    DPure Tryd.prog 79 [dL S (L.map en), .one (.d (.fn (.func g) fs cs))] K := by
  refine fn_ok [0,1,4,5,7,8,9,16] [] Tryd.func79 rfl (by kernel_rfl) rfl rfl rfl rfl (by kernel_rfl) ?_
  simp
  intro hl
  refine loop_ok (ks := [0,1,4,5,7,8,9,16]) (pl := []) (n0 := 19) (fun x : {k : Nat // k ≤ L.length ∧ (L.take k).any p = false} => [(8, dI x.1)]) (fun x => L.length - x.1) ⟨0, by simp⟩ rfl (by kernel_rfl) (Wk.sub (by simp)) ?_
  rintro ⟨k, hk, ht⟩
  by_cases h1 : k < L.length
  · have he' := he L[k]
    obtain ⟨a, b, e1, e2⟩ := he'
    simp [h1, e1, hx, hz, -ext1, -frzFn]
    rw [← e2]
    refine hp L[k] (List.getElem_mem h1) _ ?_
    simp
    refine alt (fun hb => h _ ⟨fun _ => List.any_eq_true.2 ⟨_, List.getElem_mem h1, hb⟩, fun _ => by omega⟩) (fun hb => ⟨k + 1, by omega, ⟨by omega, by simpa using any_take_succ ht h1 (by simpa using hb)⟩, Wk.sub (by simp [wrap_add (show k < 9223372036854775807 by omega)])⟩)
  · simp [h1]
    obtain rfl : k = L.length := by omega
    rw [List.take_length] at ht
    exact h _ (by simp [ht])
theorem containsFV_ok {α : Type} (S : Bool) (L : List α) (en : α → List Dt) (el : α → D) (p : α → Bool) (g : FuncId) (hx : ∀ v, ext1 g v = none) (hz : frzFn g = false) (fs cs : List Dt) (he : ∀ x, ∃ a b, en x = [a, b] ∧ el x = .agg [.d a, .d b])
    (hp : ∀ x ∈ L, ∀ K : D → List Blk → Prop, K (dB (p x)) [] → DPure Tryd.prog g (fs.map (fun x => .one (.d x)) ++ (el x :: cs.map fun x => .one (.d x))) K) {K : D → List Blk → Prop} (h : K (dB (L.any p)) []) :
    DPure Tryd.prog 71 [dL S (L.map en), .one (.d (.fn (.func g) fs cs))] K := by
  refine fn_ok [0,1,4] [] Tryd.func71 rfl (by kernel_rfl) rfl rfl rfl rfl (by kernel_rfl) ?_
  simp
  refine indexFV_ok S L en el p g hx hz fs cs he hp fun n hn => ?_
  simp
  exact kB h (by rw [Bool.eq_iff_iff]; simp [← hn])
/-- indexFF_ok -/
theorem indexFF_ok {α : Type} (S : Bool) (L : List α) (en : α → List Dt) (el : α → D) (p : α → Bool) (g : FuncId) (hx : ∀ v, ext1 g v = none) (hz : frzFn g = false) (fs cs : List Dt) (he : ∀ x, ∃ a b c d f, en x = [a, b, c, d, f] ∧ el x = .agg [.d a, .d b, .d c, .d d, .d f])
    (hp : ∀ x ∈ L, ∀ K : D → List Blk → Prop, K (dB (p x)) [] → DPure Tryd.prog g (fs.map (fun x => .one (.d x)) ++ (el x :: cs.map fun x => .one (.d x))) K) {K : D → List Blk → Prop} (h : ∀ n : Int, (0 ≤ n ↔ L.any p = true) → K (dI n) []) :
    DPure Tryd.prog 73 [dL S (L.map en), .one (.d (.fn (.func g) fs cs))] K := by
  refine fn_ok [0,1,4,5,7,8,9,16] [] Tryd.func73 rfl (by kernel_rfl) rfl rfl rfl rfl (by kernel_rfl) ?_
  simp
  intro hl
  refine loop_ok (ks := [0,1,4,5,7,8,9,16]) (pl := []) (n0 := 19) (fun x : {k : Nat // k ≤ L.length ∧ (L.take k).any p = false} => [(8, dI x.1)]) (fun x => L.length - x.1) ⟨0, by simp⟩ rfl (by kernel_rfl) (Wk.sub (by simp)) ?_
  rintro ⟨k, hk, ht⟩
  by_cases h1 : k < L.length
  · have he' := he L[k]
    obtain ⟨a, b, c, d, f, e1, e2⟩ := he'
    simp [h1, e1, hx, hz, -ext1, -frzFn]
    rw [← e2]
    refine hp L[k] (List.getElem_mem h1) _ ?_
    simp
    refine alt (fun hb => h _ ⟨fun _ => List.any_eq_true.2 ⟨_, List.getElem_mem h1, hb⟩, fun _ => by omega⟩) (fun hb => ⟨k + 1, by omega, ⟨by omega, by simpa using any_take_succ ht h1 (by simpa using hb)⟩, Wk.sub (by simp [wrap_add (show k < 9223372036854775807 by omega)])⟩)
  · simp [h1]
    obtain rfl : k = L.length := by omega
    rw [List.take_length] at ht
    exact h _ (by simp [ht])
theorem containsFF_ok {α : Type} (S : Bool) (L : List α) (en : α → List Dt) (el : α → D) (p : α → Bool) (g : FuncId) (hx : ∀ v, ext1 g v = none) (hz : frzFn g = false) (fs cs : List Dt) (he : ∀ x, ∃ a b c d f, en x = [a, b, c, d, f] ∧ el x = .agg [.d a, .d b, .d c, .d d, .d f])
    (hp : ∀ x ∈ L, ∀ K : D → List Blk → Prop, K (dB (p x)) [] → DPure Tryd.prog g (fs.map (fun x => .one (.d x)) ++ (el x :: cs.map fun x => .one (.d x))) K) {K : D → List Blk → Prop} (h : K (dB (L.any p)) []) :
    DPure Tryd.prog 54 [dL S (L.map en), .one (.d (.fn (.func g) fs cs))] K := by
  refine fn_ok [0,1,4] [] Tryd.func54 rfl (by kernel_rfl) rfl rfl rfl rfl (by kernel_rfl) ?_
  simp
  refine indexFF_ok S L en el p g hx hz fs cs he hp fun n hn => ?_
  simp
  exact kB h (by rw [Bool.eq_iff_iff]; simp [← hn])
theorem cloneT_ok (S : Bool) (es : List (List Dt)) (hk : ∀ e ∈ es, e.length = 2) (hs : ∀ e ∈ es, ∀ x ∈ e, x.solidT = true) (hl : es.length ≤ 100000000000) {K : D → List Blk → Prop} (h : K (.one (.own 0 2 es.length)) [⟨.c 51, 2, es.map fun e => e.map .d⟩]) :
    DPure Tryd.prog 22 [dL S es] K := by
  refine DPure.own 51 2 ?_
  refine fn_ok [0,2,4] [] Tryd.func22 rfl (by kernel_rfl) rfl rfl rfl rfl (by kernel_rfl) ?_
  have hk' : ∀ d ∈ es.map (fun e => e.map C.d), d.length = 2 := fun d hd => by
    obtain ⟨e, he, rfl⟩ := List.mem_map.1 hd
    simpa using hk e he
  simp [Function.comp_def, hl]
  refine ⟨fun e => ?_, fun e he => hk e he, ?_⟩
  · subst e; exact .inr (by simpa using h)
  · rw [if_pos fun e he x hx => hs e he x hx]
    exact h
theorem cloneI_ok (S : Bool) (es : List (List Dt)) (hk : ∀ e ∈ es, e.length = 5) (hs : ∀ e ∈ es, ∀ x ∈ e, x.solidT = true) (hl : es.length ≤ 100000000000) {K : D → List Blk → Prop} (h : K (.one (.own 0 5 es.length)) [⟨.c 43, 5, es.map fun e => e.map .d⟩]) :
    DPure Tryd.prog 24 [dL S es] K := by
  refine DPure.own 43 5 ?_
  refine fn_ok [0,2,4] [] Tryd.func24 rfl (by kernel_rfl) rfl rfl rfl rfl (by kernel_rfl) ?_
  have hk' : ∀ d ∈ es.map (fun e => e.map C.d), d.length = 5 := fun d hd => by
    obtain ⟨e, he, rfl⟩ := List.mem_map.1 hd
    simpa using hk e he
  simp [Function.comp_def, hl]
  refine ⟨fun e => ?_, fun e he => hk e he, ?_⟩
  · subst e; exact .inr (by simpa using h)
  · rw [if_pos fun e he x hx => hs e he x hx]
    exact h
theorem cloneV_ok (S : Bool) (es : List (List Dt)) (hk : ∀ e ∈ es, e.length = 2) (hs : ∀ e ∈ es, ∀ x ∈ e, x.solidT = true) (hl : es.length ≤ 100000000000) {K : D → List Blk → Prop} (h : K (.one (.own 0 2 es.length)) [⟨.c 23, 2, es.map fun e => e.map .d⟩]) :
    DPure Tryd.prog 29 [dL S es] K := by
  refine DPure.own 23 2 ?_
  refine fn_ok [0,2,4] [] Tryd.func29 rfl (by kernel_rfl) rfl rfl rfl rfl (by kernel_rfl) ?_
  have hk' : ∀ d ∈ es.map (fun e => e.map C.d), d.length = 2 := fun d hd => by
    obtain ⟨e, he, rfl⟩ := List.mem_map.1 hd
    simpa using hk e he
  simp [Function.comp_def, hl]
  refine ⟨fun e => ?_, fun e he => hk e he, ?_⟩
  · subst e; exact .inr (by simpa using h)
  · rw [if_pos fun e he x hx => hs e he x hx]
    exact h
theorem cloneS_ok (S : Bool) (es : List (List Dt)) (hk : ∀ e ∈ es, e.length = 1) (hs : ∀ e ∈ es, ∀ x ∈ e, x.solidT = true) (hl : es.length ≤ 100000000000) {K : D → List Blk → Prop} (h : K (.one (.own 0 1 es.length)) [⟨.c 9, 1, es.map fun e => e.map .d⟩]) :
    DPure Tryd.prog 31 [dL S es] K := by
  refine DPure.own 9 1 ?_
  refine fn_ok [0,2,4] [] Tryd.func31 rfl (by kernel_rfl) rfl rfl rfl rfl (by kernel_rfl) ?_
  have hk' : ∀ d ∈ es.map (fun e => e.map C.d), d.length = 1 := fun d hd => by
    obtain ⟨e, he, rfl⟩ := List.mem_map.1 hd
    simpa using hk e he
  simp [Function.comp_def, hl]
  refine ⟨fun e => ?_, fun e he => hk e he, ?_⟩
  · subst e; exact .inr (by simpa using h)
  · rw [if_pos fun e he x hx => hs e he x hx]
    exact h
theorem cloneF_ok (S : Bool) (es : List (List Dt)) (hk : ∀ e ∈ es, e.length = 5) (hs : ∀ e ∈ es, ∀ x ∈ e, x.solidT = true) (hl : es.length ≤ 100000000000) {K : D → List Blk → Prop} (h : K (.one (.own 0 5 es.length)) [⟨.c 47, 5, es.map fun e => e.map .d⟩]) :
    DPure Tryd.prog 23 [dL S es] K := by
  refine DPure.own 47 5 ?_
  refine fn_ok [0,2,4] [] Tryd.func23 rfl (by kernel_rfl) rfl rfl rfl rfl (by kernel_rfl) ?_
  have hk' : ∀ d ∈ es.map (fun e => e.map C.d), d.length = 5 := fun d hd => by
    obtain ⟨e, he, rfl⟩ := List.mem_map.1 hd
    simpa using hk e he
  simp [Function.comp_def, hl]
  refine ⟨fun e => ?_, fun e he => hk e he, ?_⟩
  · subst e; exact .inr (by simpa using h)
  · rw [if_pos fun e he x hx => hs e he x hx]
    exact h
end Go.Proofs.YtalippdhfkpbmaaDoor
/- Package code: data, and what an order names. -/
namespace Go.Proofs.YtalippdhfkpbmaaDoor
open Go.RowKit Go
structure GIns where
  op : Int
  a : Int
  b : Int
  c : Int
  line : Int
def eIns (i : GIns) : List Dt := [eI i.op, eI i.a, eI i.b, eI i.c, eI i.line]
structure GFn where
  params : Int
  regs : Int
  gen : Bool
  caught : List Int
  code : List GIns
def eInt (n : Int) : List Dt := [eI n]
def eFn (f : GFn) : List Dt := [eI f.params, eI f.regs, eB f.gen, .sl true (f.caught.map eInt), .sl true (f.code.map eIns)]
structure GVal where
  kind : Int
  n : Int
def eVal (v : GVal) : List Dt := [eI v.kind, eI v.n]
def eStr (s : ByteArray) : List Dt := [eS s]
structure GProg where
  fns : List GFn
  consts : List GVal
  texts : List ByteArray
def eProg (p : GProg) : List Dt := [.sl true (p.fns.map eFn), .sl true (p.consts.map eVal), .sl true (p.texts.map eStr)]
attribute [simp] eIns eFn eInt eVal eStr eProg
abbrev aD (l : List Dt) : D := .agg (l.map .d)
def btw (n lo hi : Int) : Bool := decide (lo ≤ n) && decide (n ≤ hi)
theorem within_ok (n lo hi : Int) {K : D → List Blk → Prop} (h : K (dB (btw n lo hi)) []) : DPure Tryd.prog 81 [dI n, dI lo, dI hi] K := by
  refine fn_ok [0,1,2,6] [] Tryd.func81 rfl (by kernel_rfl) rfl rfl rfl rfl (by kernel_rfl) ?_
  simp
  refine alt (fun h1 => kB h (by simp [btw]; omega)) (fun h1 => kB h (by simp [btw]; omega))
theorem between_ok (n lo hi : Int) {K : D → List Blk → Prop} (h : K (dB (btw n lo hi)) []) : DPure Tryd.prog 27 [dI n, dI lo, dI hi] K := by
  refine fn_ok [0,1,2,6] [] Tryd.func27 rfl (by kernel_rfl) rfl rfl rfl rfl (by kernel_rfl) ?_
  simp
  refine alt (fun h1 => kB h (by simp [btw]; omega)) (fun h1 => kB h (by simp [btw]; omega))
/-- struct look -/
abbrev aLook (p : GProg) (f : GFn) : D := aD (eProg p ++ eFn f)
theorem reg_ok (p : GProg) (f : GFn) (n : Int) {K : D → List Blk → Prop} (h : K (dB (btw n 0 (IntKind.i64.wrap (f.regs - 1)))) []) : DPure Tryd.prog 83 [aLook p f, dI n] K := by
  refine fn_ok [0,1,2,4] [] Tryd.func83 rfl (by kernel_rfl) rfl rfl rfl rfl (by kernel_rfl) ?_
  simp
  refine within_ok _ _ _ ?_
  simp
  exact h
end Go.Proofs.YtalippdhfkpbmaaDoor
/- Package code: what an order names; what a function has caught. -/
namespace Go.Proofs.YtalippdhfkpbmaaDoor
open Go.RowKit Go
abbrev wr (n : Int) : Int := IntKind.i64.wrap n
abbrev lenI {α : Type} (l : List α) : Int := (l.length : Int)
abbrev dU (c : Int) : D := .one (.d (.lit (.int .u8 c)))
theorem at_ok (p : GProg) (f : GFn) (n : Int) {K : D → List Blk → Prop} (h : K (dB (btw n 0 (wr (lenI f.code - 1)))) []) : DPure Tryd.prog 88 [aLook p f, dI n] K := by
  refine fn_ok [0,1,2,4] [] Tryd.func88 rfl (by kernel_rfl) rfl rfl rfl rfl (by kernel_rfl) ?_
  simp
  intro hl
  refine within_ok _ _ _ ?_
  simpa using h
theorem text_ok (p : GProg) (f : GFn) (n : Int) {K : D → List Blk → Prop} (h : K (dB (btw n 0 (wr (lenI p.texts - 1)))) []) : DPure Tryd.prog 87 [aLook p f, dI n] K := by
  refine fn_ok [0,1,2,4] [] Tryd.func87 rfl (by kernel_rfl) rfl rfl rfl rfl (by kernel_rfl) ?_
  simp
  intro hl
  refine within_ok _ _ _ ?_
  simpa using h
/-- is n one of what letter c names? -/
def nameB (p : GProg) (f : GFn) (c : Int) (n : Int) : Bool :=
  if c = 114 then btw n 0 (wr (f.regs - 1)) else if c = 107 then btw n 0 (wr (lenI p.consts - 1)) else if c = 116 then btw n 0 (wr (lenI p.texts - 1)) else if c = 97 then btw n 0 (wr (lenI f.code - 1))
  else if c = 117 then btw n 0 (wr (lenI f.caught - 1)) else if c = 102 then btw n 1 (wr (lenI p.fns - 1)) else if c = 108 ∨ c = 99 ∨ c = 110 then btw n 0 f.regs else decide (n = 0)
set_option maxRecDepth 100000 in
set_option maxHeartbeats 1000000 in
theorem names_ok (p : GProg) (f : GFn) (c : Int) (n : Int) {K : D → List Blk → Prop} (h : K (dB (nameB p f c n)) []) : DPure Tryd.prog 82 [aLook p f, dU c, dI n] K := by
  refine fn_ok [0,1,2,3,6,7,8,13,22,27,32,41,50] [] Tryd.func82 rfl (by kernel_rfl) rfl rfl rfl rfl (by kernel_rfl) ?_
  simp
  repeat' (first | (refine alt (fun _ => ?_) (fun _ => ?_)) | intro _)
  all_goals first
    | (refine reg_ok p f n ?_; simp; exact kB h (by simp_all [nameB]))
    | (refine text_ok p f n ?_; simp; exact kB h (by simp_all [nameB]))
    | (refine at_ok p f n ?_; simp; exact kB h (by simp_all [nameB]))
    | (refine within_ok _ _ _ ?_; simp; exact kB h (by simp_all [nameB]))
    | exact kB h (by simp_all [nameB])
def caught1B (f : GFn) (c : Int) : Bool := !btw c 0 (wr (f.regs - 1)) && !btw c (wr (0 - lenI f.caught)) (-1)
theorem caught1_ok (p : GProg) (f : GFn) (c : Int) {K : D → List Blk → Prop} (h : K (dB (caught1B f c)) []) : DPure Tryd.prog 90 [dI c, .one (.d (.at_ true (eProg p ++ eFn f)))] K := by
  refine fn_ok [0,1,3] [] Tryd.func90 rfl (by kernel_rfl) rfl rfl rfl rfl (by kernel_rfl) ?_
  simp
  refine reg_ok p f c ?_
  simp
  refine alt (fun e => kB h (by simp [caught1B, e])) (fun e => ?_)
  intro hl
  refine within_ok _ _ _ ?_
  simp
  exact kB h (by simp [caught1B, e])
def caughtB (f g : GFn) : Bool := !g.caught.any (caught1B f)
theorem caught_ok (p : GProg) (f g : GFn) {K : D → List Blk → Prop} (h : K (dB (caughtB f g)) []) : DPure Tryd.prog 84 [aLook p f, aD (eFn g)] K := by
  refine fn_ok [0,1,2,3,4] [] Tryd.func84 rfl (by kernel_rfl) rfl rfl rfl rfl (by kernel_rfl) ?_
  simp
  refine containsFI_ok true g.caught eInt (fun n => dI n) (caught1B f) 90 (fun _ => by simp) rfl [] [.at_ true (eProg p ++ eFn f)] (fun x => ⟨_, rfl, rfl⟩) (fun x _ K hK => caught1_ok p f x hK) ?_
  simp
  exact kB h rfl
end Go.Proofs.YtalippdhfkpbmaaDoor
/- Package code: forms, orders. -/
namespace Go.Proofs.YtalippdhfkpbmaaDoor
open Go.RowKit Go
theorem wr_le {n : Int} (h : -9223372036854775808 ≤ n) : wr n ≤ n := by
  simp [wr, IntKind.wrap, IntKind.signed, IntKind.bits]
  split <;> omega
def formT : List (UInt8 × UInt8 × UInt8) := [(0, 0, 0), (114, 107, 45), (114, 114, 45), (114, 114, 114), (114, 114, 114), (114, 114, 114), (114, 114, 114), (114, 114, 114), (114, 114, 114), (114, 114, 114), (114, 114, 114), (114, 114, 45), (114, 114, 45), (97, 45, 45), (97, 45, 45), (114, 97, 45), (114, 45, 45), (114, 114, 116), (114, 116, 114), (114, 108, 110), (114, 114, 114), (114, 114, 114), (114, 45, 45), (114, 114, 45), (114, 114, 45), (114, 117, 45), (114, 102, 45), (114, 99, 110), (114, 45, 45), (114, 45, 45), (114, 97, 45), (45, 45, 45), (114, 114, 45), (114, 45, 45), (114, 45, 45), (114, 114, 45), (114, 114, 45), (114, 45, 45), (114, 45, 45)]
/-- what a place of an order's form is -/
def formA (op : Int) : UInt8 × UInt8 × UInt8 := formT.getD op.toNat (0, 0, 0)
def formS (t : UInt8 × UInt8 × UInt8) : ByteArray := ⟨#[t.1, t.2.1, t.2.2]⟩
def isOp (op : Int) : Prop := 1 ≤ op ∧ op < 39
instance (op : Int) : Decidable (isOp op) := inferInstanceAs (Decidable (_ ∧ _))
def formC : List C := .d (.lit (.string .empty)) :: (formT.drop 1).map fun t => .d (.lit (.string (formS t)))
theorem formC_get {op : Int} {c : C} (h : isOp op) (hc : formC[op.toNat]? = some c) : c = .d (.lit (.string (formS (formA op)))) := by
  obtain ⟨n, rfl⟩ : ∃ n : Nat, op = ((n + 1 : Nat) : Int) := ⟨op.toNat - 1, by have := h.1; omega⟩
  have hn : n < 38 := by have := h.2; omega
  simp [formC, formA, List.getElem?_drop] at hc ⊢
  obtain ⟨a, b, d, h1, rfl⟩ := hc
  rw [h1]; rfl
set_option maxRecDepth 100000 in
set_option maxHeartbeats 1000000 in
theorem form_ok (op : Int) {K : D → List Blk → Prop} (h0 : ¬ isOp op → K (dS ⟨#[]⟩) []) (h : isOp op → ∀ a b c, formA op = (a, b, c) → K (dS ⟨#[a, b, c]⟩) []) : DPure Tryd.prog 80 [dI op] K := by
  refine fn_ok [0,2,3,10] [] Tryd.func80 rfl (by kernel_rfl) rfl rfl rfl rfl (by kernel_rfl) ?_
  simp
  refine alt (fun h1 => alt (fun h2 => h0 (fun h => by have := h.2; omega)) (fun h2 => ?_)) (fun h1 => h0 (fun h => by have := h.1; omega))
  refine ⟨by omega, by omega, ?_⟩
  split
  · rename_i c hc
    replace hc : formC[op.toNat]? = some c := hc
    cases formC_get ⟨h1, by omega⟩ hc
    simp
    exact h ⟨h1, by omega⟩ _ _ _ rfl
  · rename_i hc
    replace hc : formC[op.toNat]? = none := hc
    have : formC.length = 39 := rfl
    simp at hc; omega
theorem formS_get (t : UInt8 × UInt8 × UInt8) : (formS t).data.toList = [t.1, t.2.1, t.2.2] := rfl
theorem formS_size (t : UInt8 × UInt8 × UInt8) : (formS t).size = 3 := rfl
def orderK (p : GProg) (f : GFn) (at_ : Int) (i : GIns) : Bool :=
  if i.op = 14 then decide (i.a ≤ at_) else if i.op = 19 then decide (wr (i.b + i.c) ≤ f.regs) else if i.op = 27 then btw (wr (i.b + i.c)) 0 (wr (f.regs - 1))
  else if i.op = 26 then caughtB f (p.fns.getD i.b.toNat ⟨0, 0, false, [], []⟩) else if i.op = 32 then f.gen else true
/-- may it be, at its place? -/
def orderB (p : GProg) (f : GFn) (at_ : Int) (i : GIns) : Bool :=
  decide (isOp i.op) && btw i.line 0 2000 && nameB p f (formA i.op).1.toNat i.a && nameB p f (formA i.op).2.1.toNat i.b && nameB p f (formA i.op).2.2.toNat i.c &&
  orderK p f at_ i
set_option maxRecDepth 100000 in
set_option maxHeartbeats 1000000 in
theorem order_ok (p : GProg) (f : GFn) (at_ : Int) (i : GIns) {K : D → List Blk → Prop} (h : K (dB (orderB p f at_ i)) []) : DPure Tryd.prog 74 [aLook p f, dI at_, aD (eIns i)] K := by
  refine fn_ok [0,1,2,3,5,6,7,45,47,48,54,65,74,85] [(2, [0,1,3,7,15,31,63,127,255,511,511,1535,511,4607,16383,32767,65535,131071,262143,262143,786431,262143,2359295,8388607,16777215,33554431,67108863,134217727,134217727,402653183,134217727,1207959551,4294967295,8589934591,17179869183], (.seg 0 (.seg 1 (.seg 2 (.seg 3 (.seg 4 (.eff 5 [] (.seg 6 (.seg 7 (.seg 8 (.seg 9 (.seg 10 (.seg 11 (.seg 12 (.seg 13 (.eff 14 [] (.seg 15 (.seg 16 (.seg 17 (.seg 18 (.seg 19 (.seg 20 (.seg 21 (.seg 22 (.eff 23 [] (.seg 24 (.seg 25 (.seg 26 (.seg 27 (.seg 28 (.seg 29 (.seg 30 (.seg 31 (.eff 32 [] (.seg 33 (.seg 34 .last)))))))))))))))))))))))))))))))))))), (12, [0,0,2,6,0,16,62,126,255,511], (.seg 0 (.seg 1 (.seg 2 (.seg 3 (.seg 4 (.seg 5 (.seg 6 (.seg 7 (.eff 8 [] (.seg 9 .last)))))))))))] Tryd.func74 rfl (by kernel_rfl) rfl rfl rfl rfl (by kernel_rfl) ?_
  simp
  refine form_ok _ (fun e => ?_) (fun e a b c hf => ?_)
  · simp
    exact kB h (by simp [orderB, e])
  simp
  refine within_ok _ _ _ ?_
  simp
  refine alt (fun h1 => ?_) (fun h1 => kB h (by simp [orderB, h1]))
  refine names_ok p f a.toNat _ ?_
  simp
  refine alt (fun h2 => ?_) (fun h2 => kB h (by simp [orderB, hf, h2]))
  refine names_ok p f b.toNat _ ?_
  simp
  refine alt (fun h3 => ?_) (fun h3 => kB h (by simp [orderB, hf, h3]))
  refine names_ok p f c.toNat _ ?_
  simp
  refine alt (fun h4 => ?_) (fun h4 => kB h (by simp [orderB, hf, h4]))
  have hR : orderB p f at_ i = orderK p f at_ i := by simp only [orderB, hf, h1, h2, h3, h4, e, decide_true, Bool.true_and]
  rw [hR] at h
  refine alt (fun e => kB h (by simp [orderK, *])) (fun e1 => ?_)
  refine alt (fun e => kB h (by simp [orderK, *])) (fun e2 => ?_)
  refine alt (fun e => ?_) (fun e3 => ?_)
  · refine reg_ok p f _ ?_
    simp
    exact kB h (by simp [orderK, *])
  refine alt (fun e => ?_) (fun e4 => ?_)
  · have hA : formA i.op = (114, 102, 45) := by rw [e]; rfl
    rw [hA] at hf
    cases hf
    simp [nameB, btw] at h3
    have hlt : i.b.toNat < p.fns.length := by have h5 : wr (lenI p.fns - 1) ≤ lenI p.fns - 1 := wr_le (by simp only [lenI]; omega); have h6 : lenI p.fns = p.fns.length := rfl; omega
    refine ⟨by omega, ?_⟩
    simp [List.getElem?_eq_getElem hlt]
    refine caught_ok p f _ ?_
    simp
    exact kB h (by simp [orderK, *])
  refine alt (fun e => ?_) (fun e5 => ?_)
  · exact kB h (by simp [orderK, *])
  · exact kB h (by simp [orderK, *])
end Go.Proofs.YtalippdhfkpbmaaDoor
