/- The rule of a call; a function's contract out of its body. -/
import Derived.Test.YtalippdhfkpbmaaDoorEvJ
namespace Go.Proofs.YtalippdhfkpbmaaDoor
open Go.RowKit Go
def lendCs (H : Hp) : List C → Option (List C)
  | [] => some []
  | c :: cs => (lendC H c).bind fun x => (lendCs H cs).map fun l => .d x :: l
def lendD (H : Hp) : D → Option D
  | .one c => (lendC H c).map fun x => .one (.d x)
  | .agg cs => (lendCs H cs).map .agg
  | _ => none
def lends (H : Hp) : List D → Option (List D)
  | [] => some []
  | d :: ds => (lendD H d).bind fun e => (lends H ds).map fun l => e :: l
section
variable {β : Base} {F : Nat → Prop} {w : World} {ι : Nms} {H : Hp} {nx : Nat}
theorem lendCs_ok (h : HpOk β F w ι H nx) : ∀ {cs l : List C} {vs : List Value}, RCs ⟨F, β.B⟩ w ι cs vs → lendCs H cs = some l → RCs ⟨F, fun b => b < w.heap.size⟩ w (fun _ => none) l vs
  | [], l, vs, hr, hl => by simp only [lendCs, Option.some.injEq] at hl; subst hl; cases vs with | nil => trivial | cons _ _ => exact hr.elim
  | c :: cs, l, v :: vs, hr, hl => by
    simp only [lendCs] at hl
    cases h1 : lendC H c with
    | none => simp [h1] at hl
    | some x =>
      cases h2 : lendCs H cs with
      | none => simp [h1, h2] at hl
      | some m =>
        simp only [h1, h2, Option.bind_some, Option.map_some, Option.some.injEq] at hl
        subst hl
        exact ⟨lendC_ok h hr.1 h1, lendCs_ok h hr.2 h2⟩
  | c :: cs, l, [], hr, hl => hr.elim
theorem lendD_ok (h : HpOk β F w ι H nx) {d e : D} {v : Value} (hr : RV ⟨F, β.B⟩ w ι d v) (hl : lendD H d = some e) : RV ⟨F, fun b => b < w.heap.size⟩ w (fun _ => none) e v := by
  cases d with
  | one c =>
    rw [RV] at hr
    simp only [lendD] at hl
    cases h1 : lendC H c with
    | none => simp [h1] at hl
    | some x =>
      simp only [h1, Option.map_some, Option.some.injEq] at hl
      subst hl
      rw [RV]; exact lendC_ok h hr h1
  | agg cs =>
    rw [RV] at hr
    obtain ⟨xs, rfl, hr⟩ := hr
    simp only [lendD] at hl
    cases h1 : lendCs H cs with
    | none => simp [h1] at hl
    | some l =>
      simp only [h1, Option.map_some, Option.some.injEq] at hl
      subst hl
      rw [RV]; exact ⟨xs, rfl, lendCs_ok h hr h1⟩
  | tup ds => cases hl
  | top => cases hl
theorem lends_ok (h : HpOk β F w ι H nx) : ∀ {ds es : List D} {vs : List Value}, RVs ⟨F, β.B⟩ w ι ds vs → lends H ds = some es → RVs ⟨F, fun b => b < w.heap.size⟩ w (fun _ => none) es vs
  | [], es, [], hr, hl => by simp only [lends, Option.some.injEq] at hl; subst hl; rw [RVs]; trivial
  | [], es, _ :: _, hr, hl => by simp [RVs] at hr
  | d :: ds, es, [], hr, hl => by simp [RVs] at hr
  | d :: ds, es, v :: vs, hr, hl => by
    rw [RVs] at hr
    simp only [lends] at hl
    cases h1 : lendD H d with
    | none => simp [h1] at hl
    | some e =>
      cases h2 : lends H ds with
      | none => simp [h1, h2] at hl
      | some m =>
        simp only [h1, h2, Option.bind_some, Option.map_some, Option.some.injEq] at hl
        subst hl
        rw [RVs]
        exact ⟨lendD_ok h hr.1 h1, lends_ok h hr.2 h2⟩
end
theorem RVs.append {E : Env} {w : World} {ι : Nms} : ∀ {ds es : List D} {vs us : List Value}, RVs E w ι ds vs → RVs E w ι es us → RVs E w ι (ds ++ es) (vs ++ us)
  | [], es, [], us, _, h => h
  | d :: ds, es, v :: vs, us, h1, h2 => by
    rw [RVs] at h1
    show RVs E w ι (d :: (ds ++ es)) (v :: (vs ++ us))
    rw [RVs]
    exact ⟨h1.1, h1.2.append h2⟩
  | [], _, _ :: _, _, h, _ => by simp [RVs] at h
  | _ :: _, _, [], _, h, _ => by simp [RVs] at h
theorem RVs.ofRD {E : Env} {w : World} {ι : Nms} : ∀ {fs : List Dt} {xs : List Value}, xs.length = fs.length → (∀ (j : Nat) c x, fs[j]? = some c → xs[j]? = some x → RD E w c x) → RVs E w ι (fs.map fun x => .one (.d x)) xs
  | [], [], _, _ => by rw [List.map_nil, RVs]; trivial
  | f :: fs, x :: xs, hl, h => by
    rw [List.map_cons, RVs]
    refine ⟨by rw [RV]; exact h 0 f x rfl rfl, RVs.ofRD (by simpa using hl) fun j c y hc hy => h (j + 1) c y (by simpa using hc) (by simpa using hy)⟩
  | [], _ :: _, hl, _ => by simp at hl
  | _ :: _, [], hl, _ => by simp at hl
theorem evs_ok {β : Base} {F : Nat → Prop} {ι : Nms} {st : St} {a : Act} {w : World} (h : Holds β F ι st a w) : ∀ xs : List Operand, RVs ⟨F, β.B⟩ w ι (xs.map (ev st)) (xs.map a.eval)
  | [] => by rw [List.map_nil, List.map_nil, RVs]; trivial
  | x :: xs => by rw [List.map_cons, List.map_cons, RVs]; exact ⟨h.ev x, evs_ok h xs⟩
/-- what is handed to a function value -/
def callArgs (st : St) (fs cs : List Dt) (xs : List Operand) : List D := fs.map (fun x => .one (.d x)) ++ xs.map (ev st) ++ cs.map (fun x => .one (.d x))
def St.putO (st : St) (t : Option Nat) (d : D) : St := match t with
  | some t => st.put t d
  | none => st
/-- behind a call -/
theorem Holds.out {β : Base} {F F' : Nat → Prop} {ι ι' : Nms} {st : St} {a : Act} {w w' : World} (h : Holds β F ι st a w) {d : D} {fr : List Blk} {v : Value} (ho : Out F w w' F' ι' d fr v) :
    ∃ ι2, Holds β F' ι2 (st.adds fr) a w' ∧ RV ⟨F', β.B⟩ w' ι2 (d.ren (· + st.nx)) v ∧ Nms.le ι ι2 := by
  have hh := h.heap
  have hle : Env.le ⟨F, β.B⟩ ⟨F', β.B⟩ w w' := ⟨ho.Fle, fun _ h => h, fun b hb => ho.old b (hh.Flt b hb), fun b hb => ho.old b (Nat.lt_of_lt_of_le hb.1 hh.size)⟩
  have hlt : ∀ n b cap, st.H n ≠ none → ι n = some (b, cap) → 0 < cap → b < w.heap.size := fun n b cap h1 h2 h3 => (hh.own n b cap h1 h2 h3).1
  have h1 : HpOk β F' w' ι st.H st.nx := ⟨Nat.le_trans hh.size ho.size, fun b hb hN => by rw [ho.old b (Nat.lt_of_lt_of_le hb hh.size)]; exact hh.keep b hb hN, fun b hb => (ho.new b hb).2,
    fun b hb => by
      rcases (ho.new b hb).1 with h0 | h0
      · exact hh.Fof b h0
      · exact .inr (.inr (Nat.le_trans hh.size h0)),
    fun b hb => ho.Fle b (hh.F0 b hb),
    fun n x hn => (hh.blk n x hn).keep hle (Nms.le_refl _) fun b cap hb hc => ho.old b (hlt n b cap (by rw [hn]; simp) hb hc),
    fun n b cap hn hb hc => by
      obtain ⟨g1, g2, g3⟩ := hh.own n b cap hn hb hc
      refine ⟨Nat.lt_of_lt_of_le g1 ho.size, fun hF => ?_, g3⟩
      rcases (ho.new b hF).1 with h0 | h0
      · exact g2 h0
      · omega,
    hh.inj, hh.nx, hh.nm, hh.io.trans ho.io⟩
  obtain ⟨ι2, g1, g2, g3⟩ := HpOk.adopts fr 0 h1 (ι' := ι') (fun i x hi => by
      rw [Nat.zero_add]
      obtain ⟨hb, hd⟩ := ho.blk i x hi
      refine ⟨?_, hd⟩
      obtain ⟨b, cap, a1, a2, a3, a4⟩ := hb
      refine ⟨b, cap, a1, a2, a3, fun hc => ?_⟩
      obtain ⟨arr, b1, b2, b3, b4⟩ := a4 hc
      refine ⟨arr, b1, b2, b3, fun i j c hj => ?_⟩
      obtain ⟨v, k1, k2⟩ := b4 i j c hj
      exact ⟨v, k1, k2.keep (show Env.le ⟨F', noB⟩ ⟨F', β.B⟩ w' w' from ⟨fun _ h => h, fun _ h => h.elim, fun _ _ => rfl, fun _ _ => rfl⟩) (Nms.le_refl _)⟩)
    (fun i b cap hi hb hc => by
      rw [Nat.zero_add] at hb
      obtain ⟨a1, a2, a3⟩ := ho.own i b cap hi hb hc
      exact ⟨a2, a3, .inr (Nat.le_trans hh.size a1), fun n c hn hb' hc' => by have := hlt n b c hn hb' hc'; omega⟩)
    (fun i j b c c' hi hj h1 h2 p1 p2 => ho.inj i j b c c' hi hj (by simpa using h1) (by simpa using h2) p1 p2)
  refine ⟨ι2, ⟨h.good, h.defers, h.size, fun u => (h.tm u).keep hle g2, g1⟩, ?_, g2⟩
  refine ho.val.ren (ρ := (· + st.nx)) (show Env.le ⟨F', noB⟩ ⟨F', β.B⟩ w' w' from ⟨fun _ h => h, fun _ h => h.elim, fun _ _ => rfl, fun _ _ => rfl⟩) fun n x hn => ?_
  have hl : n < fr.length := by
    rcases Nat.lt_or_ge n fr.length with h | h
    · exact h
    · rw [ho.dom n h] at hn; cases hn
  have := g3 n hl
  rw [Nat.zero_add] at this
  show ι2 (n + st.nx) = some x
  rw [Nat.add_comm, this, hn]
section
variable {P : Program} {qt : Bool} {o : Oper} {st : St} {K : St → Prop}
theorem ev_call {x : Operand} {xs : Array Operand} {tys : Array TypeId} {f : FuncId} {fs cs : List Dt} {ds : List D} (ho : o.op = .call { callee := .value x, args := xs, argTypes := tys }) (hx : ev st x = .one (.d (.fn (.func f) fs cs)))
    (hd : lends st.H (callArgs st fs cs xs.toList) = some ds) (ht : ∀ t, o.dst = some t → t < st.n) (hC : DPure P f ds fun d fr => K ((st.adds fr).putO o.dst (d.ren (· + st.nx)))) : EvO P qt o st K := by
  intro β F ι a w h next Q hnext
  have he := h.ev x
  rw [hx, RV] at he
  obtain ⟨ys, zs, hv, l1, l2, h1, h2⟩ : ∃ ys zs, a.eval x = .func (.func f) ys zs ∧ ys.size = fs.length ∧ zs.size = cs.length ∧ (∀ (j : Nat) c x, fs[j]? = some c → ys[j]? = some x → RD ⟨F, β.B⟩ w c x) ∧ (∀ (j : Nat) c x, cs[j]? = some c → zs[j]? = some x → RD ⟨F, β.B⟩ w c x) := by
    cases hq : a.eval x with
    | func fn ys zs =>
      rw [hq] at he
      cases he with
      | fn l1 l2 h1 h2 => exact ⟨ys, zs, rfl, l1, l2, h1, h2⟩
    | _ => rw [hq] at he; cases he
  have hrun : (execOp a.eval o).run P w = .ok (.enter f (ys ++ xs.map a.eval ++ zs)) w := by
    simp [execOp, ho, resolve, hv, Deferred.ofValue, invoke, goFn_run hC.1]
  unfold Oper.wp
  rw [hrun, Oper.upon_enter]
  have hargs : RVs ⟨F, β.B⟩ w ι (callArgs st fs cs xs.toList) (ys.toList ++ xs.toList.map a.eval ++ zs.toList) :=
    ((RVs.ofRD (by simpa using l1) fun j c x hc hx => h1 j c x hc (by simpa using hx)).append (evs_ok h xs.toList)).append (RVs.ofRD (by simpa using l2) fun j c x hc hx => h2 j c x hc (by simpa using hx))
  have hc := hC.2 F w _ (h.heap.Flt) (h.heap.gl h.good) (lends_ok h.heap hargs hd)
  rw [show (ys.toList ++ xs.toList.map a.eval ++ zs.toList).toArray = ys ++ xs.map a.eval ++ zs by apply Array.ext'; simp] at hc
  refine hc.mono ?_
  rintro e w' ⟨F', ι', d, fr, v, rfl, hout, hK⟩
  obtain ⟨ι2, g1, g2, -⟩ := h.out hout
  refine hnext F' ι2 ((st.adds fr).putO o.dst (d.ren (· + st.nx))) v w' (Chg.call ho fun _ _ => hout.old) ?_ hK
  cases hdst : o.dst with
  | none => exact g1
  | some t => exact g1.put g2 (ht t hdst)
end
/-! ### From the body -/
def tms : Nat → List D → List (Nat × D)
  | _, [] => []
  | i, d :: ds => (i, d) :: tms (i + 1) ds
theorem lk_tms (ds : List D) (i t : Nat) : lk (tms i ds) t = if i ≤ t then (ds[t - i]?).getD .top else .top := by
  induction ds generalizing i with
  | nil => simp [tms, lk]
  | cons d ds ih =>
    unfold tms lk
    by_cases h : t = i
    · subst h; simp
    · rw [if_neg h, ih]
      by_cases h2 : i ≤ t
      · rw [if_pos h2, if_pos (by omega), show t - i = (t - (i + 1)) + 1 by omega]; simp
      · rw [if_neg h2, if_neg (by omega)]
def resD (P : Program) (st : St) : ResultVar → Option D
  | .tmp t => some (lk st.tm t)
  | .cell t ty => (rd st (.tmp t)).bind fun cs => (rowT P ty).bind fun b => if b then (szOf P ty).bind fun k => if k ≤ cs.length then some (.agg (cs.take k)) else none else cs.head?.map .one
def resDs (P : Program) (st : St) : List ResultVar → Option (List D)
  | [] => some []
  | r :: rs => (resD P st r).bind fun d => (resDs P st rs).map fun l => d :: l
/-- one stands alone, several stand together -/
def resT : List D → D
  | [d] => d
  | ds => .tup ds
def ownsC : C → List Nat
  | .own n _ _ => [n]
  | _ => []
mutual
def D.owns : D → List Nat
  | .one c => ownsC c
  | .agg cs => cs.flatMap ownsC
  | .tup ds => Ds.owns ds
  | .top => []
def Ds.owns : List D → List Nat
  | [] => []
  | d :: ds => d.owns ++ Ds.owns ds
end
def blks (H : Hp) : List Nat → Option (List Blk)
  | [] => some []
  | n :: ns => (H n).bind fun x => if (x.es.all fun e => e.all C.isD) = true then (blks H ns).map fun l => x :: l else none
/-- what is handed back, when the walk is over -/
def retK (P : Program) (rs : List ResultVar) (K : D → List Blk → Prop) : Exit → St → Prop
  | .normal, st | .ret, st => ∃ ds fr, resDs P st rs = some ds ∧ (resT ds).owns.Nodup ∧ (resT ds).okX (fun n => n ∈ (resT ds).owns) ∧ blks st.H (resT ds).owns = some fr ∧ K ((resT ds).ren fun n => (resT ds).owns.idxOf n) fr
  | _, _ => False
end Go.Proofs.YtalippdhfkpbmaaDoor
