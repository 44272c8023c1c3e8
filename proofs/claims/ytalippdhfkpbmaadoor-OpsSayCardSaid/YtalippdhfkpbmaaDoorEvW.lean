/- How simp computes what is left to show: equations at a state that is written out. -/
import Derived.Test.YtalippdhfkpbmaaDoorEvU
import Derived.IntWalk
namespace Go.Proofs.YtalippdhfkpbmaaDoor
open Go.RowKit Go
section
variable {P : Program} {pl : Pls} {n0 : Nat} {ks : List Nat} {K : Exit → St → Prop} {K1 : St → Prop} {n nx : Nat} {tm : List (Nat × D)} {H : Hp}
@[simp] theorem vc_skip : vc P pl n0 ks .skip K ⟨n, tm, H, nx⟩ = K .normal ⟨n, tm, H, nx⟩ := rfl
@[simp] theorem vc_region {id : Nat} {ops : List Oper} : vc P pl n0 ks (.region id ops.toArray false) K ⟨n, tm, H, nx⟩ = vcL P ops (onlyK ks K) ops ⟨n, tm, H, nx⟩ := rfl
@[simp] theorem vc_draw {id : Nat} {ops : List Oper} : vc P pl n0 ks (.region id ops.toArray true) K ⟨n, tm, H, nx⟩ = (match plAt pl id with
    | some x => n = n0 ∧ vcPl P ops (onlyK ks K) x.2 ⟨n, tm, H, nx⟩
    | none => False) := rfl
@[simp] theorem vc_seq {a b : Code} : vc P pl n0 ks (.seq a b) K ⟨n, tm, H, nx⟩ = vc P pl n0 ks a (thenK (vc P pl n0 ks b K) K) ⟨n, tm, H, nx⟩ := rfl
@[simp] theorem vc_cond {c : Operand} {x y : Code} : vc P pl n0 ks (.cond c x y) K ⟨n, tm, H, nx⟩ = (match ev ⟨n, tm, H, nx⟩ c with
    | .one (.d (.lit (.bool b))) => (if b = true then vc P pl n0 ks x K ⟨n, tm, H, nx⟩ else vc P pl n0 ks y K ⟨n, tm, H, nx⟩)
    | _ => False) := rfl
@[simp] theorem vc_block {id : Nat} {c : Code} : vc P pl n0 ks (.block id c) K ⟨n, tm, H, nx⟩ = vc P pl n0 ks c (blockK id K) ⟨n, tm, H, nx⟩ := rfl
@[simp] theorem vc_exit {id : Nat} : vc P pl n0 ks (.exit id) K ⟨n, tm, H, nx⟩ = K (.exit id) ⟨n, tm, H, nx⟩ := rfl
@[simp] theorem vc_ret : vc P pl n0 ks .ret K ⟨n, tm, H, nx⟩ = K .ret ⟨n, tm, H, nx⟩ := rfl
@[simp] theorem vc_loop {c : Code} : vc P pl n0 ks (.loop c) K ⟨n, tm, H, nx⟩ = Ev P (.loop c) K ⟨n, tm, H, nx⟩ := rfl
@[simp] theorem vcL_nil {l : List Oper} : vcL P l K1 [] ⟨n, tm, H, nx⟩ = K1 ⟨n, tm, H, nx⟩ := rfl
@[simp] theorem vcL_cons {l rest : List Oper} {o : Oper} : vcL P l K1 (o :: rest) ⟨n, tm, H, nx⟩ = (match o.guard with
    | none => dstLt n o.dst = true ∧ vcOp P false ⟨n, tm, H, nx⟩ o (vcL P l K1 rest)
    | some _ => match gd l ⟨n, tm, H, nx⟩ o with
      | some (x, y, d) => dstLt n o.dst = true ∧ (if x = y then vcOp P false (St.told ⟨n, tm, H, nx⟩ d y) o (vcL P l K1 rest) else vcL P l K1 rest ((St.told ⟨n, tm, H, nx⟩ d (!y)).skip o))
      | none => False) := rfl
@[simp] theorem vcPl_last {l : List Oper} : vcPl P l K1 .last ⟨n, tm, H, nx⟩ = K1 ⟨n, tm, H, nx⟩ := rfl
@[simp] theorem vcPl_seg {l : List Oper} {i : Nat} {p : Plan} : vcPl P l K1 (.seg i p) ⟨n, tm, H, nx⟩ = (match nthOp l i with
    | some o => match o.dst, gd l ⟨n, tm, H, nx⟩ o with
      | some t, some (x, y, d) => t < n ∧ (if x = y then vcS P (St.told ⟨n, tm, H, nx⟩ d y) o.op (segK (St.told ⟨n, tm, H, nx⟩ d y) t (vcPl P l K1 p)) else vcPl P l K1 p ((St.told ⟨n, tm, H, nx⟩ d (!y)).put t (.tup [])))
      | _, _ => False
    | none => False) := rfl
@[simp] theorem vcPl_eff {l : List Oper} {j : Nat} {pend : List Nat} {p : Plan} : vcPl P l K1 (.eff j pend p) ⟨n, tm, H, nx⟩ = (match nthOp l j with
    | some o => match gd l ⟨n, tm, H, nx⟩ o with
      | some (x, y, d) => (∀ t, o.dst = some t → t < n) ∧ (if x = y then vcOp P (!pend.isEmpty) (St.told ⟨n, tm, H, nx⟩ d y) o (vcPl P l K1 p) else vcPl P l K1 p ((St.told ⟨n, tm, H, nx⟩ d (!y)).skip o))
      | none => False
    | none => False) := rfl
@[simp] theorem vcPl_fork {l : List Oper} {j : Nat} {pend : List Nat} {p rest : Plan} : vcPl P l K1 (.fork j pend p rest) ⟨n, tm, H, nx⟩ = (vcPl P l K1 (.eff j pend p) ⟨n, tm, H, nx⟩ ∧ vcPl P l K1 rest ⟨n, tm, H, nx⟩) := rfl
@[simp] theorem segK_mk {t : Nat} {d : D} : segK ⟨n, tm, H, nx⟩ t K1 d = K1 ⟨n, ins tm t d, H, nx⟩ := rfl
@[simp] theorem putD_mk {o : Oper} {d : D} : putD ⟨n, tm, H, nx⟩ o K1 d = (match o.dst with
    | some t => t < n ∧ K1 ⟨n, ins tm t d, H, nx⟩
    | none => False) := rfl
@[simp] theorem onlyK_mk : onlyK ks K ⟨n, tm, H, nx⟩ = K .normal ⟨n, keepT tm ks, H, nx⟩ := rfl
@[simp] theorem thenK_normal : thenK K1 K .normal ⟨n, tm, H, nx⟩ = K1 ⟨n, tm, H, nx⟩ := rfl
@[simp] theorem thenK_exit {id : Nat} : thenK K1 K (.exit id) ⟨n, tm, H, nx⟩ = K (.exit id) ⟨n, tm, H, nx⟩ := rfl
@[simp] theorem thenK_ret : thenK K1 K .ret ⟨n, tm, H, nx⟩ = K .ret ⟨n, tm, H, nx⟩ := rfl
@[simp] theorem blockK_normal {id : Nat} : blockK id K .normal ⟨n, tm, H, nx⟩ = K .normal ⟨n, tm, H, nx⟩ := rfl
@[simp] theorem blockK_ret {id : Nat} : blockK id K .ret ⟨n, tm, H, nx⟩ = K .ret ⟨n, tm, H, nx⟩ := rfl
@[simp] theorem blockK_exit {id id' : Nat} : blockK id K (.exit id') ⟨n, tm, H, nx⟩ = if id' = id then K .normal ⟨n, tm, H, nx⟩ else K (.exit id') ⟨n, tm, H, nx⟩ := rfl
@[simp] theorem loopK_normal {α : Type} {S : α → St} {m : α → Nat} {x : α} : loopK S m x K .normal ⟨n, tm, H, nx⟩ = ∃ x', m x' < m x ∧ Wk ⟨n, tm, H, nx⟩ (S x') := rfl
@[simp] theorem loopK_exit {α : Type} {S : α → St} {m : α → Nat} {x : α} {id : Nat} : loopK S m x K (.exit id) ⟨n, tm, H, nx⟩ = K (.exit id) ⟨n, tm, H, nx⟩ := rfl
@[simp] theorem loopK_ret {α : Type} {S : α → St} {m : α → Nat} {x : α} : loopK S m x K .ret ⟨n, tm, H, nx⟩ = K .ret ⟨n, tm, H, nx⟩ := rfl
@[simp] theorem callK_mk {t : Option Nat} {d : D} {fr : List Blk} : callK ⟨n, tm, H, nx⟩ t K1 d fr = K1 ((St.adds ⟨n, tm, H, nx⟩ fr).putO t (d.ren (· + nx))) := rfl
@[simp] theorem callKI_mk {t : Option Nat} {d : D} {H' : Hp} {nx' : Nat} : callKI ⟨n, tm, H, nx⟩ t K1 d H' nx' = K1 (St.putO ⟨n, tm, H', nx'⟩ t d) := rfl
def retPI (P : Program) (rs : List ResultVar) (K : D → Hp → Nat → Prop) (st : St) : Prop := match resDs P st rs with
  | some ds => (resT ds).sol ∧ HSol st.H ∧ K (resT ds) st.H st.nx
  | none => False
theorem retPI_ok {rs : List ResultVar} {K : D → Hp → Nat → Prop} {st : St} (h : retPI P rs K st) : retI P rs K .ret st := by
  unfold retPI at h
  split at h
  · rename_i ds h1; exact ⟨ds, h1, h⟩
  · exact h.elim
def retJ (P : Program) (rs : List ResultVar) (K : D → Hp → Nat → Prop) : Exit → St → Prop
  | .normal, st | .ret, st => retPI P rs K st
  | _, _ => False
theorem retJ_ok {rs : List ResultVar} {K : D → Hp → Nat → Prop} {e : Exit} {st : St} (h : retJ P rs K e st) : retI P rs K e st := by
  cases e <;> first | exact retPI_ok h | exact h.elim
@[simp] theorem retJ_normal {rs : List ResultVar} {K : D → Hp → Nat → Prop} : retJ P rs K .normal ⟨n, tm, H, nx⟩ = match resDs P ⟨n, tm, H, nx⟩ rs with
    | some ds => (resT ds).sol ∧ HSol H ∧ K (resT ds) H nx
    | none => False := rfl
@[simp] theorem retJ_ret {rs : List ResultVar} {K : D → Hp → Nat → Prop} : retJ P rs K .ret ⟨n, tm, H, nx⟩ = match resDs P ⟨n, tm, H, nx⟩ rs with
    | some ds => (resT ds).sol ∧ HSol H ∧ K (resT ds) H nx
    | none => False := rfl
def retP (P : Program) (rs : List ResultVar) (K : D → List Blk → Prop) (st : St) : Prop := match resDs P st rs with
  | some ds => (resT ds).owns.Nodup ∧ (resT ds).okX (fun n => n ∈ (resT ds).owns) ∧ match blks st.H (resT ds).owns with
    | some fr => K ((resT ds).ren fun n => (resT ds).owns.idxOf n) fr
    | none => False
  | none => False
theorem retP_ok {rs : List ResultVar} {K : D → List Blk → Prop} {st : St} (h : retP P rs K st) : retK P rs K .ret st := by
  unfold retP at h
  split at h
  · rename_i ds h1
    obtain ⟨h2, h3, h⟩ := h
    split at h
    · rename_i fr h4; exact ⟨ds, fr, h1, h2, h3, h4, h⟩
    · exact h.elim
  · exact h.elim
/-- what stands at the end of a function -/
def retQ (P : Program) (rs : List ResultVar) (K : D → List Blk → Prop) : Exit → St → Prop
  | .normal, st | .ret, st => retP P rs K st
  | _, _ => False
theorem retQ_ok {rs : List ResultVar} {K : D → List Blk → Prop} {e : Exit} {st : St} (h : retQ P rs K e st) : retK P rs K e st := by
  cases e <;> first | exact retP_ok h | exact h.elim
@[simp] theorem retQ_normal {rs : List ResultVar} {K : D → List Blk → Prop} : retQ P rs K .normal ⟨n, tm, H, nx⟩ = retP P rs K ⟨n, tm, H, nx⟩ := rfl
@[simp] theorem retQ_ret {rs : List ResultVar} {K : D → List Blk → Prop} : retQ P rs K .ret ⟨n, tm, H, nx⟩ = retP P rs K ⟨n, tm, H, nx⟩ := rfl
@[simp] theorem retP_mk {rs : List ResultVar} {K : D → List Blk → Prop} : retP P rs K ⟨n, tm, H, nx⟩ = match resDs P ⟨n, tm, H, nx⟩ rs with
  | some ds => (resT ds).owns.Nodup ∧ (resT ds).okX (fun n => n ∈ (resT ds).owns) ∧ match blks H (resT ds).owns with
    | some fr => K ((resT ds).ren fun n => (resT ds).owns.idxOf n) fr
    | none => False
  | none => False := rfl
theorem fn_ok {f : FuncId} {fn : Func} {c : Code} {ds : List D} {rs : List ResultVar} {m : Nat} {K : D → List Blk → Prop} (ks : List Nat) (pl : Pls) (hf : P.funcs[f]? = some fn) (hb : fn.body = some c) (hg : goFn P f = true) (hr : fn.results.toList = rs) (hm : fn.ntmps = m) (hn : decide (ds.length ≤ m) = true)
    (hx : P.follows .mixedOrders = true) (hp : plsOk pl m c = true) (h : vc P pl m ks c (retQ P rs K) ⟨m, tms 0 ds, Hp.none, 0⟩) : DPure P f ds K := by
  subst hr hm
  exact dpure_of_ev hf hb hg (by simpa using hn) ((vc_ok hx hp h).mono fun e st h => retQ_ok h)
theorem fni_ok {f : FuncId} {fn : Func} {c : Code} {ds : List D} {rs : List ResultVar} {m : Nat} {K : D → Hp → Nat → Prop} (ks : List Nat) (pl : Pls) (hf : P.funcs[f]? = some fn) (hb : fn.body = some c) (hg : goFn P f = true) (hr : fn.results.toList = rs) (hm : fn.ntmps = m) (hn : decide (ds.length ≤ m) = true)
    (hx : P.follows .mixedOrders = true) (hp : plsOk pl m c = true) (h : vc P pl m ks c (retJ P rs K) ⟨m, tms 0 ds, H, nx⟩) : ICall P f ds H nx K := by
  subst hr hm
  exact icall_of_ev hf hb hg (by simpa using hn) ((vc_ok hx hp h).mono fun e st h => retJ_ok h)
/-- an empty slice that cannot grow in place is a row of one's own, too -/
theorem DPure.own {f : FuncId} {ds : List D} {K : D → List Blk → Prop} (e : TypeId) (k : Nat) (h : DPure P f ds fun d fr => K d fr ∨ (d = .one (.d .emp) ∧ fr = [] ∧ K (.one (.own 0 k 0)) [⟨.c e, k, []⟩])) : DPure P f ds K :=
  ⟨h.1, fun F w vs h1 hgl h2 => (h.2 F w vs h1 hgl h2).mono fun _ w' ⟨F', ι, d, fr, v, e1, e2, e3⟩ => by
    rcases e3 with e3 | ⟨rfl, rfl, e3⟩
    · exact ⟨F', ι, d, fr, v, e1, e2, e3⟩
    · refine ⟨F', fun i => if i = 0 then some (0, 0) else none, _, _, v, e1, ⟨e2.size, e2.old, e2.Fle, e2.new, fun i x hx => ?_, fun i b cap hi hb hc => ?_, fun i j b c c' hi hj hb hb' hc => ?_, fun i hi => ?_, ?_, e2.io⟩, e3⟩
      · cases i with
        | zero =>
          simp only [List.getElem?_cons_zero, Option.some.injEq] at hx
          subst hx
          exact ⟨⟨0, 0, rfl, Nat.le_refl _, by simp, fun h => absurd h (by omega)⟩, fun e he => by cases he⟩
        | succ i => simp at hx
      · simp at hi; subst hi; simp at hb; omega
      · simp at hi; subst hi; simp at hb; omega
      · simp at hi; have : i ≠ 0 := by omega
        simp [this]
      · have hv := e2.val
        rw [RV] at hv ⊢
        have hv' : ∃ A, v = .slice A 0 0 := by cases hv; exact ⟨_, rfl⟩
        exact ⟨0, 0, rfl, Nat.le_refl _, by simp [maxLen], .inl ⟨rfl, hv'⟩⟩⟩
def puts (tm : List (Nat × D)) : List (Nat × D) → List (Nat × D)
  | [] => tm
  | (t, d) :: l => puts (ins tm t d) l
/-- a loop: which temporaries change, and how they stand -/
theorem loop_ok {α : Type} {c : Code} (u : α → List (Nat × D)) (m : α → Nat) (x0 : α) (hx : P.follows .mixedOrders = true) (hp : plsOk pl n0 c = true) (h0 : Wk ⟨n, tm, H, nx⟩ ⟨n, puts tm (u x0), H, nx⟩)
    (round : ∀ x, vc P pl n0 ks c (loopK (fun x => ⟨n, puts tm (u x), H, nx⟩) m x K) ⟨n, puts tm (u x), H, nx⟩) : Ev P (.loop c) K ⟨n, tm, H, nx⟩ :=
  ev_loop (fun x => ⟨n, puts tm (u x), H, nx⟩) m x0 h0 fun x => vc_ok hx hp (round x)
theorem Wk.sub {tm' : List (Nat × D)} (h : keepT tm (tm'.map (·.1)) = tm') : Wk ⟨n, tm, H, nx⟩ ⟨n, tm', H, nx⟩ := by
  have := Wk.only ⟨n, tm, H, nx⟩ (tm'.map (·.1))
  simp only [St.only] at this
  rwa [h] at this
end
@[simp] theorem lends_map {H : Hp} {l : List D} : ∀ fs : List Dt, lends H (fs.map (fun x => D.one (C.d x)) ++ l) = (lends H l).map fun r => fs.map (fun x => D.one (C.d x)) ++ r
  | [] => by simp
  | f :: fs => by
    simp only [List.map_cons, List.cons_append, lends, lendD, lendC, Option.map_some, Option.bind_some, lends_map fs]
    cases lends H l <;> rfl
@[simp] theorem lends_map0 {H : Hp} (fs : List Dt) : lends H (fs.map (fun x => D.one (C.d x))) = some (fs.map fun x => D.one (C.d x)) := by
  have := lends_map (H := H) (l := []) fs
  simpa [lends] using this
@[simp] theorem solid_lit (v : Value) : (Dt.lit v).solidT = true := rfl
@[simp] theorem solid_emp : Dt.emp.solidT = true := rfl
@[simp] theorem solid_sl (S : Bool) (es : List (List Dt)) : (Dt.sl S es).solidT = S := rfl
@[simp] theorem solid_at (S : Bool) (es : List Dt) : (Dt.at_ S es).solidT = S := rfl
@[simp] theorem solid_fn (f : Fn) (fs cs : List Dt) : (Dt.fn f fs cs).solidT = (fs.isEmpty && cs.isEmpty) := rfl
@[simp] theorem isD_d (x : Dt) : (C.d x).isD = x.solidT := rfl
@[simp] theorem isD_own (n k l : Nat) : (C.own n k l).isD = false := rfl
@[simp] theorem isD_ptr (n k i o : Nat) : (C.ptr n k i o).isD = false := rfl
@[simp] theorem isD_map (n : Nat) : (C.map n).isD = false := rfl
@[simp] theorem isD_any : C.any.isD = false := rfl
@[simp] theorem dt_d (x : Dt) : (C.d x).dt = x := rfl
@[simp] theorem solidC_d (x : Dt) : (C.d x).solidC = x.solidT := rfl
@[simp] theorem solidC_own (n k l : Nat) : (C.own n k l).solidC = true := rfl
@[simp] theorem solidC_map (n : Nat) : (C.map n).solidC = true := rfl
@[simp] theorem solidC_ptr (n k i o : Nat) : (C.ptr n k i o).solidC = true := rfl
attribute [simp] keyD mapOf St.newMap fltA vcFlt vcExt ext ext1 dstLt keepF ascB Value.oneCell' Hp.set_ne D.sol Ds.sol hasPtr vcCI putK vcNil isNilC vcOp vcS vcC vcLen vcApp plAt puts gd nthOp ev lk ins St.put St.skip St.told St.only keepT St.adds St.putO addsH litOf aggOf intsOf intOf? lenOf? idxA fieldA rd sc ofVal cellOf resDs resD resT tms Ds.ren D.ren C.ren D.owns Ds.owns ownsC D.okX Ds.okX C.okX blks lends lendD lendC lendCs callArgs Dcells splice layC layE partD optInt subC dsOf ptrOf St.frzs St.frz frzT D.frz C.frz baseOf srcOf St.row dropO Hp.set Hp.none St.newVar
theorem Wk.of_eq {st st' : St} (h : st = st') : Wk st st' := h ▸ Wk.refl st
theorem wrap_id {n : Int} (h1 : -9223372036854775808 ≤ n) (h2 : n ≤ 9223372036854775807) : IntKind.i64.wrap n = n := IntWalk.i64_in n ⟨h1, h2⟩
/-- two ways at an undecided condition -/
theorem alt {c : Prop} [Decidable c] {A B : Prop} (h : c → A) (g : ¬ c → B) : if c then A else B := by
  by_cases e : c
  · rw [if_pos e]; exact h e
  · rw [if_neg e]; exact g e
end Go.Proofs.YtalippdhfkpbmaaDoor
