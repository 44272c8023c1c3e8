/- Rules: maps with whole numbers; floats; functions that the model has of its own. -/
import Derived.Test.YtalippdhfkpbmaaDoorEvR
import Derived.Maps.Keyed
import Derived.StringKeys
import Derived.Carry
import Derived.Laws.FloatArith
import Ieee.Arith
namespace Go.Proofs.YtalippdhfkpbmaaDoor
open Go.RowKit Go Go.Maps Go.ChangeMaps Go.MapKept Go.WideShapes
theorem int_underlying : Tryd.prog.underlying 3 = some (.int .i64) := by kernel_rfl
theorem int_zero (w : World) : (zeroValue 3).run Tryd.prog w = .ok (.int .i64 0) w := by kernel_rfl
noncomputable instance (a b : Value) : Decidable (a = b) := Classical.propDecidable _
def keyD : D → Option Value
  | .one (.d (.lit v)) => some v
  | .agg cs => (intsOf cs).map fun l => .agg (l.map (Value.int .i64)).toArray
  | _ => none
theorem keyD_ok {E : Env} {w : World} {ι : Nms} {d : D} {v u : Value} (h : RV E w ι d v) (hk : keyD d = some u) : v = u := by
  unfold keyD at hk
  split at hk
  · simp only [Option.some.injEq] at hk
    subst hk
    rw [RV] at h
    exact RD.lit_inv h
  · rename_i cs
    cases hi : intsOf cs with
    | none => simp [hi] at hk
    | some l =>
      simp only [hi, Option.map_some, Option.some.injEq] at hk
      subst hk
      rw [RV] at h
      obtain ⟨xs, rfl, h⟩ := h
      congr 1
      apply Array.ext'
      simpa using intsOf_ok h hi
  · cases hk
def KeyIn (kt : TypeId) (v : Value) : Prop := ∃ kl, keyOf Tryd.prog kt v = some kl
def mapOf (st : St) (d : D) : Option (Nat × TypeId × (Value → Int) × Nat) := match d with
  | .one (.map n) => match st.H n with
    | some ⟨.m kt f c, 0, []⟩ => some (n, kt, f, c)
    | _ => none
  | _ => none
theorem mapOf_ok {β : Base} {F : Nat → Prop} {ι : Nms} {st : St} {a : Act} {w : World} (h : Holds β F ι st a w) {x : Operand} {n c : Nat} {kt : TypeId} {f : Value → Int} (hx : mapOf st (ev st x) = some (n, kt, f, c)) :
    st.H n = some ⟨.m kt f c, 0, []⟩ ∧ ∃ b cap, a.eval x = .map (some b) ∧ ι n = some (b, cap) ∧ 0 < cap ∧ MapIs w b kt f c := by
  unfold mapOf at hx
  split at hx
  · rename_i m hm
    split at hx
    · rename_i kt' f' c' hH
      simp only [Option.some.injEq, Prod.mk.injEq] at hx
      obtain ⟨rfl, rfl, rfl, rfl⟩ := hx
      have hv := h.ev x
      rw [hm, RV] at hv
      obtain ⟨b, cap, p1, p2, p3⟩ := hv
      obtain ⟨b', cap', q1, q2, q3, q4⟩ := h.heap.blk _ _ hH
      rw [p1] at q1
      simp only [Option.some.injEq, Prod.mk.injEq] at q1
      obtain ⟨rfl, rfl⟩ := q1
      obtain ⟨arr, r1, -⟩ := q4 p2
      exact ⟨hH, b, cap, p3, p1, p2, r1.2⟩
    · cases hx
  · cases hx
def mapT (P : Program) (ty : TypeId) : Option TypeId := match P.underlying ty with
  | some (.map k e) => if e = 3 then some k else none
  | _ => none
theorem mapT_run {P : Program} {ty kt : TypeId} (h : mapT P ty = some kt) : P.underlying ty = some (.map kt 3) := by
  unfold mapT at h
  split at h
  · rename_i hu
    split at h
    · rename_i e; subst e; simp only [Option.some.injEq] at h; subst h; exact hu
    · cases h
  · cases h
theorem MapIs.lt {w : World} {b n : Nat} {kt : TypeId} {f : Value → Int} (h : MapIs w b kt f n) : b < w.heap.size := by
  obtain ⟨D, m, -, hD, -⟩ := h
  exact hD.lt
theorem MapIs.made (w : World) (kt : TypeId) : MapIs (w.alloc (.map #[] 0)) w.heap.size kt (fun _ => 0) 0 :=
  ⟨_, 0, Nat.le_refl _, World.ownsMap_made _ _ _ _, fun k kl _ => by simp [DataW.atKey]⟩
theorem MapIs.look {w : World} {b n : Nat} {kt ty : TypeId} {f : Value → Int} (h : MapIs w b kt f n) (K : Keyed Tryd.prog kt) (ht : Tryd.prog.underlying ty = some (.map kt 3)) {u : Value} (hu : KeyIn kt u) :
    (Instr.lookup ty (.map (some b)) u false).run Tryd.prog w = .ok (.int .i64 (f u)) w := by
  obtain ⟨D, m, -, hD, hf⟩ := h
  obtain ⟨kl, hkl⟩ := hu
  obtain ⟨c, hrun, hc, -⟩ := hD.lookup_int K ht int_underlying (int_zero w) hkl
  rw [hf u kl hkl] at hc
  simp only [DataW.lit.injEq, Lit.int.injEq, true_and] at hc
  rw [hc]; exact hrun
theorem MapIs.put {w : World} {b n : Nat} {kt ty : TypeId} {f : Value → Int} (h : MapIs w b kt f n) (K : Keyed Tryd.prog kt) (ht : Tryd.prog.underlying ty = some (.map kt 3)) (hn : n < 100000000000) {u : Value} (hu : KeyIn kt u) {x : Int} (hx : (Lit.int .i64 x).wf = true) :
    ∃ w', (Instr.mapUpdate ty (.map (some b)) u (.int .i64 x)).run Tryd.prog w = .ok () w' ∧ MapIs w' b kt (fun k => if k = u then x else f k) (n + 1) ∧ w'.heap.size = w.heap.size ∧ SameIo w w' ∧ ∀ c, c ≠ b → w'.heap[c]? = w.heap[c]? := by
  obtain ⟨D, m, hm, hD, hf⟩ := h
  obtain ⟨kl, hkl⟩ := hu
  obtain ⟨w', hrun, h3, es, cl, es', cl', h4, h5⟩ := hD.store K ht (by simp only [maxLen]; omega) hkl (plainElem_int (a := x) int_underlying hx)
  refine ⟨w', hrun, ⟨D.put kl (.lit (.int .i64 x)), m + 1, by omega, h3, fun k kl' hk => ?_⟩, by rw [h5]; simp [setBlock], by rw [h5]; exact ⟨rfl, rfl, rfl⟩, fun c hc => by rw [h5]; exact heap_setBlock_other h4 _ hc⟩
  by_cases e : k = u
  · subst e
    rw [hkl] at hk
    cases hk
    simp only [if_true]
    exact atKey_put_same hD.isMap (K.key hkl) _ _
  · simp only [e, if_false]
    rw [atKey_put_other (fun h => e (by subst h; exact K.inj hk hkl))]
    exact hf k kl' hk
/-- a new map -/
def St.newMap (st : St) (kt : TypeId) : St := ⟨st.n, st.tm, st.H.set st.nx (some ⟨.m kt (fun _ => 0) 0, 0, []⟩), st.nx + 1⟩
section
variable {qt : Bool} {o : Oper} {st : St} {K : St → Prop} {t : Nat}
theorem ev_makeMap {ty kt : TypeId} (ho : o.op = .makeMap ty none) (ht : o.dst = some t) (hn : t < st.n) (hK : K ((st.newMap kt).put t (.one (.map st.nx)))) : EvO Tryd.prog qt o st K :=
  EvO.val ht hn (st.newMap kt) rfl _ hK (fun β F ι a w h => by
    obtain ⟨h1, h2, h3⟩ := h.heap.alloc0 (w' := w.alloc (.map #[] 0)) #[] ⟨.m kt (fun _ => 0) 0, 0, []⟩ 1 (by omega) (ob := .map #[] 0) rfl ⟨rfl, rfl, rfl⟩ ⟨rfl, MapIs.made w kt⟩ (by simp) (by simp) rfl (by simp) (fun i j y hy => by simp [nth2] at hy)
    refine ⟨.map (some w.heap.size), F, _, _, by simp [execOp, ho, run_makeMap], ⟨h.good, h.defers, h.size, fun u => (h.tm u).keep h2 h3, h1⟩, ?_, fun _ => old_alloc w _⟩
    rw [RV]
    exact ⟨w.heap.size, 1, by simp [Nms.set], by omega, rfl⟩)
theorem ev_lookup {ty kt : TypeId} {x y : Operand} {n c : Nat} {f : Value → Int} {u : Value} (ho : o.op = .lookup ty x y false) (hx : mapOf st (ev st x) = some (n, kt, f, c)) (ht : mapT Tryd.prog ty = some kt) (hy : keyD (ev st y) = some u) (hk : Keyed Tryd.prog kt) (hi : KeyIn kt u) : EvS Tryd.prog o st (.one (.d (.lit (.int .i64 (f u))))) false := fun β F ι a w h => by
  obtain ⟨-, b, cap, h1, -, -, hm⟩ := mapOf_ok h hx
  refine ⟨.int .i64 (f u), fun w' hw => ?_, by rw [RV]; exact .lit rfl⟩
  have hrun := (hm.keep (hw.resolve_left (by simp) b hm.lt)).look hk (mapT_run ht) hi
  simp [execOp, ho, h1, keyD_ok (h.ev y) hy, hrun]
theorem ev_mapUpdate {ty kt : TypeId} {x y z : Operand} {n c : Nat} {f : Value → Int} {u : Value} {v : Int} (ho : o.op = .mapUpdate ty x y z) (hx : mapOf st (ev st x) = some (n, kt, f, c)) (ht : mapT Tryd.prog ty = some kt) (hy : keyD (ev st y) = some u) (hz : litOf (ev st z) = some (.int .i64 v)) (hk : Keyed Tryd.prog kt) (hi : KeyIn kt u) (hv : (Lit.int .i64 v).wf = true) (hc : c < 100000000000) (hd : o.dst = none)
    (hK : K ⟨st.n, st.tm, st.H.set n (some ⟨.m kt (fun k => if k = u then v else f k) (c + 1), 0, []⟩), st.nx⟩) : EvO Tryd.prog qt o st K :=
  EvO.unit hd (by rw [ho]; rfl) _ hK (by rw [ho]; rfl) fun β F ι a w h => by
    obtain ⟨hH, b, cap, h1, hb, hcap, hm⟩ := mapOf_ok h hx
    obtain ⟨w', hrun, g1, g2, gio, g3⟩ := hm.put hk (mapT_run ht) hc hi hv
    obtain ⟨k1, k2⟩ := h.heap.write (w' := w') hH hb hcap #[] ⟨.m kt (fun k => if k = u then v else f k) (c + 1), 0, []⟩ (fun c hc => g3 c hc) g2 gio ⟨rfl, g1⟩ (by simp) (by simp) (by simp) (by simp) (fun i j y hy => by simp [nth2] at hy)
    refine ⟨F, ι, w', ?_, ⟨h.good, h.defers, h.size, fun u => (h.tm u).keep k2 (Nms.le_refl _), k1⟩, fun ty x y e => by rw [ho] at e; cases e⟩
    simp [execOp, ho, h1, keyD_ok (h.ev y) hy, litOf_ok (h.ev z) hz, hrun]
end
/-! ### Floats -/
def isNum (b : Nat) : Bool := Ieee.double.order b b == some .eq
def fltA : BinOp → Option Value → Option Value → Option (Nat × Nat)
  | .add, some (.float .f64 a), some (.float .f64 b) => some (a, b)
  | .sub, some (.float .f64 a), some (.float .f64 b) => some (a, b)
  | .mul, some (.float .f64 a), some (.float .f64 b) => some (a, b)
  | .quo, some (.float .f64 a), some (.float .f64 b) => some (a, b)
  | _, _, _ => none
theorem fltA_inv {op : BinOp} {x y : Option Value} {a b : Nat} (h : fltA op x y = some (a, b)) : (op = .add ∨ op = .sub ∨ op = .mul ∨ op = .quo) ∧ x = some (.float .f64 a) ∧ y = some (.float .f64 b) := by
  unfold fltA at h
  split at h
  all_goals first
    | (simp only [Option.some.injEq, Prod.mk.injEq] at h; obtain ⟨rfl, rfl⟩ := h; simp; done)
    | cases h
theorem order_nan' {x y : Nat} (h : 9218868437227405312 < x % 9223372036854775808) : Ieee.double.order x y = none := by
  have dbl_sign : Ieee.double.signWeight = 9223372036854775808 := by decide
  have dbl_bin : Ieee.double.binade = 4503599627370496 := by decide
  have dbl_inf : Ieee.double.infRung = 9218868437227405312 := by decide
  have hr : ∃ s f, Ieee.double.read x = .nan s f := by
    unfold Ieee.Format.read
    rw [dbl_sign, dbl_bin, dbl_inf]
    simp only []
    rw [if_neg (by omega), if_neg (by omega), if_neg (by omega)]
    exact ⟨_, _, rfl⟩
  obtain ⟨s, f, hr⟩ := hr
  unfold Ieee.Format.order
  rw [hr]
  rfl
theorem run_nan {P : Program} (op : BinOp) (t : TypeId) (x y : Nat) (w : World) (h : floatBits op .f64 x y = none) (ho : op = .add ∨ op = .sub ∨ op = .mul ∨ op = .quo) :
    ∃ b : Nat, isNum b = false ∧ (binOp op t (.float .f64 x) (.float .f64 y)).run P w = .ok (.float .f64 b) w.drew := by
  refine ⟨(Question.nanBits .f64 x y).cut (w.tape w.drawn (.nanBits .f64 x y)), ?_, ?_⟩
  · have key : ∀ t : Nat, isNum ((t % 2) * 2 ^ 63 + 0x7ff0000000000000 + 1 + (t / 2) % (2 ^ 52 - 1)) = false := by
      intro t
      have h1 : t % 2 < 2 := Nat.mod_lt _ (by decide)
      have h2 : (t / 2) % (2 ^ 52 - 1) < 4503599627370495 := Nat.mod_lt _ (by decide)
      generalize t % 2 = s at h1
      generalize (t / 2) % (2 ^ 52 - 1) = r at h2
      unfold isNum
      rw [order_nan' (by rcases (by omega : s = 0 ∨ s = 1) with rfl | rfl <;> omega)]
      rfl
    exact key _
  · unfold floatBits at h
    rcases ho with rfl | rfl | rfl | rfl <;> simp only at h <;> simp [binOp, Op.floatArith, h, choose, Sem.run, Question.forced] <;> rfl
section
variable {P : Program} {qt : Bool} {o : Oper} {st : St} {K : St → Prop} {t : Nat}
theorem ev_floatA {op : BinOp} {ty yt : TypeId} {x y : Operand} {p q : Nat} (ho : o.op = .binOp op ty x y yt) (hf : fltA op (litOf (ev st x)) (litOf (ev st y)) = some (p, q)) (ht : o.dst = some t) (hn : t < st.n)
    (h1 : ∀ r, floatBits op .f64 p q = some r → K (st.put t (.one (.d (.lit (.float .f64 r)))))) (h2 : floatBits op .f64 p q = none → ∀ r, isNum r = false → K (st.put t (.one (.d (.lit (.float .f64 r)))))) : EvO P qt o st K := by
  obtain ⟨hop, hx, hy⟩ := fltA_inv hf
  intro β F ι a w h next Q hnext
  have hg : ∀ r w1, (binOp op ty (.float .f64 p) (.float .f64 q)).run P w = .ok (.float .f64 r) w1 → (execOp a.eval o).run P w = .ok (.value (.float .f64 r)) w1 := fun r w1 hr => by
    have : (eqGuard op ty x y (.float .f64 p) (.float .f64 q)).run P w = .ok () w := by
      rcases hop with rfl | rfl | rfl | rfl <;> simp [eqGuard]
    simp [execOp, ho, litOf_ok (h.ev x) hx, litOf_ok (h.ev y) hy, this, hr]
  have hch : ∀ v w', Chg qt o a w v w' := fun v w' => ⟨fun _ e => (by rw [ho] at e; cases e), fun e => (by rw [ho] at e; cases e), fun ty x y e => (by rw [ho] at e; cases e)⟩
  unfold Oper.wp
  rw [ht] at hnext
  cases hb : floatBits op .f64 p q with
  | some r =>
    rw [hg r w (run_float_arith (P := P) w op ty .f64 p q r hb), Oper.upon_value, ht]
    exact hnext F ι _ _ w (hch _ _) (h.put (by rw [RV]; exact .lit rfl) hn) (h1 r hb)
  | none =>
    obtain ⟨r, g1, g2⟩ := run_nan op ty p q w hb hop
    rw [hg r _ g2, Oper.upon_value, ht]
    obtain ⟨k1, k2⟩ := h.heap.drew
    have h' : Holds β F ι st a w.drew := ⟨h.good, h.defers, h.size, fun t => (h.tm t).keep k2 (Nms.le_refl _), k1⟩
    exact hnext F ι _ _ w.drew (hch _ _) (h'.put (by rw [RV]; exact .lit rfl) hn) (h2 hb r g1)
theorem ev_negF {ty : TypeId} {x : Operand} {k : FloatKind} {n : Nat} (ho : o.op = .unOp .neg ty x) (hx : litOf (ev st x) = some (.float k n)) : EvS P o st (.one (.d (.lit (.float k (Op.negFloat k n))))) true := fun β F ι a w h => ⟨.float k (Op.negFloat k n), fun w' _ => by simp [execOp, ho, litOf_ok (h.ev x) hx, Op.unary], by rw [RV]; exact .lit rfl⟩
end
/-! ### Functions of the model's own -/
theorem ext_from (n : Int) (w : World) : (callFunc 61 #[.int .u64 n]).run Tryd.prog w = .ok (.value (.float .f64 n.toNat)) w := by
  rw [run_callFunc_extern (e := Extern.MathFloatBits.float64frombits) Tryd.func61 (by kernel_rfl) (by kernel_rfl) (by kernel_rfl) (by kernel_rfl)]
  rfl
theorem ext_bits (n : Nat) (w : World) : (callFunc 60 #[.float .f64 n]).run Tryd.prog w = .ok (.value (.int .u64 n)) w := by
  rw [run_callFunc_extern (e := Extern.MathFloatBits.float64bits) Tryd.func60 (by kernel_rfl) (by kernel_rfl) (by kernel_rfl) (by kernel_rfl)]
  rfl
def ext1 (f : FuncId) (v : Option Value) : Option Value :=
  if f = 61 then (match v with | some (.int .u64 n) => some (.float .f64 n.toNat) | _ => none) else
  if f = 60 then (match v with | some (.float .f64 n) => some (.int .u64 n) | _ => none) else
  none
theorem ext1_ok {f : FuncId} {v r : Value} (h : ext1 f (some v) = some r) (w : World) : (callFunc f #[v]).run Tryd.prog w = .ok (.value r) w ∧ r.oneCell' = true := by
  unfold ext1 at h
  repeat' split at h
  all_goals first
    | (cases h; done)
    | (rename_i e _ _ hv; simp only [Option.some.injEq] at h hv; subst h hv e; exact ⟨ext_from _ w, rfl⟩)
    | (rename_i _ e _ _ hv; simp only [Option.some.injEq] at h hv; subst h hv e; exact ⟨ext_bits _ w, rfl⟩)
def ext (st : St) (f : FuncId) (xs : List Operand) : Option Value := match xs with
  | [x] => ext1 f (litOf (ev st x))
  | _ => none
section
variable {qt : Bool} {o : Oper} {st : St} {K : St → Prop} {t : Nat}
theorem ev_ext {x : Operand} {xs : Array Operand} {tys : Array TypeId} {f : FuncId} {r : Value} (ho : o.op = .call { callee := .value x, args := xs, argTypes := tys }) (hx : ev st x = .one (.d (.fn (.func f) [] []))) (he : ext st f xs.toList = some r) : EvS Tryd.prog o st (.one (.d (.lit r))) true := fun β F ι a w h => by
  unfold ext at he
  split at he
  · rename_i y hy
    obtain rfl : xs = #[y] := by apply Array.ext'; simpa using hy
    cases hv : litOf (ev st y) with
    | none => rw [hv] at he; unfold ext1 at he; simp at he
    | some v =>
      rw [hv] at he
      have hfv := h.ev x
      rw [hx, RV] at hfv
      have hfx : a.eval x = .func (.func f) #[] #[] := by
        cases hq : a.eval x with
        | func fn ys zs =>
          rw [hq] at hfv
          cases hfv with
          | fn l1 l2 h1 h2 =>
            obtain rfl : ys = #[] := by simpa using l1
            obtain rfl : zs = #[] := by simpa using l2
            rfl
        | _ => rw [hq] at hfv; cases hfv
      refine ⟨r, fun w' _ => ?_, by rw [RV]; exact .lit (ext1_ok he w).2⟩
      have hr := (ext1_ok he w').1
      simp [execOp, ho, resolve, hfx, Deferred.ofValue, invoke, litOf_ok (h.ev y) hv, hr]
  · cases he
end
end Go.Proofs.YtalippdhfkpbmaaDoor
