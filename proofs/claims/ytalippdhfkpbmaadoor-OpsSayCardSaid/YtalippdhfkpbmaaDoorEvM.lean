/- Rules: scalars, parts of values. -/
import Derived.Test.YtalippdhfkpbmaaDoorEvL
namespace Go.Proofs.YtalippdhfkpbmaaDoor
open Go.RowKit Go
/-- of two scalars -/
def sc : BinOp → Value → Value → Option Value
  | .add, .int k a, .int k' b => if k = k' then some (.int k (k.wrap (a + b))) else none
  | .sub, .int k a, .int k' b => if k = k' then some (.int k (k.wrap (a - b))) else none
  | .mul, .int k a, .int k' b => if k = k' then some (.int k (k.wrap (a * b))) else none
  | .quo, .int k a, .int k' b => if k = k' ∧ b ≠ 0 then some (.int k (k.wrap (a.tdiv b))) else none
  | .rem, .int k a, .int k' b => if k = k' ∧ b ≠ 0 then some (.int k (a.tmod b)) else none
  | .eql, .int k a, .int k' b => if k = k' then some (.bool (decide (a = b))) else none
  | .neq, .int k a, .int k' b => if k = k' then some (.bool (!decide (a = b))) else none
  | .lss, .int k a, .int k' b => if k = k' then some (.bool (decide (a < b))) else none
  | .leq, .int k a, .int k' b => if k = k' then some (.bool (decide (a ≤ b))) else none
  | .gtr, .int k a, .int k' b => if k = k' then some (.bool (decide (b < a))) else none
  | .geq, .int k a, .int k' b => if k = k' then some (.bool (decide (b ≤ a))) else none
  | .eql, .float .f64 a, .float .f64 b => some (.bool (Ieee.double.order a b == some .eq))
  | .neq, .float .f64 a, .float .f64 b => some (.bool (Ieee.double.order a b != some .eq))
  | .lss, .float .f64 a, .float .f64 b => some (.bool (Ieee.double.order a b == some .lt))
  | .leq, .float .f64 a, .float .f64 b => some (.bool (Ieee.double.order a b == some .lt || Ieee.double.order a b == some .eq))
  | .gtr, .float .f64 a, .float .f64 b => some (.bool (Ieee.double.order a b == some .gt))
  | .geq, .float .f64 a, .float .f64 b => some (.bool (Ieee.double.order a b == some .gt || Ieee.double.order a b == some .eq))
  | .eql, .string a, .string b => some (.bool (decide (a = b)))
  | .neq, .string a, .string b => some (.bool (!decide (a = b)))
  | _, _, _ => none
theorem bytes_beq (a b : ByteArray) : (a.toList == b.toList) = decide (a = b) := by
  have h : a.toList = b.toList ↔ a = b := ⟨fun h => by
    have h' : a.data.toList = b.data.toList := by simpa [ByteArray.toList_eq] using h
    cases a; cases b; congr; exact Array.ext' h', fun h => by rw [h]⟩
  by_cases e : a = b
  · simp [e]
  · simp [e, h]
theorem sc_ok {P : Program} {op : BinOp} {t : TypeId} {x y : Operand} {u v r : Value} (h : sc op u v = some r) (w : World) : (do eqGuard op t x y u v; binOp op t u v : Sem Value).run P w = .ok r w ∧ r.oneCell' = true := by
  unfold sc at h
  split at h
  all_goals first
    | (split at h
       · rename_i hk
         simp only [Option.some.injEq] at h
         subst h
         refine ⟨?_, rfl⟩
         first
           | (subst hk; simp [eqGuard, binOp, Op.intArith, Op.intCmp]; done)
           | (obtain ⟨rfl, hb⟩ := hk; simp [eqGuard, binOp, Op.intDiv, hb]; done)
           | (subst hk; simp [eqGuard, binOp, Op.intArith, Op.intCmp]; rfl)
       · cases h)
    | (simp only [Option.some.injEq] at h
       subst h
       refine ⟨?_, rfl⟩
       first | (simp [eqGuard, binOp, Op.stringOp, bytes_beq]; done) | (simp [eqGuard, binOp, Op.floatCmp]; rfl))
    | cases h
def litOf : D → Option Value
  | .one (.d (.lit v)) => some v
  | _ => none
theorem litOf_ok {E : Env} {w : World} {ι : Nms} {d : D} {v u : Value} (h : RV E w ι d v) (hl : litOf d = some u) : v = u := by
  unfold litOf at hl
  split at hl
  · simp only [Option.some.injEq] at hl
    subst hl
    rw [RV] at h
    exact RD.lit_inv h
  · cases hl
def intsOf : List C → Option (List Int)
  | [] => some []
  | .d (.lit (.int .i64 n)) :: cs => (intsOf cs).map fun l => n :: l
  | _ => none
theorem intsOf_ok {E : Env} {w : World} {ι : Nms} : ∀ {cs : List C} {l : List Int} {vs : List Value}, RCs E w ι cs vs → intsOf cs = some l → vs = l.map (Value.int .i64)
  | [], l, [], _, h => by simp only [intsOf, Option.some.injEq] at h; subst h; rfl
  | c :: cs, l, v :: vs, hr, h => by
    unfold intsOf at h
    split at h
    · rename_i he; cases he
    · rename_i n cs' he
      simp only [List.cons.injEq] at he
      obtain ⟨rfl, rfl⟩ := he
      cases h2 : intsOf cs with
      | none => simp [h2] at h
      | some m =>
        simp only [h2, Option.map_some, Option.some.injEq] at h
        subst h
        rw [intsOf_ok hr.2 h2, RD.lit_inv hr.1]; rfl
    · cases h
  | [], _, _ :: _, hr, _ => hr.elim
  | _ :: _, _, [], hr, _ => hr.elim
/-- a struct of n whole numbers: how two of them are told apart -/
def EqI (P : Program) (t : TypeId) (n : Nat) : Prop := ∀ (x y : Operand) (l m : List Int) (w : World), l.length = n → m.length = n →
  (do eqGuard .eql t x y (.agg (l.map (Value.int .i64)).toArray) (.agg (m.map (Value.int .i64)).toArray); binOp .eql t (.agg (l.map (Value.int .i64)).toArray) (.agg (m.map (Value.int .i64)).toArray) : Sem Value).run P w = .ok (.bool (decide (l = m))) w ∧
  (do eqGuard .neq t x y (.agg (l.map (Value.int .i64)).toArray) (.agg (m.map (Value.int .i64)).toArray); binOp .neq t (.agg (l.map (Value.int .i64)).toArray) (.agg (m.map (Value.int .i64)).toArray) : Sem Value).run P w = .ok (.bool (!decide (l = m))) w
def aggOf : D → Option (List C)
  | .agg cs => some cs
  | _ => none
theorem aggOf_ok {E : Env} {w : World} {ι : Nms} {d : D} {v : Value} {cs : List C} (h : RV E w ι d v) (hl : aggOf d = some cs) : ∃ xs : Array Value, v = .agg xs ∧ RCs E w ι cs xs.toList := by
  unfold aggOf at hl
  split at hl
  · simp only [Option.some.injEq] at hl
    subst hl
    rwa [RV] at h
  · cases hl
def ftyOf (P : Program) (s : TypeId) (f : Nat) : Option (Nat × Nat × Bool) := match P.underlying s with
  | some (.struct fs) => (fs[f]?).bind fun x => (szOf P x.type).bind fun k => (rowT P x.type).map fun b => (x.offset, k, b)
  | _ => none
section
variable {P : Program} {qt : Bool} {o : Oper} {st : St} {K : St → Prop} {t : Nat}
theorem ev_binOp {op : BinOp} {ty yt : TypeId} {x y : Operand} {u v r : Value} (ho : o.op = .binOp op ty x y yt) (hx : litOf (ev st x) = some u) (hy : litOf (ev st y) = some v) (hr : sc op u v = some r) : EvS P o st (.one (.d (.lit r))) true := fun β F ι a w h => by
    refine ⟨r, fun w' _ => ?_, by rw [RV]; exact .lit (sc_ok (P := P) (t := ty) (x := x) (y := y) hr w).2⟩
    have h1 := (sc_ok (P := P) (t := ty) (x := x) (y := y) hr w').1
    rw [show execOp a.eval o = (do let s ← (do eqGuard op ty x y (a.eval x) (a.eval y); binOp op ty (a.eval x) (a.eval y) : Sem Value); pure (.value s)) by simp [execOp, ho]]
    rw [litOf_ok (h.ev x) hx, litOf_ok (h.ev y) hy, Sem.run_bind, h1]
    rfl
theorem ev_eqI {n : Nat} {op : BinOp} {ty yt : TypeId} {x y : Operand} {cs ds : List C} {l m : List Int} (ho : o.op = .binOp op ty x y yt) (hop : op = .eql ∨ op = .neq) (he : EqI P ty n) (hx : aggOf (ev st x) = some cs) (hy : aggOf (ev st y) = some ds)
    (hl : intsOf cs = some l) (hm : intsOf ds = some m) (hln : l.length = n) (hmn : m.length = n) : EvS P o st (.one (.d (.lit (.bool (if op = .eql then decide (l = m) else !decide (l = m)))))) true := fun β F ι a w h => by
    obtain ⟨xs, hv, h1⟩ := aggOf_ok (h.ev x) hx
    obtain ⟨ys, hu, h2⟩ := aggOf_ok (h.ev y) hy
    have e1 : xs = (l.map (Value.int .i64)).toArray := by apply Array.ext'; simpa using intsOf_ok h1 hl
    have e2 : ys = (m.map (Value.int .i64)).toArray := by apply Array.ext'; simpa using intsOf_ok h2 hm
    subst e1 e2
    refine ⟨_, fun w' _ => ?_, by rw [RV]; exact .lit rfl⟩
    obtain ⟨g1, g2⟩ := he x y l m w' hln hmn
    rw [show execOp a.eval o = (do let s ← (do eqGuard op ty x y (a.eval x) (a.eval y); binOp op ty (a.eval x) (a.eval y) : Sem Value); pure (.value s)) by simp [execOp, ho]]
    rw [hv, hu, Sem.run_bind]
    rcases hop with rfl | rfl
    · rw [g1]; rfl
    · rw [g2]; rfl
def boolT (P : Program) (t : TypeId) : Bool := match P.underlying t with
  | some .bool => true
  | _ => false
theorem ev_eqB {op : BinOp} {ty yt : TypeId} {x y : Operand} {p q : Bool} (ho : o.op = .binOp op ty x y yt) (hop : op = .eql ∨ op = .neq) (hb : boolT P ty = true) (hx : litOf (ev st x) = some (.bool p)) (hy : litOf (ev st y) = some (.bool q)) :
    EvS P o st (.one (.d (.lit (.bool (if op = .eql then p == q else p != q))))) true := fun β F ι a w h => by
    have hu : P.underlying ty = some .bool := by
      unfold boolT at hb
      split at hb
      · rename_i e; exact e
      · cases hb
    refine ⟨_, fun w' _ => ?_, by rw [RV]; exact .lit rfl⟩
    have heq : (Op.equal ty (.bool p) (.bool q)).run P w' = .ok (p == q) w' := by
      show (Op.equalIn (9999 + 1) ty (.bool p) (.bool q)).run P w' = _
      rw [Op.equalIn]
      simp [run_underlying hu]
    rcases hop with rfl | rfl <;> simp [execOp, ho, litOf_ok (h.ev x) hx, litOf_ok (h.ev y) hy, eqGuard, binOp, heq, bne]
theorem ev_not {ty : TypeId} {x : Operand} {b : Bool} (ho : o.op = .unOp .not ty x) (hx : litOf (ev st x) = some (.bool b)) : EvS P o st (.one (.d (.lit (.bool (!b))))) true := fun β F ι a w h => ⟨.bool (!b), fun w' _ => by simp [execOp, ho, litOf_ok (h.ev x) hx, Op.unary], by rw [RV]; exact .lit rfl⟩
theorem ev_neg {ty : TypeId} {x : Operand} {k : IntKind} {n : Int} (ho : o.op = .unOp .neg ty x) (hx : litOf (ev st x) = some (.int k n)) : EvS P o st (.one (.d (.lit (.int k (k.wrap (0 - n)))))) true := fun β F ι a w h => ⟨.int k (k.wrap (0 - n)), fun w' _ => by simp [execOp, ho, litOf_ok (h.ev x) hx, Op.unary, Op.intArith], by rw [RV]; exact .lit rfl⟩
def intT (P : Program) (t : TypeId) : Option IntKind := match P.underlying t with
  | some (.int k) => some k
  | _ => none
theorem ev_conv {sr ds : TypeId} {x : Operand} {k k' : IntKind} {n : Int} (ho : o.op = .convert sr ds x) (hx : litOf (ev st x) = some (.int k n)) (hs : intT P sr = some k) (hd : intT P ds = some k') : EvS P o st (.one (.d (.lit (.int k' (k'.wrap n))))) true := fun β F ι a w h => by
    have hu : ∀ {t : TypeId} {k : IntKind}, intT P t = some k → P.underlying t = some (.int k) := fun {t k} h => by
      unfold intT at h
      split at h
      · rename_i e; simp only [Option.some.injEq] at h; subst h; exact e
      · cases h
    refine ⟨.int k' (k'.wrap n), fun w' _ => ?_, by rw [RV]; exact .lit rfl⟩
    simp [execOp, ho, litOf_ok (h.ev x) hx, convert, run_underlying (hu hs), run_underlying (hu hd), Conv.intToInt]
theorem ev_extract {x : Operand} {i : Nat} {ds : List D} {d : D} (ho : o.op = .extract x i) (hx : ev st x = .tup ds) (hd : ds[i]? = some d) : EvS P o st d true := fun β F ι a w h => by
    have he := h.ev x
    rw [hx, RV] at he
    obtain ⟨xs, hv, hr⟩ := he
    have hget : ∀ {ds : List D} {vs : List Value} {E : Env} {ι : Nms}, RVs E w ι ds vs → ∀ {t : Nat} {d : D}, ds[t]? = some d → ∃ v, vs[t]? = some v ∧ RV E w ι d v := by
      intro ds
      induction ds with
      | nil => intro vs E ι h t d hd; simp at hd
      | cons d ds ih => intro vs E ι h t e hd; cases vs with
        | nil => simp [RVs] at h
        | cons v vs =>
          rw [RVs] at h
          cases t with
          | zero => simp only [List.getElem?_cons_zero, Option.some.injEq] at hd; subst hd; exact ⟨v, rfl, h.1⟩
          | succ t => exact ih h.2 (by simpa using hd)
    obtain ⟨v, g1, g2⟩ := hget hr hd
    refine ⟨v, fun w' _ => ?_, g2⟩
    have : xs[i]? = some v := by simpa using g1
    simp [execOp, ho, hv, Instr.extract, this]
end
end Go.Proofs.YtalippdhfkpbmaaDoor
