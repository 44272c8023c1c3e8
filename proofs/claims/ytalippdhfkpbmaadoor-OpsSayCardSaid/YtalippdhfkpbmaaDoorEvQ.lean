/- Rules: parts of structs and arrays, literals, strings. -/
import Derived.Test.YtalippdhfkpbmaaDoorEvP
namespace Go.Proofs.YtalippdhfkpbmaaDoor
open Go.RowKit Go
theorem RCs.drop {E : Env} {w : World} {ι : Nms} : ∀ {cs : List C} {vs : List Value} (m : Nat), RCs E w ι cs vs → RCs E w ι (cs.drop m) (vs.drop m)
  | _, _, 0, h => h
  | [], [], m + 1, _ => trivial
  | _ :: _, _ :: _, m + 1, h => RCs.drop m h.2
theorem RCs.append {E : Env} {w : World} {ι : Nms} : ∀ {cs ds : List C} {vs us : List Value}, RCs E w ι cs vs → RCs E w ι ds us → RCs E w ι (cs ++ ds) (vs ++ us)
  | [], _, [], _, _, h => h
  | _ :: _, _, _ :: _, _, h1, h2 => ⟨h1.1, h1.2.append h2⟩
/-- part of a value: k cells from off on -/
def partD (cs : List C) (off k : Nat) (row : Bool) : Option D := if row then (if off + k ≤ cs.length then some (.agg ((cs.drop off).take k)) else none) else (cs[off]?).map .one
theorem part_run {P : Program} {ty : TypeId} {k : Nat} {row : Bool} (hk : szOf P ty = some k) (hr : rowT P ty = some row) {E : Env} {w : World} {ι : Nms} {cs : List C} {xs : Array Value} (h : RCs E w ι cs xs.toList) {off : Nat} {d : D} (hd : partD cs off k row = some d) :
    ∃ v, (∀ w', (part ty xs off).run P w' = .ok v w') ∧ RV E w ι d v := by
  unfold partD at hd
  cases row with
  | true =>
    simp only [if_true] at hd
    split at hd
    · rename_i hl
      simp only [Option.some.injEq] at hd
      subst hd
      refine ⟨.agg (xs.extract off (off + k)), fun w' => by simp [part, rowT_run hr, szOf_run hk], ?_⟩
      rw [RV]
      refine ⟨_, rfl, ?_⟩
      have := (h.drop off).take k
      simpa [Array.toList_extract, List.extract] using this
    · cases hd
  | false =>
    simp only [Bool.false_eq_true, if_false] at hd
    cases hc : cs[off]? with
    | none => simp [hc] at hd
    | some c =>
      simp only [hc, Option.map_some, Option.some.injEq] at hd
      subst hd
      obtain ⟨v, g1, g2⟩ := h.get hc
      have : xs[off]? = some v := by simpa using g1
      exact ⟨v, fun w' => by simp [part, rowT_run hr, this], by rw [RV]; exact g2⟩
def arrOf (P : Program) (t : TypeId) : Option (Nat × TypeId × Nat × Bool) := match P.underlying t with
  | some (.array n e) => (szOf P e).bind fun k => (rowT P e).map fun b => (n, e, k, b)
  | _ => none
def isStr (P : Program) (t : TypeId) : Bool := match P.underlying t with
  | some .string => true
  | _ => false
section
variable {P : Program} {qt : Bool} {o : Oper} {st : St} {K : St → Prop} {t : Nat}
theorem ev_field {s f : Nat} {x : Operand} {cs : List C} {off k : Nat} {row : Bool} {d : D} (ho : o.op = .field s x f) (hx : ev st x = .agg cs) (hf : ftyOf P s f = some (off, k, row)) (hd : partD cs off k row = some d) : EvS P o st d true := fun β F ι a w h => by
    have he := h.ev x
    rw [hx, RV] at he
    obtain ⟨xs, hv, hr⟩ := he
    unfold ftyOf at hf
    split at hf
    · rename_i fs hu
      cases hfs : fs[f]? with
      | none => simp [hfs] at hf
      | some g =>
        cases hz : szOf P g.type with
        | none => simp [hfs, hz] at hf
        | some k' =>
          cases hrow : rowT P g.type with
          | none => simp [hfs, hz, hrow] at hf
          | some b =>
            simp only [hfs, hz, hrow, Option.bind_some, Option.map_some, Option.some.injEq, Prod.mk.injEq] at hf
            obtain ⟨rfl, rfl, rfl⟩ := hf
            obtain ⟨v, g1, g2⟩ := part_run hz hrow hr hd
            refine ⟨v, fun w' _ => ?_, g2⟩
            simp [execOp, ho, Instr.field, run_underlying hu, hfs, hv, asAgg, g1]
    · simp at hf
theorem arrOf_run {ty e : TypeId} {n k : Nat} {b : Bool} (h : arrOf P ty = some (n, e, k, b)) : P.underlying ty = some (.array n e) ∧ szOf P e = some k ∧ rowT P e = some b := by
  unfold arrOf at h
  split at h
  · rename_i n' e' hu
    cases hz : szOf P e' with
    | none => simp [hz] at h
    | some k' =>
      cases hr : rowT P e' with
      | none => simp [hz, hr] at h
      | some b' =>
        simp only [hz, hr, Option.bind_some, Option.map_some, Option.some.injEq, Prod.mk.injEq] at h
        obtain ⟨rfl, rfl, rfl, rfl⟩ := h
        exact ⟨hu, hz, hr⟩
  · cases h
theorem ev_indexArr {ty e : TypeId} {x y : Operand} {c c' : C} {n k : Nat} {b : Bool} {i : Int} (ho : o.op = .indexAddr ty x y) (hx : ev st x = .one c) (hy : intOf? (ev st y) = some i) (ha : arrOf P ty = some (n, e, k, b)) (h0 : 0 ≤ i) (h1 : i < n) (hc : fieldA c (i.toNat * k) = some c') : EvS P o st (.one c') true := fun β F ι a w h => by
    have he := h.ev x
    rw [hx, RV] at he
    obtain ⟨bb, of, hv, hr⟩ := RC.field he hc
    obtain ⟨hu, hz, -⟩ := arrOf_run ha
    obtain ⟨kk, hk⟩ := intOf_ok h hy
    refine ⟨_, fun w' _ => ?_, by rw [RV]; exact hr⟩
    simp [execOp, ho, hv, hk, Instr.indexAt, asIntOf, run_underlying hu, szOf_run hz, h0, h1, Instr.sureAddr, add_zero_or]
theorem ev_index {ty e : TypeId} {x y : Operand} {cs : List C} {n k : Nat} {b : Bool} {i : Int} {d : D} (ho : o.op = .index ty x y) (hx : ev st x = .agg cs) (hy : intOf? (ev st y) = some i) (ha : arrOf P ty = some (n, e, k, b)) (h0 : 0 ≤ i) (h1 : i < n) (hd : partD cs (i.toNat * k) k b = some d) : EvS P o st d true := fun β F ι a w h => by
    have he := h.ev x
    rw [hx, RV] at he
    obtain ⟨xs, hv, hr⟩ := he
    obtain ⟨hu, hz, hrow⟩ := arrOf_run ha
    obtain ⟨kk, hk⟩ := intOf_ok h hy
    obtain ⟨v, g1, g2⟩ := part_run hz hrow hr hd
    exact ⟨v, fun w' _ => by simp [execOp, ho, Instr.index, hk, asIntOf, run_underlying hu, hv, h0, h1, szOf_run hz, g1], g2⟩
theorem ev_indexS {ty : TypeId} {x y : Operand} {s : ByteArray} {i : Int} {c : UInt8} (ho : o.op = .index ty x y) (hx : litOf (ev st x) = some (.string s)) (hy : intOf? (ev st y) = some i) (hs : isStr P ty = true) (h0 : 0 ≤ i) (hc : s.data.toList[i.toNat]? = some c) : EvS P o st (.one (.d (.lit (.int .u8 c.toNat)))) true := fun β F ι a w h => by
    obtain ⟨kk, hk⟩ := intOf_ok h hy
    have hu : P.underlying ty = some .string := by
      unfold isStr at hs
      split at hs
      · rename_i e; exact e
      · cases hs
    have hc' : s[i.toNat]? = some c := by
      have hl := (List.getElem?_eq_some_iff.1 hc).1
      have hl' : i.toNat < s.size := by simpa using hl
      rw [getElem?_pos s i.toNat hl']
      have := (List.getElem?_eq_some_iff.1 hc).2
      exact congrArg some (by simpa using this : s.data[i.toNat] = c)
    refine ⟨.int .u8 c.toNat, fun w' _ => ?_, by rw [RV]; exact .lit rfl⟩
    simp [execOp, ho, Instr.index, hk, asIntOf, run_underlying hu, litOf_ok (h.ev x) hx, h0, hc']
theorem ev_lenS {x : Operand} {ty : TypeId} {s : ByteArray} (ho : o.op = .call { callee := .builtin .len, args := #[x], argTypes := #[ty] }) (hs : isStr P ty = true) (hx : litOf (ev st x) = some (.string s)) : EvS P o st (.one (.d (.lit (.int .i64 s.size)))) true := fun β F ι a w h => by
    have hu : P.underlying ty = some .string := by
      unfold isStr at hs
      split at hs
      · rename_i e; exact e
      · cases hs
    exact ⟨.int .i64 s.size, fun w' _ => by simp [execOp, ho, resolve, litOf_ok (h.ev x) hx, invoke, builtin, Builtin.len_, goInt, run_underlying hu], by rw [RV]; exact .lit rfl⟩
end
/-! ### Literals -/
def fldsOf (P : Program) (t : TypeId) : Option (List (Nat × Nat)) := match P.underlying t with
  | some (.struct fs) => fs.toList.mapM fun f => (szOf P f.type).map fun k => (f.offset, k)
  | _ => none
/-- parts laid in, one behind the other -/
def layC (pl : Nat → Option (Nat × Nat)) (st : St) : List (Nat × Operand) → List C → Option (List C)
  | [], cs => some cs
  | (i, x) :: l, cs => match pl i, Dcells (ev st x) with
    | some (off, k), some ds => if ds.length = k ∧ off + k ≤ cs.length then layC pl st l (splice cs off ds) else none
    | _, _ => none
theorem foldl_set (vs : List Value) (off : Nat) : ∀ (i : Nat) (cs : Array Value), off + i + vs.length ≤ cs.size →
    ((vs.zipIdx i).foldl (fun cs (p : Value × Nat) => cs.setIfInBounds (off + p.2) p.1) cs).toList = cs.toList.take (off + i) ++ vs ++ cs.toList.drop (off + i + vs.length) := by
  induction vs with
  | nil => intro i cs h; simp
  | cons v vs ih =>
    intro i cs h
    simp only [List.length_cons] at h
    simp only [List.zipIdx_cons, List.foldl_cons]
    rw [ih (i + 1) _ (by simp; omega)]
    apply List.ext_getElem?
    intro j
    have e1 : ((cs.setIfInBounds (off + i) v).toList.take (off + (i + 1)) ++ vs ++ (cs.setIfInBounds (off + i) v).toList.drop (off + (i + 1) + vs.length)) = ((cs.setIfInBounds (off + i) v).toList.take (off + (i + 1)) ++ vs ++ (cs.setIfInBounds (off + i) v).toList.drop (off + (i + 1) + vs.length)) := rfl
    rw [splice_get (by simp; omega), show off + i + (v :: vs).length = off + i + (v :: vs).length from rfl, splice_get (e := cs.toList) (cs := v :: vs) (by simp; omega)]
    simp only [List.length_cons]
    by_cases h1 : off + (i + 1) ≤ j ∧ j < off + (i + 1) + vs.length
    · rw [if_pos h1, if_pos (by omega), show j - (off + i) = (j - (off + (i + 1))) + 1 by omega]; simp
    · rw [if_neg h1]
      by_cases h2 : j = off + i
      · subst h2
        rw [if_pos (by omega)]
        have : off + i < cs.size := by omega
        simp [this]
      · rw [if_neg (by omega)]
        have : off + i ≠ j := fun e => h2 e.symm
        simp only [Array.toList_setIfInBounds]
        rw [List.getElem?_set_ne this]
theorem lay_ok {pl : Nat → Option (Nat × Nat)} {β : Base} {F : Nat → Prop} {ι : Nms} {st : St} {a : Act} {w : World} (h : Holds β F ι st a w) : ∀ {l : List (Nat × Operand)} {cs r : List C} {xs : Array Value}, RCs ⟨F, β.B⟩ w ι cs xs.toList → layC pl st l cs = some r →
    ∃ ys, Instr.fill pl xs (l.map fun p => (p.1, a.eval p.2)) = some ys ∧ RCs ⟨F, β.B⟩ w ι r ys.toList
  | [], cs, r, xs, hr, hl => by simp only [layC, Option.some.injEq] at hl; subst hl; exact ⟨xs, rfl, hr⟩
  | (i, x) :: l, cs, r, xs, hr, hl => by
    unfold layC at hl
    split at hl
    · rename_i off k ds hp hd
      split at hl
      · rename_i hc
        obtain ⟨rfl, hfit⟩ := hc
        obtain ⟨h1, h2⟩ := Dcells_ok (h.ev x) hd
        have hvl : (a.eval x).cells.size = ds.length := by simpa using h1.len
        have hxl : xs.size = cs.length := by simpa using hr.len
        have hz : (a.eval x).cells.zipIdx.foldl (fun cs (p : Value × Nat) => cs.setIfInBounds (off + p.2) p.1) xs = (xs.toList.take off ++ (a.eval x).cells.toList ++ xs.toList.drop (off + (a.eval x).cells.toList.length)).toArray := by
          apply Array.ext'
          have := foldl_set (a.eval x).cells.toList off 0 xs (by simp; omega)
          simp only [Nat.add_zero] at this
          rw [← this, ← Array.foldl_toList, Array.toList_zipIdx]
        have hr' : RCs ⟨F, β.B⟩ w ι (splice cs off ds) (xs.toList.take off ++ (a.eval x).cells.toList ++ xs.toList.drop (off + (a.eval x).cells.toList.length)).toArray.toList := by
          unfold splice
          have e : (a.eval x).cells.toList.length = ds.length := by simpa using hvl
          rw [e]
          exact ((hr.take off).append h1).append (hr.drop _)
        obtain ⟨ys, g1, g2⟩ := lay_ok h hr' hl
        refine ⟨ys, ?_, g2⟩
        have hcond : ¬ ((decide ((a.eval x).cells.size ≠ ds.length) || decide (off + (a.eval x).cells.size > xs.size)) = true) := by simp; omega
        simp only [List.map_cons, Instr.fill, hp]
        rw [if_neg hcond]
        exact Eq.trans (congrArg (fun z => Instr.fill pl z (l.map fun p => (p.1, a.eval p.2))) hz) g1
      · cases hl
    · cases hl
end Go.Proofs.YtalippdhfkpbmaaDoor
