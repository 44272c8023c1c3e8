/- Rules: struct and slice literals, make. -/
import Derived.Test.YtalippdhfkpbmaaDoorEvQ
namespace Go.Proofs.YtalippdhfkpbmaaDoor
open Go.RowKit Go
theorem flds_run {P : Program} (w : World) : ∀ {fs : List Field} {pl : List (Nat × Nat)}, (fs.mapM fun f => (szOf P f.type).map fun k => (f.offset, k)) = some pl →
    (fs.mapM fun f => (do pure (f.offset, ← sizeOf f.type) : Sem (Nat × Nat))).run P w = .ok pl w
  | [], pl, h => by simp at h; subst h; rfl
  | f :: fs, pl, h => by
    simp only [List.mapM_cons] at h
    cases hz : szOf P f.type with
    | none => simp [hz] at h
    | some k =>
      cases hr : (fs.mapM fun f => (szOf P f.type).map fun k => (f.offset, k)) with
      | none => simp [hz, hr] at h
      | some l =>
        simp [hz, hr] at h
        subst h
        have := flds_run w hr
        simp only [bind_pure_comp] at this
        simp [List.mapM_cons, szOf_run hz, this]
theorem nth2_flatten {α : Type} {k : Nat} : ∀ {es : List (List α)} {i j : Nat} {c : α}, (∀ e ∈ es, e.length = k) → nth2 es i j = some c → es.flatten[i * k + j]? = some c
  | [], i, j, c, _, h => by simp [nth2] at h
  | e :: es, 0, j, c, hk, h => by
    have h' : e[j]? = some c := by simpa [nth2] using h
    have hj := (List.getElem?_eq_some_iff.1 h').1
    simp only [List.flatten_cons, Nat.zero_mul, Nat.zero_add]
    rw [List.getElem?_append_left hj]; exact h'
  | e :: es, i + 1, j, c, hk, h => by
    have h' : nth2 es i j = some c := by simpa [nth2] using h
    have he := hk e (List.mem_cons_self ..)
    rw [List.flatten_cons, List.getElem?_append_right (by rw [he, Nat.succ_mul]; omega), ← nth2_flatten (fun e he => hk e (List.mem_cons_of_mem _ he)) h']
    congr 1
    rw [he, Nat.succ_mul]; omega
theorem flatten_len {α : Type} {k : Nat} : ∀ {es : List (List α)}, (∀ e ∈ es, e.length = k) → es.flatten.length = es.length * k
  | [], _ => by simp
  | e :: es, hk => by
    rw [List.flatten_cons, List.length_append, hk e (List.mem_cons_self ..), flatten_len fun e he => hk e (List.mem_cons_of_mem _ he), List.length_cons, Nat.succ_mul]; omega
theorem flatten_set {k : Nat} : ∀ {es : List (List C)} {i : Nat} {cs : List C}, (∀ e ∈ es, e.length = k) → i < es.length → cs.length = k → (es.set i cs).flatten = splice es.flatten (i * k) cs
  | [], i, cs, _, h, _ => by simp at h
  | e :: es, 0, cs, hk, _, hc => by
    have he := hk e (List.mem_cons_self ..)
    simp [splice, hc, ← he]
  | e :: es, i + 1, cs, hk, h, hc => by
    have he := hk e (List.mem_cons_self ..)
    have ih := flatten_set (es := es) (i := i) (fun e he => hk e (List.mem_cons_of_mem _ he)) (by simpa using h) hc
    simp only [List.set_cons_succ, List.flatten_cons, ih, splice, Nat.succ_mul]
    have e1 : (e ++ es.flatten).take (i * k + k) = e ++ es.flatten.take (i * k) := by
      rw [List.take_append, List.take_of_length_le (by omega)]
      congr 2; omega
    have e2 : (e ++ es.flatten).drop (i * k + k + cs.length) = es.flatten.drop (i * k + cs.length) := by
      rw [List.drop_append, List.drop_of_length_le (by omega), List.nil_append]
      congr 1; omega
    rw [e1, e2]
    simp
/-- elements laid in -/
def layE (st : St) (k : Nat) : List (Nat × Operand) → List (List C) → Option (List (List C))
  | [], es => some es
  | (i, x) :: l, es => match Dcells (ev st x) with
    | some cs => if cs.length = k ∧ i < es.length then layE st k l (es.set i cs) else none
    | none => none
theorem layE_lay {st : St} {k : Nat} : ∀ {l : List (Nat × Operand)} {es r : List (List C)}, (∀ e ∈ es, e.length = k) → layE st k l es = some r → layC (fun i => some (i * k, k)) st l es.flatten = some r.flatten ∧ r.length = es.length ∧ ∀ e ∈ r, e.length = k
  | [], es, r, hk, h => by simp only [layE, Option.some.injEq] at h; subst h; exact ⟨rfl, rfl, hk⟩
  | (i, x) :: l, es, r, hk, h => by
    unfold layE at h
    split at h
    · rename_i cs hd
      split at h
      · rename_i hc
        obtain ⟨rfl, hi⟩ := hc
        obtain ⟨g1, g2, g3⟩ := layE_lay (es := es.set i cs) (fun e he => by
          rcases List.mem_or_eq_of_mem_set he with he | rfl
          · exact hk e he
          · rfl) h
        refine ⟨?_, by simpa using g2, g3⟩
        unfold layC
        simp only [hd]
        have hfit : i * cs.length + cs.length ≤ es.flatten.length := by
          rw [flatten_len hk, ← Nat.succ_mul]; exact Nat.mul_le_mul_right _ hi
        rw [if_pos ⟨trivial, hfit⟩, ← flatten_set hk hi rfl]
        exact g1
      · cases h
    · cases h
theorem RCs.flat {E : Env} {w : World} {ι : Nms} {cs : List C} {vs : List Value} (h : RCs E w ι cs vs) : ∀ n : Nat, RCs E w ι (List.replicate n cs).flatten (List.replicate n vs).flatten
  | 0 => trivial
  | n + 1 => by simp only [List.replicate_succ, List.flatten_cons]; exact h.append (RCs.flat h n)
theorem zeros_flat (zs : List Value) (hz : 0 < zs.length) (n : Nat) : ((Array.range (n * zs.length)).map (zs.toArray[· % zs.toArray.size]!)).toList = (List.replicate n zs).flatten := by
  apply List.ext_getElem?
  intro q
  have hl : (List.replicate n zs).flatten.length = n * zs.length := by rw [flatten_len (k := zs.length) (by intro e he; rw [List.eq_of_mem_replicate he])]; simp
  by_cases hq : q < n * zs.length
  · have hm : q % zs.length < zs.length := Nat.mod_lt _ hz
    have hd : q / zs.length < n := (Nat.div_lt_iff_lt_mul hz).2 hq
    have h2 := nth2_flatten (es := List.replicate n zs) (k := zs.length) (i := q / zs.length) (j := q % zs.length) (c := zs[q % zs.length]) (by intro e he; rw [List.eq_of_mem_replicate he]) (by simp [nth2, hd, hm])
    rw [show q / zs.length * zs.length + q % zs.length = q by rw [Nat.mul_comm]; exact Nat.div_add_mod q _] at h2
    rw [h2]
    simp [hq, hm]
  · rw [List.getElem?_eq_none (by simp; omega), List.getElem?_eq_none (by omega)]
section
variable {P : Program} {qt : Bool} {o : Oper} {st : St} {K : St → Prop} {t : Nat}
theorem ev_build {ty : TypeId} {parts : Array (Nat × Operand)} {pl : List (Nat × Nat)} {zs : List Value} {r : List C} (ho : o.op = .build ty parts) (hf : fldsOf P ty = some pl) (hz : zeroOf P ty = some zs) (h1 : zs.all Value.oneCell' = true)
    (hl : layC (fun i => pl[i]?) st parts.toList (zs.map fun v => .d (cellOf v)) = some r) : EvS P o st (.agg r) true := fun β F ι a w h => by
    obtain ⟨ys, g1, g2⟩ := lay_ok (xs := zs.toArray) h (by simpa using RCs.ofList h1) hl
    refine ⟨.agg ys, fun w' _ => ?_, by rw [RV]; exact ⟨_, rfl, g2⟩⟩
    obtain ⟨z, hr, hc⟩ := zeroOf_run hz w'
    unfold fldsOf at hf
    split at hf
    · rename_i fs hu
      have hpl : (fs.mapM fun f => (do pure (f.offset, ← sizeOf f.type) : Sem (Nat × Nat))).run P w' = .ok pl.toArray w' := by
        rw [Array.mapM_eq_mapM_toList, Sem.run_map, flds_run w' hf]; rfl
      have hfill : Instr.fill (pl.toArray[·]?) z.cells (parts.map fun p => (p.1, a.eval p.2)).toList = some ys := by
        rw [hc, ← g1]
        congr 1
        · funext i; simp
        · simp
      have hb : (Instr.build ty (parts.map fun p => (p.1, a.eval p.2))).run P w' = .ok (.agg ys) w' := by
        unfold Instr.build
        simp only [Sem.run_bind, hr, Result.andThen_ok, run_underlying hu, hpl, hfill]
        rfl
      simp only [execOp, ho, Sem.run_bind]
      rw [show (parts.map fun x => match x with | (i, x) => (i, a.eval x)) = parts.map fun p => (p.1, a.eval p.2) from rfl, hb]
      rfl
    · cases hf
theorem ev_buildA {ty e : TypeId} {n k : Nat} {b : Bool} {parts : Array (Nat × Operand)} {zs : List Value} {r : List C} (ho : o.op = .build ty parts) (hf : arrOf P ty = some (n, e, k, b)) (hz : zeroOf P ty = some zs) (h1 : zs.all Value.oneCell' = true)
    (hl : layC (fun i => some (i * k, k)) st parts.toList (zs.map fun v => .d (cellOf v)) = some r) : EvS P o st (.agg r) true := fun β F ι a w h => by
    obtain ⟨ys, g1, g2⟩ := lay_ok (xs := zs.toArray) h (by simpa using RCs.ofList h1) hl
    refine ⟨.agg ys, fun w' _ => ?_, by rw [RV]; exact ⟨_, rfl, g2⟩⟩
    obtain ⟨z, hr, hc⟩ := zeroOf_run hz w'
    obtain ⟨hu, hsz, -⟩ := arrOf_run hf
    have hfill : Instr.fill (fun i => some (i * k, k)) z.cells (parts.map fun p => (p.1, a.eval p.2)).toList = some ys := by
      rw [hc, ← g1]; congr 1; simp
    have hb : (Instr.build ty (parts.map fun p => (p.1, a.eval p.2))).run P w' = .ok (.agg ys) w' := by
      unfold Instr.build
      simp only [Sem.run_bind, hr, Result.andThen_ok, run_underlying hu, szOf_run hsz, hfill]
      rfl
    simp only [execOp, ho, Sem.run_bind]
    rw [show (parts.map fun x => match x with | (i, x) => (i, a.eval x)) = parts.map fun p => (p.1, a.eval p.2) from rfl, hb]
    rfl
/-- a new row, whole -/
theorem Holds.newRow {β : Base} {F : Nat → Prop} {ι : Nms} {a : Act} {w : World} (h : Holds β F ι st a w) (e : TypeId) {k c : Nat} (hc : 0 < c) {es : List (List C)} {arr : Array Value} (hl : es.length = c) (hk : ∀ e ∈ es, e.length = k) (hr : RCs ⟨F, β.B⟩ w ι es.flatten arr.toList) :
    Holds β F (ι.set st.nx (w.heap.size, c)) (st.row none ⟨.c e, k, es⟩) a (w.alloc (.cells arr e)) ∧ (c ≤ maxLen → RV ⟨F, β.B⟩ (w.alloc (.cells arr e)) (ι.set st.nx (w.heap.size, c)) (.one (.own st.nx k c)) (.slice (some ⟨w.heap.size, 0, none⟩) c c)) := by
  obtain ⟨k1, k2, k3⟩ := h.heap.alloc (w' := w.alloc (.cells arr e)) arr e k es c hc rfl ⟨rfl, rfl, rfl⟩ (by omega) hk (by have := hr.len; rw [flatten_len hk, hl] at this; simpa using this) (fun v hv => RCs.one hr v (by simpa using hv)) (fun i j y hy => by
    obtain ⟨v, g1, g2⟩ := hr.get (nth2_flatten hk hy)
    exact ⟨v, by simpa using g1, g2⟩)
  refine ⟨⟨h.good, h.defers, h.size, fun u => (h.tm u).keep k2 k3, k1⟩, fun hm => ?_⟩
  rw [RV]
  exact ⟨w.heap.size, c, by simp [Nms.set], Nat.le_refl _, hm, .inr ⟨hc, rfl⟩⟩
theorem ev_buildSlice {ty e : TypeId} {k len : Nat} {parts : Array (Nat × Operand)} {zs : List Value} {r : List (List C)} (ho : o.op = .buildSlice ty len parts) (he : elOf P ty = some (e, k)) (hz : zeroOf P e = some zs) (hzk : zs.length = k) (hk : 0 < k) (h1 : zs.all Value.oneCell' = true) (hlen : 0 < len) (hbig : len * k ≤ 16777216)
    (hl : layE st k parts.toList (List.replicate len (zs.map fun v => .d (cellOf v))) = some r) (ht : o.dst = some t) (hn : t < st.n) (hK : K ((st.row none ⟨.c e, k, r⟩).put t (.one (.own st.nx k len)))) : EvO P qt o st K :=
  EvO.val ht hn (st.row none ⟨.c e, k, r⟩) rfl _ hK fun β F ι a w h => by
    obtain ⟨z, hr, hc⟩ := zeroOf_run hz w
    obtain ⟨hu, hsz⟩ := elOf_run he
    subst hzk
    have hk0 : ∀ e ∈ List.replicate len (zs.map fun v => C.d (cellOf v)), e.length = zs.length := fun e he => by rw [List.eq_of_mem_replicate he]; simp
    obtain ⟨l1, l2, l3⟩ := layE_lay hk0 hl
    have h0 : RCs ⟨F, β.B⟩ w ι (List.replicate len (zs.map fun v => C.d (cellOf v))).flatten ((Array.range (len * zs.length)).map (zs.toArray[· % zs.toArray.size]!)).toList := by
      rw [zeros_flat zs hk len]
      exact RCs.flat (RCs.ofList h1) len
    obtain ⟨ys, g1, g2⟩ := lay_ok h h0 l1
    rw [List.length_replicate] at l2
    obtain ⟨q1, q2⟩ := h.newRow e hlen l2 l3 g2
    refine ⟨_, F, _, _, ?_, q1, q2 (by simp only [maxLen]; have : len ≤ len * zs.length := Nat.le_mul_of_pos_right _ hk; omega), fun _ => old_alloc w _⟩
    have hfill : Instr.fill (fun i => some (i * zs.length, zs.length)) ((Array.range (len * zs.length)).map (z.cells[· % z.cells.size]!)) (parts.map fun p => (p.1, a.eval p.2)).toList = some ys := by
      rw [hc, ← g1]; congr 1; simp
    have hb : (Instr.buildSlice ty len (parts.map fun p => (p.1, a.eval p.2))).run P w = .ok (.slice (some ⟨w.heap.size, 0, none⟩) len len) (w.alloc (.cells ys e)) := by
      have hne : ¬ len * zs.length > 2 ^ 24 := by omega
      have hne0 : ¬ len * zs.length = 0 := Nat.ne_of_gt (Nat.mul_pos hlen hk)
      unfold Instr.buildSlice
      simp only [Sem.run_bind, run_underlying hu, Result.andThen_ok, szOf_run hsz, if_neg hne, if_neg hne0, hr]
      simp only [Array.toList_map] at hfill
      simp [hr, hfill, newRow]
    simp only [execOp, ho, Sem.run_bind]
    rw [show (parts.map fun x => match x with | (i, x) => (i, a.eval x)) = parts.map fun p => (p.1, a.eval p.2) from rfl, hb]
    rfl
theorem ev_makeSlice {ty e : TypeId} {k by' : Nat} {x y : Operand} {zs : List Value} {m : Int} (ho : o.op = .makeSlice ty x y) (he : elOf P ty = some (e, k)) (hz : zeroOf P e = some zs) (hzk : zs.length = k) (hk : 0 < k) (h1 : zs.all Value.oneCell' = true) (hby : byOf P e = some by') (hb1 : by' ≤ 1024)
    (hx : intOf? (ev st x) = some m) (hy : intOf? (ev st y) = some m) (h0 : 0 ≤ m) (hbig : m ≤ 100000000000) (ht : o.dst = some t) (hn : t < st.n)
    (hK : K ((st.row none ⟨.c e, k, List.replicate m.toNat (zs.map fun v => .d (cellOf v))⟩).put t (.one (.own st.nx k m.toNat)))) : EvO P qt o st K :=
  EvO.val ht hn (st.row none ⟨.c e, k, List.replicate m.toNat (zs.map fun v => .d (cellOf v))⟩) rfl _ hK fun β F ι a w h => by
    obtain ⟨z, hr, hc⟩ := zeroOf_run hz w
    obtain ⟨hu, hsz⟩ := elOf_run he
    obtain ⟨n, rfl⟩ : ∃ n : Nat, m = n := ⟨m.toNat, by omega⟩
    rw [Int.toNat_natCast]
    obtain ⟨k1, hk1⟩ := intOf_ok h hx
    obtain ⟨k2, hk2⟩ := intOf_ok h hy
    subst hzk
    obtain ⟨i, hi, hiby⟩ : ∃ i, P.info? e = some i ∧ i.bytes = by' := by
      unfold byOf at hby
      cases hq : P.info? e with
      | none => simp [hq] at hby
      | some i => exact ⟨i, rfl, by simpa [hq] using hby⟩
    have hkz : ∀ e ∈ List.replicate n (zs.map fun v => C.d (cellOf v)), e.length = zs.length := fun e he => by rw [List.eq_of_mem_replicate he]; simp
    have hwr : IntKind.i64.wrap (n : Int) = n := IntWalk.i64_in _ ⟨by omega, by omega⟩
    have hmul : by' * n ≤ 1024 * 100000000000 := Nat.mul_le_mul hb1 (by omega)
    have hroom : ¬ n * by' > 2 ^ 47 := by rw [Nat.mul_comm]; omega
    have hbi : ¬ ((by' : Int) * (n : Int) > 2 ^ 48) := by
      have : (by' : Int) * (n : Int) = ((by' * n : Nat) : Int) := by simp
      rw [this]; omega
    have hbi2 : ¬ (281474976710656 < (by' : Int) * (n : Int)) := by omega
    have hroom2 : ¬ (140737488355328 < n * by') := by omega
    by_cases hn0 : n = 0
    · subst hn0
      have hw0 : IntKind.i64.wrap 0 = 0 := by decide
      have hb : (Instr.makeSlice ty (a.eval x) (a.eval y)).run P w = .ok (.slice (some ⟨w.heap.size, 0, none⟩) 0 0) (w.alloc (.cells #[] e)) := by
        simp [Instr.makeSlice, run_underlying hu, hk1, hk2, asInt, asIntOf, typeInfo, hi, hiby, hw0, askRoom, roomBytes, szOf_run hsz, newRow]
        congr 2
        apply Array.ext'
        simp
      have hle : Env.le ⟨F, β.B⟩ ⟨F, β.B⟩ w (w.alloc (.cells #[] e)) := h.heap.env fun b hb _ => by show (w.heap.push _)[b]? = _; rw [Array.getElem?_push_lt hb, Array.getElem?_eq_getElem hb]
      have hold : HpOk β F (w.alloc (.cells #[] e)) ι st.H st.nx := by
        have hh := h.heap
        have hs : (w.alloc (.cells #[] e)).heap.size = w.heap.size + 1 := by show (w.heap.push _).size = _; rw [Array.size_push]
        have ho : ∀ b, b < w.heap.size → (w.alloc (.cells #[] e)).heap[b]? = w.heap[b]? := fun b hb => by show (w.heap.push _)[b]? = _; rw [Array.getElem?_push_lt hb, Array.getElem?_eq_getElem hb]
        exact ⟨by rw [hs]; have := hh.size; omega, fun b hb hN => by rw [ho b (Nat.lt_of_lt_of_le hb hh.size)]; exact hh.keep b hb hN, fun b hb => by rw [hs]; have := hh.Flt b hb; omega, hh.Fof, hh.F0,
          fun m y hm => (hh.blk m y hm).keep hle (Nms.le_refl _) fun b cap h1 h2 => ho b (hh.own m b cap (by rw [hm]; simp) h1 h2).1, fun m b cap h1 h2 h3 => by obtain ⟨a1, a2⟩ := hh.own m b cap h1 h2 h3; exact ⟨by rw [hs]; omega, a2⟩, hh.inj, hh.nx, hh.nm, hh.io.trans ⟨rfl, rfl, rfl⟩⟩
      obtain ⟨g1, g2⟩ := hold.adopt (x := ⟨.c e, zs.length, []⟩) (b := 0) (cap := 0) ⟨0, 0, by simp [Nms.set], Nat.le_refl _, by simp, fun h => absurd h (by omega)⟩ (fun h => absurd h (by omega)) (fun _ _ _ _ _ h => absurd h (by omega))
      refine ⟨.slice (some ⟨w.heap.size, 0, none⟩) 0 0, F, _, w.alloc (.cells #[] e), by simp [execOp, ho, hb], ⟨h.good, h.defers, h.size, fun u => ((h.tm u).keep hle (Nms.le_refl _)).keep ⟨fun _ h => h, fun _ h => h, fun _ _ => rfl, fun _ _ => rfl⟩ g2, g1⟩, ?_⟩
      refine ⟨?_, fun _ => old_alloc w _⟩
      rw [RV]
      exact ⟨0, 0, by simp [Nms.set], Nat.le_refl _, by simp [maxLen], .inl ⟨rfl, _, rfl⟩⟩
    · have hpos : 0 < n := by omega
      obtain ⟨q1, q2⟩ := h.newRow e (c := n) hpos (es := List.replicate n (zs.map fun v => C.d (cellOf v))) (by simp) hkz (arr := (Array.range (n * zs.length)).map (zs.toArray[· % zs.toArray.size]!)) (by rw [zeros_flat zs hk n]; exact RCs.flat (RCs.ofList h1) n)
      refine ⟨_, F, _, _, ?_, q1, q2 (by simp only [maxLen]; omega), fun _ => old_alloc w _⟩
      have hne0 : ¬ n * zs.length = 0 := Nat.ne_of_gt (Nat.mul_pos hpos hk)
      have hne1 : ¬ (n = 0 ∨ zs = []) := fun h => by rcases h with h | h; exact hn0 h; rw [h] at hk; simp at hk
      have hneg : ¬ ((n : Int) < 0) := by omega
      have hb : (Instr.makeSlice ty (a.eval x) (a.eval y)).run P w = .ok (.slice (some ⟨w.heap.size, 0, none⟩) n n) (w.alloc (.cells ((Array.range (n * zs.length)).map (zs.toArray[· % zs.toArray.size]!)) e)) := by
        simp [Instr.makeSlice, run_underlying hu, hk1, hk2, asInt, asIntOf, typeInfo, hi, hiby, hwr, askRoom, roomBytes, szOf_run hsz, newRow, hbi2, hroom2, hneg, hne0, hne1, hr, hc]
      simp [execOp, ho, hb]
theorem ev_eqNil {op : BinOp} {ty yt : TypeId} {x : Operand} {c : C} {n : Nat} {ez : TypeId × Nat} (ho : o.op = .binOp op ty x (.const (.slice none 0 0)) yt) (hop : op = .eql ∨ op = .neq) (he : elOf P ty = some ez) (hx : ev st x = .one c) (hl : lenOf? (.one c) = some n) (ht : o.dst = some t) (hn : t < st.n)
    (h1 : n = 0 → K (st.put t (.one (.d (.lit (.bool (decide (op = .eql)))))))) (h2 : K (st.put t (.one (.d (.lit (.bool (decide (op = .neq)))))))) : EvO P qt o st K := by
  obtain ⟨hu, -⟩ := elOf_run (e := ez.1) (k := ez.2) he
  have hval : ∀ β F ι a w, Holds β F ι st a w → ∃ A cap, a.eval x = .slice A n cap ∧ (A = none → n = 0) := fun β F ι a w h => by
    have hv := h.ev x
    rw [hx, RV] at hv
    unfold lenOf? at hl
    split at hl
    · rename_i hq
      simp only [D.one.injEq] at hq
      subst hq
      simp only [Option.some.injEq] at hl
      subst hl
      generalize a.eval x = v at hv
      cases hv with
      | sl X g1 g2 hk g3 => exact ⟨_, _, rfl, fun e => by have := g3 e; omega⟩
    · rename_i hq
      simp only [D.one.injEq] at hq
      subst hq
      simp only [Option.some.injEq] at hl
      subst hl
      generalize a.eval x = v at hv
      cases hv with
      | emp => exact ⟨_, _, rfl, fun _ => rfl⟩
    · rename_i hq
      simp only [D.one.injEq] at hq
      subst hq
      simp only [Option.some.injEq] at hl
      subst hl
      obtain ⟨b, cap, p1, p2, p3, p4⟩ := hv
      rcases p4 with ⟨q1, A, hv⟩ | ⟨q1, hv⟩
      · exact ⟨A, 0, by rw [hv]; congr 1; omega, fun _ => by omega⟩
      · exact ⟨_, _, hv, fun e => by cases e⟩
    · cases hl
  have hrun : ∀ (A : Option Addr) (m cap : Nat) (w : World), (Op.equal ty (.slice A m cap) (.slice none 0 0)).run P w = .ok A.isNone w := fun A m cap w => by
    show (Op.equalIn (9999 + 1) ty (.slice A m cap) (.slice none 0 0)).run P w = _
    rw [Op.equalIn]
    cases A <;> simp [run_underlying hu]
  have hex : ∀ (a : Act) (A : Option Addr) (m cap : Nat) (w : World), a.eval x = .slice A m cap → (execOp a.eval o).run P w = .ok (.value (.bool (if op = .eql then A.isNone else !A.isNone))) w := fun a A m cap w hv => by
    have hc : a.eval (.const (.slice none 0 0)) = .slice none 0 0 := rfl
    rcases hop with rfl | rfl <;> simp [execOp, ho, hv, hc, eqGuard, binOp, hrun]
  intro β F ι a w h next Q hnext
  obtain ⟨A, cap, hv, hA⟩ := hval β F ι a w h
  have hr := hex a A n cap w hv
  unfold Oper.wp
  rw [hr, Oper.upon_value]
  cases A with
  | none =>
    have hb : (if op = .eql then (none : Option Addr).isNone else !(none : Option Addr).isNone) = decide (op = .eql) := by rcases hop with rfl | rfl <;> rfl
    rw [hb]
    refine hnext F ι _ _ w (Chg.same (by rw [← hb]; exact hr)) ?_ (h1 (hA rfl))
    rw [ht]
    exact h.put (by rw [RV]; exact .lit rfl) hn
  | some ad =>
    have hb : (if op = .eql then (some ad).isNone else !(some ad).isNone) = decide (op = .neq) := by rcases hop with rfl | rfl <;> rfl
    rw [hb]
    refine hnext F ι _ _ w (Chg.same (by rw [← hb]; exact hr)) ?_ h2
    rw [ht]
    exact h.put (by rw [RV]; exact .lit rfl) hn
theorem Holds.junk {β : Base} {F : Nat → Prop} {ι : Nms} {a : Act} {w : World} (h : Holds β F ι st a w) (x : Obj) : Holds β F ι st a (w.alloc x) := by
  have hle : Env.le ⟨F, β.B⟩ ⟨F, β.B⟩ w (w.alloc x) := h.heap.env fun b hb _ => old_alloc w x b hb
  have hh := h.heap
  have hs : (w.alloc x).heap.size = w.heap.size + 1 := by show (w.heap.push _).size = _; rw [Array.size_push]
  have ho := old_alloc w x
  exact ⟨h.good, h.defers, h.size, fun u => (h.tm u).keep hle (Nms.le_refl _), ⟨by rw [hs]; have := hh.size; omega, fun b hb hN => by rw [ho b (Nat.lt_of_lt_of_le hb hh.size)]; exact hh.keep b hb hN, fun b hb => by rw [hs]; have := hh.Flt b hb; omega, hh.Fof, hh.F0,
    fun m y hm => (hh.blk m y hm).keep hle (Nms.le_refl _) fun b cap h1 h2 => ho b (hh.own m b cap (by rw [hm]; simp) h1 h2).1, fun m b cap h1 h2 h3 => by obtain ⟨a1, a2⟩ := hh.own m b cap h1 h2 h3; exact ⟨by rw [hs]; omega, a2⟩, hh.inj, hh.nx, hh.nm, hh.io.trans ⟨rfl, rfl, rfl⟩⟩⟩
theorem ev_buildSlice0 {ty e : TypeId} {k : Nat} {parts : Array (Nat × Operand)} (ho : o.op = .buildSlice ty 0 parts) (hp : parts.toList = []) (he : elOf P ty = some (e, k)) (ht : o.dst = some t) (hn : t < st.n) (hK : K (st.put t (.one (.d .emp)))) : EvO P qt o st K :=
  EvO.val ht hn st rfl _ hK fun β F ι a w h => by
    obtain ⟨hu, hsz⟩ := elOf_run he
    obtain rfl : parts = #[] := by apply Array.ext'; simpa using hp
    refine ⟨.slice (some ⟨w.heap.size, 0, none⟩) 0 0, F, ι, w.alloc (.cells #[] e), ?_, h.junk _, by rw [RV]; exact .emp, fun _ => old_alloc w _⟩
    have : (Array.map (fun x => (default : Value)) (Array.range 0)) = #[] := by apply Array.ext'; simp
    simp [execOp, ho, Instr.buildSlice, run_underlying hu, szOf_run hsz, Instr.fill, newRow, this]
end
end Go.Proofs.YtalippdhfkpbmaaDoor
