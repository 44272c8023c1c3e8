/- Calls of functions that only read what they are handed: what they hand back is new, or was there. -/
import Derived.Test.YtalippdhfkpbmaaDoorEvH
namespace Go.Proofs.YtalippdhfkpbmaaDoor
open Go.RowKit Go
def goFn (P : Program) (f : FuncId) : Bool := match P.funcs[f]? with
  | some fn => !(fn.name == "runtime.NumGoroutine") && fn.body.isSome
  | none => false
theorem goFn_run {P : Program} {f : FuncId} (h : goFn P f = true) (args : Array Value) (w : World) : (callFunc f args).run P w = .ok (.enter f args) w := by
  unfold goFn at h
  cases hf : P.funcs[f]? with
  | none => simp [hf] at h
  | some fn =>
    simp only [hf, Bool.and_eq_true, Bool.not_eq_true'] at h
    have h1 : ¬ fn.name = "runtime.NumGoroutine" := by simpa using h.1
    have h2 : ¬ fn.body = none := fun e => by rw [e] at h; simp at h
    simp [callFunc, hf, h1, h2]
def allD (x : Blk) : Prop := ∀ e ∈ x.es, ∀ c ∈ e, ∃ y, c = C.d y
def noB : Nat → Prop := fun _ => False
structure Out (F : Nat → Prop) (w w' : World) (F' : Nat → Prop) (ι : Nms) (d : D) (fr : List Blk) (v : Value) : Prop where
  size : w.heap.size ≤ w'.heap.size
  old : ∀ b, b < w.heap.size → w'.heap[b]? = w.heap[b]?
  Fle : ∀ b, F b → F' b
  new : ∀ b, F' b → (F b ∨ w.heap.size ≤ b) ∧ b < w'.heap.size
  blk : ∀ i x, fr[i]? = some x → RB ⟨F', noB⟩ w' ι i x ∧ allD x
  own : ∀ i b cap, i < fr.length → ι i = some (b, cap) → 0 < cap → w.heap.size ≤ b ∧ b < w'.heap.size ∧ ¬ F' b
  inj : ∀ i j b c c', i < fr.length → j < fr.length → ι i = some (b, c) → ι j = some (b, c') → 0 < c → 0 < c' → i = j
  dom : ∀ i, fr.length ≤ i → ι i = none
  val : RV ⟨F', noB⟩ w' ι d v
  io : SameIo w w'
/-- Called with what shows ds, function f returns what shows d beside new blocks fr, and K says so. -/
def DPure (P : Program) (f : FuncId) (ds : List D) (K : D → List Blk → Prop) : Prop := goFn P f = true ∧
  ∀ F w vs, (∀ b, F b → b < w.heap.size) → GlOk F w → RVs ⟨F, fun b => b < w.heap.size⟩ w (fun _ => none) ds vs → Calls P f vs.toArray w fun e w' => ∃ F' ι d fr v, e = .returned v ∧ Out F w w' F' ι d fr v ∧ K d fr
theorem DPure.mono {P : Program} {f : FuncId} {ds : List D} {K K' : D → List Blk → Prop} (h : DPure P f ds K) (hk : ∀ d fr, K d fr → K' d fr) : DPure P f ds K' :=
  ⟨h.1, fun F w vs h1 hgl h2 => (h.2 F w vs h1 hgl h2).mono fun _ _ ⟨F', ι, d, fr, v, e1, e2, e3⟩ => ⟨F', ι, d, fr, v, e1, e2, hk _ _ e3⟩⟩
/-! ### What is handed on -/
def Dt.solidT : Dt → Bool
  | .lit _ => true
  | .emp => true
  | .sl S _ => S
  | .at_ S _ => S
  | .fn _ fs cs => fs.isEmpty && cs.isEmpty
def C.isD : C → Bool
  | .d x => x.solidT
  | _ => false
def C.dt : C → Dt
  | .d x => x
  | _ => .emp
theorem RD.toSolid {E : Env} {w : World} {x : Dt} {v : Value} (h : RD E w x v) (hs : x.solidT = true) : RD E.solid w x v := by
  cases h with
  | lit h => exact .lit h
  | emp => exact .emp
  | sl X h1 h2 hk h3 h4 h5 =>
    simp only [Dt.solidT] at hs
    subst hs
    refine .sl X h1 h2 hk h3 (fun h0 => ?_) h5
    obtain ⟨b, o, ha, ho, hc⟩ := h4 h0
    rcases ho with ho | ⟨h, -⟩
    · exact ⟨b, o, ha, .inl ho, hc⟩
    · cases h
  | at_ X h4 hc h5 =>
    simp only [Dt.solidT] at hs
    subst hs
    rcases h4 with ho | ⟨h, -⟩
    · exact .at_ X (.inl ho) hc h5
    · cases h
  | fn l1 l2 h1 h2 =>
    simp only [Dt.solidT, Bool.and_eq_true, List.isEmpty_iff] at hs
    obtain ⟨rfl, rfl⟩ := hs
    exact .fn l1 l2 (fun j c x hc _ => by simp at hc) (fun j c x hc _ => by simp at hc)
theorem RC.dtSolid {E : Env} {w : World} {ι : Nms} {c : C} {v : Value} (h : RC E w ι c v) (hd : c.isD = true) : RD E.solid w c.dt v := by
  cases c with
  | d x => exact RD.toSolid h hd
  | _ => cases hd
def lendC (H : Hp) : C → Option Dt
  | .d x => some x
  | .own n k l => (H n).bind fun x => if x.k = k ∧ l ≤ x.es.length ∧ ((x.es.take l).all fun e => e.all C.isD) = true then some (.sl false ((x.es.take l).map fun e => e.map C.dt)) else none
  | .ptr n k i o => (H n).bind fun x => if x.k = k then (x.es[i]?).bind fun e => if ((e.drop o).all C.isD) = true then some (.at_ false ((e.drop o).map C.dt)) else none else none
  | .map _ => none
  | .any => none
theorem all_isD {l : List C} (h : l.all C.isD = true) : ∀ {j : Nat} {c : C}, l[j]? = some c → c.isD = true := fun hj => List.all_eq_true.1 h _ (List.mem_of_getElem? hj)
theorem lendC_ok {β : Base} {F : Nat → Prop} {w : World} {ι : Nms} {H : Hp} {nx : Nat} (h : HpOk β F w ι H nx) {c : C} {x : Dt} {v : Value} (hc : RC ⟨F, β.B⟩ w ι c v) (hl : lendC H c = some x) : RD ⟨F, fun b => b < w.heap.size⟩ w x v := by
  have hle : Env.le ⟨F, β.B⟩ ⟨F, fun b => b < w.heap.size⟩ w w := ⟨fun _ h => h, fun b hb => Nat.lt_of_lt_of_le hb.1 h.size, fun _ _ => rfl, fun _ _ => rfl⟩
  cases c with
  | d y =>
    simp only [lendC, Option.some.injEq] at hl
    subst hl
    exact RD.keep hc hle
  | any => cases hl
  | map n => cases hl
  | own n k l =>
    cases hH : H n with
    | none => simp [lendC, hH] at hl
    | some b =>
      simp only [lendC, hH, Option.bind_some] at hl
      split at hl
      · rename_i hcond
        obtain ⟨hk, hln, hall⟩ := hcond
        simp only [Option.some.injEq] at hl
        subst hl
        obtain ⟨bn, cap, p1, p2, p3, p4⟩ := hc
        obtain ⟨bn', cap', q1, q2, q3, q4⟩ := h.blk n b hH
        rw [p1] at q1
        simp only [Option.some.injEq, Prod.mk.injEq] at q1
        obtain ⟨rfl, rfl⟩ := q1
        have hlen : ((b.es.take l).map fun e => e.map C.dt).length = l := by simp; omega
        rcases p4 with ⟨h0, A, rfl⟩ | ⟨h0, rfl⟩
        · subst h0
          obtain rfl : l = 0 := Nat.le_zero.1 p2
          simp only [List.take_zero, List.map_nil]
          exact RD.sl (k := 0) (fun _ _ => undef) (Nat.le_refl _) (by simp [maxLen]) (by simp) (fun _ => rfl) (fun h => by simp at h) (fun i j c hc => by simp [nth2] at hc)
        · obtain ⟨arr, r1, r2, r3, r4⟩ := q4 h0
          have hn2 : ∀ i j c, nth2 ((b.es.take l).map fun e => e.map C.dt) i j = some c → ∃ c', nth2 b.es i j = some c' ∧ c'.isD = true ∧ c = c'.dt := fun i j c hc => by
            unfold nth2 at hc ⊢
            rw [List.getElem?_map, List.getElem?_take] at hc
            by_cases hi : i < l
            · simp only [hi, if_true] at hc
              cases he : b.es[i]? with
              | none => simp [he] at hc
              | some e =>
                simp only [he, Option.map_some, Option.bind_some, List.getElem?_map] at hc ⊢
                cases hj : e[j]? with
                | none => simp [hj] at hc
                | some c' =>
                  simp only [hj, Option.map_some, Option.some.injEq] at hc
                  refine ⟨c', rfl, ?_, hc.symm⟩
                  have := List.all_eq_true.1 hall e (List.mem_of_getElem? (i := i) (by rw [List.getElem?_take, if_pos hi, he]))
                  exact all_isD this hj
            · simp [hi] at hc
          have hR : ∀ i j c, nth2 ((b.es.take l).map fun e => e.map C.dt) i j = some c → arr[i * b.k + j]? = some (arr.getD (i * b.k + j) undef) ∧ RD ⟨F, noB⟩ w c (arr.getD (i * b.k + j) undef) := fun i j c hc => by
            obtain ⟨c', g1, g2, rfl⟩ := hn2 i j c hc
            obtain ⟨v, g3, g4⟩ := r4 i j c' g1
            have : arr.getD (i * b.k + j) undef = v := by simp [Array.getD_eq_getD_getElem?, g3]
            rw [this]
            exact ⟨g3, g4.dtSolid g2⟩
          rw [show (Value.slice (some ⟨bn, 0, none⟩) l cap) = .slice (some ⟨bn, 0, none⟩) ((b.es.take l).map fun e => e.map C.dt).length cap by rw [hlen]]
          refine RD.sl (k := b.k) (fun i j => arr.getD (i * b.k + j) undef) (by rw [hlen]; exact p2) p3 (fun e he => ?_) (fun h => by cases h) (fun _ => ⟨bn, 0, rfl, .inr ⟨rfl, (h.own n bn cap (by rw [hH]; simp) p1 h0).1⟩, fun i j c hc => ?_⟩) (fun i j c hc => (hR i j c hc).2)
          · obtain ⟨e', he', rfl⟩ := List.mem_map.1 he
            rw [List.length_map]; exact q3 e' (List.mem_of_mem_take he')
          · simp only [Nat.zero_add]
            exact r1.cell (hR i j c hc).1
      · cases hl
  | ptr n k i o =>
    cases hH : H n with
    | none => simp [lendC, hH] at hl
    | some b =>
      simp only [lendC, hH, Option.bind_some] at hl
      split at hl
      · rename_i hk
        cases he : b.es[i]? with
        | none => simp [he] at hl
        | some e =>
          simp only [he, Option.bind_some] at hl
          split at hl
          · rename_i hall
            simp only [Option.some.injEq] at hl
            subst hl hk
            obtain ⟨bn, cap, p1, p2, rfl⟩ := hc
            obtain ⟨bn', cap', q1, q2, q3⟩ := (h.blk n b hH).reads he
            rw [p1] at q1
            simp only [Option.some.injEq, Prod.mk.injEq] at q1
            obtain ⟨rfl, rfl⟩ := q1
            obtain ⟨vs, k1, k2⟩ := q3.drop o
            refine RD.at_ (fun j => vs.getD j undef) (.inr ⟨rfl, (h.own n bn cap (by rw [hH]; simp) p1 p2).1⟩) (fun j c hc => ?_) (fun j c hc => ?_)
            all_goals
              rw [List.getElem?_map] at hc
              cases hj : (e.drop o)[j]? with
              | none => simp [hj] at hc
              | some c' =>
                simp only [hj, Option.map_some, Option.some.injEq] at hc
                subst hc
                obtain ⟨v, g1, g2⟩ := k1.get hj
                simp only [List.getD, g1, Option.getD_some]
                first | exact k2 j v g1 | exact g2.dtSolid (all_isD hall hj)
          · cases hl
      · cases hl
end Go.Proofs.YtalippdhfkpbmaaDoor
