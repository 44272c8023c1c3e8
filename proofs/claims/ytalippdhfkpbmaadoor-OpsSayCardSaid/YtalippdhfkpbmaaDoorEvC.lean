/- Rules: what moves, reads and addresses do. -/
import Derived.Test.YtalippdhfkpbmaaDoorEvB
namespace Go.Proofs.YtalippdhfkpbmaaDoor
open Go.RowKit Go
theorem solid_le (E : Env) (w : World) : E.solid.le E w w := ⟨fun _ h => h, fun _ h => h.elim, fun _ _ => rfl, fun _ _ => rfl⟩
theorem Nms.le_refl (ι : Nms) : Nms.le ι ι := fun _ _ h => h
theorem RD.lit_inv {E : Env} {w : World} {x v : Value} (h : RD E w (.lit x) v) : v = x := by cases h; rfl
def Reads (E : Env) (w : World) (ι : Nms) (cs : List C) (b o : Nat) : Prop := ∃ vs, RCs E w ι cs vs ∧ w.rangeAt b o vs
theorem Reads.of {E : Env} {w : World} {ι : Nms} {cs : List C} {b o : Nat} (h : ∀ (j : Nat) c, cs[j]? = some c → ∃ v, w.cell? ⟨b, o + j, none⟩ = some v ∧ RC E w ι c v) : Reads E w ι cs b o := by
  refine ⟨(List.range cs.length).map fun j => (w.cell? ⟨b, o + j, none⟩).getD undef, RCs.mk (by simp) fun j c v hc hv => ?_, fun j v hv => ?_⟩
  · obtain ⟨v', h1, h2⟩ := h j c hc
    have hj := (List.getElem?_eq_some_iff.1 hc).1
    simp [hj, h1] at hv
    subst hv
    exact h2
  · have hj : j < cs.length := by have := (List.getElem?_eq_some_iff.1 hv).1; simpa using this
    obtain ⟨v', h1, h2⟩ := h j _ (List.getElem?_eq_getElem hj)
    simp [hj, h1] at hv
    subst hv
    exact h1
/-- the cells from an address on -/
def rd (st : St) (x : Operand) : Option (List C) := match ev st x with
  | .one (.d (.at_ _ cs)) => some (cs.map .d)
  | .one (.ptr n k i o) => (st.H n).bind fun x => if x.k = k then (x.es[i]?).map (·.drop o) else none
  | _ => none
theorem RB.reads {E : Env} {w : World} {ι : Nms} {n : Nat} {x : Blk} (h : RB E w ι n x) {i : Nat} {e : List C} (he : x.es[i]? = some e) :
    ∃ b cap, ι n = some (b, cap) ∧ 0 < cap ∧ Reads E w ι e b (i * x.k) := by
  obtain ⟨b, cap, h1, h2, h3, h4⟩ := h
  have hi := (List.getElem?_eq_some_iff.1 he).1
  obtain ⟨arr, g1, g2, g3, g4⟩ := h4 (by omega)
  refine ⟨b, cap, h1, by omega, Reads.of fun j c hc => ?_⟩
  obtain ⟨v, k1, k2⟩ := g4 i j c (by simp [nth2, he, hc])
  exact ⟨v, g1.cell k1, k2⟩
theorem Reads.drop {E : Env} {w : World} {ι : Nms} {cs : List C} {b o : Nat} (h : Reads E w ι cs b o) (m : Nat) : Reads E w ι (cs.drop m) b (o + m) := by
  obtain ⟨vs, h1, h2⟩ := h
  refine Reads.of fun j c hc => ?_
  rw [List.getElem?_drop] at hc
  obtain ⟨v, k1, k2⟩ := h1.get hc
  exact ⟨v, by rw [Nat.add_assoc]; exact h2 _ _ k1, k2⟩
theorem RD.reads {E : Env} {w : World} {ι : Nms} {S : Bool} {cs : List Dt} {v : Value} (h : RD E w (.at_ S cs) v) : ∃ b o, v = .pointer (some ⟨b, o, none⟩) ∧ E.ok S b ∧ Reads E w ι (cs.map .d) b o := by
  cases h with
  | at_ X h4 hc h5 =>
    refine ⟨_, _, rfl, h4, Reads.of fun j c hj => ?_⟩
    rw [List.getElem?_map] at hj
    cases hj' : cs[j]? with
    | none => simp [hj'] at hj
    | some c' =>
      simp only [hj', Option.map_some, Option.some.injEq] at hj
      subst hj
      exact ⟨_, hc j c' hj', (h5 j c' hj').keep (solid_le E w)⟩
theorem rd_ok {β : Base} {F : Nat → Prop} {ι : Nms} {st : St} {a : Act} {w : World} (h : Holds β F ι st a w) {x : Operand} {cs : List C} (hr : rd st x = some cs) :
    ∃ b o, a.eval x = .pointer (some ⟨b, o, none⟩) ∧ Reads ⟨F, β.B⟩ w ι cs b o := by
  have he := h.ev x
  unfold rd at hr
  split at hr
  · rename_i S cs' hx
    simp only [Option.some.injEq] at hr
    subst hr
    rw [hx, RV] at he
    obtain ⟨b, o, h1, -, h2⟩ := RD.reads (ι := ι) he
    exact ⟨b, o, h1, h2⟩
  · rename_i n k i o hx
    rw [hx, RV] at he
    cases hb : st.H n with
    | none => simp [hb] at hr
    | some y =>
      simp only [hb, Option.bind_some] at hr
      split at hr
      · rename_i hk
        cases hi : y.es[i]? with
        | none => simp [hi] at hr
        | some e =>
          simp only [hi, Option.map_some, Option.some.injEq] at hr
          subst hr hk
          obtain ⟨b, cap, h1, h2, h3⟩ := (h.heap.blk n y hb).reads hi
          obtain ⟨b', cap', h1', h2', h3'⟩ := he
          rw [h1] at h1'
          simp only [Option.some.injEq, Prod.mk.injEq] at h1'
          obtain ⟨rfl, rfl⟩ := h1'
          exact ⟨b, _, h3', h3.drop o⟩
      · simp at hr
  · simp at hr
section
variable {P : Program} {qt : Bool} {o : Oper} {st : St} {K : St → Prop} {t : Nat}
theorem ev_move {x : Operand} (ho : o.op = .move x ∨ o.op = .assign x) : EvS P o st (ev st x) true := fun β F ι a w h => ⟨a.eval x, fun w' _ => by rcases ho with ho | ho <;> simp [execOp, ho], h.ev x⟩
theorem ev_pick {c x y : Operand} {b : Bool} (ho : o.op = .pick c x y) (hc : ev st c = .one (.d (.lit (.bool b)))) : EvS P o st (if b then ev st x else ev st y) true := fun β F ι a w h => by
  have he := h.ev c
  rw [hc, RV] at he
  have he := RD.lit_inv he
  refine ⟨if b then a.eval x else a.eval y, fun w' _ => ?_, ?_⟩
  · simp [execOp, ho, he, asBool]
  · cases b
    · exact h.ev y
    · exact h.ev x
theorem cell_old {w w' : World} (ho : Old w w') {b o : Nat} {v : Value} (h : w.cell? ⟨b, o, none⟩ = some v) : w'.cell? ⟨b, o, none⟩ = some v := by
  have hb : b < w.heap.size := World.block_lt_of_cell? w _ h
  rw [cell_block (ho b hb)]; exact h
theorem ev_load_one {ty : TypeId} {x : Operand} {c : C} {cs : List C} (ho : o.op = .load ty x) (hr : rd st x = some (c :: cs)) (hty : rowT P ty = some false) : EvS P o st (.one c) false := fun β F ι a w h => by
  obtain ⟨b, off, he, vs, h1, h2⟩ := rd_ok h hr
  obtain ⟨v, hv, hc⟩ := h1.get (j := 0) (c := c) rfl
  refine ⟨v, fun w' hw => ?_, by rw [RV]; exact hc⟩
  have this := cell_old (hw.resolve_left (by simp)) (h2 0 v hv)
  simp [execOp, ho, Instr.loadAt, he, Instr.sureAddr, loadVar, rowT_run hty, load, Sem.run, World.cell?] at this ⊢
  simp [this]
theorem RCs.take {E : Env} {w : World} {ι : Nms} : ∀ {cs : List C} {vs : List Value} (m : Nat), RCs E w ι cs vs → RCs E w ι (cs.take m) (vs.take m)
  | _, _, 0, _ => by simp [RCs]
  | [], [], m + 1, _ => trivial
  | _ :: _, _ :: _, m + 1, h => ⟨h.1, RCs.take m h.2⟩
theorem ev_load_agg {ty : TypeId} {x : Operand} {k : Nat} {cs : List C} (ho : o.op = .load ty x) (hr : rd st x = some cs) (hty : rowT P ty = some true) (hk : szOf P ty = some k) (hl : k ≤ cs.length) : EvS P o st (.agg (cs.take k)) false := fun β F ι a w h => by
  obtain ⟨b, off, he, vs, h1, h2⟩ := rd_ok h hr
  have h3 := h1.take k
  have hlen := h3.len
  have hvl : (vs.take k).length = k := by rw [hlen, List.length_take]; omega
  refine ⟨.agg (vs.take k).toArray, fun w' hw => ?_, by rw [RV]; exact ⟨_, rfl, by simpa using h3⟩⟩
  have hc := run_loadCells_list (P := P) w' ⟨b, off, none⟩ (vs.take k) (fun j v hj => by
    rw [Addr.add_mid]
    rw [List.getElem?_take] at hj
    split at hj
    · exact cell_old (hw.resolve_left (by simp)) (h2 j v hj)
    · simp at hj)
  rw [hvl] at hc
  simp [execOp, ho, Instr.loadAt, he, Instr.sureAddr, loadVar, rowT_run hty, szOf_run hk, hc]
theorem ev_nilCheck {x : Operand} {c : C} (ho : o.op = .nilCheck x) (hx : ev st x = .one c) (hc : ∃ y, rd st x = some y) : EvS P o st (.one c) true := fun β F ι a w h => by
  obtain ⟨y, hc⟩ := hc
  obtain ⟨b, off, he, -⟩ := rd_ok h hc
  exact ⟨a.eval x, fun w' _ => by simp [execOp, ho, he], hx ▸ h.ev x⟩
end
end Go.Proofs.YtalippdhfkpbmaaDoor
