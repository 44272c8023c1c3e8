/- Rules: addresses, parts, slices, lengths. -/
import Derived.Test.YtalippdhfkpbmaaDoorEvC
namespace Go.Proofs.YtalippdhfkpbmaaDoor
open Go.RowKit Go
def fieldA : C → Nat → Option C
  | .d (.at_ S cs), off => some (.d (.at_ S (cs.drop off)))
  | .ptr n k i o, off => some (.ptr n k i (o + off))
  | _, _ => none
theorem RD.at_drop {E : Env} {w : World} {S : Bool} {cs : List Dt} {v : Value} (h : RD E w (.at_ S cs) v) (m : Nat) : ∃ b o, v = .pointer (some ⟨b, o, none⟩) ∧ RD E w (.at_ S (cs.drop m)) (.pointer (some ⟨b, o + m, none⟩)) := by
  cases h with
  | at_ X h4 hc h5 =>
    refine ⟨_, _, rfl, .at_ (fun j => X (m + j)) h4 (fun j c hj => ?_) (fun j c hj => ?_)⟩
    · rw [List.getElem?_drop] at hj
      rw [Nat.add_assoc]; exact hc _ c hj
    · rw [List.getElem?_drop] at hj
      exact h5 _ c hj
theorem RC.field {E : Env} {w : World} {ι : Nms} {c c' : C} {off : Nat} {v : Value} (h : RC E w ι c v) (hf : fieldA c off = some c') : ∃ b o, v = .pointer (some ⟨b, o, none⟩) ∧ RC E w ι c' (.pointer (some ⟨b, o + off, none⟩)) := by
  unfold fieldA at hf
  split at hf
  · simp only [Option.some.injEq] at hf
    subst hf
    exact RD.at_drop h off
  · simp only [Option.some.injEq] at hf
    subst hf
    obtain ⟨b, cap, h1, h2, rfl⟩ := h
    exact ⟨b, _, rfl, b, cap, h1, h2, by rw [Nat.add_assoc]⟩
  · simp at hf
theorem add_zero_or (b o m : Nat) : (⟨b, o, none⟩ : Addr).add m = ⟨b, o + m, none⟩ := Addr.add_mid b o m
section
variable {P : Program} {qt : Bool} {o : Oper} {st : St} {K : St → Prop} {t : Nat}
theorem ev_fieldAddr {s f : Nat} {x : Operand} {c c' : C} {off k : Nat} (ho : o.op = .fieldAddr s x f) (hx : ev st x = .one c) (hf : fldOf P s f = some (off, k)) (hk : 0 < k) (hc : fieldA c off = some c') : EvS P o st (.one c') true := fun β F ι a w h => by
    have he := h.ev x
    rw [hx, RV] at he
    obtain ⟨b, of, hv, hr⟩ := RC.field he hc
    refine ⟨_, fun w' _ => ?_, by rw [RV]; exact hr⟩
    unfold fldOf at hf
    split at hf
    · rename_i fs hu
      cases hfs : fs[f]? with
      | none => simp [hfs] at hf
      | some g =>
        cases hz : szOf P g.type with
        | none => simp [hfs, hz] at hf
        | some k' =>
          simp only [hfs, hz, Option.bind_some, Option.map_some, Option.some.injEq, Prod.mk.injEq] at hf
          obtain ⟨rfl, rfl⟩ := hf
          have hne : ¬ k' = 0 := by omega
          simp [execOp, ho, Instr.fieldAt, run_underlying hu, hfs, hv, Instr.sureAddr, fieldPlace, szOf_run hz, hne, add_zero_or]
    · simp at hf
/-- element i of what a slice shows -/
def idxA : C → Nat → Nat → Option C
  | .d (.sl S es), i, z => match es[i]? with
    | some e => if e.length = z then some (.d (.at_ S e)) else none
    | none => none
  | .own n k l, i, z => if i < l ∧ k = z then some (.ptr n k i 0) else none
  | _, _, _ => none
theorem RC.idx {E : Env} {w : World} {ι : Nms} {c c' : C} {i z : Nat} {v : Value} (h : RC E w ι c v) (hf : idxA c i z = some c') :
    ∃ b o len cap, v = .slice (some ⟨b, o, none⟩) len cap ∧ i < len ∧ RC E w ι c' (.pointer (some ⟨b, o + i * z, none⟩)) := by
  cases c with
  | d x =>
    cases x with
    | sl S es =>
      simp only [idxA] at hf
      cases he : es[i]? with
      | none => simp [he] at hf
      | some e =>
        simp only [he] at hf
        split at hf
        · rename_i hl
          simp only [Option.some.injEq] at hf
          subst hf hl
          cases h with
          | sl X h1 h2 hk h3 h4 h5 =>
            have hi := (List.getElem?_eq_some_iff.1 he).1
            obtain ⟨b, of, rfl, hok, hc⟩ := h4 (by omega)
            refine ⟨b, of, _, _, rfl, hi, .at_ (X i) hok (fun j c hj => ?_) (fun j c hj => h5 i j c (by simp [nth2, he, hj]))⟩
            rw [hk e (List.mem_of_getElem? he)]
            exact hc i j c (by simp [nth2, he, hj])
        · simp at hf
    | _ => simp [idxA] at hf
  | own n k l =>
    simp only [idxA] at hf
    split at hf
    · rename_i hl
      simp only [Option.some.injEq] at hf
      obtain ⟨hl, rfl⟩ := hl
      subst hf
      obtain ⟨b, cap, h1, h2, h3, h4⟩ := h
      rcases h4 with ⟨h4, -⟩ | ⟨h4, rfl⟩
      · omega
      · exact ⟨b, 0, _, _, rfl, hl, b, cap, h1, h4, by simp⟩
    · simp at hf
  | _ => simp [idxA] at hf
def intOf? : D → Option Int
  | .one (.d (.lit (.int _ n))) => some n
  | _ => none
theorem intOf_ok {β : Base} {F : Nat → Prop} {ι : Nms} {st : St} {a : Act} {w : World} (h : Holds β F ι st a w) {x : Operand} {n : Int} (hx : intOf? (ev st x) = some n) : ∃ k, a.eval x = .int k n := by
  unfold intOf? at hx
  split at hx
  · rename_i k m he
    simp only [Option.some.injEq] at hx
    subst hx
    have := h.ev x
    rw [he, RV] at this
    exact ⟨k, RD.lit_inv this⟩
  · simp at hx
theorem elOf_run {P : Program} {t e : TypeId} {k : Nat} (h : elOf P t = some (e, k)) : P.underlying t = some (.slice e) ∧ szOf P e = some k := by
  unfold elOf at h
  split at h
  · rename_i e' hu
    cases hz : szOf P e' with
    | none => simp [hz] at h
    | some k' =>
      simp only [hz, Option.map_some, Option.some.injEq, Prod.mk.injEq] at h
      obtain ⟨rfl, rfl⟩ := h
      exact ⟨hu, hz⟩
  · simp at h
theorem ev_indexAddr {ty e : TypeId} {z : Nat} {x y : Operand} {c c' : C} {n : Int} (ho : o.op = .indexAddr ty x y) (hx : ev st x = .one c) (hy : intOf? (ev st y) = some n) (h0 : 0 ≤ n) (he : elOf P ty = some (e, z)) (hc : idxA c n.toNat z = some c') : EvS P o st (.one c') true := fun β F ι a w h => by
    have hv := h.ev x
    rw [hx, RV] at hv
    obtain ⟨b, of, len, cap, hv, hi, hr⟩ := RC.idx hv hc
    obtain ⟨k, hk⟩ := intOf_ok h hy
    obtain ⟨hu, hz⟩ := elOf_run he
    refine ⟨_, fun w' _ => ?_, by rw [RV]; exact hr⟩
    have h1 : n < len := by omega
    simp [execOp, ho, hv, hk, Instr.indexAt, asIntOf, run_underlying hu, szOf_run hz, h0, h1, add_zero_or]
def lenOf? : D → Option Nat
  | .one (.d (.sl _ es)) => some es.length
  | .one (.d .emp) => some 0
  | .one (.own _ _ l) => some l
  | _ => none
theorem lenOf_ok {E : Env} {w : World} {ι : Nms} {d : D} {v : Value} {n : Nat} (h : RV E w ι d v) (hl : lenOf? d = some n) : ∃ A cap, v = .slice A n cap ∧ n ≤ 9223372036854775807 := by
  unfold lenOf? at hl
  split at hl
  · simp only [Option.some.injEq] at hl
    subst hl
    rw [RV] at h
    cases h with
    | sl X h1 h2 => exact ⟨_, _, rfl, by simp only [maxLen] at h2; omega⟩
  · simp only [Option.some.injEq] at hl
    subst hl
    rw [RV] at h
    cases h
    exact ⟨_, _, rfl, by omega⟩
  · simp only [Option.some.injEq] at hl
    subst hl
    rw [RV] at h
    obtain ⟨b, cap, h1, h2, h3, h4⟩ := h
    rcases h4 with ⟨h4, A, rfl⟩ | ⟨-, rfl⟩
    · obtain rfl : _ = 0 := Nat.le_zero.1 (h4 ▸ h2)
      exact ⟨_, _, rfl, by omega⟩
    · exact ⟨_, _, rfl, by simp only [maxLen] at h3; omega⟩
  · simp at hl
theorem ev_len {x : Operand} {ty : TypeId} {n : Nat} {ez : TypeId × Nat} (ho : o.op = .call { callee := .builtin .len, args := #[x], argTypes := #[ty] }) (he : elOf P ty = some ez) (hx : lenOf? (ev st x) = some n) : EvS P o st (.one (.d (.lit (.int .i64 n)))) true := fun β F ι a w h => by
  obtain ⟨A, cap, hv, -⟩ := lenOf_ok (h.ev x) hx
  refine ⟨.int .i64 n, fun w' _ => ?_, by rw [RV]; exact .lit rfl⟩
  obtain ⟨e, z⟩ := ez
  simp [execOp, ho, resolve, hv, invoke, builtin, Builtin.len_, goInt, run_underlying (elOf_run he).1]
end
end Go.Proofs.YtalippdhfkpbmaaDoor
