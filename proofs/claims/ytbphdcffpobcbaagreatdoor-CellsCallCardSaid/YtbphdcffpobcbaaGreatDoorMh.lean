/- Several texts in one. -/
import Derived.Test.YtbphdcffpobcbaaGreatDoorMd
import Derived.Test.YtbphdcffpobcbaaGreatDoorMe
set_option linter.unusedSimpArgs false
set_option linter.unusedVariables false
set_option maxRecDepth 100000
set_option maxHeartbeats 16000000
namespace Go.Proofs.YtbphdcffpobcbaaGreatDoor
open Go.RowKit Go

structure Kn where
  is : Bool
  tries : List GTry
def dKn : Kn := ⟨false, []⟩
def kRow (x : Kn) : List Dt := [eB x.is, .sl true (x.tries.map eTry)]
attribute [simp] kRow
def cntK (l : List Kn) : Nat := l.countP (fun x => !x.is)
def ClosedAt (f : GFn) (all : List Kn) (k : Nat) : Prop := ∀ (hk : k < f.code.length), (all.getD k dKn).is = true → ¬ stuck f.code[k] (all.getD k dKn).tries ∧
  ∀ m l, (m, l) ∈ succs f.code[k] k (all.getD k dKn).tries → 0 ≤ m ∧ m < f.code.length ∧ l.length ≤ 20 ∧ (all.getD m.toNat dKn).is = true ∧ (all.getD m.toNat dKn).tries = l
structure KInv (f : GFn) (all : List Kn) : Prop where
  len : all.length = f.code.length
  sound : ∀ k < f.code.length, (all.getD k dKn).is = true → Rch f k (all.getD k dKn).tries ∧ (all.getD k dKn).tries.length ≤ 20
  no : ∀ k < f.code.length, (all.getD k dKn).is = false → (all.getD k dKn).tries = []
  zero : all.getD 0 dKn = ⟨true, []⟩
def badK (n : Nat) (all : List Kn) (m : Int) (l : List GTry) : Prop := (n : Int) ≤ m ∨ 20 < l.length ∨ ((all.getD m.toNat dKn).is = true ∧ ¬ (all.getD m.toNat dKn).tries = l)
theorem KInv.bad {f : GFn} {all : List Kn} (h : KInv f all) {m : Int} {l : List GTry} (hr : Rch f m l) (hm : 0 ≤ m) (hb : badK f.code.length all m l) : ¬ Fine f := fun hf => by
  obtain ⟨h1, h2, h3, -⟩ := hf m l hr
  rcases hb with hb | hb | ⟨hb, hb2⟩
  · omega
  · omega
  · have hk : m.toNat < f.code.length := by omega
    obtain ⟨hs, -⟩ := h.sound _ hk hb
    rw [show ((m.toNat : Nat) : Int) = m by omega] at hs
    exact hb2 (h3 _ hs)
theorem KInv.set {f : GFn} {all : List Kn} (h : KInv f all) {m : Int} {l : List GTry} (hr : Rch f m l) (hm : 0 ≤ m) (hb : ¬ badK f.code.length all m l) : KInv f (all.set m.toNat ⟨true, l⟩) := by
  unfold badK at hb
  have hk : m.toNat < all.length := by rw [h.len]; omega
  refine ⟨by rw [List.length_set]; exact h.len, fun k hkl hk2 => ?_, fun k hkl hk2 => ?_, ?_⟩
  · rw [getD_set] at hk2 ⊢
    by_cases e : m.toNat = k
    · subst e
      rw [if_pos ⟨rfl, hk⟩]
      refine ⟨?_, by show l.length ≤ 20; omega⟩
      show Rch f _ l
      rw [show ((m.toNat : Nat) : Int) = m by omega]; exact hr
    · rw [if_neg (fun h => e h.1)] at hk2 ⊢
      exact h.sound k hkl hk2
  · rw [getD_set] at hk2 ⊢
    by_cases e : m.toNat = k
    · subst e
      rw [if_pos ⟨rfl, hk⟩] at hk2
      cases hk2
    · rw [if_neg (fun h => e h.1)] at hk2 ⊢
      exact h.no k hkl hk2
  · rw [getD_set]
    split
    · rename_i e
      have hz := h.zero
      by_cases e2 : l = []
      · rw [e2]
      · refine absurd (.inr (.inr ?_)) hb
        rw [e.1, hz]
        exact ⟨rfl, fun e3 => e2 e3.symm⟩
    · exact h.zero
theorem set_same {f : GFn} {all : List Kn} (h : KInv f all) {m : Int} {l : List GTry} (hm : 0 ≤ m) (hb : ¬ badK f.code.length all m l) (hs : (all.getD m.toNat dKn).is = true) : all.set m.toNat ⟨true, l⟩ = all := by
  unfold badK at hb
  have hk : m.toNat < all.length := by rw [h.len]; omega
  have hl : (all.getD m.toNat dKn).tries = l := by
    by_cases e : (all.getD m.toNat dKn).tries = l
    · exact e
    · exact absurd (.inr (.inr ⟨hs, e⟩)) hb
  have he : all.getD m.toNat dKn = all[m.toNat] := by rw [List.getD_eq_getElem?_getD, List.getElem?_eq_getElem hk]; rfl
  rw [he] at hs hl
  have : (⟨true, l⟩ : Kn) = all[m.toNat] := by
    cases hx : all[m.toNat] with
    | mk a b => rw [hx] at hs hl; simp only at hs hl; rw [hs, hl]
  rw [this]
  exact List.set_getElem_self hk
theorem cnt_set {all : List Kn} {m : Nat} {l : List GTry} (hk : m < all.length) : cntK (all.set m ⟨true, l⟩) + (if (all.getD m dKn).is = true then 0 else 1) = cntK all := by
  have he : all.getD m dKn = all[m] := by rw [List.getD_eq_getElem?_getD, List.getElem?_eq_getElem hk]; rfl
  rw [he]
  unfold cntK
  rw [List.countP_set hk]
  by_cases hs : all[m].is = true
  · simp [hs]
  · have : 0 < all.countP (fun x => !x.is) := List.countP_pos_iff.2 ⟨_, List.getElem_mem hk, by simpa using hs⟩
    simp [hs]; omega
structure KnOk (f : GFn) (all : List Kn) : Prop extends KInv f all where
  closed : ∀ k, ClosedAt f all k
theorem KnOk.reach {f : GFn} {all : List Kn} (h : KnOk f all) (hn : 0 < f.code.length) {m : Int} {l : List GTry} (hr : Rch f m l) : 0 ≤ m ∧ m < f.code.length ∧ l.length ≤ 20 ∧ (all.getD m.toNat dKn).is = true ∧ (all.getD m.toNat dKn).tries = l := by
  induction hr with
  | start => exact ⟨by omega, by omega, by simp, by rw [show (0 : Int).toNat = 0 from rfl, h.zero], by rw [show (0 : Int).toNat = 0 from rfl, h.zero]⟩
  | @step k l m l' hr hk hs ih =>
    rw [Int.toNat_natCast] at ih
    obtain ⟨-, -, -, i1, i2⟩ := ih
    have hc := h.closed k hk i1
    rw [i2] at hc
    exact hc.2 _ _ hs
theorem KnOk.fine {f : GFn} {all : List Kn} (h : KnOk f all) (hn : 0 < f.code.length) : Fine f := fun m l hr => by
  obtain ⟨h1, h2, h3, h4, h5⟩ := h.reach hn hr
  refine ⟨h2, h3, fun l' hr' => ?_, fun k hk e hst => ?_⟩
  · rw [← h5, (h.reach hn hr').2.2.2.2]
  · subst e
    rw [Int.toNat_natCast] at h4 h5
    have hc := (h.closed k hk h4).1
    rw [h5] at hc
    exact hc hst
def NoOut (q : Wlk) : Prop := q.seen.length = q.out.length ∧ ∀ k, q.seen.getD k false = false → q.out.getD k [] = []
theorem NoOut.come {f : GFn} {q : Wlk} (h : NoOut q) (m : Int) (l : List GTry) : NoOut (comeQ f q m l) := by
  unfold comeQ
  by_cases h1 : (f.code.length : Int) ≤ m ∨ 20 < l.length
  · rw [if_pos h1]; exact h
  rw [if_neg h1]
  split
  · refine ⟨by simp [h.1], fun k hk => ?_⟩
    simp only [getD_set] at hk ⊢
    by_cases e : m.toNat = k ∧ m.toNat < q.seen.length
    · rw [if_pos e] at hk; cases hk
    · rw [if_neg e] at hk
      rw [if_neg (by rw [← h.1]; exact e)]
      exact h.2 k hk
  · split <;> exact h
theorem NoOut.comes {f : GFn} : ∀ (xs : List (Int × List GTry)) {q : Wlk}, NoOut q → NoOut (comesQ f q xs)
  | [], _, h => h
  | x :: xs, _, h => NoOut.comes xs (h.come x.1 x.2)
theorem NoOut.run {f : GFn} : ∀ (n : Nat) {q : Wlk}, NoOut q → NoOut (runQ f n q)
  | 0, _, h => h
  | n + 1, q, h => by
    unfold runQ
    split
    · exact h
    · refine NoOut.run n ?_
      unfold stepQ
      rw [fromQ_eq]
      split
      · exact h
      · exact NoOut.comes _ (q := { q with todo := q.todo.dropLast }) h
theorem tries_no (f : GFn) : NoOut (triesQ f) := NoOut.run _ (NoOut.come ⟨by simp [initQ], fun k hk => by
  simp only [initQ, List.getD_eq_getElem?_getD, List.getElem?_replicate]
  split <;> rfl⟩ _ _)
theorem KnOk.eq {f : GFn} {all : List Kn} (h : KnOk f all) (hg : goesAll f) (hn : 0 < f.code.length) {k : Nat} (hk : k < f.code.length) : (all.getD k dKn).is = (triesQ f).seen.getD k false ∧ (all.getD k dKn).tries = (triesQ f).out.getD k [] := by
  have hb : (triesQ f).bad = false := by
    cases hb : (triesQ f).bad with
    | false => rfl
    | true => exact absurd (h.fine hn) ((tries_bad hg).1 hb)
  cases hs : (triesQ f).seen.getD k false with
  | true =>
    have hr := (tries_seen hg hb k _).2 ⟨hs, rfl⟩
    have := h.reach hn hr
    rw [Int.toNat_natCast] at this
    exact ⟨this.2.2.2.1, this.2.2.2.2⟩
  | false =>
    have hi : (all.getD k dKn).is = false := by
      cases hi : (all.getD k dKn).is with
      | false => rfl
      | true =>
        have := (tries_seen hg hb k _).1 (h.sound k hk hi).1
        rw [hs] at this
        cases this.1
    refine ⟨hi, ?_⟩
    rw [h.no k hk hi, (tries_no f).2 k hs]


def knRows (all : List Kn) : List (List C) := all.map fun x => [.d (eB x.is), .d (.sl true (x.tries.map eTry))]
@[simp] theorem knRows_len (all : List Kn) : (knRows all).length = all.length := by simp [knRows]
@[simp] theorem knRows_get (all : List Kn) (k : Nat) : (knRows all)[k]? = (all[k]?).map fun x => [.d (eB x.is), .d (.sl true (x.tries.map eTry))] := by simp [knRows]
@[simp] theorem knRows_getE (all : List Kn) (k : Nat) (h : k < (knRows all).length) : (knRows all)[k] = [.d (eB (all[k]'(by simpa using h)).is), .d (.sl true ((all[k]'(by simpa using h)).tries.map eTry))] := by simp [knRows]
@[simp] theorem knRows_set (all : List Kn) (k : Nat) (x : Kn) : knRows (all.set k x) = (knRows all).set k [.d (eB x.is), .d (.sl true (x.tries.map eTry))] := by simp [knRows, List.map_set]
structure KS where
  k : Nat
  all : List Kn
  more : Bool
  nx : Nat
structure KAw (f : GFn) (c0 k : Nat) (all : List Kn) (more : Bool) : Prop where
  inv : KInv f all
  le : cntK all ≤ c0
  lt : more = true → cntK all < c0
  cl : more = false → ∀ j < k, ClosedAt f all j
theorem KAw.next {f : GFn} {c0 k : Nat} {all : List Kn} {more : Bool} (h : KAw f c0 k all more) (hc : more = false → ClosedAt f all k) : KAw f c0 (k + 1) all more :=
  ⟨h.inv, h.le, h.lt, fun hm j hj => by
    by_cases e : j = k
    · subst e; exact hc hm
    · exact h.cl hm j (by omega)⟩
@[simp] theorem fz_d (m : Nat) (x : Blk) (y : Dt) : C.fz m x (.d y) = .d y := rfl
structure KB (f : GFn) (c0 : Nat) (all0 : List Kn) (more0 : Bool) (xs : List (Int × List GTry)) (j : Nat) (all : List Kn) (more : Bool) : Prop where
  inv : KInv f all
  le : cntK all ≤ c0
  lt : more = true → cntK all < c0
  same : more = false → all = all0 ∧ more0 = false
  told : more = false → ∀ m l, (m, l) ∈ xs.take j → 0 ≤ m ∧ m < f.code.length ∧ l.length ≤ 20 ∧ (all0.getD m.toNat dKn).is = true ∧ (all0.getD m.toNat dKn).tries = l
theorem KAw.to {f : GFn} {c0 k : Nat} {all : List Kn} {more : Bool} (h : KAw f c0 k all more) (xs : List (Int × List GTry)) : KB f c0 all more xs 0 all more :=
  ⟨h.inv, h.le, h.lt, fun e => ⟨rfl, e⟩, fun _ m l hm => by simp at hm⟩
theorem KB.step {f : GFn} {c0 : Nat} {all0 all : List Kn} {more0 more : Bool} {xs : List (Int × List GTry)} {j : Nat} (h : KB f c0 all0 more0 xs j all more) (hj : j < xs.length) (hr : Rch f xs[j].1 xs[j].2) (hm : 0 ≤ xs[j].1) (hb : ¬ badK f.code.length all xs[j].1 xs[j].2) :
    KB f c0 all0 more0 xs (j + 1) (all.set xs[j].1.toNat ⟨true, xs[j].2⟩) (more || !(all.getD xs[j].1.toNat dKn).is) := by
  have hlt : xs[j].1.toNat < all.length := by rw [h.inv.len]; unfold badK at hb; omega
  have hcn := cnt_set (l := xs[j].2) hlt
  refine ⟨h.inv.set hr hm hb, ?_, fun e => ?_, fun e => ?_, fun e m l hml => ?_⟩
  · have := h.le; omega
  · cases hi : (all.getD xs[j].1.toNat dKn).is with
    | true =>
      rw [hi] at e
      simp at e
      have := h.lt e
      omega
    | false =>
      rw [hi] at hcn
      have := h.le
      simp at hcn; omega
  · simp only [Bool.or_eq_false_iff, Bool.not_eq_false'] at e
    rw [set_same h.inv hm hb e.2]
    exact h.same e.1
  · simp only [Bool.or_eq_false_iff, Bool.not_eq_false'] at e
    rw [List.take_succ_eq_append_getElem hj] at hml
    rcases List.mem_append.1 hml with hml | hml
    · exact h.told e.1 m l hml
    · obtain ⟨h1, -⟩ := h.same e.1
      have hx := List.mem_singleton.1 hml
      rw [← hx] at hb hm e
      rw [h1] at e hb
      unfold badK at hb
      simp only at hb hm e
      refine ⟨hm, by omega, by omega, e.2, ?_⟩
      by_cases e3 : (all0.getD m.toNat dKn).tries = l
      · exact e3
      · exact absurd (.inr (.inr ⟨e.2, e3⟩)) hb
theorem KB.done {f : GFn} {c0 k : Nat} {all0 all : List Kn} {more0 more : Bool} {xs : List (Int × List GTry)} (h : KB f c0 all0 more0 xs xs.length all more) (hA : KAw f c0 k all0 more0) (hk : k < f.code.length) (hst : ¬ stuck f.code[k] (all0.getD k dKn).tries) (hx : xs = succs f.code[k] k (all0.getD k dKn).tries) : KAw f c0 (k + 1) all more :=
  ⟨h.inv, h.le, h.lt, fun hm j hj => by
    obtain ⟨rfl, h2⟩ := h.same hm
    by_cases e : j = k
    · subst e
      intro hj2 _
      refine ⟨hst, fun m l hml => ?_⟩
      rw [← hx] at hml
      have := h.told hm m l (by rw [List.take_length]; exact hml)
      exact this
    · exact hA.cl h2 j (by omega)⟩

end Go.Proofs.YtbphdcffpobcbaaGreatDoor
