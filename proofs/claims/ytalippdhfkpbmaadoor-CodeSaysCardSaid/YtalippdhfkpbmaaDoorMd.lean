/- Several texts in one: CodQ, EvX, CodD, CodE, CodH, OpsP, CodP, EvZ, Shf, Base, OpsA, OpsC, OpR, CodF. -/
import Derived.WalkKit
import Derived.ProofKit
import Ieee.Arith
import Derived.Shelf.Strings.Fields
import Derived.Test.YtalippdhfkpbmaaDoorProg
import Derived.WalkLawsBesides
import Derived.WalkSpells
import Derived.Test.YtalippdhfkpbmaaDoorRows
import Derived.Test.YtalippdhfkpbmaaDoorMa
import Derived.Test.YtalippdhfkpbmaaDoorMb
import Derived.Test.YtalippdhfkpbmaaDoorMc
set_option linter.unusedSimpArgs false
set_option linter.unusedVariables false
/- The walk through a function's orders, plainly: what it comes to. No program in sight. -/
namespace Go.Proofs.YtalippdhfkpbmaaDoor
open Go.RowKit Go
structure Wlk where
  seen : List Bool
  out : List (List GTry)
  todo : List Int
  bad : Bool
def comeQ (f : GFn) (q : Wlk) (at_ : Int) (l : List GTry) : Wlk :=
  if (f.code.length : Int) ≤ at_ ∨ 20 < l.length then { q with bad := true }
  else if q.seen.getD at_.toNat false = false then { q with seen := q.seen.set at_.toNat true, out := q.out.set at_.toNat l, todo := q.todo ++ [at_] }
  else if q.out.getD at_.toNat [] = l then q else { q with bad := true }
def fromQ (f : GFn) (q : Wlk) (k : Nat) (i : GIns) (l : List GTry) : Wlk :=
  if i.op = 28 ∨ i.op = 29 then q
  else if i.op = 13 ∨ i.op = 14 then comeQ f q i.a l
  else if i.op = 15 then comeQ f (comeQ f q i.b l) (k + 1) l
  else if i.op = 30 then comeQ f (comeQ f q i.b l) (k + 1) (l ++ [⟨i.a, i.b⟩])
  else if i.op = 31 then (if l = [] then { q with bad := true } else comeQ f q (k + 1) l.dropLast)
  else comeQ f q (k + 1) l
/-- where it leads to is no place ahead of all -/
def goesOk (i : GIns) : Prop := ((i.op = 13 ∨ i.op = 14) → 0 ≤ i.a) ∧ ((i.op = 15 ∨ i.op = 30) → 0 ≤ i.b)
theorem comeQ_todo (f : GFn) (q : Wlk) (n : Int) (l : List GTry) : (comeQ f q n l).todo.length ≤ q.todo.length + 1 := by
  unfold comeQ
  repeat' split
  all_goals simp
/-- where an order leads to, with which tries -/
def succs (i : GIns) (k : Nat) (l : List GTry) : List (Int × List GTry) :=
  if i.op = 28 ∨ i.op = 29 then [] else if i.op = 13 ∨ i.op = 14 then [(i.a, l)] else if i.op = 15 then [(i.b, l), ((k : Int) + 1, l)]
  else if i.op = 30 then [(i.b, l), ((k : Int) + 1, l ++ [⟨i.a, i.b⟩])] else if i.op = 31 then [((k : Int) + 1, l.dropLast)] else [((k : Int) + 1, l)]
def stuck (i : GIns) (l : List GTry) : Prop := i.op = 31 ∧ l = []
instance (i : GIns) (l : List GTry) : Decidable (stuck i l) := inferInstanceAs (Decidable (_ ∧ _))
def comesQ (f : GFn) : Wlk → List (Int × List GTry) → Wlk
  | q, [] => q
  | q, x :: xs => comesQ f (comeQ f q x.1 x.2) xs
theorem fromQ_eq (f : GFn) (q : Wlk) (k : Nat) (i : GIns) (l : List GTry) : fromQ f q k i l = if stuck i l then { q with bad := true } else comesQ f q (succs i k l) := by
  unfold fromQ succs
  by_cases h1 : i.op = 28 ∨ i.op = 29
  · rw [if_pos h1, if_pos h1, if_neg (fun h : stuck i l => by have := h.1; omega)]; rfl
  rw [if_neg h1, if_neg h1]
  by_cases h2 : i.op = 13 ∨ i.op = 14
  · rw [if_pos h2, if_pos h2, if_neg (fun h : stuck i l => by have := h.1; omega)]; rfl
  rw [if_neg h2, if_neg h2]
  by_cases h3 : i.op = 15
  · rw [if_pos h3, if_pos h3, if_neg (fun h : stuck i l => by have := h.1; omega)]; rfl
  rw [if_neg h3, if_neg h3]
  by_cases h4 : i.op = 30
  · rw [if_pos h4, if_pos h4, if_neg (fun h : stuck i l => by have := h.1; omega)]; rfl
  rw [if_neg h4, if_neg h4]
  by_cases h5 : i.op = 31
  · rw [if_pos h5, if_pos h5]
    by_cases h6 : l = []
    · rw [if_pos h6, if_pos (show stuck i l from ⟨h5, h6⟩)]
    · rw [if_neg h6, if_neg (fun h : stuck i l => h6 h.2)]; rfl
  · rw [if_neg h5, if_neg h5, if_neg (fun h : stuck i l => h5 h.1)]; rfl
inductive Rch (f : GFn) : Int → List GTry → Prop
  | start : Rch f 0 []
  | step {k : Nat} {l : List GTry} {m : Int} {l' : List GTry} (h : Rch f k l) (hk : k < f.code.length) (hs : (m, l') ∈ succs f.code[k] k l) : Rch f m l'
/-- all that ways lead to is in order -/
def Fine (f : GFn) : Prop := ∀ m l, Rch f m l → m < f.code.length ∧ l.length ≤ 20 ∧ (∀ l', Rch f m l' → l' = l) ∧ ∀ (k : Nat) (hk : k < f.code.length), m = k → ¬ stuck f.code[k] l
def At (f : GFn) (q : Wlk) (m : Int) (l : List GTry) : Prop := 0 ≤ m ∧ m < f.code.length ∧ q.seen.getD m.toNat false = true ∧ q.out.getD m.toNat [] = l ∧ l.length ≤ 20
def goesAll (f : GFn) : Prop := ∀ i ∈ f.code, goesOk i
theorem succs_pos {i : GIns} {k : Nat} {l : List GTry} (h : goesOk i) {m : Int} {l' : List GTry} (hs : (m, l') ∈ succs i k l) : 0 ≤ m := by
  unfold succs at hs
  repeat' split at hs
  all_goals simp at hs
  all_goals first
    | (obtain ⟨rfl, -⟩ := hs; first | omega | (have := h.1 (by assumption); omega))
    | (rcases hs with ⟨rfl, -⟩ | ⟨rfl, -⟩ <;> first | omega | (have := h.2 (by omega); omega))
theorem Rch.pos {f : GFn} (hg : goesAll f) {m : Int} {l : List GTry} (h : Rch f m l) : 0 ≤ m := by
  cases h with
  | start => omega
  | step h hk hs => exact succs_pos (hg _ (List.getElem_mem hk)) hs
/-- what holds of a walk; k0: the order that is just being gone on from -/
structure CInv (f : GFn) (q : Wlk) (ks : Option Nat) : Prop where
  ls : q.seen.length = f.code.length
  lo : q.out.length = f.code.length
  todo : ∀ x ∈ q.todo, 0 ≤ x ∧ x < f.code.length ∧ q.seen.getD x.toNat false = true
  sound : ∀ k, q.seen.getD k false = true → Rch f k (q.out.getD k []) ∧ k < f.code.length ∧ (q.out.getD k []).length ≤ 20
  closed : q.bad = false → ∀ (k : Nat) (hk : k < f.code.length), q.seen.getD k false = true → (k : Int) ∈ q.todo ∨ some k = ks ∨ (¬ stuck f.code[k] (q.out.getD k []) ∧ ∀ m l, (m, l) ∈ succs f.code[k] k (q.out.getD k []) → At f q m l)
  bad : q.bad = true → ¬ Fine f
theorem getD_set {α : Type} {l : List α} {n m : Nat} {a d : α} : (l.set n a).getD m d = if n = m ∧ n < l.length then a else l.getD m d := by
  simp only [List.getD_eq_getElem?_getD, List.getElem?_set]
  split
  · rename_i h; subst h
    split
    · rename_i h; simp [h]
    · rename_i h; simp [h, List.getElem?_eq_none (Nat.le_of_not_lt h)]
  · rename_i h; simp [h]
theorem CInv.come {f : GFn} {q : Wlk} {ks : Option Nat} (h : CInv f q ks) {m : Int} {l : List GTry} (hr : Rch f m l) (hm : 0 ≤ m) :
    CInv f (comeQ f q m l) ks ∧ ((comeQ f q m l).bad = true ∨ At f (comeQ f q m l) m l) ∧ (∀ x y, At f q x y → At f (comeQ f q m l) x y) := by
  unfold comeQ
  by_cases h1 : (f.code.length : Int) ≤ m ∨ 20 < l.length
  · rw [if_pos h1]
    refine ⟨⟨h.ls, h.lo, h.todo, h.sound, fun e => (by cases e), fun _ hf => ?_⟩, .inl rfl, fun x y hx => hx⟩
    have := hf m l hr
    omega
  rw [if_neg h1]
  by_cases h2 : q.seen.getD m.toNat false = false
  · rw [if_pos h2]
    have hlt : m.toNat < f.code.length := by omega
    have hmon : ∀ x y, At f q x y → At f { q with seen := q.seen.set m.toNat true, out := q.out.set m.toNat l, todo := q.todo ++ [m] } x y := fun x y hx => by
      have hne : m.toNat ≠ x.toNat := fun e => by have := hx.2.2.1; rw [← e, h2] at this; cases this
      refine ⟨hx.1, hx.2.1, ?_, ?_, hx.2.2.2.2⟩
      · simp only [getD_set, hne, false_and, if_false]; exact hx.2.2.1
      · simp only [getD_set, hne, false_and, if_false]; exact hx.2.2.2.1
    refine ⟨⟨by simpa using h.ls, by simpa using h.lo, fun x hx => ?_, fun k hk => ?_, fun hb k hk hs => ?_, h.bad⟩, .inr ⟨hm, by omega, ?_, ?_, by omega⟩, hmon⟩
    · rcases List.mem_append.1 hx with hx | hx
      · obtain ⟨a, b, c⟩ := h.todo x hx
        refine ⟨a, b, ?_⟩
        simp only [getD_set]; split
        · rfl
        · exact c
      · obtain rfl := List.mem_singleton.1 hx
        refine ⟨hm, by omega, ?_⟩
        simp only [getD_set, h.ls, hlt, and_self, if_true]
    · simp only [getD_set, h.ls, h.lo, hlt, and_true] at hk ⊢
      by_cases e : m.toNat = k
      · subst e
        simp only [if_true]
        rw [show ((m.toNat : Nat) : Int) = m by omega]
        exact ⟨hr, hlt, by omega⟩
      · simp only [e, if_false] at hk ⊢
        exact h.sound k hk
    · simp only [getD_set, h.ls, h.lo, hlt, and_true] at hs ⊢
      by_cases e : m.toNat = k
      · refine .inl (List.mem_append_right _ ?_)
        subst e
        simp; omega
      · simp only [e, if_false] at hs ⊢
        rcases h.closed hb k hk hs with h3 | h3 | ⟨h3, h4⟩
        · exact .inl (List.mem_append_left _ h3)
        · exact .inr (.inl h3)
        · exact .inr (.inr ⟨h3, fun x y hx => hmon x y (h4 x y hx)⟩)
    · simp only [getD_set, h.ls, hlt, and_self, if_true]
    · simp only [getD_set, h.lo, hlt, and_self, if_true]
  rw [if_neg h2]
  have h2 : q.seen.getD m.toNat false = true := by cases e : q.seen.getD m.toNat false <;> simp_all
  by_cases h3 : q.out.getD m.toNat [] = l
  · rw [if_pos h3]
    exact ⟨h, .inr ⟨hm, by omega, h2, h3, by omega⟩, fun _ _ h => h⟩
  · rw [if_neg h3]
    refine ⟨⟨h.ls, h.lo, h.todo, h.sound, fun e => (by cases e), fun _ hf => ?_⟩, .inl rfl, fun x y hx => hx⟩
    obtain ⟨hs, -, -⟩ := h.sound _ h2
    rw [show ((m.toNat : Nat) : Int) = m by omega] at hs
    exact h3 ((hf m l hr).2.2.1 _ hs)
theorem comeQ_bad {f : GFn} {q : Wlk} {m : Int} {l : List GTry} (h : q.bad = true) : (comeQ f q m l).bad = true := by
  unfold comeQ
  repeat' split
  all_goals first | rfl | exact h
theorem comesQ_bad {f : GFn} : ∀ {xs : List (Int × List GTry)} {q : Wlk}, q.bad = true → (comesQ f q xs).bad = true
  | [], _, h => h
  | x :: xs, q, h => comesQ_bad (xs := xs) (q := comeQ f q x.1 x.2) (comeQ_bad h)
theorem CInv.comes {f : GFn} {ks : Option Nat} : ∀ (xs : List (Int × List GTry)) {q : Wlk}, CInv f q ks → (∀ m l, (m, l) ∈ xs → Rch f m l ∧ 0 ≤ m) →
    CInv f (comesQ f q xs) ks ∧ ((comesQ f q xs).bad = true ∨ ∀ m l, (m, l) ∈ xs → At f (comesQ f q xs) m l) ∧ ∀ x y, At f q x y → At f (comesQ f q xs) x y
  | [], q, h, _ => ⟨h, .inr fun m l h => by simp at h, fun _ _ h => h⟩
  | (m, l) :: xs, q, h, hx => by
    obtain ⟨a1, a2⟩ := hx m l (List.mem_cons_self ..)
    obtain ⟨h1, h2, h3⟩ := h.come a1 a2
    obtain ⟨g1, g2, g3⟩ := CInv.comes xs h1 fun m l hm => hx m l (List.mem_cons_of_mem _ hm)
    refine ⟨g1, ?_, fun x y h => g3 x y (h3 x y h)⟩
    rcases h2 with h2 | h2
    · exact .inl (comesQ_bad (xs := xs) (q := comeQ f q m l) h2)
    rcases g2 with g2 | g2
    · exact .inl g2
    · refine .inr fun m' l' hm => ?_
      rcases List.mem_cons.1 hm with e | hm
      · cases e; exact g3 _ _ h2
      · exact g2 _ _ hm
def dIns : GIns := ⟨0, 0, 0, 0, 0⟩
def lastQ (q : Wlk) : Nat := (q.todo.getLast?.getD 0).toNat
def stepQ (f : GFn) (q : Wlk) : Wlk := fromQ f { q with todo := q.todo.dropLast } (lastQ q) (f.code.getD (lastQ q) dIns) (q.out.getD (lastQ q) [])
def runQ (f : GFn) : Nat → Wlk → Wlk
  | 0, q => q
  | n + 1, q => if q.todo = [] ∨ q.bad = true then q else runQ f n (stepQ f q)
def initQ (f : GFn) : Wlk := ⟨List.replicate f.code.length false, List.replicate f.code.length [], [], false⟩
def msr (q : Wlk) : Nat := 2 * q.seen.countP (fun b => !b) + q.todo.length
def triesQ (f : GFn) : Wlk := runQ f (2 * f.code.length + 1) (comeQ f (initQ f) 0 [])
theorem lastQ_mem {q : Wlk} (h : q.todo ≠ []) (hp : ∀ x ∈ q.todo, 0 ≤ x) : ((lastQ q : Nat) : Int) = q.todo.getLast h := by
  unfold lastQ
  rw [List.getLast?_eq_some_getLast h, Option.getD_some]
  have := hp _ (List.getLast_mem h)
  omega
theorem mem_todo {l : List Int} (h : l ≠ []) {x : Int} (hx : x ∈ l) : x ∈ l.dropLast ∨ x = l.getLast h := by
  rw [← List.dropLast_concat_getLast h] at hx
  rcases List.mem_append.1 hx with hx | hx
  · exact .inl hx
  · exact .inr (List.mem_singleton.1 hx)
theorem CInv.step {f : GFn} (hg : goesAll f) {q : Wlk} (h : CInv f q none) (h0 : q.todo ≠ []) : CInv f (stepQ f q) none := by
  have hl := lastQ_mem h0 fun x hx => (h.todo x hx).1
  obtain ⟨a1, a2, a3⟩ := h.todo _ (List.getLast_mem h0)
  rw [← hl] at a1 a2 a3
  have hk : lastQ q < f.code.length := by omega
  rw [Int.toNat_natCast] at a3
  obtain ⟨b1, -, b2⟩ := h.sound _ a3
  have hpop : CInv f { q with todo := q.todo.dropLast } (some (lastQ q)) := by
    refine ⟨h.ls, h.lo, fun x hx => h.todo x (List.dropLast_subset _ hx), h.sound, fun hb k hk hs => ?_, h.bad⟩
    rcases h.closed hb k hk hs with h3 | h3 | h3
    · rcases mem_todo h0 h3 with h4 | h4
      · exact .inl h4
      · rw [← hl] at h4
        exact .inr (.inl (by rw [Int.ofNat_inj.1 h4]))
    · cases h3
    · exact .inr (.inr h3)
  unfold stepQ
  rw [fromQ_eq]
  have hi : f.code.getD (lastQ q) dIns = f.code[lastQ q] := by simp [List.getD_eq_getElem?_getD, List.getElem?_eq_getElem hk]
  rw [hi]
  by_cases hst : stuck f.code[lastQ q] (q.out.getD (lastQ q) [])
  · rw [if_pos hst]
    exact ⟨h.ls, h.lo, hpop.todo, h.sound, fun e => (by cases e), fun _ hf => (hf _ _ b1).2.2.2 _ hk rfl hst⟩
  · rw [if_neg hst]
    obtain ⟨g1, g2, g3⟩ := CInv.comes (f := f) (succs f.code[lastQ q] (lastQ q) (q.out.getD (lastQ q) [])) hpop fun m l hm => ⟨Rch.step b1 hk hm, succs_pos (hg _ (List.getElem_mem hk)) hm⟩
    have hat := g3 (lastQ q) (q.out.getD (lastQ q) []) ⟨by omega, by omega, by rw [Int.toNat_natCast]; exact a3, by rw [Int.toNat_natCast], b2⟩
    refine ⟨g1.ls, g1.lo, g1.todo, g1.sound, fun hb k hk' hs => ?_, g1.bad⟩
    rcases g1.closed hb k hk' hs with h3 | h3 | h3
    · exact .inl h3
    · cases h3
      refine .inr (.inr ?_)
      have e := hat.2.2.2.1
      rw [Int.toNat_natCast] at e
      rw [e]
      exact ⟨hst, fun m l hm => (g2.resolve_left (by rw [hb]; simp)) m l hm⟩
    · exact .inr (.inr h3)
theorem comeQ_msr (f : GFn) (q : Wlk) (m : Int) (l : List GTry) (h : q.seen.length = f.code.length) (hm : 0 ≤ m) : msr (comeQ f q m l) + (if (comeQ f q m l).todo = q.todo then 0 else 1) ≤ msr q := by
  unfold comeQ
  by_cases h1 : (f.code.length : Int) ≤ m ∨ 20 < l.length
  · rw [if_pos h1]; simp [msr]
  rw [if_neg h1]
  by_cases h2 : q.seen.getD m.toNat false = false
  · rw [if_pos h2]
    have hlt : m.toNat < q.seen.length := by omega
    have hget : q.seen[m.toNat] = false := by simpa [List.getD_eq_getElem?_getD, List.getElem?_eq_getElem hlt] using h2
    have : q.seen.countP (fun b => !b) = (q.seen.set m.toNat true).countP (fun b => !b) + 1 := by
      rw [List.countP_set hlt]
      simp only [hget]
      have : 0 < q.seen.countP (fun b => !b) := List.countP_pos_iff.2 ⟨_, List.getElem_mem hlt, by rw [hget]; rfl⟩
      simp; omega
    simp [msr]; omega
  rw [if_neg h2]
  split <;> simp [msr]
theorem comesQ_msr (f : GFn) : ∀ (xs : List (Int × List GTry)) (q : Wlk), q.seen.length = f.code.length → (∀ m l, (m, l) ∈ xs → 0 ≤ m) → msr (comesQ f q xs) ≤ msr q
  | [], _, _, _ => Nat.le_refl _
  | (m, l) :: xs, q, h, hx => by
    have h1 := comeQ_msr f q m l h (hx m l (List.mem_cons_self ..))
    have h2 : (comeQ f q m l).seen.length = f.code.length := by
      unfold comeQ; repeat' split
      all_goals simpa using h
    have := comesQ_msr f xs (comeQ f q m l) h2 fun m l hm => hx m l (List.mem_cons_of_mem _ hm)
    show msr (comesQ f (comeQ f q m l) xs) ≤ _
    omega
theorem stepQ_msr {f : GFn} (hg : goesAll f) {q : Wlk} (h : CInv f q none) (h0 : q.todo ≠ []) : msr (stepQ f q) < msr q := by
  have hpos : 0 < q.todo.length := List.length_pos_iff.2 h0
  have hpop : msr { q with todo := q.todo.dropLast } < msr q := by simp [msr]; omega
  unfold stepQ
  rw [fromQ_eq]
  split
  · simp [msr]; omega
  · have hl := lastQ_mem h0 fun x hx => (h.todo x hx).1
    obtain ⟨a1, a2, a3⟩ := h.todo _ (List.getLast_mem h0)
    rw [← hl] at a1 a2
    have hk : lastQ q < f.code.length := by omega
    refine Nat.lt_of_le_of_lt (comesQ_msr f _ _ h.ls fun m l hm => succs_pos (i := f.code[lastQ q]) (hg _ (List.getElem_mem hk)) (by simpa [List.getD_eq_getElem?_getD, List.getElem?_eq_getElem hk] using hm)) hpop
theorem CInv.run {f : GFn} (hg : goesAll f) : ∀ (n : Nat) {q : Wlk}, CInv f q none → msr q ≤ n → CInv f (runQ f n q) none ∧ ((runQ f n q).todo = [] ∨ (runQ f n q).bad = true)
  | 0, q, h, hn => ⟨h, .inl (by unfold msr at hn; exact List.eq_nil_of_length_eq_zero (by show q.todo.length = 0; omega))⟩
  | n + 1, q, h, hn => by
    unfold runQ
    by_cases hc : q.todo = [] ∨ q.bad = true
    · rw [if_pos hc]; exact ⟨h, hc⟩
    · rw [if_neg hc]
      have h0 : q.todo ≠ [] := fun e => hc (.inl e)
      have := stepQ_msr hg h h0
      exact CInv.run hg n (h.step hg h0) (by omega)
theorem CInv.init {f : GFn} : CInv f (initQ f) none := by
  refine ⟨by simp [initQ], by simp [initQ], fun x hx => (by simp [initQ] at hx), fun k hk => ?_, fun _ k hk hs => ?_, fun h => (by cases h)⟩
  · simp [initQ, List.getD_eq_getElem?_getD, List.getElem?_replicate] at hk
    split at hk <;> simp at hk
  · simp [initQ, List.getD_eq_getElem?_getD, List.getElem?_replicate] at hs
    split at hs <;> simp at hs
theorem msr_init (f : GFn) : msr (initQ f) ≤ 2 * f.code.length := by
  have : (List.replicate f.code.length false).countP (fun b => !b) ≤ (List.replicate f.code.length false).length := List.countP_le_length
  rw [List.length_replicate] at this
  simp only [msr, initQ, List.length_nil]; omega
/-- what the walk comes to -/
theorem triesQ_ok {f : GFn} (hg : goesAll f) : CInv f (triesQ f) none ∧ ((triesQ f).todo = [] ∨ (triesQ f).bad = true) := by
  have h1 := (CInv.init (f := f)).come Rch.start (Int.le_refl 0)
  refine CInv.run hg _ h1.1 ?_
  have := comeQ_msr f (initQ f) 0 [] (by simp [initQ]) (Int.le_refl 0)
  have := msr_init f
  omega
theorem comeQ_at {f : GFn} {q : Wlk} {m : Int} {l : List GTry} {x : Int} {y : List GTry} (hx : At f q x y) : At f (comeQ f q m l) x y := by
  unfold comeQ
  by_cases h1 : (f.code.length : Int) ≤ m ∨ 20 < l.length
  · rw [if_pos h1]; exact hx
  rw [if_neg h1]
  by_cases h2 : q.seen.getD m.toNat false = false
  · rw [if_pos h2]
    have hne : m.toNat ≠ x.toNat := fun e => by have := hx.2.2.1; rw [← e, h2] at this; cases this
    refine ⟨hx.1, hx.2.1, ?_, ?_, hx.2.2.2.2⟩
    · simp only [getD_set, hne, false_and, if_false]; exact hx.2.2.1
    · simp only [getD_set, hne, false_and, if_false]; exact hx.2.2.2.1
  rw [if_neg h2]
  split <;> exact hx
theorem comesQ_at {f : GFn} {x : Int} {y : List GTry} : ∀ {xs : List (Int × List GTry)} {q : Wlk}, At f q x y → At f (comesQ f q xs) x y
  | [], _, h => h
  | z :: xs, q, h => comesQ_at (xs := xs) (q := comeQ f q z.1 z.2) (comeQ_at h)
theorem stepQ_at {f : GFn} {q : Wlk} {x : Int} {y : List GTry} (h : At f q x y) : At f (stepQ f q) x y := by
  unfold stepQ
  rw [fromQ_eq]
  split
  · exact h
  · exact comesQ_at (q := { q with todo := q.todo.dropLast }) h
theorem runQ_at {f : GFn} {x : Int} {y : List GTry} : ∀ (n : Nat) {q : Wlk}, At f q x y → At f (runQ f n q) x y
  | 0, _, h => h
  | n + 1, q, h => by
    unfold runQ
    split
    · exact h
    · exact runQ_at n (stepQ_at h)
theorem runQ_bad {f : GFn} : ∀ (n : Nat) {q : Wlk}, q.bad = true → runQ f n q = q
  | 0, _, _ => rfl
  | n + 1, q, h => by unfold runQ; rw [if_pos (.inr h)]
theorem At.uniq {f : GFn} {q : Wlk} {m : Int} {l l' : List GTry} (h : At f q m l) (h' : At f q m l') : l' = l := by
  rw [← h.2.2.2.1, ← h'.2.2.2.1]
theorem tries_at {f : GFn} (hg : goesAll f) (hb : (triesQ f).bad = false) {m : Int} {l : List GTry} (h : Rch f m l) : At f (triesQ f) m l := by
  obtain ⟨h1, h2⟩ := triesQ_ok hg
  have htodo := h2.resolve_right (by rw [hb]; simp)
  induction h with
  | start =>
    have hc := (CInv.init (f := f)).come Rch.start (Int.le_refl 0)
    rcases hc.2.1 with h | h
    · exfalso
      have : (triesQ f).bad = true := by unfold triesQ; rw [runQ_bad _ h]; exact h
      rw [hb] at this; cases this
    · exact runQ_at _ h
  | @step k l m l' h hk hs ih =>
    have e := ih.2.2.2.1
    rw [Int.toNat_natCast] at e
    have hsn := ih.2.2.1
    rw [Int.toNat_natCast] at hsn
    rcases h1.closed hb k hk hsn with h3 | h3 | h3
    · rw [htodo] at h3; cases h3
    · cases h3
    · rw [e] at h3
      exact h3.2 _ _ hs
theorem tries_fine {f : GFn} (hg : goesAll f) (hb : (triesQ f).bad = false) : Fine f := fun m l h => by
  have ha := tries_at hg hb h
  obtain ⟨h1, h2⟩ := triesQ_ok hg
  have htodo := h2.resolve_right (by rw [hb]; simp)
  refine ⟨ha.2.1, ha.2.2.2.2, fun l' h' => ha.uniq (tries_at hg hb h'), fun k hk e hs => ?_⟩
  subst e
  have hsn := ha.2.2.1
  have ho := ha.2.2.2.1
  rw [Int.toNat_natCast] at hsn ho
  rcases h1.closed hb k hk hsn with h3 | h3 | h3
  · rw [htodo] at h3; cases h3
  · cases h3
  · rw [ho] at h3
    exact h3.1 hs
/-- the walk finds what there is to find -/
theorem tries_bad {f : GFn} (hg : goesAll f) : (triesQ f).bad = true ↔ ¬ Fine f := by
  constructor
  · exact (triesQ_ok hg).1.bad
  · intro h
    cases hb : (triesQ f).bad with
    | true => rfl
    | false => exact absurd (tries_fine hg hb) h
theorem tries_seen {f : GFn} (hg : goesAll f) (hb : (triesQ f).bad = false) (k : Nat) (l : List GTry) : Rch f k l ↔ ((triesQ f).seen.getD k false = true ∧ (triesQ f).out.getD k [] = l) := by
  constructor
  · intro h
    have ha := tries_at hg hb h
    have h1 := ha.2.2.1
    have h2 := ha.2.2.2.1
    rw [Int.toNat_natCast] at h1 h2
    exact ⟨h1, h2⟩
  · rintro ⟨h1, rfl⟩
    exact ((triesQ_ok hg).1.sound k h1).1
end Go.Proofs.YtalippdhfkpbmaaDoor
/- Rules: loops whose heap changes; rows that are written no more; what shows less. -/
namespace Go.Proofs.YtalippdhfkpbmaaDoor
open Go.RowKit Go
theorem HpOk.frzRow {β : Base} {F : Nat → Prop} {w : World} {ι : Nms} {H : Hp} {nx n : Nat} {x : Blk} (h : HpOk β F w ι H nx) (hx : H n = some x) (hall : (x.es.all fun e => e.all C.isD) = true) :
    ∃ F', HpOk β F' w ι (H.set n none) nx ∧ Env.le ⟨F, β.B⟩ ⟨F', β.B⟩ w w ∧ ∀ l v, l ≤ x.es.length → RC ⟨F, β.B⟩ w ι (.own n x.k l) v → RD ⟨F', β.B⟩ w (.sl true ((x.es.take l).map fun e => e.map C.dt)) v := by
  obtain ⟨b, cap, p1, p2, p3, p4⟩ := h.blk n x hx
  have hd := h.drop n
  rcases Nat.eq_zero_or_pos cap with hc | hc
  · subst hc
    refine ⟨F, hd, ⟨fun _ h => h, fun _ h => h, fun _ _ => rfl, fun _ _ => rfl⟩, fun l v hl hr => ?_⟩
    obtain ⟨b', cap', q1, q2, q3, q4⟩ := hr
    rw [p1] at q1
    simp only [Option.some.injEq, Prod.mk.injEq] at q1
    obtain ⟨rfl, rfl⟩ := q1
    obtain rfl : l = 0 := by omega
    rcases q4 with ⟨-, A, rfl⟩ | ⟨h0, -⟩
    · simp only [List.take_zero, List.map_nil]
      exact RD.sl (k := 0) (fun _ _ => undef) (Nat.le_refl _) (by simp [maxLen]) (by simp) (fun _ => rfl) (fun h => by simp at h) (fun i j c hc => by simp [nth2] at hc)
    · omega
  · obtain ⟨arr, r1, r2, r3, r4⟩ := p4 hc
    obtain ⟨o1, o2, o3⟩ := h.own n b cap (by rw [hx]; simp) p1 hc
    let F' : Nat → Prop := fun q => F q ∨ q = b
    have hle : Env.le ⟨F, β.B⟩ ⟨F', β.B⟩ w w := ⟨fun _ h => .inl h, fun _ h => h, fun _ _ => rfl, fun _ _ => rfl⟩
    have hset : ∀ m, H.set n none m ≠ none → m ≠ n ∧ H m ≠ none := fun m hm => by
      by_cases e : m = n
      · subst e; simp at hm
      · exact ⟨e, by rwa [Hp.set_ne _ _ e] at hm⟩
    refine ⟨F', ⟨h.size, h.keep, fun q hq => ?_, fun q hq => ?_, fun q hq => .inl (h.F0 q hq), fun m y hm => (hd.blk m y hm).keep hle (Nms.le_refl _) fun _ _ _ _ => rfl,
        fun m q c hm hq hc' => ?_, hd.inj, h.nx, h.nm, h.io⟩, hle, fun l v hl hr => ?_⟩
    · rcases hq with hq | rfl
      · exact h.Flt q hq
      · exact o1
    · rcases hq with hq | rfl
      · exact h.Fof q hq
      · exact .inr o3
    · obtain ⟨g1, g2⟩ := hset m hm
      obtain ⟨s1, s2, s3⟩ := h.own m q c g2 hq hc'
      refine ⟨s1, fun hF => ?_, s3⟩
      rcases hF with hF | rfl
      · exact s2 hF
      · exact g1 (h.inj m n q c cap g2 (by rw [hx]; simp) hq p1 hc' hc)
    · obtain ⟨b', cap', q1, q2, q3, q4⟩ := hr
      rw [p1] at q1
      simp only [Option.some.injEq, Prod.mk.injEq] at q1
      obtain ⟨rfl, rfl⟩ := q1
      rcases q4 with ⟨h0, -⟩ | ⟨h0, rfl⟩
      · omega
      have hlen : ((x.es.take l).map fun e => e.map C.dt).length = l := by simp; omega
      have hn2 : ∀ i j c, nth2 ((x.es.take l).map fun e => e.map C.dt) i j = some c → ∃ c', nth2 x.es i j = some c' ∧ c'.isD = true ∧ c = c'.dt := fun i j c hc => by
        unfold nth2 at hc ⊢
        rw [List.getElem?_map, List.getElem?_take] at hc
        by_cases hi : i < l
        · simp only [hi, if_true] at hc
          cases he : x.es[i]? with
          | none => simp [he] at hc
          | some e =>
            simp only [he, Option.map_some, Option.bind_some, List.getElem?_map] at hc ⊢
            cases hj : e[j]? with
            | none => simp [hj] at hc
            | some c' =>
              simp only [hj, Option.map_some, Option.some.injEq] at hc
              exact ⟨c', rfl, all_isD (List.all_eq_true.1 hall e (List.mem_of_getElem? he)) hj, hc.symm⟩
        · simp [hi] at hc
      have hR : ∀ i j c, nth2 ((x.es.take l).map fun e => e.map C.dt) i j = some c → arr[i * x.k + j]? = some (arr.getD (i * x.k + j) undef) ∧ RD ⟨F', noB⟩ w c (arr.getD (i * x.k + j) undef) := fun i j c hc => by
        obtain ⟨c', g1, g2, rfl⟩ := hn2 i j c hc
        obtain ⟨v, g3, g4⟩ := r4 i j c' g1
        have : arr.getD (i * x.k + j) undef = v := by simp [Array.getD_eq_getD_getElem?, g3]
        rw [this]
        exact ⟨g3, (g4.keep hle (Nms.le_refl ι)).dtSolid g2⟩
      rw [show (Value.slice (some ⟨b, 0, none⟩) l cap) = .slice (some ⟨b, 0, none⟩) ((x.es.take l).map fun e => e.map C.dt).length cap by rw [hlen]]
      refine RD.sl (k := x.k) (fun i j => arr.getD (i * x.k + j) undef) (by rw [hlen]; exact q2) q3 (fun e he => ?_) (fun h => by cases h) (fun _ => ⟨b, 0, rfl, .inl (.inr rfl), fun i j c hc => ?_⟩) (fun i j c hc => (hR i j c hc).2)
      · obtain ⟨e', he', rfl⟩ := List.mem_map.1 he
        rw [List.length_map]; exact p3 e' (List.mem_of_mem_take he')
      · simp only [Nat.zero_add]
        exact r1.cell (hR i j c hc).1
/-- a row that is handed on for good: as data -/
theorem ICall.frz {P : Program} {f : FuncId} {ds es : List D} {H : Hp} {nx n k l : Nat} {x : Blk} {K : D → Hp → Nat → Prop} (hx : H n = some x) (hall : (x.es.all fun e => e.all C.isD) = true) (hk : x.k = k) (hl : l ≤ x.es.length)
    (h : ICall P f (ds ++ .one (.d (.sl true ((x.es.take l).map fun e => e.map C.dt))) :: es) (H.set n none) nx K) : ICall P f (ds ++ .one (.own n k l) :: es) H nx K := by
  subst hk
  refine ⟨h.1, fun β F ι w vs hg hH hvs => ?_⟩
  obtain ⟨F', g1, g2, g3⟩ := hH.frzRow hx hall
  have hvs' : RVs ⟨F', β.B⟩ w ι (ds ++ .one (.d (.sl true ((x.es.take l).map fun e => e.map C.dt))) :: es) vs := by
    clear h
    induction ds generalizing vs with
    | nil =>
      cases vs with
      | nil => simp [RVs] at hvs
      | cons v vs =>
        simp only [List.nil_append, RVs, RV] at hvs ⊢
        exact ⟨g3 l v hl hvs.1, RVs.keep g2 (Nms.le_refl _) hvs.2⟩
    | cons d ds ih =>
      cases vs with
      | nil => simp [RVs] at hvs
      | cons v vs =>
        simp only [List.cons_append, RVs] at hvs ⊢
        exact ⟨RV.keep g2 (Nms.le_refl _) hvs.1, ih vs hvs.2⟩
  refine (h.2 β F' ι w vs hg g1 hvs').mono ?_
  rintro e w' ⟨F2, ι', H', nx', d, v, e1, e2, e3, e4, e5, e6⟩
  exact ⟨F2, ι', H', nx', d, v, e1, e2, ⟨fun b hb => e3.F b (g2.F b hb), e3.B, fun b hb => e3.f b (g2.F b hb), e3.b⟩, e4, e5, e6⟩
/-- what shows less -/
def C.less (c c' : C) : Prop := c = c' ∨ (c = .d .emp ∧ ∃ S, c' = .d (.sl S []))
theorem RC.less {E : Env} {w : World} {ι : Nms} {c c' : C} {v : Value} (h : RC E w ι c v) (hc : c.less c') : RC E w ι c' v := by
  rcases hc with rfl | ⟨rfl, S, rfl⟩
  · exact h
  · have h : RD E w .emp v := h
    cases h
    exact RD.sl (k := 0) (fun _ _ => undef) (Nat.le_refl _) (by simp [maxLen]) (by simp) (fun _ => rfl) (fun h => by simp at h) (fun i j c hc => by simp [nth2] at hc)
structure Blk.less (x y : Blk) : Prop where
  t : x.t = y.t
  k : x.k = y.k
  len : x.es.length = y.es.length
  row : ∀ e ∈ y.es, e.length = y.k
  c : ∀ i j c', nth2 y.es i j = some c' → ∃ c, nth2 x.es i j = some c ∧ c.less c'
theorem HpOk.less {β : Base} {F : Nat → Prop} {w : World} {ι : Nms} {H H' : Hp} {nx : Nat} (h : HpOk β F w ι H nx) (hl : ∀ n y, H' n = some y → ∃ x, H n = some x ∧ x.less y) : HpOk β F w ι H' nx := by
  have hn : ∀ n, H' n ≠ none → H n ≠ none := fun n hn => by
    cases hy : H' n with
    | none => exact absurd hy hn
    | some y => obtain ⟨x, hx, -⟩ := hl n y hy; rw [hx]; simp
  refine ⟨h.size, h.keep, h.Flt, h.Fof, h.F0, fun n y hy => ?_, fun n b cap hH => h.own n b cap (hn n hH), fun n m b c c' h1 h2 => h.inj n m b c c' (hn n h1) (hn m h2), h.nx, h.nm, h.io⟩
  obtain ⟨x, hx, hxy⟩ := hl n y hy
  obtain ⟨b, cap, p1, p2, p3, p4⟩ := h.blk n x hx
  refine ⟨b, cap, p1, by rw [← hxy.len]; exact p2, hxy.row, fun hc => ?_⟩
  obtain ⟨arr, r1, r2, r3, r4⟩ := p4 hc
  refine ⟨arr, by rw [← hxy.t]; exact r1, by rw [← hxy.k]; exact r2, r3, fun i j c' hc' => ?_⟩
  obtain ⟨c, g1, g2⟩ := hxy.c i j c' hc'
  obtain ⟨v, g3, g4⟩ := r4 i j c g1
  exact ⟨v, by rw [← hxy.k]; exact g3, g4.less g2⟩
def D.less : D → D → Prop
  | .one c, .one c' => c.less c'
  | d, d' => d = d'
theorem RV.less {E : Env} {w : World} {ι : Nms} {d d' : D} {v : Value} (h : RV E w ι d v) (hd : d.less d') : RV E w ι d' v := by
  cases d with
  | one c => cases d' with
    | one c' => rw [RV] at h ⊢; exact RC.less h hd
    | _ => cases hd
  | _ => obtain rfl : _ = d' := hd; exact h
def Ds.less : List D → List D → Prop
  | [], [] => True
  | d :: ds, e :: es => d.less e ∧ Ds.less ds es
  | _, _ => False
theorem RVs.less {E : Env} {w : World} {ι : Nms} : ∀ {ds es : List D} {vs : List Value}, RVs E w ι ds vs → Ds.less ds es → RVs E w ι es vs
  | [], [], _, h, _ => h
  | _ :: _, _ :: _, [], h, _ => by simp [RVs] at h
  | _ :: _, _ :: _, _ :: _, h, hd => by rw [RVs] at h ⊢; exact ⟨h.1.less hd.1, RVs.less h.2 hd.2⟩
  | [], _ :: _, _, _, hd => hd.elim
  | _ :: _, [], _, _, hd => hd.elim
theorem D.less.refl (d : D) : d.less d := by cases d <;> first | exact .inl rfl | exact rfl
theorem ICall.less {P : Program} {f : FuncId} {ds es : List D} {H H' : Hp} {nx : Nat} {K : D → Hp → Nat → Prop} (hd : Ds.less ds es) (hl : ∀ n y, H' n = some y → ∃ x, H n = some x ∧ x.less y) (h : ICall P f es H' nx K) : ICall P f ds H nx K :=
  ⟨h.1, fun β F ι w vs hg hH hvs => h.2 β F ι w vs hg (hH.less hl) (hvs.less hd)⟩
theorem DPure.less {P : Program} {f : FuncId} {ds es : List D} {K : D → List Blk → Prop} (hd : Ds.less ds es) (h : DPure P f es K) : DPure P f ds K :=
  ⟨h.1, fun F w vs hF hgl hvs => h.2 F w vs hF hgl (hvs.less hd)⟩
/-- a loop whose heap changes, too -/
theorem loopS_ok {P : Program} {pl : Pls} {n0 : Nat} {ks : List Nat} {n : Nat} {tm : List (Nat × D)} {H : Hp} {nx : Nat} {K : Exit → St → Prop} {α : Type} {c : Code} (S : α → St) (m : α → Nat) (x0 : α) (hx : P.follows .mixedOrders = true) (hp : plsOk pl n0 c = true) (h0 : Wk ⟨n, tm, H, nx⟩ (S x0))
    (round : ∀ x, vc P pl n0 ks c (loopK S m x K) (S x)) : Ev P (.loop c) K ⟨n, tm, H, nx⟩ := ev_loop S m x0 h0 fun x => vc_ok hx hp (round x)
/-- temporaries and blocks forgotten -/
theorem Wk.heap {n : Nat} {tm : List (Nat × D)} {H H' : Hp} {nx : Nat} (hl : ∀ i y, H' i = some y → H i = some y) : Wk ⟨n, tm, H, nx⟩ ⟨n, tm, H', nx⟩ := fun β F ι a w h => by
  have hn : ∀ n, H' n ≠ none → H n ≠ none := fun n hn => by
    cases hy : H' n with
    | none => exact absurd hy hn
    | some y => rw [hl n y hy]; simp
  have hh := h.heap
  exact ⟨F, ι, h.good, h.defers, h.size, h.tm, ⟨hh.size, hh.keep, hh.Flt, hh.Fof, hh.F0, fun n y hy => hh.blk n y (hl n y hy), fun n b cap hH => hh.own n b cap (hn n hH), fun n m b c c' h1 h2 => hh.inj n m b c c' (hn n h1) (hn m h2), hh.nx, hh.nm, hh.io⟩⟩
/-! ### A row given up as memory of its own, wherever it stands -/
def C.fz (m : Nat) (x : Blk) : C → C
  | .own n k l => if n = m ∧ k = x.k ∧ l ≤ x.es.length then .d (.sl true ((x.es.take l).map fun e => e.map C.dt)) else .own n k l
  | c => c
def D.fz (m : Nat) (x : Blk) : D → D
  | .one c => .one (c.fz m x)
  | .agg cs => .agg (cs.map (C.fz m x))
  | d => d
def fzT (m : Nat) (x : Blk) : List (Nat × D) → List (Nat × D)
  | [] => []
  | (t, d) :: l => (t, d.fz m x) :: fzT m x l
theorem lk_fzT (m : Nat) (x : Blk) (u : Nat) : ∀ l, lk (fzT m x l) u = (lk l u).fz m x
  | [] => rfl
  | (t, d) :: l => by
    unfold fzT lk
    by_cases h : u = t
    · simp [h]
    · simp [h, lk_fzT m x u l]
def St.fzR (st : St) (m : Nat) : St := match st.H m with
  | some x => if (x.es.all fun e => e.all C.isD) = true then ⟨st.n, fzT m x st.tm, fun i => if i = m then none else (st.H i).map fun y => ⟨y.t, y.k, y.es.map fun e => e.map (C.fz m x)⟩, st.nx⟩ else st
  | none => st
theorem Wk.fzR (st : St) (m : Nat) : Wk st (st.fzR m) := fun β F ι a w h => by
  unfold St.fzR
  split
  · rename_i x hx
    split
    · rename_i hall
      obtain ⟨F', g1, g2, g3⟩ := h.heap.frzRow hx hall
      have hC : ∀ c v, RC ⟨F, β.B⟩ w ι c v → RC ⟨F', β.B⟩ w ι (c.fz m x) v := fun c v hc => by
        cases c with
        | own n k l =>
          simp only [C.fz]
          split
          · rename_i hh
            obtain ⟨rfl, rfl, hl⟩ := hh
            exact g3 l v hl hc
          · exact hc.keep g2 (Nms.le_refl _)
        | _ => exact hc.keep g2 (Nms.le_refl _)
      have hCs : ∀ {cs : List C} {vs : List Value}, RCs ⟨F, β.B⟩ w ι cs vs → RCs ⟨F', β.B⟩ w ι (cs.map (C.fz m x)) vs := by
        intro cs
        induction cs with
        | nil => intro vs h; cases vs with
          | nil => trivial
          | cons _ _ => exact h.elim
        | cons c cs ih => intro vs h; cases vs with
          | nil => exact h.elim
          | cons v vs => exact ⟨hC c v h.1, ih h.2⟩
      have hn : ∀ n, ((fun i => if i = m then none else (st.H i).map fun y => (⟨y.t, y.k, y.es.map fun e => e.map (C.fz m x)⟩ : Blk)) : Hp) n ≠ none → n ≠ m ∧ st.H n ≠ none := fun n hn => by
        simp only at hn
        split at hn
        · exact absurd rfl hn
        · rename_i e
          refine ⟨e, fun e2 => hn (by rw [e2]; rfl)⟩
      refine ⟨F', ι, h.good, h.defers, h.size, fun t => ?_, ⟨g1.size, g1.keep, g1.Flt, g1.Fof, g1.F0, fun n y hy => ?_, fun n b cap hH => g1.own n b cap (by rw [Hp.set_ne _ _ (hn n hH).1]; exact (hn n hH).2), fun i j b c c' h1 h2 => g1.inj i j b c c' (by rw [Hp.set_ne _ _ (hn i h1).1]; exact (hn i h1).2) (by rw [Hp.set_ne _ _ (hn j h2).1]; exact (hn j h2).2), g1.nx, g1.nm, g1.io⟩⟩
      · simp only [lk_fzT]
        have ht := h.tm t
        cases hl : lk st.tm t with
        | one c => rw [hl] at ht; simp only [D.fz]; rw [RV] at ht ⊢; exact hC c _ ht
        | agg cs => rw [hl] at ht; simp only [D.fz]; rw [RV] at ht ⊢; obtain ⟨xs, e1, e2⟩ := ht; exact ⟨xs, e1, hCs e2⟩
        | tup ds => rw [hl] at ht; exact ht.keep g2 (Nms.le_refl _)
        | top => simp only [D.fz]; rw [RV]; trivial
      · simp only at hy
        split at hy
        · cases hy
        · rename_i e
          cases hz : st.H n with
          | none => rw [hz] at hy; cases hy
          | some z =>
            rw [hz] at hy
            simp only [Option.map_some, Option.some.injEq] at hy
            subst hy
            obtain ⟨b, cap, p1, p2, p3, p4⟩ := h.heap.blk n z hz
            refine ⟨b, cap, p1, by simpa using p2, fun e he => ?_, fun hc => ?_⟩
            · obtain ⟨e', he', rfl⟩ := List.mem_map.1 he
              rw [List.length_map]; exact p3 e' he'
            · obtain ⟨arr, r1, r2, r3, r4⟩ := p4 hc
              refine ⟨arr, r1, r2, r3, fun i j c hj => ?_⟩
              have : ∃ c', nth2 z.es i j = some c' ∧ c = c'.fz m x := by
                unfold nth2 at hj ⊢
                simp only [List.getElem?_map] at hj
                cases hi : z.es[i]? with
                | none => simp [hi] at hj
                | some e =>
                  simp only [hi, Option.map_some, Option.bind_some, List.getElem?_map] at hj ⊢
                  cases hq : e[j]? with
                  | none => simp [hq] at hj
                  | some c' =>
                    simp only [hq, Option.map_some, Option.some.injEq] at hj
                    exact ⟨c', rfl, hj.symm⟩
              obtain ⟨c', h1, rfl⟩ := this
              obtain ⟨v, k1, k2⟩ := r4 i j c' h1
              exact ⟨v, k1, hC c' v k2⟩
    · exact ⟨F, ι, h⟩
  · exact ⟨F, ι, h⟩
@[simp] theorem take_map_len {α β : Type} (g : α → β) (l : List α) : (l.map g).take l.length = l.map g := by rw [List.take_of_length_le (by simp)]
/-! ### A loop whose heap changes, told by what changes -/
@[simp] theorem Hp.set_set (H : Hp) (n : Nat) (a b : Option Blk) : (H.set n a).set n b = H.set n b := by
  funext m
  unfold Hp.set
  by_cases h : m = n
  · rw [if_pos h, if_pos h]
  · rw [if_neg h, if_neg h, if_neg h]
theorem loopH_ok {P : Program} {pl : Pls} {n0 : Nat} {ks : List Nat} {n : Nat} {tm : List (Nat × D)} {H : Hp} {nx : Nat} {K : Exit → St → Prop} {α : Type} {c : Code} (u : α → List (Nat × D)) (g : Hp → α → Hp) (nn : α → Nat) (m : α → Nat) (x0 : α) (hx : P.follows .mixedOrders = true) (hp : plsOk pl n0 c = true)
    (h0 : Wk ⟨n, tm, H, nx⟩ ⟨n, puts tm (u x0), g H x0, nn x0⟩) (round : ∀ x, vc P pl n0 ks c (loopK (fun x => ⟨n, puts tm (u x), g H x, nn x⟩) m x K) ⟨n, puts tm (u x), g H x, nn x⟩) : Ev P (.loop c) K ⟨n, tm, H, nx⟩ :=
  ev_loop (fun x => ⟨n, puts tm (u x), g H x, nn x⟩) m x0 h0 fun x => vc_ok hx hp (round x)
theorem Wk.subH {n nx : Nat} {tm tm' : List (Nat × D)} {H H' : Hp} (h : keepT tm (tm'.map (·.1)) = tm') (hH : H = H') : Wk ⟨n, tm, H, nx⟩ ⟨n, tm', H', nx⟩ := by subst hH; exact Wk.sub h
end Go.Proofs.YtalippdhfkpbmaaDoor
/- Package code: the walk through a function's orders: come. -/
namespace Go.Proofs.YtalippdhfkpbmaaDoor
open Go.RowKit Go
def eRow (l : List GTry) : List Dt := [.sl true (l.map eTry)]
/-- how a walk lies -/
structure WH (f : GFn) (H : Hp) (nx nw ns no nt : Nat) (q : Wlk) : Prop where
  w : H nw = some ⟨.c 98, 9, [[.d (eI f.params), .d (eI f.regs), .d (eB f.gen), .d (.sl true (f.caught.map eInt)), .d (.sl true (f.code.map eIns)), .own ns 1 f.code.length, .own no 1 f.code.length, .own nt 1 q.todo.length, .d (eB q.bad)]]⟩
  s : H ns = some ⟨.c 4, 1, q.seen.map fun b => [.d (eB b)]⟩
  o : H no = some ⟨.c 49, 1, q.out.map fun l => [.d (.sl true (l.map eTry))]⟩
  t : ∃ junk, H nt = some ⟨.c 3, 1, (q.todo.map fun n => [.d (eI n)]) ++ junk⟩
  d1 : nw ≠ ns
  d2 : nw ≠ no
  d3 : nw ≠ nt
  d4 : ns ≠ no
  d5 : ns ≠ nt
  d6 : no ≠ nt
  lw : nw < nx
  ls : ns < nx
  lo : no < nx
  lt : nt < nx
  sol : HSol H
  ks : q.seen.length = f.code.length
  ko : q.out.length = f.code.length
theorem HSol.set {H : Hp} {n : Nat} {b : Blk} (h : HSol H) (hb : ∀ e ∈ b.es, ∀ c ∈ e, C.solidC c = true) : HSol (H.set n (some b)) := fun m x hx => by
  by_cases e : m = n
  · subst e; simp at hx; subst hx; exact hb
  · rw [Hp.set_ne _ _ e] at hx; exact h m x hx
theorem HSol.none {H : Hp} {n : Nat} (h : HSol H) : HSol (H.set n Option.none) := fun m x hx => by
  by_cases e : m = n
  · subst e; simp at hx
  · rw [Hp.set_ne _ _ e] at hx; exact h m x hx
theorem solMap {α : Type} (l : List α) (g : α → C) (h : ∀ x, (g x).solidC = true) : ∀ e ∈ l.map (fun x => [g x]), ∀ c ∈ e, C.solidC c = true := fun e he c hc => by
  obtain ⟨x, -, rfl⟩ := List.mem_map.1 he
  obtain rfl := List.mem_singleton.1 hc
  exact h x
set_option maxRecDepth 100000 in
set_option maxHeartbeats 1000000 in
theorem come_ok {f : GFn} {H : Hp} {nx nw ns no nt : Nat} {q : Wlk} (hH : WH f H nx nw ns no nt q) (at_ : Int) (h0 : 0 ≤ at_) (l : List GTry) (ht : q.todo.length < 100000000000) {K : D → Hp → Nat → Prop}
    (h : ∀ H' nx' nt', WH f H' nx' nw ns no nt' (comeQ f q at_ l) → nx ≤ nx' → (∀ m, m < nx → m ≠ nw → m ≠ ns → m ≠ no → m ≠ nt → H' m = H m) → K (.tup []) H' nx') : ICall Tryd.prog 66 [.one (.ptr nw 9 0 0), dI at_, dL true (l.map eTry)] H nx K := by
  refine fni_ok [0,1,2,6,23,55] [(3, [0,1,3,7,0,0,32,96,224,0,0,511,2559,8191,16383], (.seg 0 (.seg 1 (.seg 2 (.seg 3 (.seg 4 (.seg 5 (.seg 6 (.seg 7 (.seg 8 (.seg 9 (.seg 10 (.seg 11 (.eff 12 [] (.seg 13 (.eff 14 [] .last))))))))))))))))] Tryd.func66 rfl (by kernel_rfl) rfl rfl rfl rfl (by kernel_rfl) ?_
  have hw := hH.w
  have hs := hH.s
  have ho := hH.o
  obtain ⟨junk, hj⟩ := hH.t
  obtain ⟨-, -, -, -, d1, d2, d3, d4, d5, d6, lw, ls, lo, lt, sol, ks, ko⟩ := hH
  have bad : comeQ f q at_ l = { q with bad := true } → HSol (H.set nw (some ⟨.c 98, 9, [[.d (eI f.params), .d (eI f.regs), .d (eB f.gen), .d (.sl true (f.caught.map eInt)), .d (.sl true (f.code.map eIns)), .own ns 1 f.code.length, .own no 1 f.code.length, .own nt 1 q.todo.length, .d (eB true)]]⟩)) ∧
      K (.tup []) (H.set nw (some ⟨.c 98, 9, [[.d (eI f.params), .d (eI f.regs), .d (eB f.gen), .d (.sl true (f.caught.map eInt)), .d (.sl true (f.code.map eIns)), .own ns 1 f.code.length, .own no 1 f.code.length, .own nt 1 q.todo.length, .d (eB true)]]⟩)) nx := fun e => by
    have hsol := HSol.set (n := nw) (b := ⟨.c 98, 9, [[.d (eI f.params), .d (eI f.regs), .d (eB f.gen), .d (.sl true (f.caught.map eInt)), .d (.sl true (f.code.map eIns)), .own ns 1 f.code.length, .own no 1 f.code.length, .own nt 1 q.todo.length, .d (eB true)]]⟩) sol (by simp)
    refine ⟨hsol, h _ _ nt ?_ (Nat.le_refl _) (fun m _ hm _ _ _ => Hp.set_ne _ _ hm)⟩
    rw [e]
    exact ⟨by simp, by rw [Hp.set_ne _ _ d1.symm]; exact hs, by rw [Hp.set_ne _ _ d2.symm]; exact ho, ⟨junk, by rw [Hp.set_ne _ _ d3.symm]; exact hj⟩, d1, d2, d3, d4, d5, d6, lw, ls, lo, lt, hsol, ks, ko⟩
  simp [hw]
  intro hl
  refine alt (fun h1 => ?_) (fun h1 => bad (by rw [comeQ, if_pos (.inl (by omega))]))
  intro hl2
  refine alt (fun h2 => bad (by rw [comeQ, if_pos (.inr (by omega))])) (fun h2 => ?_)
  have hlt : at_.toNat < f.code.length := by omega
  have g1 : at_.toNat < q.seen.length := by omega
  have g2 : at_.toNat < q.out.length := by omega
  simp [h0, hlt, hs, ho, hj, List.getElem?_eq_getElem g1, List.getElem?_eq_getElem g2]
  refine alt (fun h3 => ?_) (fun h3 => ?_)
  · refine equalT_ok true true _ _ ?_
    simp [hw]
    have e0 : comeQ f q at_ l = if q.out[at_.toNat] = l then q else { q with bad := true } := by
      rw [comeQ, if_neg (by omega), if_neg (by simp [List.getD, List.getElem?_eq_getElem g1, h3])]
      simp [List.getD, List.getElem?_eq_getElem g2]
    refine alt (fun h4 => ⟨sol, h _ _ nt ?_ (Nat.le_refl _) (fun _ _ _ _ _ _ => rfl)⟩) (fun h4 => bad (by rw [e0, if_neg h4]))
    rw [e0, if_pos h4]
    exact ⟨hw, hs, ho, ⟨junk, hj⟩, d1, d2, d3, d4, d5, d6, lw, ls, lo, lt, sol, ks, ko⟩
  · simp [d1, d2, d3, d4, d5, d6, d1.symm, d2.symm, d3.symm, d4.symm, d5.symm, d6.symm, hj, hw, g2, List.getElem?_eq_getElem g2, show nt ≠ nx by omega, show nw ≠ nx by omega, show ns ≠ nx by omega, show no ≠ nx by omega, show nx ≠ nt by omega, show nx ≠ nw by omega, show nx ≠ ns by omega, show nx ≠ no by omega, show nw ≠ nx + 1 by omega]
    refine ⟨?_, by omega, ?_⟩
    · rintro m b rfl
      simp [d5.symm, d6.symm, hj, show nt ≠ nx by omega]
      rintro rfl; simp
    have es1 : (q.seen.map fun b => [C.d (eB b)]).set at_.toNat [C.d (Dt.lit (Value.bool true))] = (q.seen.set at_.toNat true).map fun b => [C.d (eB b)] := by rw [List.map_set]
    have es2 : (q.out.map fun l => [C.d (Dt.sl true (l.map eTry))]).set at_.toNat [C.d (Dt.sl true (l.map eTry))] = (q.out.set at_.toNat l).map fun l => [C.d (Dt.sl true (l.map eTry))] := by rw [List.map_set]
    have es3 : (q.todo.map fun n => [C.d (eI n)]) ++ [[C.d (eI at_)]] = (q.todo ++ [at_]).map fun n => [C.d (eI n)] := by simp
    rw [es1, es2, es3]
    have hc : comeQ f q at_ l = { q with seen := q.seen.set at_.toNat true, out := q.out.set at_.toNat l, todo := q.todo ++ [at_] } := by
      rw [comeQ, if_neg (by omega), if_pos (by simpa [List.getD, List.getElem?_eq_getElem g1] using h3)]
    have hsol := HSol.set (n := nw) (b := ⟨.c 98, 9, [[.d (eI f.params), .d (eI f.regs), .d (eB f.gen), .d (.sl true (f.caught.map eInt)), .d (.sl true (f.code.map eIns)), .own ns 1 f.code.length, .own no 1 f.code.length, .own (nx + 1) 1 (q.todo.length + 1), .d (eB q.bad)]]⟩)
      (HSol.set (n := nx + 1) (b := ⟨.c 3, 1, (q.todo ++ [at_]).map fun n => [C.d (eI n)]⟩) (HSol.none (n := nt) (HSol.set (n := nx) (b := ⟨.c 3, 1, [[C.d (eI at_)]]⟩) (HSol.set (n := no) (b := ⟨.c 49, 1, (q.out.set at_.toNat l).map fun l => [C.d (Dt.sl true (l.map eTry))]⟩)
        (HSol.set (n := ns) (b := ⟨.c 4, 1, (q.seen.set at_.toNat true).map fun b => [C.d (eB b)]⟩) sol (solMap _ _ fun _ => rfl)) (solMap _ _ fun _ => rfl)) (by simp))) (solMap _ _ fun _ => rfl)) (by simp)
    refine ⟨hsol, h _ _ (nx + 1) ?_ (by omega) (fun m m1 m2 m3 m4 m5 => by simp only [Hp.set]; simp [m2, m3, m4, m5, show m ≠ nx by omega, show m ≠ nx + 1 by omega])⟩
    rw [hc]
    have q1 : ns ≠ nx + 1 := by omega
    have q2 : no ≠ nx + 1 := by omega
    have q3 : nw ≠ nx + 1 := by omega
    have q4 : ns ≠ nx := by omega
    have q5 : no ≠ nx := by omega
    refine ⟨by simp, ?_, ?_, ⟨[], ?_⟩, d1, d2, q3, d4, q1, q2, by omega, by omega, by omega, by omega, hsol, by simpa using ks, by simpa using ko⟩
    · simp only [Hp.set]; simp [d1.symm, q1, d5, q4, d4]
    · simp only [Hp.set]; simp [d2.symm, q2, d6, q5]
    · simp only [Hp.set]; simp [q3.symm]
end Go.Proofs.YtalippdhfkpbmaaDoor
/- Package code: the walk through a function's orders: from. -/
namespace Go.Proofs.YtalippdhfkpbmaaDoor
open Go.RowKit Go
theorem HSol.set' {H : Hp} {n : Nat} {b : Blk} (h : HSol H) (hb : ∀ e ∈ b.es, ∀ c ∈ e, C.solidC c = true) : HSol (H.set n (some b)) := h.set hb
theorem WH.new {f : GFn} {H : Hp} {nx nw ns no nt : Nat} {q : Wlk} (h : WH f H nx nw ns no nt q) (b : Blk) (hb : ∀ e ∈ b.es, ∀ c ∈ e, C.solidC c = true) : WH f (H.set nx (some b)) (nx + 1) nw ns no nt q := by
  have lw := h.lw
  have ls := h.ls
  have lo := h.lo
  have lt := h.lt
  obtain ⟨junk, hj⟩ := h.t
  exact ⟨by rw [Hp.set_ne _ _ (by omega)]; exact h.w, by rw [Hp.set_ne _ _ (by omega)]; exact h.s, by rw [Hp.set_ne _ _ (by omega)]; exact h.o, ⟨junk, by rw [Hp.set_ne _ _ (by omega)]; exact hj⟩, h.d1, h.d2, h.d3, h.d4, h.d5, h.d6, by omega, by omega, by omega, by omega, h.sol.set hb, h.ks, h.ko⟩
theorem WH.ext {f : GFn} {H H2 : Hp} {nx nx2 nw ns no nt : Nat} {q : Wlk} (h : WH f H nx nw ns no nt q) (hs : HSol H2) (he : ∀ m, m < nx → H2 m = H m) (hle : nx ≤ nx2) : WH f H2 nx2 nw ns no nt q := by
  have lw := h.lw
  have ls := h.ls
  have lo := h.lo
  have lt := h.lt
  obtain ⟨junk, hj⟩ := h.t
  exact ⟨by rw [he _ lw]; exact h.w, by rw [he _ ls]; exact h.s, by rw [he _ lo]; exact h.o, ⟨junk, by rw [he _ lt]; exact hj⟩, h.d1, h.d2, h.d3, h.d4, h.d5, h.d6, by omega, by omega, by omega, by omega, hs, h.ks, h.ko⟩
theorem more_tries (l : List GTry) (a b : Int) : (((l.map ((fun e => e.map C.d) ∘ eTry) ++ [[C.d (eI a), C.d (eI b)]]).take (l.length + 1)).map fun e => e.map C.dt) = (l ++ [(⟨a, b⟩ : GTry)]).map eTry := by
  rw [List.take_of_length_le (by simp)]
  simp [Function.comp_def]
abbrev walkB (f : GFn) (ns no nt : Nat) (q : Wlk) (b : Bool) : Blk := ⟨.c 98, 9, [[.d (eI f.params), .d (eI f.regs), .d (eB f.gen), .d (.sl true (f.caught.map eInt)), .d (.sl true (f.code.map eIns)), .own ns 1 f.code.length, .own no 1 f.code.length, .own nt 1 q.todo.length, .d (eB b)]]⟩
theorem WH.setBad {f : GFn} {H : Hp} {nx nw ns no nt : Nat} {q : Wlk} (h : WH f H nx nw ns no nt q) : WH f (H.set nw (some (walkB f ns no nt q true))) nx nw ns no nt { q with bad := true } := by
  obtain ⟨junk, hj⟩ := h.t
  exact ⟨by simp, by rw [Hp.set_ne _ _ h.d1.symm]; exact h.s, by rw [Hp.set_ne _ _ h.d2.symm]; exact h.o, ⟨junk, by rw [Hp.set_ne _ _ h.d3.symm]; exact hj⟩, h.d1, h.d2, h.d3, h.d4, h.d5, h.d6, h.lw, h.ls, h.lo, h.lt, h.sol.set (by simp), h.ks, h.ko⟩
set_option maxRecDepth 100000 in
set_option maxHeartbeats 1000000 in
theorem from_ret28 {f : GFn} {H : Hp} {nx nw ns no nt : Nat} {q : Wlk} (hH : WH f H nx nw ns no nt q) (k : Nat) (hk : k < f.code.length) (hk2 : f.code.length ≤ 1000) {op a b c line : Int} (hI : f.code[k] = ⟨op, a, b, c, line⟩) (hg : goesOk ⟨op, a, b, c, line⟩) {l : List GTry} (hko : k < q.out.length) (hL : q.out[k] = l) (h20 : l.length ≤ 20) (ht : q.todo.length + 1 < 100000000000) (e : op = 28) {K : D → Hp → Nat → Prop}
    (h : ∀ H' nx' nt', WH f H' nx' nw ns no nt' (fromQ f q k ⟨op, a, b, c, line⟩ l) → nx ≤ nx' → K (.tup []) H' nx') : ICall Tryd.prog 67 [.one (.ptr nw 9 0 0), dI k] H nx K := by
  refine fni_ok [0,1,4,5,22,23,26,34,41,57,61] [(0, [0,1,3,7,15,0,63,127,0,256,768,1792,0,7936,16128,0,33023,131071], (.seg 0 (.seg 1 (.seg 2 (.seg 3 (.seg 4 (.seg 5 (.seg 6 (.seg 7 (.seg 8 (.seg 9 (.seg 10 (.seg 11 (.seg 12 (.seg 13 (.seg 14 (.eff 15 [1, 2, 3, 4, 6, 7, 9, 10, 11, 13, 14] (.eff 16 [9, 10, 11, 13, 14] (.seg 17 .last))))))))))))))))))), (11, [0,1,0,4,0,16,60,124,255,511], (.seg 0 (.seg 2 (.seg 3 (.seg 4 (.seg 5 (.seg 6 (.fork 1 [2, 3, 4, 5, 6] (.eff 7 [3, 5] (.eff 8 [] (.seg 9 .last))) (.eff 7 [3, 5] (.eff 1 [2, 3, 4, 5, 6] (.eff 8 [] (.seg 9 .last))))))))))))] Tryd.func67 rfl (by kernel_rfl) rfl rfl rfl rfl (by kernel_rfl) ?_
  have hw := hH.w
  have ho := hH.o
  have lw := hH.lw
  have lo := hH.lo
  have hN := hH.new ⟨.c 43, 5, [[.d (eI op), .d (eI a), .d (eI b), .d (eI c), .d (eI line)]]⟩ (by simp)
  have hwr := wrap_add (show k < 9223372036854775807 by omega)
  subst e
  simp [hw, ho, hk, List.getElem?_eq_getElem hk, List.getElem?_eq_getElem hko, hL, hI, hwr ]
  exact ⟨hN.sol, h _ _ nt (by simpa [fromQ] using hN) (by omega)⟩
set_option maxRecDepth 100000 in
set_option maxHeartbeats 1000000 in
theorem from_ret29 {f : GFn} {H : Hp} {nx nw ns no nt : Nat} {q : Wlk} (hH : WH f H nx nw ns no nt q) (k : Nat) (hk : k < f.code.length) (hk2 : f.code.length ≤ 1000) {op a b c line : Int} (hI : f.code[k] = ⟨op, a, b, c, line⟩) (hg : goesOk ⟨op, a, b, c, line⟩) {l : List GTry} (hko : k < q.out.length) (hL : q.out[k] = l) (h20 : l.length ≤ 20) (ht : q.todo.length + 1 < 100000000000) (e : op = 29) {K : D → Hp → Nat → Prop}
    (h : ∀ H' nx' nt', WH f H' nx' nw ns no nt' (fromQ f q k ⟨op, a, b, c, line⟩ l) → nx ≤ nx' → K (.tup []) H' nx') : ICall Tryd.prog 67 [.one (.ptr nw 9 0 0), dI k] H nx K := by
  refine fni_ok [0,1,4,5,22,23,26,34,41,57,61] [(0, [0,1,3,7,15,0,63,127,0,256,768,1792,0,7936,16128,0,33023,131071], (.seg 0 (.seg 1 (.seg 2 (.seg 3 (.seg 4 (.seg 5 (.seg 6 (.seg 7 (.seg 8 (.seg 9 (.seg 10 (.seg 11 (.seg 12 (.seg 13 (.seg 14 (.eff 15 [1, 2, 3, 4, 6, 7, 9, 10, 11, 13, 14] (.eff 16 [9, 10, 11, 13, 14] (.seg 17 .last))))))))))))))))))), (11, [0,1,0,4,0,16,60,124,255,511], (.seg 0 (.seg 2 (.seg 3 (.seg 4 (.seg 5 (.seg 6 (.fork 1 [2, 3, 4, 5, 6] (.eff 7 [3, 5] (.eff 8 [] (.seg 9 .last))) (.eff 7 [3, 5] (.eff 1 [2, 3, 4, 5, 6] (.eff 8 [] (.seg 9 .last))))))))))))] Tryd.func67 rfl (by kernel_rfl) rfl rfl rfl rfl (by kernel_rfl) ?_
  have hw := hH.w
  have ho := hH.o
  have lw := hH.lw
  have lo := hH.lo
  have hN := hH.new ⟨.c 43, 5, [[.d (eI op), .d (eI a), .d (eI b), .d (eI c), .d (eI line)]]⟩ (by simp)
  have hwr := wrap_add (show k < 9223372036854775807 by omega)
  subst e
  simp [hw, ho, hk, List.getElem?_eq_getElem hk, List.getElem?_eq_getElem hko, hL, hI, hwr ]
  exact ⟨hN.sol, h _ _ nt (by simpa [fromQ] using hN) (by omega)⟩
set_option maxRecDepth 100000 in
set_option maxHeartbeats 1000000 in
theorem from_jump13 {f : GFn} {H : Hp} {nx nw ns no nt : Nat} {q : Wlk} (hH : WH f H nx nw ns no nt q) (k : Nat) (hk : k < f.code.length) (hk2 : f.code.length ≤ 1000) {op a b c line : Int} (hI : f.code[k] = ⟨op, a, b, c, line⟩) (hg : goesOk ⟨op, a, b, c, line⟩) {l : List GTry} (hko : k < q.out.length) (hL : q.out[k] = l) (h20 : l.length ≤ 20) (ht : q.todo.length + 1 < 100000000000) (e : op = 13) {K : D → Hp → Nat → Prop}
    (h : ∀ H' nx' nt', WH f H' nx' nw ns no nt' (fromQ f q k ⟨op, a, b, c, line⟩ l) → nx ≤ nx' → K (.tup []) H' nx') : ICall Tryd.prog 67 [.one (.ptr nw 9 0 0), dI k] H nx K := by
  refine fni_ok [0,1,4,5,22,23,26,34,41,57,61] [(0, [0,1,3,7,15,0,63,127,0,256,768,1792,0,7936,16128,0,33023,131071], (.seg 0 (.seg 1 (.seg 2 (.seg 3 (.seg 4 (.seg 5 (.seg 6 (.seg 7 (.seg 8 (.seg 9 (.seg 10 (.seg 11 (.seg 12 (.seg 13 (.seg 14 (.eff 15 [1, 2, 3, 4, 6, 7, 9, 10, 11, 13, 14] (.eff 16 [9, 10, 11, 13, 14] (.seg 17 .last))))))))))))))))))), (11, [0,1,0,4,0,16,60,124,255,511], (.seg 0 (.seg 2 (.seg 3 (.seg 4 (.seg 5 (.seg 6 (.fork 1 [2, 3, 4, 5, 6] (.eff 7 [3, 5] (.eff 8 [] (.seg 9 .last))) (.eff 7 [3, 5] (.eff 1 [2, 3, 4, 5, 6] (.eff 8 [] (.seg 9 .last))))))))))))] Tryd.func67 rfl (by kernel_rfl) rfl rfl rfl rfl (by kernel_rfl) ?_
  have hw := hH.w
  have ho := hH.o
  have lw := hH.lw
  have lo := hH.lo
  have hN := hH.new ⟨.c 43, 5, [[.d (eI op), .d (eI a), .d (eI b), .d (eI c), .d (eI line)]]⟩ (by simp)
  have hwr := wrap_add (show k < 9223372036854775807 by omega)
  subst e
  simp [hw, ho, hk, List.getElem?_eq_getElem hk, List.getElem?_eq_getElem hko, hL, hI, hwr ]
  refine come_ok hN a (hg.1 (.inl rfl)) l (by omega) fun H' nx' nt' hW hle hfr => ?_; simp; exact ⟨hW.sol, h _ _ nt' (by simpa [fromQ] using hW) (by omega)⟩
set_option maxRecDepth 100000 in
set_option maxHeartbeats 1000000 in
theorem from_jump14 {f : GFn} {H : Hp} {nx nw ns no nt : Nat} {q : Wlk} (hH : WH f H nx nw ns no nt q) (k : Nat) (hk : k < f.code.length) (hk2 : f.code.length ≤ 1000) {op a b c line : Int} (hI : f.code[k] = ⟨op, a, b, c, line⟩) (hg : goesOk ⟨op, a, b, c, line⟩) {l : List GTry} (hko : k < q.out.length) (hL : q.out[k] = l) (h20 : l.length ≤ 20) (ht : q.todo.length + 1 < 100000000000) (e : op = 14) {K : D → Hp → Nat → Prop}
    (h : ∀ H' nx' nt', WH f H' nx' nw ns no nt' (fromQ f q k ⟨op, a, b, c, line⟩ l) → nx ≤ nx' → K (.tup []) H' nx') : ICall Tryd.prog 67 [.one (.ptr nw 9 0 0), dI k] H nx K := by
  refine fni_ok [0,1,4,5,22,23,26,34,41,57,61] [(0, [0,1,3,7,15,0,63,127,0,256,768,1792,0,7936,16128,0,33023,131071], (.seg 0 (.seg 1 (.seg 2 (.seg 3 (.seg 4 (.seg 5 (.seg 6 (.seg 7 (.seg 8 (.seg 9 (.seg 10 (.seg 11 (.seg 12 (.seg 13 (.seg 14 (.eff 15 [1, 2, 3, 4, 6, 7, 9, 10, 11, 13, 14] (.eff 16 [9, 10, 11, 13, 14] (.seg 17 .last))))))))))))))))))), (11, [0,1,0,4,0,16,60,124,255,511], (.seg 0 (.seg 2 (.seg 3 (.seg 4 (.seg 5 (.seg 6 (.fork 1 [2, 3, 4, 5, 6] (.eff 7 [3, 5] (.eff 8 [] (.seg 9 .last))) (.eff 7 [3, 5] (.eff 1 [2, 3, 4, 5, 6] (.eff 8 [] (.seg 9 .last))))))))))))] Tryd.func67 rfl (by kernel_rfl) rfl rfl rfl rfl (by kernel_rfl) ?_
  have hw := hH.w
  have ho := hH.o
  have lw := hH.lw
  have lo := hH.lo
  have hN := hH.new ⟨.c 43, 5, [[.d (eI op), .d (eI a), .d (eI b), .d (eI c), .d (eI line)]]⟩ (by simp)
  have hwr := wrap_add (show k < 9223372036854775807 by omega)
  subst e
  simp [hw, ho, hk, List.getElem?_eq_getElem hk, List.getElem?_eq_getElem hko, hL, hI, hwr ]
  refine come_ok hN a (hg.1 (.inr rfl)) l (by omega) fun H' nx' nt' hW hle hfr => ?_; simp; exact ⟨hW.sol, h _ _ nt' (by simpa [fromQ] using hW) (by omega)⟩
set_option maxRecDepth 100000 in
set_option maxHeartbeats 1000000 in
theorem from_test {f : GFn} {H : Hp} {nx nw ns no nt : Nat} {q : Wlk} (hH : WH f H nx nw ns no nt q) (k : Nat) (hk : k < f.code.length) (hk2 : f.code.length ≤ 1000) {op a b c line : Int} (hI : f.code[k] = ⟨op, a, b, c, line⟩) (hg : goesOk ⟨op, a, b, c, line⟩) {l : List GTry} (hko : k < q.out.length) (hL : q.out[k] = l) (h20 : l.length ≤ 20) (ht : q.todo.length + 1 < 100000000000) (e : op = 15) {K : D → Hp → Nat → Prop}
    (h : ∀ H' nx' nt', WH f H' nx' nw ns no nt' (fromQ f q k ⟨op, a, b, c, line⟩ l) → nx ≤ nx' → K (.tup []) H' nx') : ICall Tryd.prog 67 [.one (.ptr nw 9 0 0), dI k] H nx K := by
  refine fni_ok [0,1,4,5,22,23,26,34,41,57,61] [(0, [0,1,3,7,15,0,63,127,0,256,768,1792,0,7936,16128,0,33023,131071], (.seg 0 (.seg 1 (.seg 2 (.seg 3 (.seg 4 (.seg 5 (.seg 6 (.seg 7 (.seg 8 (.seg 9 (.seg 10 (.seg 11 (.seg 12 (.seg 13 (.seg 14 (.eff 15 [1, 2, 3, 4, 6, 7, 9, 10, 11, 13, 14] (.eff 16 [9, 10, 11, 13, 14] (.seg 17 .last))))))))))))))))))), (11, [0,1,0,4,0,16,60,124,255,511], (.seg 0 (.seg 2 (.seg 3 (.seg 4 (.seg 5 (.seg 6 (.fork 1 [2, 3, 4, 5, 6] (.eff 7 [3, 5] (.eff 8 [] (.seg 9 .last))) (.eff 7 [3, 5] (.eff 1 [2, 3, 4, 5, 6] (.eff 8 [] (.seg 9 .last))))))))))))] Tryd.func67 rfl (by kernel_rfl) rfl rfl rfl rfl (by kernel_rfl) ?_
  have hw := hH.w
  have ho := hH.o
  have lw := hH.lw
  have lo := hH.lo
  have hN := hH.new ⟨.c 43, 5, [[.d (eI op), .d (eI a), .d (eI b), .d (eI c), .d (eI line)]]⟩ (by simp)
  have hwr := wrap_add (show k < 9223372036854775807 by omega)
  subst e
  simp [hw, ho, hk, List.getElem?_eq_getElem hk, List.getElem?_eq_getElem hko, hL, hI, hwr ]
  refine come_ok hN b (hg.2 (.inl rfl)) l (by omega) fun H' nx' nt' hW hle hfr => ?_; simp [hwr]; refine come_ok hW _ (by omega) l (by have := comeQ_todo f q b l; omega) fun H2 nx2 nt2 hW2 hle2 _ => ?_; simp; exact ⟨hW2.sol, h _ _ nt2 (by simpa [fromQ] using hW2) (by omega)⟩
set_option maxRecDepth 100000 in
set_option maxHeartbeats 1000000 in
theorem from_else {f : GFn} {H : Hp} {nx nw ns no nt : Nat} {q : Wlk} (hH : WH f H nx nw ns no nt q) (k : Nat) (hk : k < f.code.length) (hk2 : f.code.length ≤ 1000) {op a b c line : Int} (hI : f.code[k] = ⟨op, a, b, c, line⟩) (hg : goesOk ⟨op, a, b, c, line⟩) {l : List GTry} (hko : k < q.out.length) (hL : q.out[k] = l) (h20 : l.length ≤ 20) (ht : q.todo.length + 1 < 100000000000) (e1 : op ≠ 28) (e2 : op ≠ 29) (e3 : op ≠ 13) (e4 : op ≠ 14) (e5 : op ≠ 15) (e6 : op ≠ 30) (e7 : op ≠ 31) {K : D → Hp → Nat → Prop}
    (h : ∀ H' nx' nt', WH f H' nx' nw ns no nt' (fromQ f q k ⟨op, a, b, c, line⟩ l) → nx ≤ nx' → K (.tup []) H' nx') : ICall Tryd.prog 67 [.one (.ptr nw 9 0 0), dI k] H nx K := by
  refine fni_ok [0,1,4,5,22,23,26,34,41,57,61] [(0, [0,1,3,7,15,0,63,127,0,256,768,1792,0,7936,16128,0,33023,131071], (.seg 0 (.seg 1 (.seg 2 (.seg 3 (.seg 4 (.seg 5 (.seg 6 (.seg 7 (.seg 8 (.seg 9 (.seg 10 (.seg 11 (.seg 12 (.seg 13 (.seg 14 (.eff 15 [1, 2, 3, 4, 6, 7, 9, 10, 11, 13, 14] (.eff 16 [9, 10, 11, 13, 14] (.seg 17 .last))))))))))))))))))), (11, [0,1,0,4,0,16,60,124,255,511], (.seg 0 (.seg 2 (.seg 3 (.seg 4 (.seg 5 (.seg 6 (.fork 1 [2, 3, 4, 5, 6] (.eff 7 [3, 5] (.eff 8 [] (.seg 9 .last))) (.eff 7 [3, 5] (.eff 1 [2, 3, 4, 5, 6] (.eff 8 [] (.seg 9 .last))))))))))))] Tryd.func67 rfl (by kernel_rfl) rfl rfl rfl rfl (by kernel_rfl) ?_
  have hw := hH.w
  have ho := hH.o
  have lw := hH.lw
  have lo := hH.lo
  have hN := hH.new ⟨.c 43, 5, [[.d (eI op), .d (eI a), .d (eI b), .d (eI c), .d (eI line)]]⟩ (by simp)
  have hwr := wrap_add (show k < 9223372036854775807 by omega)
  
  simp [hw, ho, hk, List.getElem?_eq_getElem hk, List.getElem?_eq_getElem hko, hL, hI, hwr , e1, e2, e3, e4, e5, e6, e7]
  refine come_ok hN _ (by omega) l (by omega) fun H' nx' nt' hW hle hfr => ?_; simp; exact ⟨hW.sol, h _ _ nt' (by simpa [fromQ, e1, e2, e3, e4, e5, e6, e7] using hW) (by omega)⟩
set_option maxRecDepth 100000 in
set_option maxHeartbeats 1000000 in
theorem from_end31a {f : GFn} {H : Hp} {nx nw ns no nt : Nat} {q : Wlk} (hH : WH f H nx nw ns no nt q) (k : Nat) (hk : k < f.code.length) (hk2 : f.code.length ≤ 1000) {op a b c line : Int} (hI : f.code[k] = ⟨op, a, b, c, line⟩) (hg : goesOk ⟨op, a, b, c, line⟩) {l : List GTry} (hko : k < q.out.length) (hL : q.out[k] = l) (h20 : l.length ≤ 20) (ht : q.todo.length + 1 < 100000000000) (e : op = 31) (e0 : l = []) {K : D → Hp → Nat → Prop}
    (h : ∀ H' nx' nt', WH f H' nx' nw ns no nt' (fromQ f q k ⟨op, a, b, c, line⟩ l) → nx ≤ nx' → K (.tup []) H' nx') : ICall Tryd.prog 67 [.one (.ptr nw 9 0 0), dI k] H nx K := by
  refine fni_ok [0,1,4,5,22,23,26,34,41,57,61] [(0, [0,1,3,7,15,0,63,127,0,256,768,1792,0,7936,16128,0,33023,131071], (.seg 0 (.seg 1 (.seg 2 (.seg 3 (.seg 4 (.seg 5 (.seg 6 (.seg 7 (.seg 8 (.seg 9 (.seg 10 (.seg 11 (.seg 12 (.seg 13 (.seg 14 (.eff 15 [1, 2, 3, 4, 6, 7, 9, 10, 11, 13, 14] (.eff 16 [9, 10, 11, 13, 14] (.seg 17 .last))))))))))))))))))), (11, [0,1,0,4,0,16,60,124,255,511], (.seg 0 (.seg 2 (.seg 3 (.seg 4 (.seg 5 (.seg 6 (.fork 1 [2, 3, 4, 5, 6] (.eff 7 [3, 5] (.eff 8 [] (.seg 9 .last))) (.eff 7 [3, 5] (.eff 1 [2, 3, 4, 5, 6] (.eff 8 [] (.seg 9 .last))))))))))))] Tryd.func67 rfl (by kernel_rfl) rfl rfl rfl rfl (by kernel_rfl) ?_
  have hw := hH.w
  have ho := hH.o
  have lw := hH.lw
  have lo := hH.lo
  have hN := hH.new ⟨.c 43, 5, [[.d (eI op), .d (eI a), .d (eI b), .d (eI c), .d (eI line)]]⟩ (by simp)
  have hwr := wrap_add (show k < 9223372036854775807 by omega)
  subst e e0
  simp [hw, ho, hk, List.getElem?_eq_getElem hk, List.getElem?_eq_getElem hko, hL, hI, hwr , show nw ≠ nx by omega]
  exact ⟨hN.setBad.sol, h _ _ nt (by simpa [fromQ] using hN.setBad) (by omega)⟩
set_option maxRecDepth 100000 in
set_option maxHeartbeats 1000000 in
theorem from_end31b {f : GFn} {H : Hp} {nx nw ns no nt : Nat} {q : Wlk} (hH : WH f H nx nw ns no nt q) (k : Nat) (hk : k < f.code.length) (hk2 : f.code.length ≤ 1000) {op a b c line : Int} (hI : f.code[k] = ⟨op, a, b, c, line⟩) (hg : goesOk ⟨op, a, b, c, line⟩) {l : List GTry} (hko : k < q.out.length) (hL : q.out[k] = l) (h20 : l.length ≤ 20) (ht : q.todo.length + 1 < 100000000000) (e : op = 31) (e0 : l ≠ []) {K : D → Hp → Nat → Prop}
    (h : ∀ H' nx' nt', WH f H' nx' nw ns no nt' (fromQ f q k ⟨op, a, b, c, line⟩ l) → nx ≤ nx' → K (.tup []) H' nx') : ICall Tryd.prog 67 [.one (.ptr nw 9 0 0), dI k] H nx K := by
  refine fni_ok [0,1,4,5,22,23,26,34,41,57,61] [(0, [0,1,3,7,15,0,63,127,0,256,768,1792,0,7936,16128,0,33023,131071], (.seg 0 (.seg 1 (.seg 2 (.seg 3 (.seg 4 (.seg 5 (.seg 6 (.seg 7 (.seg 8 (.seg 9 (.seg 10 (.seg 11 (.seg 12 (.seg 13 (.seg 14 (.eff 15 [1, 2, 3, 4, 6, 7, 9, 10, 11, 13, 14] (.eff 16 [9, 10, 11, 13, 14] (.seg 17 .last))))))))))))))))))), (11, [0,1,0,4,0,16,60,124,255,511], (.seg 0 (.seg 2 (.seg 3 (.seg 4 (.seg 5 (.seg 6 (.fork 1 [2, 3, 4, 5, 6] (.eff 7 [3, 5] (.eff 8 [] (.seg 9 .last))) (.eff 7 [3, 5] (.eff 1 [2, 3, 4, 5, 6] (.eff 8 [] (.seg 9 .last))))))))))))] Tryd.func67 rfl (by kernel_rfl) rfl rfl rfl rfl (by kernel_rfl) ?_
  have hw := hH.w
  have ho := hH.o
  have lw := hH.lw
  have lo := hH.lo
  have hN := hH.new ⟨.c 43, 5, [[.d (eI op), .d (eI a), .d (eI b), .d (eI c), .d (eI line)]]⟩ (by simp)
  have hwr := wrap_add (show k < 9223372036854775807 by omega)
  subst e; have hpos : 0 < l.length := List.length_pos_iff.2 e0; have hwl : IntKind.i64.wrap ((l.length : Int) - 1) = ((l.length - 1 : Nat) : Int) := by rw [wrap_id (by omega) (by omega)]; omega
  simp [hw, ho, hk, List.getElem?_eq_getElem hk, List.getElem?_eq_getElem hko, hL, hI, hwr , e0, hwl]
  intro _; rw [← List.map_take, ← List.dropLast_eq_take]; refine come_ok hN _ (by omega) l.dropLast (by omega) fun H' nx' nt' hW hle _ => ?_; simp; exact ⟨hW.sol, h _ _ nt' (by simpa [fromQ, e0] using hW) (by omega)⟩
set_option maxRecDepth 100000 in
set_option maxHeartbeats 1000000 in
theorem from_try30 {f : GFn} {H : Hp} {nx nw ns no nt : Nat} {q : Wlk} (hH : WH f H nx nw ns no nt q) (k : Nat) (hk : k < f.code.length) (hk2 : f.code.length ≤ 1000) {op a b c line : Int} (hI : f.code[k] = ⟨op, a, b, c, line⟩) (hg : goesOk ⟨op, a, b, c, line⟩) {l : List GTry} (hko : k < q.out.length) (hL : q.out[k] = l) (h20 : l.length ≤ 20) (ht : q.todo.length + 1 < 100000000000) (e : op = 30) {K : D → Hp → Nat → Prop}
    (h : ∀ H' nx' nt', WH f H' nx' nw ns no nt' (fromQ f q k ⟨op, a, b, c, line⟩ l) → nx ≤ nx' → K (.tup []) H' nx') : ICall Tryd.prog 67 [.one (.ptr nw 9 0 0), dI k] H nx K := by
  refine fni_ok [0,1,4,5,22,23,26,34,41,57,61] [(0, [0,1,3,7,15,0,63,127,0,256,768,1792,0,7936,16128,0,33023,131071], (.seg 0 (.seg 1 (.seg 2 (.seg 3 (.seg 4 (.seg 5 (.seg 6 (.seg 7 (.seg 8 (.seg 9 (.seg 10 (.seg 11 (.seg 12 (.seg 13 (.seg 14 (.eff 15 [1, 2, 3, 4, 6, 7, 9, 10, 11, 13, 14] (.eff 16 [9, 10, 11, 13, 14] (.seg 17 .last))))))))))))))))))), (11, [0,1,0,4,0,16,60,124,255,511], (.seg 0 (.seg 2 (.seg 3 (.seg 4 (.seg 5 (.seg 6 (.fork 1 [2, 3, 4, 5, 6] (.eff 7 [3, 5] (.eff 8 [] (.seg 9 .last))) (.eff 7 [3, 5] (.eff 1 [2, 3, 4, 5, 6] (.eff 8 [] (.seg 9 .last))))))))))))] Tryd.func67 rfl (by kernel_rfl) rfl rfl rfl rfl (by kernel_rfl) ?_
  have hw := hH.w
  have ho := hH.o
  have lw := hH.lw
  have lo := hH.lo
  have hN := hH.new ⟨.c 43, 5, [[.d (eI op), .d (eI a), .d (eI b), .d (eI c), .d (eI line)]]⟩ (by simp)
  have hwr := wrap_add (show k < 9223372036854775807 by omega)
  subst e
  simp [hw, ho, hk, List.getElem?_eq_getElem hk, List.getElem?_eq_getElem hko, hL, hI, hwr ]
  refine come_ok hN b (hg.2 (.inr rfl)) l (by omega) fun H' nx' nt' hW hle hfr => ?_
  have hbx := hfr nx (by omega) (by omega) (by have := hH.ls; omega) (by omega) (by have := hH.lt; omega)
  rw [Hp.set_same] at hbx
  simp [hbx]
  refine ⟨?_, ?_⟩
  all_goals (refine cloneT_ok true (l.map eTry) (by simp) (by simp) (by simp; omega) ?_)
  all_goals simp [hwr, hbx]
  all_goals
    refine ⟨by rintro m b1 rfl; simp; rintro rfl; simp, by omega, ?_⟩
    refine ICall.frz (l := l.length + 1) (k := 2) (n := nx' + 1 + 1) (ds := [.one (.ptr nw 9 0 0), .one (.d (.lit (.int .i64 ((k : Int) + 1))))]) (es := []) (Hp.set_same _ _ _) (by simp) rfl (by simp) ?_
    rw [more_tries, Hp.set_set]
    refine come_ok (f := f) (q := comeQ f q b l) (ns := ns) (no := no) (nt := nt') ?_ ((k : Int) + 1) (by omega) (l ++ [⟨a, b⟩]) ?_ ?_
    · refine hW.ext ?_ (fun m hm => by simp only [Hp.set]; simp [show m ≠ nx' + 1 + 1 by omega, show m ≠ nx' + 1 by omega, show m ≠ nx' by omega]) (by omega)
      have hs := hW.sol
      first
        | exact ((((hs.set (by simp)).set (by simp)).none).none)
        | exact (((hs.set (by simp)).none).none)
    · have := comeQ_todo f q b l; omega
    · intro H2 nx2 nt2 hW2 hle2 _
      simp
      exact ⟨hW2.sol, h _ _ nt2 (by simpa [fromQ] using hW2) (by omega)⟩
theorem from_ok {f : GFn} {H : Hp} {nx nw ns no nt : Nat} {q : Wlk} (hH : WH f H nx nw ns no nt q) (k : Nat) (hk : k < f.code.length) (hk2 : f.code.length ≤ 1000) (hg : goesOk f.code[k]) (h20 : (q.out.getD k []).length ≤ 20) (ht : q.todo.length + 1 < 100000000000) {K : D → Hp → Nat → Prop}
    (h : ∀ H' nx' nt', WH f H' nx' nw ns no nt' (fromQ f q k f.code[k] (q.out.getD k [])) → nx ≤ nx' → K (.tup []) H' nx') : ICall Tryd.prog 67 [.one (.ptr nw 9 0 0), dI k] H nx K := by
  have hko : k < q.out.length := by rw [hH.ko]; exact hk
  have hl : q.out.getD k [] = q.out[k] := by simp [List.getD, List.getElem?_eq_getElem hko]
  rw [hl] at h20 h
  generalize hI : f.code[k] = i at *
  obtain ⟨op, a, b, c, line⟩ := i
  by_cases e1 : op = 28
  · exact from_ret28 hH k hk hk2 hI hg hko rfl h20 ht e1 h
  by_cases e2 : op = 29
  · exact from_ret29 hH k hk hk2 hI hg hko rfl h20 ht e2 h
  by_cases e3 : op = 13
  · exact from_jump13 hH k hk hk2 hI hg hko rfl h20 ht e3 h
  by_cases e4 : op = 14
  · exact from_jump14 hH k hk hk2 hI hg hko rfl h20 ht e4 h
  by_cases e5 : op = 15
  · exact from_test hH k hk hk2 hI hg hko rfl h20 ht e5 h
  by_cases e6 : op = 30
  · exact from_try30 hH k hk hk2 hI hg hko rfl h20 ht e6 h
  by_cases e7 : op = 31
  · by_cases e8 : q.out[k] = []
    · exact from_end31a hH k hk hk2 hI hg hko rfl h20 ht e7 e8 h
    · exact from_end31b hH k hk hk2 hI hg hko rfl h20 ht e7 e8 h
  · exact from_else hH k hk hk2 hI hg hko rfl h20 ht e1 e2 e3 e4 e5 e6 e7 h
end Go.Proofs.YtalippdhfkpbmaaDoor
/- Package code: tries. -/
namespace Go.Proofs.YtalippdhfkpbmaaDoor
open Go.RowKit Go
set_option maxRecDepth 100000 in
set_option maxHeartbeats 1000000 in
theorem come0_ok (f : GFn) {H : Hp} {nx nw ns no : Nat} (hw : H nw = some ⟨.c 98, 9, [[.d (eI f.params), .d (eI f.regs), .d (eB f.gen), .d (.sl true (f.caught.map eInt)), .d (.sl true (f.code.map eIns)), .own ns 1 f.code.length, .own no 1 f.code.length, .d .emp, .d (eB false)]]⟩)
    (hs : H ns = some ⟨.c 4, 1, (initQ f).seen.map fun b => [.d (eB b)]⟩) (ho : H no = some ⟨.c 49, 1, (initQ f).out.map fun l => [.d (.sl true (l.map eTry))]⟩) (d1 : nw ≠ ns) (d2 : nw ≠ no) (d4 : ns ≠ no) (lw : nw < nx) (ls : ns < nx) (lo : no < nx) (sol : HSol H) (hc : 0 < f.code.length) (hc2 : f.code.length ≤ 1000) {K : D → Hp → Nat → Prop}
    (h : ∀ H' nx' nt', WH f H' nx' nw ns no nt' (comeQ f (initQ f) 0 []) → nx ≤ nx' → K (.tup []) H' nx') : ICall Tryd.prog 66 [.one (.ptr nw 9 0 0), dI 0, dL true (([] : List GTry).map eTry)] H nx K := by
  refine fni_ok [0,1,2,6,23,55] [(3, [0,1,3,7,0,0,32,96,224,0,0,511,2559,8191,16383], (.seg 0 (.seg 1 (.seg 2 (.seg 3 (.seg 4 (.seg 5 (.seg 6 (.seg 7 (.seg 8 (.seg 9 (.seg 10 (.seg 11 (.eff 12 [] (.seg 13 (.eff 14 [] .last))))))))))))))))] Tryd.func66 rfl (by kernel_rfl) rfl rfl rfl rfl (by kernel_rfl) ?_
  have g1 : 0 < (initQ f).seen.length := by simpa [initQ] using hc
  have g2 : 0 < (initQ f).out.length := by simpa [initQ] using hc
  have hsn : (initQ f).seen[0] = false := by simp [initQ]
  have hne : f.code ≠ [] := List.length_pos_iff.1 hc
  simp [hc, hne, hw, hs, ho, List.getElem?_eq_getElem g1, List.getElem?_eq_getElem g2, hsn, d1, d2, d4, d1.symm, d2.symm, d4.symm, show nw ≠ nx + 1 by omega, show nw ≠ nx by omega, show ns ≠ nx by omega, show no ≠ nx by omega]
  intro _
  have es1 : ((initQ f).seen.map fun b => [C.d (eB b)]).set 0 [C.d (Dt.lit (Value.bool true))] = ((initQ f).seen.set 0 true).map fun b => [C.d (eB b)] := by rw [List.map_set]
  have es2 : ((initQ f).out.map fun l => [C.d (Dt.sl true (l.map eTry))]).set 0 [C.d (Dt.sl true [])] = ((initQ f).out.set 0 []).map fun l => [C.d (Dt.sl true (l.map eTry))] := by rw [List.map_set]; rfl
  rw [es1, es2]
  have hq : comeQ f (initQ f) 0 [] = ⟨(initQ f).seen.set 0 true, (initQ f).out.set 0 [], [0], false⟩ := by
    unfold comeQ
    rw [if_neg (by simp; omega), if_pos (by simp [initQ, List.getD_eq_getElem?_getD, List.getElem?_replicate, hc])]
    rfl
  have hsol := HSol.set (n := nw) (b := ⟨.c 98, 9, [[.d (eI f.params), .d (eI f.regs), .d (eB f.gen), .d (.sl true (f.caught.map eInt)), .d (.sl true (f.code.map eIns)), .own ns 1 f.code.length, .own no 1 f.code.length, .own (nx + 1) 1 1, .d (eB false)]]⟩)
    (HSol.set (n := nx + 1) (b := ⟨.c 3, 1, [[C.d (eI 0)]]⟩) (HSol.set (n := nx) (b := ⟨.c 3, 1, [[C.d (eI 0)]]⟩) (HSol.set (n := no) (b := ⟨.c 49, 1, ((initQ f).out.set 0 []).map fun l => [C.d (Dt.sl true (l.map eTry))]⟩)
      (HSol.set (n := ns) (b := ⟨.c 4, 1, ((initQ f).seen.set 0 true).map fun b => [C.d (eB b)]⟩) sol (solMap _ _ fun _ => rfl)) (solMap _ _ fun _ => rfl)) (by simp)) (by simp)) (by simp)
  refine ⟨hsol, h _ _ (nx + 1) ?_ (by omega)⟩
  rw [hq]
  have q1 : ns ≠ nx + 1 := by omega
  have q2 : no ≠ nx + 1 := by omega
  have q3 : nw ≠ nx + 1 := by omega
  have q4 : ns ≠ nx := by omega
  have q5 : no ≠ nx := by omega
  refine ⟨by simp, ?_, ?_, ⟨[], ?_⟩, d1, d2, q3, d4, q1, q2, by omega, by omega, by omega, by omega, hsol, by simp [initQ], by simp [initQ]⟩
  · simp only [Hp.set]; simp [d1.symm, q1, q4, d4]
  · simp only [Hp.set]; simp [d2.symm, q2, q5]
  · simp only [Hp.set]; simp [q3.symm]
abbrev walk0 (f : GFn) (ns no : Nat) : Blk := ⟨.c 98, 9, [[.d (eI f.params), .d (eI f.regs), .d (eB f.gen), .d (.sl true (f.caught.map eInt)), .d (.sl true (f.code.map eIns)), .own ns 1 f.code.length, .own no 1 f.code.length, .d .emp, .d (eB false)]]⟩
def goodH (f : GFn) (ns no : Nat) : Hp := fun i => if i = 3 then some (walk0 f ns no) else if i = ns then some ⟨.c 4, 1, (initQ f).seen.map fun b => [.d (eB b)]⟩ else if i = no then some ⟨.c 49, 1, (initQ f).out.map fun l => [.d (.sl true (l.map eTry))]⟩ else none
theorem goodH_sol (f : GFn) (ns no : Nat) : HSol (goodH f ns no) := fun n x hx => by
  unfold goodH at hx
  split at hx
  · cases hx; simp
  split at hx
  · cases hx; exact solMap _ _ fun _ => rfl
  split at hx
  · cases hx; exact solMap _ _ fun _ => rfl
  · cases hx
theorem goodH_less (f : GFn) {H : Hp} {ns no : Nat} (h3 : H 3 = some (walk0 f ns no)) (hs : H ns = some ⟨.c 4, 1, List.replicate f.code.length [C.d (Dt.lit (Value.bool false))]⟩) (ho : H no = some ⟨.c 49, 1, List.replicate f.code.length [C.d Dt.emp]⟩) :
    ∀ n y, goodH f ns no n = some y → ∃ x, H n = some x ∧ x.less y := by
  intro n y hy
  unfold goodH at hy
  split at hy
  · rename_i e; subst e; cases hy
    exact ⟨_, h3, rfl, rfl, rfl, by simp, fun i j c hc => ⟨c, hc, .inl rfl⟩⟩
  split at hy
  · rename_i e; subst e; cases hy
    refine ⟨_, hs, rfl, rfl, by simp [initQ], fun e he => by (obtain ⟨x, -, rfl⟩ := List.mem_map.1 he; rfl), fun i j c hc => ⟨c, ?_, .inl rfl⟩⟩
    simpa [initQ] using hc
  split at hy
  · rename_i e; subst e; cases hy
    refine ⟨_, ho, rfl, rfl, by simp [initQ], fun e he => by (obtain ⟨x, -, rfl⟩ := List.mem_map.1 he; rfl), fun i j c hc => ?_⟩
    simp only [initQ, nth2, List.map_replicate, List.getElem?_replicate] at hc
    split at hc
    · rename_i hi
      cases j with
      | zero =>
        simp at hc
        refine ⟨.d .emp, by simp [nth2, List.getElem?_replicate, hi], .inr ⟨rfl, true, hc.symm⟩⟩
      | succ j => simp at hc
    · cases hc
  · cases hy
theorem last_get (l : List Int) (junk : List (List C)) (h : l ≠ []) : (l.map (fun n => [C.d (eI n)]) ++ junk)[l.length - 1]? = some [C.d (eI (l.getLast h))] := by
  have hp : 0 < l.length := List.length_pos_iff.2 h
  rw [List.getElem?_append_left (by simp; omega), List.getElem?_map, List.getElem?_eq_getElem (by omega), List.getLast_eq_getElem]
  rfl
theorem popE (l : List Int) (junk : List (List C)) (h0 : l ≠ []) : l.map (fun n => [C.d (eI n)]) ++ junk = l.dropLast.map (fun n => [C.d (eI n)]) ++ ([C.d (eI (l.getLast h0))] :: junk) := by
  refine (congrArg (fun l => l.map (fun n => [C.d (eI n)]) ++ junk) (List.dropLast_concat_getLast h0).symm).trans ?_
  rw [List.map_append, List.append_assoc]; rfl
theorem boolRow_isD {L : List Bool} : ∀ x ∈ L.map (fun b => [C.d (eB b)]), ∀ c ∈ x, c.isD = true := fun x hx c hc => by
  obtain ⟨b, -, rfl⟩ := List.mem_map.1 hx
  obtain rfl := List.mem_singleton.1 hc
  rfl
theorem WH.pop {f : GFn} {H : Hp} {nx nw ns no nt : Nat} {q : Wlk} (h : WH f H nx nw ns no nt q) (h0 : q.todo ≠ []) (hb : q.bad = false) : WH f (H.set nw (some ⟨.c 98, 9, [[.d (eI f.params), .d (eI f.regs), .d (eB f.gen), .d (.sl true (f.caught.map eInt)), .d (.sl true (f.code.map eIns)), .own ns 1 f.code.length, .own no 1 f.code.length, .own nt 1 (q.todo.length - 1), .d (eB false)]]⟩)) nx nw ns no nt { q with todo := q.todo.dropLast } := by
  obtain ⟨junk, hj⟩ := h.t
  exact ⟨by simp [hb], by rw [Hp.set_ne _ _ h.d1.symm]; exact h.s, by rw [Hp.set_ne _ _ h.d2.symm]; exact h.o, ⟨[C.d (eI (q.todo.getLast h0))] :: junk, by rw [Hp.set_ne _ _ h.d3.symm, hj, popE _ _ h0]⟩, h.d1, h.d2, h.d3, h.d4, h.d5, h.d6, h.lw, h.ls, h.lo, h.lt, h.sol.set (by simp), h.ks, h.ko⟩
set_option maxRecDepth 100000 in
set_option maxHeartbeats 2000000 in
theorem tries_pos (f : GFn) (hg : goesAll f) (hc : 0 < f.code.length) (hc2 : f.code.length ≤ 1000) {K : D → List Blk → Prop}
    (h : K (.tup [.one (.own 0 1 f.code.length), .one (.own 1 1 f.code.length), dB (!(triesQ f).bad)]) [⟨.c 49, 1, (triesQ f).out.map fun l => [.d (.sl true (l.map eTry))]⟩, ⟨.c 4, 1, (triesQ f).seen.map fun b => [.d (eB b)]⟩]) : DPure Tryd.prog 49 [aD (eFn f)] K := by
  refine fn_ok [0,1,2,3,4,5,6,32] [(1, [0,0,2,6,14,0,32,96,224,511,1023,2047], (.seg 0 (.seg 1 (.seg 2 (.seg 3 (.seg 5 (.seg 6 (.seg 7 (.fork 4 [0, 5, 6, 7] (.eff 8 [0, 1, 2, 3] (.seg 9 (.eff 10 [] (.seg 11 .last)))) (.eff 8 [0, 1, 2, 3] (.eff 4 [0, 5, 6, 7] (.seg 9 (.eff 10 [] (.seg 11 .last)))))))))))))), (4, [0,1,3,7,0,16,48,112,240,496,1023,2047,4095], (.seg 0 (.seg 1 (.seg 2 (.seg 3 (.seg 4 (.seg 5 (.seg 6 (.seg 7 (.seg 8 (.seg 9 (.seg 10 (.seg 11 (.seg 12 .last)))))))))))))), (5, [0,0,2,6,14,0,32,96,224,480,992,2046,4095,8191,16383], (.seg 0 (.seg 1 (.seg 2 (.seg 3 (.seg 4 (.seg 5 (.seg 6 (.seg 7 (.seg 8 (.seg 9 (.seg 10 (.seg 11 (.seg 12 (.seg 13 (.eff 14 [] .last)))))))))))))))), (7, [0,1,3,7,0,16,48,112,0,256,768,1792,3840,15,8447,32767], (.seg 0 (.seg 1 (.seg 2 (.seg 3 (.seg 4 (.seg 5 (.seg 6 (.seg 7 (.seg 8 (.seg 9 (.seg 10 (.seg 11 (.seg 12 (.seg 13 (.seg 14 (.seg 15 .last)))))))))))))))))] Tryd.func49 rfl (by kernel_rfl) rfl rfl rfl rfl (by kernel_rfl) ?_
  simp
  intro _
  have h1 := (CInv.init (f := f)).come Rch.start (Int.le_refl 0)
  have hm0 : msr (comeQ f (initQ f) 0 []) ≤ 2 * f.code.length + 1 := by
    have := comeQ_msr f (initQ f) 0 [] (by simp [initQ]) (Int.le_refl 0)
    have := msr_init f
    omega
  refine ⟨⟨by omega, ?_⟩, by omega, ?_⟩
  · refine ICall.less (es := [.one (.ptr 3 9 0 0), dI 0, dL true (([] : List GTry).map eTry)]) (H' := goodH f 1 2) ⟨.inl rfl, .inl rfl, .inr ⟨rfl, true, rfl⟩, trivial⟩ (goodH_less f (by simp) (by simp) (by simp)) ?_
    refine come0_ok f (ns := 1) (no := 2) (by simp [goodH]) (by simp [goodH]) (by simp [goodH]) (by omega) (by omega) (by omega) (by omega) (by omega) (by omega) (goodH_sol f 1 2) hc hc2 fun H1 nx1 nt1 hW1 hle1 => ?_
    simp
    refine loopH_ok (ks := [0,1,2,3,4,5,6,32]) (pl := [(1, [0,0,2,6,14,0,32,96,224,511,1023,2047], (.seg 0 (.seg 1 (.seg 2 (.seg 3 (.seg 5 (.seg 6 (.seg 7 (.fork 4 [0, 5, 6, 7] (.eff 8 [0, 1, 2, 3] (.seg 9 (.eff 10 [] (.seg 11 .last)))) (.eff 8 [0, 1, 2, 3] (.eff 4 [0, 5, 6, 7] (.seg 9 (.eff 10 [] (.seg 11 .last)))))))))))))), (4, [0,1,3,7,0,16,48,112,240,496,1023,2047,4095], (.seg 0 (.seg 1 (.seg 2 (.seg 3 (.seg 4 (.seg 5 (.seg 6 (.seg 7 (.seg 8 (.seg 9 (.seg 10 (.seg 11 (.seg 12 .last)))))))))))))), (5, [0,0,2,6,14,0,32,96,224,480,992,2046,4095,8191,16383], (.seg 0 (.seg 1 (.seg 2 (.seg 3 (.seg 4 (.seg 5 (.seg 6 (.seg 7 (.seg 8 (.seg 9 (.seg 10 (.seg 11 (.seg 12 (.seg 13 (.eff 14 [] .last)))))))))))))))), (7, [0,1,3,7,0,16,48,112,0,256,768,1792,3840,15,8447,32767], (.seg 0 (.seg 1 (.seg 2 (.seg 3 (.seg 4 (.seg 5 (.seg 6 (.seg 7 (.seg 8 (.seg 9 (.seg 10 (.seg 11 (.seg 12 (.seg 13 (.seg 14 (.seg 15 .last)))))))))))))))))]) (n0 := 75) (α := {x : Wlk × Hp × Nat × Nat // WH f x.2.1 x.2.2.1 3 1 2 x.2.2.2 x.1 ∧ CInv f x.1 none ∧ ∃ m, m ≤ 2 * f.code.length + 1 ∧ triesQ f = runQ f m x.1 ∧ msr x.1 ≤ m}) (fun _ => []) (fun _ x => x.1.2.1) (fun x => x.1.2.2.1) (fun x => msr x.1.1) ⟨(comeQ f (initQ f) 0 [], H1, nx1, nt1), hW1, h1.1, _, Nat.le_refl _, rfl, hm0⟩ rfl (by kernel_rfl) (Wk.refl _) ?_
    rintro ⟨⟨q, H, nx, nt⟩, hW, hI, m, hm1, hm2, hm3⟩
    simp only at hW hI hm2 hm3
    have hw := hW.w
    obtain ⟨junk, hj⟩ := hW.t
    have htl : q.todo.length ≤ 2001 := by unfold msr at hm3; omega
    simp only [puts]
    by_cases h0 : q.todo = []
    · have he : triesQ f = q := by rw [hm2]; cases m with | zero => rfl | succ m => unfold runQ; rw [if_pos (.inl h0)]
      simp [hw, h0, hW.s, hW.o, List.idxOf, List.findIdx, List.findIdx.go]
      rw [he] at h
      rw [if_pos boolRow_isD]
      exact h
    · have hpos : 0 < q.todo.length := List.length_pos_iff.2 h0
      have hl := lastQ_mem h0 fun x hx => (hI.todo x hx).1
      have hwl : IntKind.i64.wrap ((q.todo.length : Int) - 1) = ((q.todo.length - 1 : Nat) : Int) := by rw [wrap_id (by omega) (by omega)]; omega
      by_cases hb : q.bad = true
      · have he : triesQ f = q := by rw [hm2]; exact runQ_bad _ hb
        simp [hw, h0, hpos, hb, hW.s, hW.o, List.idxOf, List.findIdx, List.findIdx.go]
        rw [he, hb] at h
        intro _
        rw [if_pos boolRow_isD]
        exact h
      · have hb : q.bad = false := by simpa using hb
        have hlg := last_get q.todo junk h0
        simp [hw, h0, hpos, hb, hwl, hj, hlg, show q.todo.length - 1 < q.todo.length by omega]
        intro _
        rw [← hl]
        have hlt : lastQ q < f.code.length := by
          have := (hI.todo _ (List.getLast_mem h0)).2.1
          rw [← hl] at this; omega
        have hsn : q.seen.getD (lastQ q) false = true := by
          have := (hI.todo _ (List.getLast_mem h0)).2.2
          rw [← hl, Int.toNat_natCast] at this; exact this
        refine from_ok (hW.pop h0 hb) (lastQ q) hlt hc2 (hg _ (List.getElem_mem hlt)) (hI.sound _ hsn).2.2 (by simp; omega) fun H2 nx2 nt2 hW2 hle2 => ?_
        have hst : fromQ f { q with todo := q.todo.dropLast } (lastQ q) f.code[lastQ q] (q.out.getD (lastQ q) []) = stepQ f q := by
          unfold stepQ
          rw [show f.code.getD (lastQ q) dIns = f.code[lastQ q] by simp [List.getD_eq_getElem?_getD, List.getElem?_eq_getElem hlt]]
        have hW2 : WH f H2 nx2 3 1 2 nt2 (stepQ f q) := hst ▸ hW2
        have hms := stepQ_msr hg hI h0
        simp
        obtain ⟨m', rfl⟩ : ∃ m', m = m' + 1 := ⟨m - 1, by omega⟩
        refine ⟨stepQ f q, hms, H2, nx2, ⟨⟨nt2, hW2⟩, hI.step hg h0, m', by omega, ?_, by omega⟩, Wk.sub (by simp)⟩
        rw [hm2]
        conv => lhs; unfold runQ
        rw [if_neg (by simp [h0, hb])]
  · refine ICall.less (es := [.one (.ptr 3 9 0 0), dI 0, dL true (([] : List GTry).map eTry)]) (H' := goodH f 2 1) ⟨.inl rfl, .inl rfl, .inr ⟨rfl, true, rfl⟩, trivial⟩ (goodH_less f (by simp) (by simp) (by simp)) ?_
    refine come0_ok f (ns := 2) (no := 1) (by simp [goodH]) (by simp [goodH]) (by simp [goodH]) (by omega) (by omega) (by omega) (by omega) (by omega) (by omega) (goodH_sol f 2 1) hc hc2 fun H1 nx1 nt1 hW1 hle1 => ?_
    simp
    refine loopH_ok (ks := [0,1,2,3,4,5,6,32]) (pl := [(1, [0,0,2,6,14,0,32,96,224,511,1023,2047], (.seg 0 (.seg 1 (.seg 2 (.seg 3 (.seg 5 (.seg 6 (.seg 7 (.fork 4 [0, 5, 6, 7] (.eff 8 [0, 1, 2, 3] (.seg 9 (.eff 10 [] (.seg 11 .last)))) (.eff 8 [0, 1, 2, 3] (.eff 4 [0, 5, 6, 7] (.seg 9 (.eff 10 [] (.seg 11 .last)))))))))))))), (4, [0,1,3,7,0,16,48,112,240,496,1023,2047,4095], (.seg 0 (.seg 1 (.seg 2 (.seg 3 (.seg 4 (.seg 5 (.seg 6 (.seg 7 (.seg 8 (.seg 9 (.seg 10 (.seg 11 (.seg 12 .last)))))))))))))), (5, [0,0,2,6,14,0,32,96,224,480,992,2046,4095,8191,16383], (.seg 0 (.seg 1 (.seg 2 (.seg 3 (.seg 4 (.seg 5 (.seg 6 (.seg 7 (.seg 8 (.seg 9 (.seg 10 (.seg 11 (.seg 12 (.seg 13 (.eff 14 [] .last)))))))))))))))), (7, [0,1,3,7,0,16,48,112,0,256,768,1792,3840,15,8447,32767], (.seg 0 (.seg 1 (.seg 2 (.seg 3 (.seg 4 (.seg 5 (.seg 6 (.seg 7 (.seg 8 (.seg 9 (.seg 10 (.seg 11 (.seg 12 (.seg 13 (.seg 14 (.seg 15 .last)))))))))))))))))]) (n0 := 75) (α := {x : Wlk × Hp × Nat × Nat // WH f x.2.1 x.2.2.1 3 2 1 x.2.2.2 x.1 ∧ CInv f x.1 none ∧ ∃ m, m ≤ 2 * f.code.length + 1 ∧ triesQ f = runQ f m x.1 ∧ msr x.1 ≤ m}) (fun _ => []) (fun _ x => x.1.2.1) (fun x => x.1.2.2.1) (fun x => msr x.1.1) ⟨(comeQ f (initQ f) 0 [], H1, nx1, nt1), hW1, h1.1, _, Nat.le_refl _, rfl, hm0⟩ rfl (by kernel_rfl) (Wk.refl _) ?_
    rintro ⟨⟨q, H, nx, nt⟩, hW, hI, m, hm1, hm2, hm3⟩
    simp only at hW hI hm2 hm3
    have hw := hW.w
    obtain ⟨junk, hj⟩ := hW.t
    have htl : q.todo.length ≤ 2001 := by unfold msr at hm3; omega
    simp only [puts]
    by_cases h0 : q.todo = []
    · have he : triesQ f = q := by rw [hm2]; cases m with | zero => rfl | succ m => unfold runQ; rw [if_pos (.inl h0)]
      simp [hw, h0, hW.s, hW.o, List.idxOf, List.findIdx, List.findIdx.go]
      rw [he] at h
      rw [if_pos boolRow_isD]
      exact h
    · have hpos : 0 < q.todo.length := List.length_pos_iff.2 h0
      have hl := lastQ_mem h0 fun x hx => (hI.todo x hx).1
      have hwl : IntKind.i64.wrap ((q.todo.length : Int) - 1) = ((q.todo.length - 1 : Nat) : Int) := by rw [wrap_id (by omega) (by omega)]; omega
      by_cases hb : q.bad = true
      · have he : triesQ f = q := by rw [hm2]; exact runQ_bad _ hb
        simp [hw, h0, hpos, hb, hW.s, hW.o, List.idxOf, List.findIdx, List.findIdx.go]
        rw [he, hb] at h
        intro _
        rw [if_pos boolRow_isD]
        exact h
      · have hb : q.bad = false := by simpa using hb
        have hlg := last_get q.todo junk h0
        simp [hw, h0, hpos, hb, hwl, hj, hlg, show q.todo.length - 1 < q.todo.length by omega]
        intro _
        rw [← hl]
        have hlt : lastQ q < f.code.length := by
          have := (hI.todo _ (List.getLast_mem h0)).2.1
          rw [← hl] at this; omega
        have hsn : q.seen.getD (lastQ q) false = true := by
          have := (hI.todo _ (List.getLast_mem h0)).2.2
          rw [← hl, Int.toNat_natCast] at this; exact this
        refine from_ok (hW.pop h0 hb) (lastQ q) hlt hc2 (hg _ (List.getElem_mem hlt)) (hI.sound _ hsn).2.2 (by simp; omega) fun H2 nx2 nt2 hW2 hle2 => ?_
        have hst : fromQ f { q with todo := q.todo.dropLast } (lastQ q) f.code[lastQ q] (q.out.getD (lastQ q) []) = stepQ f q := by
          unfold stepQ
          rw [show f.code.getD (lastQ q) dIns = f.code[lastQ q] by simp [List.getD_eq_getElem?_getD, List.getElem?_eq_getElem hlt]]
        have hW2 : WH f H2 nx2 3 2 1 nt2 (stepQ f q) := hst ▸ hW2
        have hms := stepQ_msr hg hI h0
        simp
        obtain ⟨m', rfl⟩ : ∃ m', m = m' + 1 := ⟨m - 1, by omega⟩
        refine ⟨stepQ f q, hms, H2, nx2, ⟨⟨nt2, hW2⟩, hI.step hg h0, m', by omega, ?_, by omega⟩, Wk.sub (by simp)⟩
        rw [hm2]
        conv => lhs; unfold runQ
        rw [if_neg (by simp [h0, hb])]
theorem triesQ_nil {f : GFn} (hc : f.code = []) : triesQ f = ⟨[], [], [], true⟩ := by
  unfold triesQ
  rw [hc]
  unfold comeQ initQ
  rw [hc]
  simp
  exact runQ_bad _ rfl
theorem HSol.zero : HSol Hp.none := fun _ _ h => by cases h
set_option maxRecDepth 100000 in
set_option maxHeartbeats 2000000 in
theorem tries_nil (f : GFn) (hc : f.code = []) {K : D → List Blk → Prop}
    (h : K (.tup [.one (.own 0 1 0), .one (.own 1 1 0), dB false]) [⟨.c 49, 1, []⟩, ⟨.c 4, 1, []⟩]) : DPure Tryd.prog 49 [aD (eFn f)] K := by
  refine fn_ok [0,1,2,3,4,5,6,32] [(1, [0,0,2,6,14,0,32,96,224,511,1023,2047], (.seg 0 (.seg 1 (.seg 2 (.seg 3 (.seg 5 (.seg 6 (.seg 7 (.fork 4 [0, 5, 6, 7] (.eff 8 [0, 1, 2, 3] (.seg 9 (.eff 10 [] (.seg 11 .last)))) (.eff 8 [0, 1, 2, 3] (.eff 4 [0, 5, 6, 7] (.seg 9 (.eff 10 [] (.seg 11 .last)))))))))))))), (4, [0,1,3,7,0,16,48,112,240,496,1023,2047,4095], (.seg 0 (.seg 1 (.seg 2 (.seg 3 (.seg 4 (.seg 5 (.seg 6 (.seg 7 (.seg 8 (.seg 9 (.seg 10 (.seg 11 (.seg 12 .last)))))))))))))), (5, [0,0,2,6,14,0,32,96,224,480,992,2046,4095,8191,16383], (.seg 0 (.seg 1 (.seg 2 (.seg 3 (.seg 4 (.seg 5 (.seg 6 (.seg 7 (.seg 8 (.seg 9 (.seg 10 (.seg 11 (.seg 12 (.seg 13 (.eff 14 [] .last)))))))))))))))), (7, [0,1,3,7,0,16,48,112,0,256,768,1792,3840,15,8447,32767], (.seg 0 (.seg 1 (.seg 2 (.seg 3 (.seg 4 (.seg 5 (.seg 6 (.seg 7 (.seg 8 (.seg 9 (.seg 10 (.seg 11 (.seg 12 (.seg 13 (.seg 14 (.seg 15 .last)))))))))))))))))] Tryd.func49 rfl (by kernel_rfl) rfl rfl rfl rfl (by kernel_rfl) ?_
  simp [hc]
  refine ⟨?_, ?_⟩
  all_goals
    refine fni_ok [0,1,2,6,23,55] [(3, [0,1,3,7,0,0,32,96,224,0,0,511,2559,8191,16383], (.seg 0 (.seg 1 (.seg 2 (.seg 3 (.seg 4 (.seg 5 (.seg 6 (.seg 7 (.seg 8 (.seg 9 (.seg 10 (.seg 11 (.eff 12 [] (.seg 13 (.eff 14 [] .last))))))))))))))))] Tryd.func66 rfl (by kernel_rfl) rfl rfl rfl rfl (by kernel_rfl) ?_
    simp [hc]
    refine ⟨(((HSol.zero.set (by simp)).set (by simp)).set (by simp)).set (by simp), ?_⟩
    refine loop_ok (ks := [0,1,2,3,4,5,6,32]) (pl := [(1, [0,0,2,6,14,0,32,96,224,511,1023,2047], (.seg 0 (.seg 1 (.seg 2 (.seg 3 (.seg 5 (.seg 6 (.seg 7 (.fork 4 [0, 5, 6, 7] (.eff 8 [0, 1, 2, 3] (.seg 9 (.eff 10 [] (.seg 11 .last)))) (.eff 8 [0, 1, 2, 3] (.eff 4 [0, 5, 6, 7] (.seg 9 (.eff 10 [] (.seg 11 .last)))))))))))))), (4, [0,1,3,7,0,16,48,112,240,496,1023,2047,4095], (.seg 0 (.seg 1 (.seg 2 (.seg 3 (.seg 4 (.seg 5 (.seg 6 (.seg 7 (.seg 8 (.seg 9 (.seg 10 (.seg 11 (.seg 12 .last)))))))))))))), (5, [0,0,2,6,14,0,32,96,224,480,992,2046,4095,8191,16383], (.seg 0 (.seg 1 (.seg 2 (.seg 3 (.seg 4 (.seg 5 (.seg 6 (.seg 7 (.seg 8 (.seg 9 (.seg 10 (.seg 11 (.seg 12 (.seg 13 (.eff 14 [] .last)))))))))))))))), (7, [0,1,3,7,0,16,48,112,0,256,768,1792,3840,15,8447,32767], (.seg 0 (.seg 1 (.seg 2 (.seg 3 (.seg 4 (.seg 5 (.seg 6 (.seg 7 (.seg 8 (.seg 9 (.seg 10 (.seg 11 (.seg 12 (.seg 13 (.seg 14 (.seg 15 .last)))))))))))))))))]) (n0 := 75) (fun _ : Unit => []) (fun _ => 0) () rfl (by kernel_rfl) (Wk.refl _) ?_
    intro _
    simp [hc, List.idxOf, List.findIdx, List.findIdx.go]
    exact h
/-- what tries tell: of all orders, of any function whose orders go somewhere -/
theorem tries_ok (f : GFn) (hg : goesAll f) (hc2 : f.code.length ≤ 1000) {K : D → List Blk → Prop}
    (h : K (.tup [.one (.own 0 1 f.code.length), .one (.own 1 1 f.code.length), dB (!(triesQ f).bad)]) [⟨.c 49, 1, (triesQ f).out.map fun l => [.d (.sl true (l.map eTry))]⟩, ⟨.c 4, 1, (triesQ f).seen.map fun b => [.d (eB b)]⟩]) : DPure Tryd.prog 49 [aD (eFn f)] K := by
  by_cases hc : 0 < f.code.length
  · exact tries_pos f hg hc hc2 h
  · have hc : f.code = [] := List.length_eq_zero_iff.1 (by omega)
    rw [triesQ_nil hc] at h
    rw [hc] at h
    exact tries_nil f hc h
end Go.Proofs.YtalippdhfkpbmaaDoor
/- What the operators compute, in plain numbers: no program in sight. -/
namespace Go.Proofs.YtalippdhfkpbmaaDoor
open Go.RowKit
/-- The bits of the float that a value's number stands for. -/
def flt (n : Int) : Nat := (IntKind.u64.wrap n).toNat
def same (x y : Nat) : Bool := Ieee.double.order x y == some .eq
def less (x y : Nat) : Bool := Ieee.double.order x y == some .lt
def theNaN : Int := 9221120237041090561
/-- The number of a float: the one NaN, or its bits. -/
def ofN (b : Nat) : Int := if same b b then wrap64 b else theNaN
def bit (b : Bool) : Int := if b then 1 else 0
def rightB (k n : Int) : Bool :=
  if k = 0 then n == 0 else if k = 1 then decide (0 ≤ n) && decide (n ≤ 1) else if k = 2 then decide (-2147483648 ≤ n) && decide (n ≤ 2147483647)
  else if k = 3 then same (flt n) (flt n) || n == theNaN else if k = 4 ∨ k = 5 then decide (0 ≤ n) else if k = 6 then decide (0 ≤ n) && decide (n ≤ 15) else false
def takK (k n : Int) : Int := if rightB k n then k else 0
def takN (k n : Int) : Int := if rightB k n then n else 0
def truthB (k n : Int) : Bool := decide (takK k n ≠ 0) && !(decide (takK k n = 1) && decide (takN k n = 0))
/-- a value's kind and number, and what is thrown -/
abbrev VT := Int × Int × Int
def wholeS (n : Int) : VT := if -2147483648 ≤ n ∧ n ≤ 2147483647 then (2, n, -1) else (0, 0, 1)
def orderedI (op a b : Int) : VT := if op = 9 then (1, bit (decide (a < b)), -1) else if op = 10 then (1, bit (decide (a ≤ b)), -1) else (0, 0, 0)
def orderedF (op : Int) (x y : Nat) : VT := if op = 9 then (1, bit (less x y), -1) else if op = 10 then (1, bit (less x y || same x y), -1) else (0, 0, 0)
def wholesS (op a b : Int) : VT :=
  if op = 3 then wholeS (a + b) else if op = 4 then wholeS (a - b) else if op = 5 then wholeS (wrap64 (a * b))
  else if op = 6 ∨ op = 7 then (if b = 0 then (0, 0, 2) else if op = 6 then wholeS (wrap64 (a.tdiv b)) else wholeS (a.tmod b)) else orderedI op a b
def resF (r : Option Nat) : VT := (3, (match r with | some b => ofN b | none => theNaN), -1)
def floatsS (op : Int) (x y : Nat) : VT :=
  if op = 3 then resF (Ieee.double.add x y) else if op = 4 then resF (Ieee.double.sub x y) else if op = 5 then resF (Ieee.double.mul x y) else if op = 6 then resF (Ieee.double.div x y)
  else if op = 8 then (1, bit (same x y), -1) else orderedF op x y
def unaryS (op k n : Int) : VT :=
  if op = 11 then (1, bit (!truthB (takK k n) (takN k n)), -1) else if op = 12 ∧ takK k n = 2 then wholeS (-takN k n)
  else if op = 12 ∧ takK k n = 3 then (3, ofN (Op.negFloat .f64 (flt (takN k n))), -1) else (0, 0, 0)
def binaryT (op ak an bk bn : Int) : VT :=
  if ak = 3 ∧ bk = 3 then floatsS op (flt an) (flt bn) else if op = 8 then (1, bit (decide (ak = bk ∧ an = bn)), -1)
  else if ak = 2 ∧ bk = 2 then wholesS op an bn else (0, 0, 0)
def binaryS (op ak an bk bn : Int) : VT := binaryT op (takK ak an) (takN ak an) (takK bk bn) (takN bk bn)
end Go.Proofs.YtalippdhfkpbmaaDoor
/- Package code, plainly: programs that may be; what more, or other orders, do to them. -/
namespace Go.Proofs.YtalippdhfkpbmaaDoor
open Go.RowKit Go
def fnLargeB (f : GFn) : Bool := decide (600 < f.code.length) || decide (60 < f.regs)
def largeB (p : GProg) : Bool := decide (60 < p.fns.length) || decide (200 < p.consts.length) || decide (200 < p.texts.length) || p.texts.any (fun t => decide (200 < t.size)) || p.fns.any fnLargeB
def constBadB (p : GProg) (v : GVal) : Bool := !rightB v.kind v.n || decide (v.kind = 5) || decide (v.kind = 4) && decide ((p.texts.length : Int) ≤ v.n)
def tablesB (ws : List ByteArray) (p : GProg) : Bool := decide (p.texts.take ws.length = ws) && decide p.texts.Nodup && !p.consts.any (constBadB p)
def ordersB (p : GProg) (f : GFn) : Bool := (List.range f.code.length).all fun k => orderB p f k (f.code.getD k dIns)
def functionB (p : GProg) (f : GFn) : Bool := !(decide (f.params < 0) || decide (f.regs < 1) || decide (f.regs < f.params)) && ordersB p f && !(triesQ f).bad
def firstB (p : GProg) : Bool := match p.fns with
  | [] => false
  | f :: _ => decide (f.params = 0) && decide (f.caught = []) && !f.gen
def checkQ (ws : List ByteArray) (p : GProg) : Int := if largeB p = true then 2 else if tablesB ws p = false ∨ firstB p = false then 3 else if p.fns.any (fun f => !functionB p f) = true then 3 else 0
/-! ### Orders -/
theorem wr_in {n : Int} (h : -9223372036854775808 ≤ n) (h2 : n ≤ 9223372036854775807) : wr n = n := wrap_id h h2
theorem names_pos {p : GProg} {f : GFn} {n : Int} (h : nameB p f 97 n = true) : 0 ≤ n := by
  simp [nameB, btw] at h; omega
theorem goes_of_order {p : GProg} {f : GFn} {k : Int} {i : GIns} (h : orderB p f k i = true) : goesOk i := by
  simp only [orderB, Bool.and_eq_true, decide_eq_true_eq] at h
  obtain ⟨⟨⟨⟨⟨h0, h1⟩, h2⟩, h3⟩, h4⟩, h5⟩ := h
  constructor
  · intro e
    rcases e with e | e <;> (rw [e] at h2; exact names_pos h2)
  · intro e
    rcases e with e | e <;> (rw [e] at h3; exact names_pos h3)
theorem orders_get {p : GProg} {f : GFn} (h : ordersB p f = true) {k : Nat} (hk : k < f.code.length) : orderB p f k f.code[k] = true := by
  have := List.all_eq_true.1 h k (List.mem_range.2 hk)
  simpa [List.getD_eq_getElem?_getD, List.getElem?_eq_getElem hk] using this
theorem goesAll_of {p : GProg} {f : GFn} (h : ordersB p f = true) : goesAll f := fun i hi => by
  obtain ⟨k, hk, rfl⟩ := List.getElem_of_mem hi
  exact goes_of_order (orders_get h hk)
/-- what of a program its orders ask -/
theorem orderB_congr {p p' : GProg} {f f' : GFn} (h1 : p.fns.map (·.caught) = p'.fns.map (·.caught)) (h2 : p.consts.length = p'.consts.length) (h3 : p.texts.length = p'.texts.length) (h4 : f.regs = f'.regs) (h5 : f.gen = f'.gen) (h6 : f.caught = f'.caught) (h7 : f.code.length = f'.code.length) (k : Int) (i : GIns) :
    orderB p f k i = orderB p' f' k i := by
  have hl : p.fns.length = p'.fns.length := by have := congrArg List.length h1; simpa using this
  have hn : ∀ c n, nameB p f c n = nameB p' f' c n := fun c n => by simp only [nameB, lenI, h2, h3, h4, h6, h7, hl]
  have hc : ∀ n : Nat, (p.fns.getD n ⟨0, 0, false, [], []⟩).caught = (p'.fns.getD n ⟨0, 0, false, [], []⟩).caught := fun n => by
    have := congrArg (fun l => l.getD n []) h1
    simp only [List.getD_eq_getElem?_getD, List.getElem?_map] at this ⊢
    cases h8 : p.fns[n]? <;> cases h9 : p'.fns[n]? <;> simp_all
  have hcb : caught1B f = caught1B f' := by funext c; simp only [caught1B, h4, h6, lenI]
  simp only [orderB, hn, orderK, h4, h5, caughtB, hcb, hc]
/-! ### An order that no way leads to -/
theorem comeQ_len {f f' : GFn} (h : f.code.length = f'.code.length) (q : Wlk) (m : Int) (l : List GTry) : comeQ f q m l = comeQ f' q m l := by simp only [comeQ, h]
theorem comesQ_len {f f' : GFn} (h : f.code.length = f'.code.length) : ∀ (xs : List (Int × List GTry)) (q : Wlk), comesQ f q xs = comesQ f' q xs
  | [], _ => rfl
  | x :: xs, q => by unfold comesQ; rw [comeQ_len h, comesQ_len h xs]
theorem comeQ_mono {f : GFn} {q : Wlk} {m : Int} {l : List GTry} {a : Nat} (h : q.seen.getD a false = true) : (comeQ f q m l).seen.getD a false = true := by
  unfold comeQ
  repeat' split
  all_goals first | exact h | (simp only [getD_set]; split <;> first | rfl | exact h)
theorem comesQ_mono {f : GFn} {a : Nat} : ∀ (xs : List (Int × List GTry)) {q : Wlk}, q.seen.getD a false = true → (comesQ f q xs).seen.getD a false = true
  | [], _, h => h
  | x :: xs, q, h => comesQ_mono xs (q := comeQ f q x.1 x.2) (comeQ_mono h)
theorem stepQ_mono {f : GFn} {q : Wlk} {a : Nat} (h : q.seen.getD a false = true) : (stepQ f q).seen.getD a false = true := by
  unfold stepQ; rw [fromQ_eq]; split
  · exact h
  · exact comesQ_mono _ (q := { q with todo := q.todo.dropLast }) h
theorem runQ_mono {f : GFn} {a : Nat} : ∀ (n : Nat) {q : Wlk}, q.seen.getD a false = true → (runQ f n q).seen.getD a false = true
  | 0, _, h => h
  | n + 1, q, h => by
    unfold runQ; split
    · exact h
    · exact runQ_mono n (stepQ_mono h)
theorem stepQ_other {f f' : GFn} (hl : f.code.length = f'.code.length) {q : Wlk} (h : f.code.getD (lastQ q) dIns = f'.code.getD (lastQ q) dIns) : stepQ f q = stepQ f' q := by
  unfold stepQ; rw [fromQ_eq, fromQ_eq, h, comesQ_len hl]
theorem runQ_other {f f' : GFn} (hg : goesAll f) (hl : f.code.length = f'.code.length) (a : Nat) (hne : ∀ k, k ≠ a → f.code.getD k dIns = f'.code.getD k dIns) : ∀ (n : Nat) {q : Wlk}, CInv f q none → (runQ f n q).seen.getD a false = false → runQ f' n q = runQ f n q
  | 0, _, _, _ => rfl
  | n + 1, q, hi, h => by
    unfold runQ at h ⊢
    by_cases hc : q.todo = [] ∨ q.bad = true
    · rw [if_pos hc, if_pos hc]
    · rw [if_neg hc] at h ⊢
      rw [if_neg hc]
      have h0 : q.todo ≠ [] := fun e => hc (.inl e)
      have hlast : lastQ q ≠ a := fun e => by
        have hl := lastQ_mem h0 fun x hx => (hi.todo x hx).1
        have := (hi.todo _ (List.getLast_mem h0)).2.2
        rw [← hl, Int.toNat_natCast, e] at this
        rw [runQ_mono n (stepQ_mono this)] at h
        cases h
      rw [← stepQ_other hl (hne _ hlast)]
      exact runQ_other hg hl a hne n (hi.step hg h0) h
theorem triesQ_other {f f' : GFn} (hg : goesAll f) (hl : f.code.length = f'.code.length) (a : Nat) (hne : ∀ k, k ≠ a → f.code.getD k dIns = f'.code.getD k dIns) (h : (triesQ f).seen.getD a false = false) : triesQ f' = triesQ f := by
  have h1 := (CInv.init (f := f)).come Rch.start (Int.le_refl 0)
  unfold triesQ at h ⊢
  have e : initQ f' = initQ f := by simp only [initQ, hl]
  rw [e, comeQ_len hl.symm, ← hl]
  exact runQ_other hg hl a hne _ h1.1 h
def endIns : GIns := ⟨31, 0, 0, 0, 0⟩
theorem end_order (p : GProg) (f : GFn) (k : Int) : orderB p f k endIns = true := by
  simp [orderB, endIns, isOp, btw, formA, formT, nameB, orderK]
/-! ### More than there was -/
theorem runQ_same {f f' : GFn} (h : f.code = f'.code) : ∀ (n : Nat) (q : Wlk), runQ f n q = runQ f' n q
  | 0, _ => rfl
  | n + 1, q => by
    unfold runQ
    rw [stepQ_other (f := f) (f' := f') (by rw [h]) (by rw [h]), runQ_same h n]
theorem triesQ_same {f f' : GFn} (h : f.code = f'.code) : triesQ f = triesQ f' := by
  unfold triesQ
  have e : initQ f = initQ f' := by simp only [initQ, h]
  rw [e, comeQ_len (f := f) (f' := f') (by rw [h]), runQ_same h, h]
structure MoreOk (p p' : GProg) (f f' : GFn) : Prop where
  consts : p.consts.length ≤ p'.consts.length
  texts : p.texts.length ≤ p'.texts.length
  fns : p.fns.length ≤ p'.fns.length
  same : ∀ k, k < p.fns.length → (p'.fns.getD k ⟨0, 0, false, [], []⟩).caught = (p.fns.getD k ⟨0, 0, false, [], []⟩).caught
  regs : f.regs ≤ f'.regs
  one : 1 ≤ f.regs
  gen : f.gen = f'.gen
  caught : f.caught = f'.caught
  code : f.code = f'.code
  b1 : p'.consts.length ≤ 100000
  b2 : p'.texts.length ≤ 100000
  b3 : p'.fns.length ≤ 100000
  b4 : f'.regs ≤ 100000
theorem btw_more {n a b : Int} (h : btw n 0 (wr (a - 1)) = true) (h0 : 0 ≤ a) (h1 : a ≤ b) (h2 : b ≤ 100000) : btw n 0 (wr (b - 1)) = true := by
  rw [wr_in (by omega) (by omega)] at h ⊢
  simp [btw] at h ⊢; omega
theorem nameB_more {p p' : GProg} {f f' : GFn} (h : MoreOk p p' f f') {c n : Int} (hb : nameB p f c n = true) : nameB p' f' c n = true := by
  have a1 := h.consts
  have a2 := h.texts
  have a3 := h.fns
  have a4 := h.regs
  have a5 := h.one
  have b1 := h.b1
  have b2 := h.b2
  have b3 := h.b3
  have b4 := h.b4
  unfold nameB at hb ⊢
  rw [← h.caught, ← h.code]
  by_cases c1 : c = 114
  · rw [if_pos c1] at hb ⊢; exact btw_more hb (by omega) a4 b4
  rw [if_neg c1] at hb ⊢
  by_cases c2 : c = 107
  · rw [if_pos c2] at hb ⊢; exact btw_more hb (by simp [lenI]) (by simp [lenI]; omega) (by simp [lenI]; omega)
  rw [if_neg c2] at hb ⊢
  by_cases c3 : c = 116
  · rw [if_pos c3] at hb ⊢; exact btw_more hb (by simp [lenI]) (by simp [lenI]; omega) (by simp [lenI]; omega)
  rw [if_neg c3] at hb ⊢
  by_cases c4 : c = 97
  · rw [if_pos c4] at hb ⊢; exact hb
  rw [if_neg c4] at hb ⊢
  by_cases c5 : c = 117
  · rw [if_pos c5] at hb ⊢; exact hb
  rw [if_neg c5] at hb ⊢
  by_cases c6 : c = 102
  · rw [if_pos c6] at hb ⊢
    rw [wr_in (by simp [lenI]; omega) (by simp [lenI]; omega)] at hb ⊢
    simp [btw, lenI] at hb ⊢; omega
  rw [if_neg c6] at hb ⊢
  by_cases c7 : c = 108 ∨ c = 99 ∨ c = 110
  · rw [if_pos c7] at hb ⊢; simp [btw] at hb ⊢; omega
  · rw [if_neg c7] at hb ⊢; exact hb
theorem caughtB_more {f f' g : GFn} (hr : f.regs ≤ f'.regs) (h1 : 1 ≤ f.regs) (h2 : f'.regs ≤ 100000) (hc : f.caught = f'.caught) (h : caughtB f g = true) : caughtB f' g = true := by
  unfold caughtB at h ⊢
  simp only [Bool.not_eq_true', List.any_eq_false] at h ⊢
  intro c hcm
  have := h c hcm
  unfold caught1B at this ⊢
  rw [← hc]
  intro he
  apply this
  simp only [Bool.and_eq_true, Bool.not_eq_true'] at he ⊢
  refine ⟨?_, he.2⟩
  cases hb : btw c 0 (wr (f.regs - 1)) with
  | false => rfl
  | true => rw [btw_more hb (by omega) hr h2] at he; cases he.1
theorem orderB_more {p p' : GProg} {f f' : GFn} (h : MoreOk p p' f f') {k : Int} {i : GIns} (hb : orderB p f k i = true) : orderB p' f' k i = true := by
  have hs := h.same
  have a4 := h.regs
  have a5 := h.one
  have b4 := h.b4
  have b3 := h.b3
  have a3 := h.fns
  simp only [orderB, Bool.and_eq_true, decide_eq_true_eq] at hb ⊢
  obtain ⟨⟨⟨⟨⟨h0, h1⟩, h2⟩, h3⟩, h4⟩, h5⟩ := hb
  refine ⟨⟨⟨⟨⟨h0, h1⟩, nameB_more h h2⟩, nameB_more h h3⟩, nameB_more h h4⟩, ?_⟩
  unfold orderK at h5 ⊢
  by_cases c1 : i.op = 14
  · rw [if_pos c1] at h5 ⊢; exact h5
  rw [if_neg c1] at h5 ⊢
  by_cases c2 : i.op = 19
  · rw [if_pos c2] at h5 ⊢; simp at h5 ⊢; omega
  rw [if_neg c2] at h5 ⊢
  by_cases c3 : i.op = 27
  · rw [if_pos c3] at h5 ⊢; exact btw_more h5 (by omega) a4 b4
  rw [if_neg c3] at h5 ⊢
  by_cases c4 : i.op = 26
  · rw [if_pos c4] at h5 ⊢
    have hA : formA i.op = (114, 102, 45) := by rw [c4]; rfl
    rw [hA] at h3
    have h3' : nameB p f 102 i.b = true := h3
    simp only [nameB] at h3'
    simp [btw, lenI] at h3'
    rw [wr_in (by omega) (by omega)] at h3'
    have := hs i.b.toNat (by omega)
    have h6 := caughtB_more a4 a5 b4 h.caught h5
    unfold caughtB at h6 ⊢
    rw [this]; exact h6
  rw [if_neg c4] at h5 ⊢
  by_cases c5 : i.op = 32
  · rw [if_pos c5] at h5 ⊢; rw [← h.gen]; exact h5
  · rw [if_neg c5] at h5 ⊢
theorem functionB_more {p p' : GProg} {f f' : GFn} (h : MoreOk p p' f f') (hp : f.params = f'.params) (hb : functionB p f = true) : functionB p' f' = true := by
  have a4 := h.regs
  simp only [functionB, Bool.and_eq_true, Bool.not_eq_true', Bool.or_eq_false_iff, decide_eq_false_iff_not] at hb ⊢
  obtain ⟨⟨⟨⟨h0, h1⟩, h2⟩, h3⟩, h4⟩ := hb
  refine ⟨⟨⟨⟨by omega, by omega⟩, by omega⟩, ?_⟩, by rw [← triesQ_same h.code]; exact h4⟩
  unfold ordersB at h3 ⊢
  rw [← h.code]
  rw [List.all_eq_true] at h3 ⊢
  exact fun k hk => orderB_more h (h3 k hk)
end Go.Proofs.YtalippdhfkpbmaaDoor
/- Contracts that were proved without the evaluator, as the evaluator takes them. -/
namespace Go.Proofs.YtalippdhfkpbmaaDoor
open Go.RowKit Go
def keyDs : List D → Option (List Value)
  | [] => some []
  | d :: ds => (keyD d).bind fun v => (keyDs ds).map fun l => v :: l
theorem keyDs_ok {E : Env} {w : World} {ι : Nms} : ∀ {ds : List D} {vs us : List Value}, RVs E w ι ds vs → keyDs ds = some us → vs = us
  | [], [], us, _, h => by simp only [keyDs, Option.some.injEq] at h; exact h
  | [], _ :: _, _, h, _ => by simp [RVs] at h
  | _ :: _, [], _, h, _ => by simp [RVs] at h
  | d :: ds, v :: vs, us, h, hk => by
    rw [RVs] at h
    simp only [keyDs] at hk
    obtain ⟨x, h1, h2⟩ := Option.bind_eq_some_iff.1 hk
    cases h3 : keyDs ds with
    | none => simp [h3] at h2
    | some l =>
      simp only [h3, Option.map_some, Option.some.injEq] at h2
      subst h2
      rw [keyD_ok h.1 h1, keyDs_ok h.2 h3]
/-- of plain values to what needs no memory -/
theorem DPure.ofBelow {P : Program} {f : FuncId} {ds : List D} {K : D → List Blk → Prop} (us : List Value) (hu : keyDs ds = some us) (hg : goFn P f = true) (v : Value) (d : D) (hv : ∀ E w ι, RV E w ι d v)
    (h : ∀ w, Calls P f us.toArray w fun e w' => e = .returned v ∧ Below w.heap.size w w') (hK : K d []) : DPure P f ds K :=
  ⟨hg, fun F w vs hF hgl hvs => by
    rw [keyDs_ok hvs hu]
    refine (h w).mono ?_
    rintro e w' ⟨rfl, hb⟩
    exact ⟨F, fun _ => none, d, [], v, rfl, ⟨hb.size, fun b h => hb.block b h, fun _ h => h, fun b h => ⟨.inl h, Nat.lt_of_lt_of_le (hF b h) hb.size⟩, fun i x hx => by simp at hx, fun i b cap hi => by simp at hi, fun i j b c c' hi => by simp at hi, fun _ _ => rfl, hv _ _ _, hb.os, hb.output, hb.tape⟩, hK⟩⟩
/-- to a new row of plain values -/
theorem DPure.ofRow {P : Program} {f : FuncId} {ds : List D} {K : D → List Blk → Prop} (us : List Value) (hu : keyDs ds = some us) (hg : goFn P f = true) (t : TypeId) (xs : List Value) (h1 : xs.all Value.oneCell' = true) (h0 : 0 < xs.length) (hm : xs.length ≤ maxLen)
    (h : ∀ F w, GlOk F w → Calls P f us.toArray w fun e w' => e = .returned (.slice (some ⟨w.heap.size, 0, none⟩) xs.length xs.length) ∧ w' = w.alloc (.cells xs.toArray t)) (hK : K (.one (.own 0 1 xs.length)) [⟨.c t, 1, xs.map fun v => [.d (.lit v)]⟩]) : DPure P f ds K :=
  ⟨hg, fun F w vs hF hgl hvs => by
    rw [keyDs_ok hvs hu]
    refine (h F w hgl).mono ?_
    rintro e w' ⟨rfl, rfl⟩
    have hs : (w.alloc (.cells xs.toArray t)).heap.size = w.heap.size + 1 := by show (w.heap.push _).size = _; rw [Array.size_push]
    refine ⟨F, fun i => if i = 0 then some (w.heap.size, xs.length) else none, _, _, _, rfl, ⟨by omega, fun b hb => old_alloc w _ b hb, fun _ h => h, fun b h => ⟨.inl h, by have := hF b h; omega⟩, fun i x hx => ?_, fun i b cap hi hb hc => ?_, fun i j b c c' hi hj _ _ _ _ => ?_, fun i hi => ?_, ?_, rfl, rfl, rfl⟩, hK⟩
    · cases i with
      | zero =>
        simp only [List.getElem?_cons_zero, Option.some.injEq] at hx
        subst hx
        refine ⟨⟨w.heap.size, xs.length, rfl, by simp, by simp, fun _ => ⟨xs.toArray, ?_, by simp, fun v hv => List.all_eq_true.1 h1 v (by simpa using hv), fun i j c hc => ?_⟩⟩, fun e he c hc => ?_⟩
        · show (w.heap.push _)[w.heap.size]? = _
          simp
        · unfold nth2 at hc
          simp only [List.getElem?_map] at hc
          cases hx : xs[i]? with
          | none => simp [hx] at hc
          | some v =>
            simp only [hx, Option.map_some, Option.bind_some] at hc
            cases j with
            | zero =>
              simp only [List.getElem?_cons_zero, Option.some.injEq] at hc
              subst hc
              exact ⟨v, by simp [hx], RD.lit (List.all_eq_true.1 h1 v (List.mem_of_getElem? hx))⟩
            | succ j => simp at hc
        · obtain ⟨v, -, rfl⟩ := List.mem_map.1 he
          exact ⟨_, List.mem_singleton.1 hc⟩
      | succ i => simp at hx
    · simp at hi; subst hi
      simp at hb
      obtain ⟨rfl, rfl⟩ := hb
      exact ⟨Nat.le_refl _, by omega, fun hF' => by have := hF _ hF'; omega⟩
    · simp at hi hj; omega
    · simp at hi; have : i ≠ 0 := by omega
      simp [this]
    · rw [RV]
      exact ⟨w.heap.size, xs.length, rfl, Nat.le_refl _, hm, .inr ⟨h0, rfl⟩⟩⟩
end Go.Proofs.YtalippdhfkpbmaaDoor
/- Contracts of Go's library out of the kit's shelf, at this program's numbers. -/
namespace Go.Proofs
open Go.Shelf
def Tryd.lays157_ren : Go.Shelf.Ren := ⟨fun | 157 => 48 | 229 => 64 | 199 => 65 | 261 => 77 | 311 => 85 | 312 => 86 | n => n, fun | 9 => 9 | 31 => 29 | 3 => 3 | 5 => 5 | 4 => 4 | 119 => 93 | 0 => 0 | 40 => 95 | 152 => 112 | 21 => 21 | 154 => 114 | 51 => 115 | 141 => 117 | 196 => 125 | 193 => 122 | 198 => 128 | 49 => 126 | 194 => 123 | 201 => 131 | 226 => 135 | 46 => 64 | 227 => 136 | n => n, fun | 0 => 1 | 6 => 2 | n => n⟩
theorem Tryd.lays157 : Go.Proofs.Lays.n157 Tryd.prog Tryd.lays157_ren := {
  mixed := by kernel_rfl
  f157 := Tryd.func48.trans (congrArg some (by kernel_rfl))
  f199 := Tryd.func65.trans (congrArg some (by kernel_rfl))
  f229 := Tryd.func64.trans (congrArg some (by kernel_rfl))
  f261 := Tryd.func77.trans (congrArg some (by kernel_rfl))
  f311 := Tryd.func85.trans (congrArg some (by kernel_rfl))
  f312 := Tryd.func86.trans (congrArg some (by kernel_rfl))
  t0 := Tryd.underlying0
  a0 := Tryd.isAgg0
  z0 := Tryd.sizeOf0
  v0 := Tryd.zeroValue0
  t3 := Tryd.underlying3
  a3 := Tryd.isAgg3
  z3 := Tryd.sizeOf3
  v3 := Tryd.zeroValue3
  t4 := Tryd.underlying4
  a4 := Tryd.isAgg4
  z4 := Tryd.sizeOf4
  v4 := Tryd.zeroValue4
  t5 := Tryd.underlying5
  a5 := Tryd.isAgg5
  z5 := Tryd.sizeOf5
  v5 := Tryd.zeroValue5
  t9 := Tryd.underlying9
  a9 := Tryd.isAgg9
  z9 := Tryd.sizeOf9
  v9 := Tryd.zeroValue9
  t21 := Tryd.underlying21
  a21 := Tryd.isAgg21
  z21 := Tryd.sizeOf21
  v21 := Tryd.zeroValue21
  t31 := Tryd.underlying29
  a31 := Tryd.isAgg29
  z31 := Tryd.sizeOf29
  v31 := Tryd.zeroValue29
  t40 := Tryd.underlying95
  a40 := Tryd.isAgg95
  z40 := Tryd.sizeOf95
  v40 := Tryd.zeroValue95
  t46 := Tryd.underlying64
  a46 := Tryd.isAgg64
  z46 := Tryd.sizeOf64
  v46 := Tryd.zeroValue64
  t49 := Tryd.underlying126
  a49 := Tryd.isAgg126
  z49 := Tryd.sizeOf126
  v49 := Tryd.zeroValue126
  t51 := Tryd.underlying115
  a51 := Tryd.isAgg115
  z51 := Tryd.sizeOf115
  v51 := Tryd.zeroValue115
  t119 := Tryd.underlying93
  a119 := Tryd.isAgg93
  z119 := Tryd.sizeOf93
  t141 := Tryd.underlying117
  a141 := Tryd.isAgg117
  z141 := Tryd.sizeOf117
  v141 := Tryd.zeroValue117
  t152 := Tryd.underlying112
  a152 := Tryd.isAgg112
  z152 := Tryd.sizeOf112
  v152 := Tryd.zeroValue112
  t154 := Tryd.underlying114
  a154 := Tryd.isAgg114
  z154 := Tryd.sizeOf114
  v154 := Tryd.zeroValue114
  t193 := Tryd.underlying122
  a193 := Tryd.isAgg122
  z193 := Tryd.sizeOf122
  v193 := Tryd.zeroValue122
  t194 := Tryd.underlying123
  a194 := Tryd.isAgg123
  z194 := Tryd.sizeOf123
  v194 := Tryd.zeroValue123
  t196 := Tryd.underlying125
  a196 := Tryd.isAgg125
  z196 := Tryd.sizeOf125
  v196 := Tryd.zeroValue125
  t198 := Tryd.underlying128
  a198 := Tryd.isAgg128
  z198 := Tryd.sizeOf128
  v198 := Tryd.zeroValue128
  t201 := Tryd.underlying131
  a201 := Tryd.isAgg131
  z201 := Tryd.sizeOf131
  v201 := Tryd.zeroValue131
  t226 := Tryd.underlying135
  a226 := Tryd.isAgg135
  z226 := Tryd.sizeOf135
  v226 := Tryd.zeroValue135
  t227 := Tryd.underlying136
  a227 := Tryd.isAgg136
  z227 := Tryd.sizeOf136
  v227 := Tryd.zeroValue136
  g0 := by kernel_rfl
  g6 := by kernel_rfl }
open Go.RowKit Go.Lib in
/-- strings.Fields, the table by 'Lib.TabIs' (as strings.TrimSpace's contract). 'hg': the table's number, by its name: at a dump 'by kernel_rfl'. (LAID: no walk: one application.) -/
theorem Tryd.strings_Fields (s : ByteArray) (w : World) (hs : s.size < 4294967281) (hascii : ∀ (j : Nat) b, s.data.toList[j]? = some b → b.toNat < 128) (htab : Lib.TabIs Tryd.prog w "strings.asciiSpace" .u8 Lib.asciiSpaceTab) :
    Calls Tryd.prog 48 #[.string s] w fun e w' =>
      e = .returned (.slice (some ⟨w.heap.size, 0, none⟩) (Lib.fields s.data.toList).length (Lib.fields s.data.toList).length) ∧ w' = w.alloc (.cells ((Lib.fields s.data.toList).map fun l => Value.string ⟨l.toArray⟩).toArray 9) := Any.strings_Fields Tryd.lays157 (by kernel_rfl) (by kernel_rfl) s w hs hascii htab
end Go.Proofs
/- Small words that all walks of this family use. -/
namespace Go.Proofs.YtalippdhfkpbmaaDoor
open Go.RowKit
theorem bcell {B : Nat} {W w1 : World} (hb : Below B W w1) : (∀ b o, b < B → w1.cell? ⟨b, o, none⟩ = W.cell? ⟨b, o, none⟩) ∧ (∀ b o, b < B → w1.frozen? ⟨b, o, none⟩ = W.frozen? ⟨b, o, none⟩) :=
  ⟨fun b o h => hb.cell (p := ⟨b, o, none⟩) h, fun b o h => hb.frozen (p := ⟨b, o, none⟩) h⟩
/-- A goal at which the walk stands still. -/
def Stay (p : Prop) : Prop := p
theorem Stay.out {p : Prop} (h : Stay p) : p := h
theorem Stay.mk {p : Prop} (h : p) : Stay p := h
theorem Below.via {B B' : Nat} {w W w1 : World} (h : Below B w W) (h1 : Below B' W w1) (hB : B ≤ B') : Below B w w1 := h.trans (h1.mono hB)
end Go.Proofs.YtalippdhfkpbmaaDoor
/- The operators' small functions: the walks. -/
namespace Go.Proofs.YtalippdhfkpbmaaDoor
open Go.RowKit
theorem within_any (n lo hi : Int) (w : World) :
    Calls Tryd.prog 46 #[.int .i64 n, .int .i64 lo, .int .i64 hi] w fun e w' => e = .returned (.bool (decide (lo ≤ n) && decide (n ≤ hi))) ∧ w' = w := by
  by_cases h : lo ≤ n
  · go_enter Tryd.func46, Tryd.ntmps46
    go_wp2
    go_ret
    exact ⟨by simp [h], rfl⟩
  · go_enter Tryd.func46, Tryd.ntmps46
    go_wp2
    go_ret
    exact ⟨by simp [show ¬ lo ≤ n by omega], rfl⟩
theorem fail_any (n : Int) (w : World) :
    Calls Tryd.prog 38 #[.int .i64 n] w fun e w' => e = .returned (.tuple #[.agg #[.int .i64 0, .int .i64 0], .int .i64 n]) ∧ Below w.heap.size w w' := by
  go_enter Tryd.func38, Tryd.ntmps38
  go_wp2
  refine bodyPost_ret (v := .tuple #[.agg #[.int .i64 0, .int .i64 0], .int .i64 n]) (by simp [results, Tryd.results38, go_sem, *] <;> rfl) rfl ?_
  exact ⟨rfl, (by repeat' (first | exact Below.refl _ _ | (refine Below.via ?_ (by assumption) ?_) | refine Below.setCell ?_ ?_ _ | refine Below.alloc ?_ ?_ _ | refine Below.drew ?_ | omega | (simp; omega) | (simp; done)))⟩
theorem truth_any (b : Bool) (w : World) :
    Calls Tryd.prog 34 #[.bool b] w fun e w' => e = .returned (.agg #[.int .i64 1, .int .i64 (bit b)]) ∧ Below w.heap.size w w' := by
  cases b
  · go_enter Tryd.func34, Tryd.ntmps34
    go_wp2
    refine bodyPost_ret (v := .agg #[.int .i64 1, .int .i64 0]) (by simp [results, Tryd.results34, go_sem, *] <;> rfl) rfl ?_
    exact ⟨rfl, (by repeat' (first | exact Below.refl _ _ | (refine Below.via ?_ (by assumption) ?_) | refine Below.setCell ?_ ?_ _ | refine Below.alloc ?_ ?_ _ | refine Below.drew ?_ | omega | (simp; omega) | (simp; done)))⟩
  · go_enter Tryd.func34, Tryd.ntmps34
    go_wp2
    refine bodyPost_ret (v := .agg #[.int .i64 1, .int .i64 1]) (by simp [results, Tryd.results34, go_sem, *] <;> rfl) rfl ?_
    exact ⟨rfl, (by repeat' (first | exact Below.refl _ _ | (refine Below.via ?_ (by assumption) ?_) | refine Below.setCell ?_ ?_ _ | refine Below.alloc ?_ ?_ _ | refine Below.drew ?_ | omega | (simp; omega) | (simp; done)))⟩
theorem frombits_run (n : Int) (w : World) : (callFunc 61 #[.int .u64 n]).run Tryd.prog w = .ok (.value (.float .f64 n.toNat)) w := by
  rw [run_callFunc_extern (e := Extern.MathFloatBits.float64frombits) Tryd.func61 (by kernel_rfl) (by kernel_rfl) (by kernel_rfl) (by kernel_rfl)]
  rfl
theorem bits_run (n : Nat) (w : World) : (callFunc 60 #[.float .f64 n]).run Tryd.prog w = .ok (.value (.int .u64 n)) w := by
  rw [run_callFunc_extern (e := Extern.MathFloatBits.float64bits) Tryd.func60 (by kernel_rfl) (by kernel_rfl) (by kernel_rfl) (by kernel_rfl)]
  rfl
theorem float_any (k n : Int) (w : World) :
    Calls Tryd.prog 37 #[.agg #[.int .i64 k, .int .i64 n]] w fun e w' => e = .returned (.float .f64 (flt n)) ∧ Below w.heap.size w w' := by
  have hfb := frombits_run
  go_enter Tryd.func37, Tryd.ntmps37
  go_wp2_with fail
  go_ret
  exact ⟨rfl, (by repeat' (first | exact Below.refl _ _ | (refine Below.via ?_ (by assumption) ?_) | refine Below.setCell ?_ ?_ _ | refine Below.alloc ?_ ?_ _ | refine Below.drew ?_ | omega | (simp; omega) | (simp; done)))⟩
theorem whole_any (n : Int) (w : World) :
    Calls Tryd.prog 35 #[.int .i64 n] w fun e w' => e = .returned (.tuple #[.agg #[.int .i64 (wholeS n).1, .int .i64 (wholeS n).2.1], .int .i64 (wholeS n).2.2]) ∧ Below w.heap.size w w' := by
  by_cases h : -2147483648 ≤ n ∧ n ≤ 2147483647
  · have h1 : (decide (-2147483648 ≤ n) && decide (n ≤ 2147483647)) = true := by simp [h]
    go_enter Tryd.func35, Tryd.ntmps35
    go_wp2_with (go_at_call 46; refine (within_any _ _ _ _).mono ?_; rintro e w1 ⟨rfl, rfl⟩)
    refine bodyPost_ret (v := .tuple #[.agg #[.int .i64 2, .int .i64 n], .int .i64 (-1)]) (by simp [results, Tryd.results35, go_sem, *] <;> rfl) rfl ?_
    exact ⟨by simp [wholeS, h], (by repeat' (first | exact Below.refl _ _ | (refine Below.via ?_ (by assumption) ?_) | refine Below.setCell ?_ ?_ _ | refine Below.alloc ?_ ?_ _ | refine Below.drew ?_ | omega | (simp; omega) | (simp; done)))⟩
  · have h1 : (decide (-2147483648 ≤ n) && decide (n ≤ 2147483647)) = false := by simp; omega
    go_enter Tryd.func35, Tryd.ntmps35
    go_wp2_with (first | (go_at_call 46; refine (within_any _ _ _ _).mono ?_; rintro e w1 ⟨rfl, rfl⟩) | (go_at_call 38; refine (fail_any _ _).mono ?_; rintro e w1 ⟨rfl, hb1⟩; obtain ⟨hc1, hf1⟩ := bcell hb1))
    refine bodyPost_ret (v := .tuple #[.agg #[.int .i64 0, .int .i64 0], .int .i64 1]) (by simp [results, Tryd.results35, go_sem, *] <;> rfl) rfl ?_
    exact ⟨by simp [wholeS, h], (by repeat' (first | exact Below.refl _ _ | (refine Below.via ?_ (by assumption) ?_) | refine Below.setCell ?_ ?_ _ | refine Below.alloc ?_ ?_ _ | refine Below.drew ?_ | omega | (simp; omega) | (simp; done)))⟩
end Go.Proofs.YtalippdhfkpbmaaDoor
/- Floats and values: the walks. -/
namespace Go.Proofs.YtalippdhfkpbmaaDoor
open Go.RowKit
theorem neq_of_same {x y : Nat} {b : Bool} (h : same x y = b) : (FloatKind.f64.format.order x y != some .eq) = !b := by
  subst h; rfl
theorem eql_of_same {x y : Nat} {b : Bool} (h : same x y = b) : (FloatKind.f64.format.order x y == some .eq) = b := h
theorem of_any (b : Nat) (w : World) :
    Calls Tryd.prog 36 #[.float .f64 b] w fun e w' => e = .returned (.agg #[.int .i64 3, .int .i64 (ofN b)]) ∧ Below w.heap.size w w' := by
  have hfb := bits_run
  cases hs : same b b
  · have hn := neq_of_same hs
    go_enter Tryd.func36, Tryd.ntmps36
    go_wp2_with fail
    refine bodyPost_ret (v := .agg #[.int .i64 3, .int .i64 9221120237041090561]) (by simp [results, Tryd.results36, go_sem, *] <;> rfl) rfl ?_
    exact ⟨by simp [ofN, hs, theNaN], (by repeat' (first | exact Below.refl _ _ | (refine Below.via ?_ (by assumption) ?_) | refine Below.setCell ?_ ?_ _ | refine Below.alloc ?_ ?_ _ | refine Below.drew ?_ | omega | (simp; omega) | (simp; done)))⟩
  · have hn := neq_of_same hs
    go_enter Tryd.func36, Tryd.ntmps36
    go_wp2_with fail
    refine bodyPost_ret (v := .agg #[.int .i64 3, .int .i64 (wrap64 b)]) (by simp [results, Tryd.results36, go_sem, *] <;> rfl) rfl ?_
    exact ⟨by simp [ofN, hs], (by repeat' (first | exact Below.refl _ _ | (refine Below.via ?_ (by assumption) ?_) | refine Below.setCell ?_ ?_ _ | refine Below.alloc ?_ ?_ _ | refine Below.drew ?_ | omega | (simp; omega) | (simp; done)))⟩
theorem right_f (n : Int) (w : World) (c : Bool) (hc : (n == 9221120237041090561) = c) :
    Calls Tryd.prog 12 #[.agg #[.int .i64 3, .int .i64 n]] w fun e w' => e = .returned (.bool (same (flt n) (flt n) || c)) ∧ Below w.heap.size w w' := by
  cases hs : same (flt n) (flt n)
  · have hn := eql_of_same hs
    go_enter Tryd.func12, Tryd.ntmps12
    go_wp2_with fail
    refine wp_region_plan [0, 1, 0, 7, 15, 31, 63, 127, 255, 511, 1023] (.seg 0 (.seg 2 (.eff 1 [2] (.eff 3 [] (.seg 4 (.seg 5 (.seg 6 (.seg 7 (.seg 8 (.seg 9 (.seg 10 .last))))))))))) rfl (by kernel_rfl) rfl ?_
    iterate 2 (refine plan_seg rfl (fun _ _ => ?_); go_wp2_with fail)
    refine plan_eff rfl (fun _ hQ1 => ?_)
    go_wp2_with (go_at_call 37; refine (float_any _ _ _).mono ?_; rintro e w1 ⟨rfl, hb1⟩; obtain ⟨hc1, hf1⟩ := bcell hb1)
    refine hQ1 _ _ (pend_cons rfl rfl (by go_simp; rfl) <| pend_nil) ?_
    have hz1 : w.heap.size < w1.heap.size := by have := hb1.size; simp at this; omega
    refine plan_eff0 rfl (fun _ _ => ?_)
    go_wp2_with (go_at_call 37; refine (float_any _ _ _).mono ?_; rintro e w2 ⟨rfl, hb2⟩; obtain ⟨hc2, hf2⟩ := bcell hb2)
    iterate 7 (refine plan_seg rfl (fun _ _ => ?_); go_wp2_with fail)
    refine plan_last ?_
    go_wp2
    go_ret
    exact ⟨rfl, (by repeat' (first | exact Below.refl _ _ | (refine Below.via ?_ (by assumption) ?_) | refine Below.setCell ?_ ?_ _ | refine Below.alloc ?_ ?_ _ | refine Below.drew ?_ | omega | (simp; omega) | (simp; done)))⟩
  · have hn := eql_of_same hs
    go_enter Tryd.func12, Tryd.ntmps12
    go_wp2_with fail
    refine wp_region_plan [0, 1, 0, 7, 15, 31, 63, 127, 255, 511, 1023] (.seg 0 (.seg 2 (.eff 1 [2] (.eff 3 [] (.seg 4 (.seg 5 (.seg 6 (.seg 7 (.seg 8 (.seg 9 (.seg 10 .last))))))))))) rfl (by kernel_rfl) rfl ?_
    iterate 2 (refine plan_seg rfl (fun _ _ => ?_); go_wp2_with fail)
    refine plan_eff rfl (fun _ hQ1 => ?_)
    go_wp2_with (go_at_call 37; refine (float_any _ _ _).mono ?_; rintro e w1 ⟨rfl, hb1⟩; obtain ⟨hc1, hf1⟩ := bcell hb1)
    refine hQ1 _ _ (pend_cons rfl rfl (by go_simp; rfl) <| pend_nil) ?_
    have hz1 : w.heap.size < w1.heap.size := by have := hb1.size; simp at this; omega
    refine plan_eff0 rfl (fun _ _ => ?_)
    go_wp2_with (go_at_call 37; refine (float_any _ _ _).mono ?_; rintro e w2 ⟨rfl, hb2⟩; obtain ⟨hc2, hf2⟩ := bcell hb2)
    iterate 7 (refine plan_seg rfl (fun _ _ => ?_); go_wp2_with fail)
    refine plan_last ?_
    go_wp2
    go_ret
    exact ⟨rfl, (by repeat' (first | exact Below.refl _ _ | (refine Below.via ?_ (by assumption) ?_) | refine Below.setCell ?_ ?_ _ | refine Below.alloc ?_ ?_ _ | refine Below.drew ?_ | omega | (simp; omega) | (simp; done)))⟩
theorem right_any (k n : Int) (w : World) :
    Calls Tryd.prog 12 #[.agg #[.int .i64 k, .int .i64 n]] w fun e w' => e = .returned (.bool (rightB k n)) ∧ Below w.heap.size w w' := by
  rcases (by omega : k = 0 ∨ k = 1 ∨ k = 2 ∨ k = 3 ∨ k = 4 ∨ k = 5 ∨ k = 6 ∨ (k < 0 ∨ 6 < k)) with rfl | rfl | rfl | rfl | rfl | rfl | rfl | h
  · go_enter Tryd.func12, Tryd.ntmps12
    go_wp2_with fail
    go_ret
    exact ⟨by simp [rightB], (by repeat' (first | exact Below.refl _ _ | (refine Below.via ?_ (by assumption) ?_) | refine Below.setCell ?_ ?_ _ | refine Below.alloc ?_ ?_ _ | refine Below.drew ?_ | omega | (simp; omega) | (simp; done)))⟩
  · go_enter Tryd.func12, Tryd.ntmps12
    go_wp2_with (go_at_call 46; refine (within_any _ _ _ _).mono ?_; rintro e w1 ⟨rfl, rfl⟩)
    go_ret
    exact ⟨by simp [rightB], (by repeat' (first | exact Below.refl _ _ | (refine Below.via ?_ (by assumption) ?_) | refine Below.setCell ?_ ?_ _ | refine Below.alloc ?_ ?_ _ | refine Below.drew ?_ | omega | (simp; omega) | (simp; done)))⟩
  · go_enter Tryd.func12, Tryd.ntmps12
    go_wp2_with (go_at_call 46; refine (within_any _ _ _ _).mono ?_; rintro e w1 ⟨rfl, rfl⟩)
    go_ret
    exact ⟨by simp [rightB], (by repeat' (first | exact Below.refl _ _ | (refine Below.via ?_ (by assumption) ?_) | refine Below.setCell ?_ ?_ _ | refine Below.alloc ?_ ?_ _ | refine Below.drew ?_ | omega | (simp; omega) | (simp; done)))⟩
  · refine (right_f n w _ rfl).mono fun e w' ⟨he, hb⟩ => ⟨by rw [he]; simp [rightB, theNaN], hb⟩
  · go_enter Tryd.func12, Tryd.ntmps12
    go_wp2_with fail
    go_ret
    exact ⟨by simp [rightB], (by repeat' (first | exact Below.refl _ _ | (refine Below.via ?_ (by assumption) ?_) | refine Below.setCell ?_ ?_ _ | refine Below.alloc ?_ ?_ _ | refine Below.drew ?_ | omega | (simp; omega) | (simp; done)))⟩
  · go_enter Tryd.func12, Tryd.ntmps12
    go_wp2_with fail
    go_ret
    exact ⟨by simp [rightB], (by repeat' (first | exact Below.refl _ _ | (refine Below.via ?_ (by assumption) ?_) | refine Below.setCell ?_ ?_ _ | refine Below.alloc ?_ ?_ _ | refine Below.drew ?_ | omega | (simp; omega) | (simp; done)))⟩
  · go_enter Tryd.func12, Tryd.ntmps12
    go_wp2_with (go_at_call 46; refine (within_any _ _ _ _).mono ?_; rintro e w1 ⟨rfl, rfl⟩)
    go_ret
    exact ⟨by simp [rightB], (by repeat' (first | exact Below.refl _ _ | (refine Below.via ?_ (by assumption) ?_) | refine Below.setCell ?_ ?_ _ | refine Below.alloc ?_ ?_ _ | refine Below.drew ?_ | omega | (simp; omega) | (simp; done)))⟩
  · have e0 : (k == 0) = false := by simp; omega
    have e1 : (k == 1) = false := by simp; omega
    have e2 : (k == 2) = false := by simp; omega
    have e3 : (k == 3) = false := by simp; omega
    have e4 : (k == 4) = false := by simp; omega
    have e5 : (k == 5) = false := by simp; omega
    have e6 : (k == 6) = false := by simp; omega
    go_enter Tryd.func12, Tryd.ntmps12
    go_wp2_with fail
    go_ret
    exact ⟨by simp at e0 e1 e2 e3 e4 e5 e6; simp [rightB, *], (by repeat' (first | exact Below.refl _ _ | (refine Below.via ?_ (by assumption) ?_) | refine Below.setCell ?_ ?_ _ | refine Below.alloc ?_ ?_ _ | refine Below.drew ?_ | omega | (simp; omega) | (simp; done)))⟩
end Go.Proofs.YtalippdhfkpbmaaDoor
/- Package ops: words, what is a value: contracts for the evaluator. -/
namespace Go.Proofs.YtalippdhfkpbmaaDoor
open Go.RowKit Go
/-! ### Words -/
def wordsC : List UInt8 := [107, 105, 110, 100, 32, 114, 97, 110, 103, 101, 32, 122, 101, 114, 111, 32, 105, 110, 100, 101, 120, 32, 108, 97, 114, 103, 101, 32, 100, 101, 101, 112, 32, 115, 116, 97, 116, 101, 32, 99, 111, 117, 110, 116, 32, 110, 105, 108, 32, 98, 111, 111, 108, 32, 105, 110, 116, 32, 102, 108, 111, 97, 116, 32, 116, 101, 120, 116, 32, 111, 98, 106, 101, 99, 116, 32, 108, 105, 115, 116, 32, 102, 117, 110, 99, 116, 105, 111, 110, 32, 103, 101, 110, 101, 114, 97, 116, 111, 114, 32, 108, 111, 99, 107, 32, 119, 101, 97, 107]
def wordsT : List ByteArray := [⟨#[107, 105, 110, 100]⟩, ⟨#[114, 97, 110, 103, 101]⟩, ⟨#[122, 101, 114, 111]⟩, ⟨#[105, 110, 100, 101, 120]⟩, ⟨#[108, 97, 114, 103, 101]⟩, ⟨#[100, 101, 101, 112]⟩, ⟨#[115, 116, 97, 116, 101]⟩, ⟨#[99, 111, 117, 110, 116]⟩, ⟨#[110, 105, 108]⟩, ⟨#[98, 111, 111, 108]⟩, ⟨#[105, 110, 116]⟩, ⟨#[102, 108, 111, 97, 116]⟩, ⟨#[116, 101, 120, 116]⟩, ⟨#[111, 98, 106, 101, 99, 116]⟩, ⟨#[108, 105, 115, 116]⟩, ⟨#[102, 117, 110, 99, 116, 105, 111, 110]⟩, ⟨#[103, 101, 110, 101, 114, 97, 116, 111, 114]⟩, ⟨#[108, 111, 99, 107]⟩, ⟨#[119, 101, 97, 107]⟩]
theorem wordsT_fields : ((Lib.fields wordsC).map fun l => Value.string ⟨l.toArray⟩) = wordsT.map Value.string := by kernel_rfl
theorem tab_of_gl {F : Nat → Prop} {w : World} (h : GlOk F w) : Lib.TabIs Tryd.prog w "strings.asciiSpace" .u8 Lib.asciiSpaceTab := by
  obtain ⟨-, t, fz, e⟩ := h _ _ (List.mem_singleton.2 rfl)
  unfold Lib.TabIs World.var?
  rw [show Tryd.prog.globalNamed "strings.asciiSpace" = some 1 by kernel_rfl]
  simp only [Option.bind_some, e]
theorem fieldsW_ok {s : ByteArray} (hs : s = ⟨wordsC.toArray⟩) {K : D → List Blk → Prop} (h : K (.one (.own 0 1 wordsT.length)) [⟨.c 9, 1, wordsT.map fun s => [.d (eS s)]⟩]) : DPure Tryd.prog 48 [dS s] K := by
  subst hs
  refine DPure.ofRow [.string ⟨wordsC.toArray⟩] rfl (by kernel_rfl) 9 (wordsT.map Value.string) (by decide) (by decide) (by simp [wordsT, maxLen]) (fun F w hg => ?_) (by rw [List.length_map, List.map_map]; exact h)
  have := Tryd.strings_Fields ⟨wordsC.toArray⟩ w (by decide) (fun j b hj => (by decide : ∀ b ∈ wordsC, b.toNat < 128) b (List.mem_of_getElem? hj)) (tab_of_gl hg)
  have e : (Lib.fields (ByteArray.mk wordsC.toArray).data.toList).length = (wordsT.map Value.string).length := by rw [← wordsT_fields]; simp
  rw [e] at this
  have e2 : ((Lib.fields (ByteArray.mk wordsC.toArray).data.toList).map fun l => Value.string ⟨l.toArray⟩) = wordsT.map Value.string := wordsT_fields
  rw [e2] at this
  exact this
theorem words_ok {K : D → List Blk → Prop} (h : K (.one (.own 0 1 wordsT.length)) [⟨.c 9, 1, wordsT.map fun s => [.d (eS s)]⟩]) : DPure Tryd.prog 17 [] K := by
  refine fn_ok [0] [] Tryd.func17 rfl (by kernel_rfl) rfl rfl rfl rfl (by kernel_rfl) ?_
  simp
  refine fieldsW_ok (by kernel_rfl) ?_
  simp
  exact h
set_option maxRecDepth 100000 in
theorem ownWords_ok {K : D → List Blk → Prop} (h : K (.one (.own 0 1 wordsT.length)) [⟨.c 9, 1, wordsT.map fun s => [.d (eS s)]⟩]) : DPure Tryd.prog 18 [] K := by
  refine fn_ok [0] [] Tryd.func18 rfl (by kernel_rfl) rfl rfl rfl rfl (by kernel_rfl) ?_
  simp
  exact h
/-! ### of the program: as they were walked -/
abbrev dV (k n : Int) : D := aD [eI k, eI n]
theorem dV_ok (k n : Int) (E : Env) (w : World) (ι : Nms) : RV E w ι (dV k n) (.agg #[.int .i64 k, .int .i64 n]) := by
  rw [RV]; exact ⟨_, rfl, .lit rfl, .lit rfl, trivial⟩
abbrev dVT (x : VT) : D := .tup [dV x.1 x.2.1, dI x.2.2]
theorem dVT_ok (x : VT) (E : Env) (w : World) (ι : Nms) : RV E w ι (dVT x) (.tuple #[.agg #[.int .i64 x.1, .int .i64 x.2.1], .int .i64 x.2.2]) := by
  rw [RV]
  refine ⟨_, rfl, ?_⟩
  rw [RVs]
  refine ⟨dV_ok _ _ _ _ _, ?_⟩
  rw [RVs]
  refine ⟨?_, by rw [RVs]; trivial⟩
  rw [RV]; exact .lit rfl
theorem right_ok (k n : Int) {K : D → List Blk → Prop} (h : K (dB (rightB k n)) []) : DPure Tryd.prog 12 [dV k n] K :=
  DPure.ofBelow [.agg #[.int .i64 k, .int .i64 n]] rfl (by kernel_rfl) _ (dB (rightB k n)) (fun _ _ _ => by rw [RV]; exact .lit rfl) (fun w => right_any k n w) h
end Go.Proofs.YtalippdhfkpbmaaDoor
/- Package code: is a program too large; its tables. -/
namespace Go.Proofs.YtalippdhfkpbmaaDoor
open Go.RowKit Go
theorem large1_ok (t : ByteArray) {K : D → List Blk → Prop} (h : K (dB (decide (200 < t.size))) []) : DPure Tryd.prog 69 [dS t] K := by
  refine fn_ok [0,2] [] Tryd.func69 rfl (by kernel_rfl) rfl rfl rfl rfl (by kernel_rfl) ?_
  simp
  exact kB h (by rw [Bool.eq_iff_iff]; simp; omega)
theorem large2_ok (f : GFn) {K : D → List Blk → Prop} (h : K (dB (fnLargeB f)) []) : DPure Tryd.prog 70 [aD (eFn f)] K := by
  refine fn_ok [0,1,2] [] Tryd.func70 rfl (by kernel_rfl) rfl rfl rfl rfl (by kernel_rfl) ?_
  simp
  repeat' (first | (refine alt (fun _ => ?_) (fun _ => ?_)) | (intro _) | fail)
  all_goals exact kB h (by unfold fnLargeB; rw [Bool.eq_iff_iff]; simp; omega)
set_option maxRecDepth 100000 in
theorem large_ok (p : GProg) {K : D → List Blk → Prop} (h : K (dB (largeB p)) []) : DPure Tryd.prog 52 [aD (eProg p)] K := by
  refine fn_ok [0,1,2] [] Tryd.func52 rfl (by kernel_rfl) rfl rfl rfl rfl (by kernel_rfl) ?_
  simp
  repeat' (first | (refine alt (fun _ => ?_) (fun _ => ?_)) | (intro _) | (refine containsFS_ok true p.texts eStr (fun t => dS t) (fun t => decide (200 < t.size)) 69 (fun _ => by simp) rfl [] [] (fun x => ⟨_, rfl, rfl⟩) (fun x _ K hK => large1_ok x hK) ?_; simp) | (refine containsFF_ok true p.fns eFn (fun f => aD (eFn f)) fnLargeB 70 (fun _ => by simp) rfl [] [] (fun x => ⟨_, _, _, _, _, rfl, rfl⟩) (fun x _ K hK => large2_ok x hK) ?_; simp))
  all_goals (refine kB h ?_; rcases Nat.lt_or_ge 60 p.fns.length with e1 | e1 <;> rcases Nat.lt_or_ge 200 p.consts.length with e2 | e2 <;> rcases Nat.lt_or_ge 200 p.texts.length with e3 | e3 <;> first | omega | (simp [largeB, e1, e2, e3]; done) | (simp only [largeB, decide_eq_false (Nat.not_lt.2 e1), decide_eq_false (Nat.not_lt.2 e2), decide_eq_false (Nat.not_lt.2 e3), Bool.false_or]; cases ht : p.texts.any (fun t => decide (200 < t.size)) <;> cases hf : p.fns.any fnLargeB <;> simp_all <;> grind))
theorem tables1_ok (p : GProg) (v : GVal) {K : D → List Blk → Prop} (h : K (dB (constBadB p v)) []) : DPure Tryd.prog 72 [aD (eVal v), .one (.d (.at_ true (eProg p)))] K := by
  refine fn_ok [0,1,2,3] [] Tryd.func72 rfl (by kernel_rfl) rfl rfl rfl rfl (by kernel_rfl) ?_
  simp
  refine right_ok _ _ ?_
  simp
  repeat' (first | (refine alt (fun _ => ?_) (fun _ => ?_)) | (intro _) | fail)
  all_goals exact kB h (by simp_all [constBadB])
/-- what the map of a program's texts has, when k of them have been seen -/
noncomputable def seenF (L : List ByteArray) (k : Nat) (v : Value) : Int := if v ∈ (L.take k).map Value.string then 1 else 0
theorem seenF_zero (L : List ByteArray) : seenF L 0 = fun _ => 0 := by funext v; simp [seenF]
theorem seenF_succ (L : List ByteArray) (k : Nat) (hk : k < L.length) : (fun v => if v = Value.string L[k] then 1 else seenF L k v) = seenF L (k + 1) := by
  funext v
  unfold seenF
  have e : (L.take (k + 1)).map Value.string = (L.take k).map Value.string ++ [Value.string L[k]] := by rw [List.take_succ_eq_append_getElem hk, List.map_append]; rfl
  rw [e]
  by_cases h : v = Value.string L[k]
  · rw [if_pos h, if_pos (by rw [h]; simp)]
  · rw [if_neg h]
    by_cases h2 : v ∈ (L.take k).map Value.string
    · rw [if_pos h2, if_pos (List.mem_append_left _ h2)]
    · rw [if_neg h2, if_neg (fun hm => by
        rcases List.mem_append.1 hm with hm | hm
        · exact h2 hm
        · exact h (List.mem_singleton.1 hm))]
theorem seenF_get (L : List ByteArray) (k : Nat) (hk : k < L.length) : seenF L k (.string L[k]) = 1 ↔ L[k] ∈ L.take k := by
  unfold seenF
  have e : Value.string L[k] ∈ (L.take k).map Value.string ↔ L[k] ∈ L.take k := by
    rw [List.mem_map]
    exact ⟨fun ⟨x, hx, e⟩ => by cases e; exact hx, fun h => ⟨_, h, rfl⟩⟩
  by_cases h : L[k] ∈ L.take k
  · rw [if_pos (e.2 h)]; simp [h]
  · rw [if_neg (fun h' => h (e.1 h'))]; simp [h]
theorem nodup_take {α : Type} {L : List α} {k : Nat} (hk : k < L.length) (h : (L.take k).Nodup) (hn : L[k] ∉ L.take k) : (L.take (k + 1)).Nodup := by
  rw [List.take_succ_eq_append_getElem hk, List.nodup_append]
  exact ⟨h, by simp, fun a ha b hb e => by rw [List.mem_singleton.1 hb] at e; exact hn (e ▸ ha)⟩
theorem not_nodup {α : Type} {L : List α} {k : Nat} (hk : k < L.length) (hn : L[k] ∈ L.take k) : ¬ L.Nodup := fun h => by
  have := h.sublist (List.take_sublist (k + 1) L)
  rw [List.take_succ_eq_append_getElem hk, List.nodup_append] at this
  exact this.2.2 _ hn _ (List.mem_singleton.2 rfl) rfl
set_option maxRecDepth 100000 in
set_option maxHeartbeats 1000000 in
theorem tables_ok (p : GProg) (hT : ∀ t ∈ p.texts, t.size ≤ maxLen) (hl : p.texts.length ≤ 1000) {K : D → List Blk → Prop} (h : K (dB (tablesB wordsT p)) []) : DPure Tryd.prog 53 [aD (eProg p)] K := by
  refine fn_ok [0,1,2,3,4,6,23,26,27,28,29,35] [] Tryd.func53 rfl (by kernel_rfl) rfl rfl rfl rfl (by kernel_rfl) ?_
  simp
  refine words_ok ?_
  simp
  intro _ _
  refine alt (fun h1 => ?_) (fun h1 => kB h (by
    have : p.texts.take wordsT.length ≠ wordsT := fun e => h1 (by have := congrArg List.length e; rw [List.length_take] at this; omega)
    simp [tablesB, this]))
  intro _
  refine ⟨h1, ?_⟩
  rw [← List.map_take]
  refine equalS_ok true false (p.texts.take wordsT.length) wordsT ?_
  simp
  refine alt (fun h2 => ?_) (fun h2 => kB h (by simp [tablesB, h2]))
  intro _
  refine loopH_ok (ks := [0,1,2,3,4,6,23,26,27,28,29,35]) (pl := []) (n0 := 44) (fun x : {k : Nat // k ≤ p.texts.length ∧ (p.texts.take k).Nodup} => [(28, dI x.1)]) (fun H x => H.set 2 (some ⟨.m 9 (seenF p.texts x.1) x.1, 0, []⟩)) (fun _ => 3) (fun x => p.texts.length - x.1) ⟨0, by simp⟩ rfl (by kernel_rfl) (Wk.subH (by simp) (by rw [Hp.set_set, seenF_zero])) ?_
  rintro ⟨k, hk, hn⟩
  by_cases h3 : k < p.texts.length
  · have hsz := hT _ (List.getElem_mem h3)
    have hgk := seenF_get p.texts k h3
    simp [h3, keyin9 hsz]
    refine alt (fun h4 => kB h (by simp [tablesB, not_nodup h3 (hgk.1 h4)])) (fun h4 => ⟨by decide, by omega, k + 1, by omega, ⟨by omega, nodup_take h3 hn fun hm => h4 (hgk.2 hm)⟩, Wk.subH (by simp [wrap_add (show k < 9223372036854775807 by omega)]) (by rw [seenF_succ _ _ h3])⟩)
  · simp [h3]
    obtain rfl : k = p.texts.length := by omega
    rw [List.take_length] at hn
    refine containsFV_ok true p.consts eVal (fun v => aD (eVal v)) (constBadB p) 72 (fun _ => by simp) rfl [] [.at_ true (eProg p)] (fun x => ⟨_, _, rfl, rfl⟩) (fun x _ K hK => tables1_ok p x hK) ?_
    simp
    exact kB h (by simp [tablesB, h2, hn])
end Go.Proofs.YtalippdhfkpbmaaDoor
