/- Shapes, plainly: the names of a shape, which lists are right. -/
import Derived.Test.YtalippdhfkpbmaaSl
namespace Go.Proofs.Ytalippdhfkpbmaa
open Go.RowKit
/-- where x stands first; -1: nowhere -/
def idx {α : Type} [DecidableEq α] (L : List α) (x : α) : Int := if x ∈ L then (L.idxOf x : Int) else -1
theorem take_more {α : Type} {L : List α} {k : Nat} {x : α} (d : α) (hk : k < L.length) (hn : x ∉ L.take k) (hx : L.getD k d ≠ x) : x ∉ L.take (k + 1) := by
  rw [List.take_succ_eq_append_getElem hk]
  simp only [List.getD, List.getElem?_eq_getElem hk, Option.getD_some] at hx
  intro h
  rcases List.mem_append.1 h with h | h
  · exact hn h
  · exact hx (by simpa using (List.mem_singleton.1 h).symm)
theorem mem_getD {α : Type} {L : List α} {k : Nat} (d : α) (hk : k < L.length) : L.getD k d ∈ L := by
  simp [List.getD, List.getElem?_eq_getElem hk]
theorem idx_at {α : Type} [DecidableEq α] {L : List α} {k : Nat} {x : α} (d : α) (hk : k < L.length) (hn : x ∉ L.take k) (hx : L.getD k d = x) : idx L x = k := by
  have hm : x ∈ L := hx ▸ mem_getD d hk
  simp only [idx, hm, if_true]
  simp only [List.getD, List.getElem?_eq_getElem hk, Option.getD_some] at hx
  have h1 : L = L.take k ++ L.drop k := (List.take_append_drop k L).symm
  have h2 : L.drop k = x :: L.drop (k + 1) := by rw [← hx]; exact List.drop_eq_getElem_cons hk
  have h3 : List.idxOf x (L.take k ++ x :: L.drop (k + 1)) = (L.take k).length := by
    rw [List.idxOf_append, if_neg hn]; simp
  rw [← h2, ← h1] at h3
  rw [h3, List.length_take]; congr 1; omega
theorem idx_no {α : Type} [DecidableEq α] {L : List α} {x : α} (h : x ∉ L) : idx L x = -1 := by simp [idx, h]
theorem idx_ge {α : Type} [DecidableEq α] (L : List α) (x : α) : decide (0 ≤ idx L x) = decide (x ∈ L) := by
  by_cases h : x ∈ L <;> simp [idx, h]
abbrev Shp := Int × Int
def namesF (L : List Shp) : Nat → Nat → List Int
  | 0, _ => []
  | f + 1, s => if s = 0 then [] else namesF L f (fstD L s).toNat ++ [sndD L s]
/-- the names of shape s, from the root on -/
def namesP (L : List Shp) (s : Nat) : List Int := namesF L s s
/-- up to s each Up stands ahead -/
def Ahead (L : List Shp) (s : Nat) : Prop := ∀ j, 0 < j → j ≤ s → 0 ≤ fstD L j ∧ fstD L j < j
theorem Ahead.to {L : List Shp} {s t : Nat} (h : Ahead L s) (ht : t ≤ s) : Ahead L t := fun j h0 h1 => h j h0 (by omega)
theorem namesF_fuel {L : List Shp} : ∀ {f g s : Nat}, Ahead L s → s ≤ f → s ≤ g → namesF L f s = namesF L g s
  | 0, 0, s, _, _, _ => rfl
  | 0, g + 1, s, _, h, _ => by obtain rfl : s = 0 := by omega
                               simp [namesF]
  | f + 1, 0, s, _, _, h => by obtain rfl : s = 0 := by omega
                               simp [namesF]
  | f + 1, g + 1, s, ha, hf, hg => by
    by_cases h0 : s = 0
    · simp [namesF, h0]
    · have hu := ha s (by omega) (Nat.le_refl _)
      simp only [namesF, h0, if_false]
      rw [namesF_fuel (f := f) (g := g) (ha.to (by omega)) (by omega) (by omega)]
theorem namesP_zero (L : List Shp) : namesP L 0 = [] := rfl
theorem namesP_step {L : List Shp} {s : Nat} (h : Ahead L s) (h0 : 0 < s) : namesP L s = namesP L (fstD L s).toNat ++ [sndD L s] := by
  have hu := h s h0 (Nat.le_refl _)
  obtain ⟨t, rfl⟩ : ∃ t, s = t + 1 := ⟨s - 1, by omega⟩
  show namesF L (t + 1) (t + 1) = _
  simp only [namesF, Nat.add_eq_zero_iff, Nat.one_ne_zero, and_false, if_false]
  rw [namesF_fuel (f := t) (g := (fstD L (t + 1)).toNat) (h.to (by omega)) (by omega) (by omega)]
  rfl
theorem namesP_len {L : List Shp} : ∀ {s : Nat}, Ahead L s → (namesP L s).length ≤ s := by
  intro s
  induction s using Nat.strongRecOn with
  | _ s ih =>
    intro h
    by_cases h0 : s = 0
    · subst h0; simp [namesP_zero]
    · have hu := h s (by omega) (Nat.le_refl _)
      rw [namesP_step h (by omega)]
      have := ih (fstD L s).toNat (by omega) (h.to (by omega))
      simp; omega
/-- element k may stand behind those ahead of it -/
def fits (L : List Shp) (k : Nat) : Prop :=
  0 ≤ fstD L k ∧ fstD L k < k ∧ 0 ≤ sndD L k ∧ sndD L k ∉ namesP L (fstD L k).toNat ∧ L.getD k (0, 0) ∉ L.take k
/-- the first k of the list are right -/
def okTo (L : List Shp) (k : Nat) : Prop := ∀ j, 0 < j → j < k → fits L j
theorem okTo.ahead {L : List Shp} {k s : Nat} (h : okTo L k) (hs : s < k) : Ahead L s := fun j h0 h1 => by
  have := h j h0 (by omega)
  exact ⟨this.1, this.2.1⟩
def okay (L : List Shp) : Prop := 0 < L.length ∧ L.getD 0 (0, 0) = (-1, -1) ∧ okTo L L.length
open Classical in
/-- what Check says -/
noncomputable def faultP (L : List Shp) : Int := if 100 < L.length then 2 else if okay L then 0 else 3
theorem fault_bad {L : List Shp} (h : L.length ≤ 100) (hn : ¬ okay L) : faultP L = 3 := by unfold faultP; rw [if_neg (by omega), if_neg hn]
theorem fault_ok {L : List Shp} (h : L.length ≤ 100) (hn : okay L) : faultP L = 0 := by unfold faultP; rw [if_neg (by omega), if_pos hn]
theorem fault_fit {L : List Shp} {j : Nat} (h : L.length ≤ 100) (h0 : 0 < j) (hj : j < L.length) (hn : ¬ fits L j) : faultP L = 3 := fault_bad h fun ⟨_, _, h3⟩ => hn (h3 j h0 hj)
theorem okTo.step {L : List Shp} {k : Nat} (h : okTo L k) (hf : fits L k) : okTo L (k + 1) := fun j h0 h1 => by
  by_cases e : j = k
  · subst e; exact hf
  · exact h j h0 (by omega)
theorem pair_eta (L : List Shp) (k : Nat) : (fstD L k, sndD L k) = L.getD k (0, 0) := rfl
theorem seen_take {L : List Shp} {k : Nat} (hk : k + 1 < L.length) : (L.drop 1).take k ++ [(fstD L (k + 1), sndD L (k + 1))] = (L.drop 1).take (k + 1) := by
  rw [List.take_succ_eq_append_getElem (by simp; omega), pair_eta]
  simp [List.getD, List.getElem?_eq_getElem hk, Nat.add_comm]
theorem root_take {L : List Shp} (h0 : 0 < L.length) (k : Nat) : L.take (k + 1) = (fstD L 0, sndD L 0) :: (L.drop 1).take k := by
  cases L with
  | nil => simp at h0
  | cons p L => simp [fstD, sndD]
theorem fits_seen {L : List Shp} {k : Nat} (h0 : 0 < L.length) (hf : fits L (k + 1)) : (fstD L (k + 1), sndD L (k + 1)) ∉ (L.drop 1).take k := fun h =>
  hf.2.2.2.2 (by rw [← pair_eta, root_take h0 k]; exact List.mem_cons_of_mem _ h)
theorem fits_mk {L : List Shp} {k : Nat} (h0 : 0 < L.length) (hr : fstD L 0 = -1) (a : 0 ≤ fstD L (k + 1)) (b : fstD L (k + 1) ≤ k) (c : 0 ≤ sndD L (k + 1)) (d : (fstD L (k + 1), sndD L (k + 1)) ∉ (L.drop 1).take k)
    (e : sndD L (k + 1) ∉ namesP L (fstD L (k + 1)).toNat) : fits L (k + 1) := by
  refine ⟨a, by omega, c, e, ?_⟩
  rw [← pair_eta, root_take h0 k]
  intro h
  rcases List.mem_cons.1 h with h | h
  · have := congrArg Prod.fst h
    simp only [hr] at this
    omega
  · exact d h
theorem faultP_ok {L : List Shp} (h : faultP L = 0) : L.length ≤ 100 ∧ okay L := by
  unfold faultP at h
  split at h
  · omega
  · split at h
    · exact ⟨by omega, by assumption⟩
    · omega
/-- what With says: the shapes, which one, the error -/
noncomputable def withP (L : List Shp) (a n : Int) : List Shp × Int × Int :=
  if faultP L ≠ 0 then ([], 0, faultP L) else if a < 0 ∨ (L.length : Int) ≤ a ∨ n < 0 then ([], 0, 1) else if n ∈ namesP L a.toNat then ([], 0, 6)
  else if (a, n) ∈ L then (L, idx L (a, n), 0) else if L.length = 100 then ([], 0, 2) else (L ++ [(a, n)], L.length, 0)
/-- what Names says -/
noncomputable def namesQ (L : List Shp) (a : Int) : List Int := if faultP L ≠ 0 ∨ a < 0 ∨ (L.length : Int) ≤ a then [] else namesP L a.toNat
end Go.Proofs.Ytalippdhfkpbmaa
