/- slices.Reverse over a row of the call's own. -/
import Derived.Test.YtalippdhfkpbmaaSl
import Derived.Test.YtalippdhfkpbmaaChecked
import Derived.Lib.Hide
namespace Go.Proofs.Ytalippdhfkpbmaa
open Go.RowKit
/-- after k exchanges -/
def swapped (L M : List Int) (k : Nat) : Prop := M.length = L.length ∧ ∀ p, p < L.length → M.getD p 0 = if p < k ∨ L.length ≤ p + k then L.getD (L.length - 1 - p) 0 else L.getD p 0
theorem swapped_zero (L : List Int) : swapped L L 0 := ⟨rfl, fun p hp => by simp [show ¬ L.length ≤ p by omega]⟩
theorem getD_set {M : List Int} {i j : Nat} {x : Int} (h : i < M.length) : (M.set i x).getD j 0 = if i = j then x else M.getD j 0 := by
  simp only [List.getD, List.getElem?_set]
  split
  · simp [h]
  · rfl
theorem swapped_step {L M : List Int} {k : Nat} (h : swapped L M k) (hk : k + k + 1 < L.length) :
    swapped L ((M.set k (M.getD (L.length - 1 - k) 0)).set (L.length - 1 - k) (M.getD k 0)) (k + 1) := by
  obtain ⟨h1, h2⟩ := h
  refine ⟨by simp [h1], fun p hp => ?_⟩
  rw [getD_set (by simp; omega), getD_set (by omega)]
  have a := h2 (L.length - 1 - k) (by omega)
  have b := h2 k (by omega)
  have c := h2 p hp
  rw [if_neg (by omega)] at a b
  by_cases e1 : L.length - 1 - k = p
  · rw [if_pos e1, b, if_pos (by omega)]; congr 1; omega
  · rw [if_neg e1]
    by_cases e2 : k = p
    · rw [if_pos e2, a, if_pos (by omega)]; congr 1; omega
    · rw [if_neg e2, c]
      by_cases e3 : p < k ∨ L.length ≤ p + k
      · rw [if_pos e3, if_pos (by omega)]
      · rw [if_neg e3, if_neg (by omega)]
theorem swapped_end {L M : List Int} {k : Nat} (h : swapped L M k) (hk : L.length ≤ k + k + 1) (hk2 : k + k ≤ L.length) : M = L.reverse := by
  obtain ⟨h1, h2⟩ := h
  apply List.ext_getElem (by simp [h1])
  intro p hp hq
  have hp' : p < L.length := by omega
  have := h2 p hp'
  simp only [List.getD, List.getElem?_eq_getElem hp, Option.getD_some] at this
  rw [List.getElem_reverse, this]
  split
  · simp [List.getElem?_eq_getElem (show L.length - 1 - p < L.length by omega)]
  · have : p = L.length - 1 - p := by omega
    simp [List.getElem?_eq_getElem hp', ← this]
theorem ints_set (L : List Int) (j : Nat) (x : Int) : (ints L).set j (.int .i64 x) = ints (L.set j x) := by simp [ints]
set_option maxHeartbeats 1000000 in
theorem reverseI_any (w : World) (v : Value) (L : List Int) (base : Nat) (e0 : TypeId) (h : w.ownsRow base e0 1 v L.length (ints L)) (hbase : base ≤ w.heap.size) :
    Calls Try.prog 45 #[v] w fun e w' => e = .returned (.tuple #[]) ∧ w'.ownsRow base e0 1 v L.length (ints L.reverse) ∧ Below base w w' := by
  rcases h.2 with ⟨rfl, hn⟩ | ⟨g, cap, cur, rfl, hg, hgc, h1, h2, -, -⟩
  · obtain rfl : L = [] := List.eq_nil_of_length_eq_zero hn
    go_enter Try.func45, Try.ntmps45
    go_wp2
    refine wp_loop_rounds 1 ?_
    rw [rounds_succ]
    go_wp2
    refine bodyPost_end (v := .tuple #[]) (by simp [results, Try.results45, go_sem, *] <;> rfl) rfl ?_
    exact ⟨rfl, h, Below.refl _ _⟩
  · have hgs := (Array.getElem?_eq_some_iff.1 hgc).1
    clear hgc
    simp only [maxLen] at h2
    go_enter Try.func45, Try.ntmps45
    go_wp2
    go_loopw [2, 3] (fun i j wr => ∃ (k : Nat) (M : List Int), k + k ≤ L.length ∧ i = .int .i64 k ∧ j = .int .i64 ((L.length : Int) - 1 - k) ∧ swapped L M k ∧ wr.ownsRow base e0 1 (.slice (some ⟨g, 0, none⟩) L.length cap) L.length (ints M) ∧ Below base w wr ∧ g < wr.heap.size) (fun i _ _ => L.length - (intOf i).toNat)
    case atStart => exact ⟨0, L, by omega, rfl, by go_num, swapped_zero L, h, Below.refl _ _, hgs⟩
    case round =>
      obtain ⟨k, M, hk, rfl, rfl, hs, ho, hb, hgl⟩ := hrel
      by_cases hlt : k + k + 1 < L.length
      · have hml := hs.1
        have c0 : wr.cell? ⟨g, k, none⟩ = some (.int .i64 (M.getD k 0)) := (ho.cellAt k (by omega)).trans (ints_get (by omega))
        have c1 : wr.cell? ⟨g, L.length - 1 - k, none⟩ = some (.int .i64 (M.getD (L.length - 1 - k) 0)) := (ho.cellAt _ (by omega)).trans (ints_get (by omega))
        have f0 : wr.frozen? ⟨g, k, none⟩ = false := ho.frozenAt k
        have f1 : wr.frozen? ⟨g, L.length - 1 - k, none⟩ = false := ho.frozenAt _
        go_wp2_with fail
        refine wp_region_plan [0, 0, 0, 0, 0, 0, 48, 112, 0, 0, 768, 1792, 4083, 8179, 16383, 32767] (.seg 0 (.seg 1 (.seg 2 (.seg 3 (.seg 4 (.seg 5 (.seg 6 (.seg 7 (.seg 8 (.seg 9 (.seg 10 (.seg 11 (.seg 12 (.eff 13 [] (.seg 14 (.eff 15 [] .last)))))))))))))))) rfl (by kernel_rfl) rfl ?_
        iterate 13 (refine plan_seg rfl (fun _ _ => ?_); go_wp2_with fail)
        refine plan_eff0 rfl (fun _ _ => ?_)
        go_wp2_with fail
        iterate 1 (refine plan_seg rfl (fun _ _ => ?_); go_wp2_with fail)
        refine plan_eff0 rfl (fun _ _ => ?_)
        go_wp2_with fail
        refine plan_last ?_
        go_wp2_with fail
        -- end of the round
        go_roundw
        case rel =>
          have o1 := (ho.stored k (.int .i64 (M.getD (L.length - 1 - k) 0))).1
          have o2 := (o1.stored (L.length - 1 - k) (.int .i64 (M.getD k 0))).1.drew
          rw [ints_set, ints_set] at o2
          exact ⟨k + 1, _, by omega, by go_num, by go_num, swapped_step hs hlt, o2, ((hb.setCell (p := ⟨g, k, none⟩) hg _).setCell (p := ⟨g, L.length - 1 - k, none⟩) hg _).drew, by simp [hgl]⟩
        case measure => simp [intOf]; omega
      · go_wp2_with fail
        refine bodyPost_end (v := .tuple #[]) (by simp [results, Try.results45, go_sem, *] <;> rfl) rfl ?_
        exact ⟨rfl, swapped_end hs (by omega) hk ▸ ho, hb⟩
end Go.Proofs.Ytalippdhfkpbmaa
