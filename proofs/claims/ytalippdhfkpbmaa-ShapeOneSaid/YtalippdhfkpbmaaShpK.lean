/- slices.Equal over whole numbers and over shapes: what they answer. -/
import Derived.Test.YtalippdhfkpbmaaShpF
import Derived.Test.YtalippdhfkpbmaaShpV
namespace Go.Proofs.Ytalippdhfkpbmaa
open Go.RowKit
theorem eq_of_getD {α : Type} {L M : List α} (d : α) (hl : L.length = M.length) (h : ∀ i, i < L.length → L.getD i d = M.getD i d) : L = M := by
  apply List.ext_getElem hl
  intro i h1 h2
  have := h i h1
  simpa [List.getD, List.getElem?_eq_getElem h1, List.getElem?_eq_getElem h2] using this
set_option maxHeartbeats 1000000 in
theorem equalI_any (w : World) (v u : Value) (L M : List Int) (h : Ints w v L) (g : Ints w u M) :
    Calls Try.prog 20 #[v, u] w fun e w' => e = .returned (.bool (decide (L = M))) ∧ Below w.heap.size w w' := by
  obtain ⟨A, cap, rfl, hcap, hmx, -, hA⟩ := h.open
  obtain ⟨B, cup, rfl, hcup, hmy, -, hB⟩ := g.open
  simp only [maxLen] at hmx hmy
  by_cases hl : L.length = M.length
  · rw [← hl] at hB hcup ⊢
    have hl' := Lib.hid hl
    clear h g hl
    go_enter Try.func20, Try.ntmps20
    go_wp2_with fail
    -- STOP: a loop
    go_loopw [13] (fun i wr => ∃ k : Nat, k ≤ L.length ∧ i = .int .i64 k ∧ (∀ j, j < k → L.getD j 0 = M.getD j 0) ∧ Below w.heap.size w wr) (fun i _ => L.length - (intOf i).toNat)
    case atStart => exact ⟨0, by omega, rfl, fun j hj => by omega, Below.refl _ _⟩
    case round =>
      obtain ⟨k, hk, rfl, hn, hb⟩ := hrel
      by_cases hlt : k < L.length
      · obtain ⟨b, o, rfl, hbl, hc⟩ := hA (by omega)
        obtain ⟨b', o', rfl, hbl', hc'⟩ := hB (by omega)
        have c0 := (hb.cell (p := ⟨b, o + k, none⟩) hbl).trans (hc k hlt)
        have c1 := (hb.cell (p := ⟨b', o' + k, none⟩) hbl').trans (hc' k (by omega))
        have hy : Hid (L.getD k 0 = M.getD k 0 ↔ L.getD k 0 = M.getD k 0) := Iff.rfl
        generalize hx : L.getD k 0 = x at c0
        generalize hz : M.getD k 0 = z at c1
        have hx' := Lib.hid hx
        have hz' := Lib.hid hz
        clear hx hz hA hB hc hc' hy
        by_cases e : x = z
        · subst e
          go_wp2_with fail
          refine wp_region_plan [0, 0, 3, 7, 0, 0, 48, 112, 255] (.seg 0 (.seg 1 (.seg 2 (.seg 3 (.seg 4 (.seg 5 (.seg 6 (.seg 7 (.seg 8 .last))))))))) rfl (by kernel_rfl) rfl ?_
          iterate 9 (refine plan_seg rfl (fun _ _ => ?_); go_wp2_with fail)
          refine plan_last ?_
          go_wp2_with fail
          -- end of the round
          go_roundw
          case rel => exact ⟨k + 1, by omega, by go_num, fun j hj => by
            by_cases ej : j = k
            · subst ej; exact hx'.out.trans hz'.out.symm
            · exact hn j (by omega), hb.drew⟩
          case measure => simp [intOf]; omega
        · have hne : ¬ L = M := fun q => e (by rw [← hx'.out, ← hz'.out, q])
          have hdec := Lib.hid (decide_eq_false hne)
          clear hne
          go_wp2_with fail
          refine wp_region_plan [0, 0, 3, 7, 0, 0, 48, 112, 255] (.seg 0 (.seg 1 (.seg 2 (.seg 3 (.seg 4 (.seg 5 (.seg 6 (.seg 7 (.seg 8 .last))))))))) rfl (by kernel_rfl) rfl ?_
          iterate 9 (refine plan_seg rfl (fun _ _ => ?_); go_wp2_with fail)
          refine plan_last ?_
          go_wp2_with fail
          go_ret
          exact ⟨by rw [hdec.out]; rfl, hb.drew⟩
      · go_wp2_with fail
        go_ret
        exact ⟨by rw [decide_eq_true (eq_of_getD 0 hl'.out fun j hj => hn j (by omega))]; rfl, hb⟩
  · have hne : ¬ L = M := fun e => hl (by rw [e])
    rw [decide_eq_false hne]
    have hl2 : ¬ (L.length : Int) = (M.length : Int) := by omega
    clear hA hB h g hne hl
    go_enter Try.func20, Try.ntmps20
    go_wp2_with fail
    go_ret
    exact ⟨rfl, (by repeat' (first | exact Below.refl _ _ | (refine Below.via ?_ (by assumption) ?_) | refine Below.setCell ?_ ?_ _ | refine Below.alloc ?_ ?_ _ | refine Below.drew ?_ | omega | (simp; omega) | (simp; done)))⟩
set_option maxHeartbeats 1000000 in
theorem equalD_any (w : World) (v u : Value) (L M : List (Int × Int)) (h : Duos w v L) (g : Duos w u M) :
    Calls Try.prog 15 #[v, u] w fun e w' => e = .returned (.bool (decide (L = M))) ∧ Below w.heap.size w w' := by
  obtain ⟨A, cap, rfl, hcap, hmx, -, hA⟩ := h.open
  obtain ⟨B, cup, rfl, hcup, hmy, -, hB⟩ := g.open
  simp only [maxLen] at hmx hmy
  by_cases hl : L.length = M.length
  · rw [← hl] at hB hcup ⊢
    have hl' := Lib.hid hl
    clear h g hl
    go_enter Try.func15, Try.ntmps15
    go_wp2_with fail
    -- STOP: a loop
    go_loopw [13] (fun i wr => ∃ k : Nat, k ≤ L.length ∧ i = .int .i64 k ∧ (∀ j, j < k → L.getD j (0, 0) = M.getD j (0, 0)) ∧ Below w.heap.size w wr) (fun i _ => L.length - (intOf i).toNat)
    case atStart => exact ⟨0, by omega, rfl, fun j hj => by omega, Below.refl _ _⟩
    case round =>
      obtain ⟨k, hk, rfl, hn, hb⟩ := hrel
      by_cases hlt : k < L.length
      · obtain ⟨b, o, rfl, hbl, hc⟩ := hA (by omega)
        obtain ⟨b', o', rfl, hbl', hc'⟩ := hB (by omega)
        have c0 := (hb.cell (p := ⟨b, o + k * 2, none⟩) hbl).trans (hc k hlt).1
        have c1 := (hb.cell (p := ⟨b, o + k * 2 + 1, none⟩) hbl).trans (hc k hlt).2
        have c2 := (hb.cell (p := ⟨b', o' + k * 2, none⟩) hbl').trans (hc' k (by omega)).1
        have c3 := (hb.cell (p := ⟨b', o' + k * 2 + 1, none⟩) hbl').trans (hc' k (by omega)).2
        have hx' : Hid (L.getD k (0, 0) = (fstD L k, sndD L k)) := rfl
        have hz' : Hid (M.getD k (0, 0) = (fstD M k, sndD M k)) := rfl
        clear hA hB hc hc'
        generalize fstD L k = x at *
        generalize sndD L k = x2 at *
        generalize fstD M k = z at *
        generalize sndD M k = z2 at *
        by_cases e : x = z ∧ x2 = z2
        · obtain ⟨rfl, rfl⟩ := e
          go_wp2_with fail
          refine wp_region_plan [0, 0, 3, 7, 0, 0, 48, 112, 255] (.seg 0 (.seg 1 (.seg 2 (.seg 3 (.seg 4 (.seg 5 (.seg 6 (.seg 7 (.seg 8 .last))))))))) rfl (by kernel_rfl) rfl ?_
          iterate 9 (refine plan_seg rfl (fun _ _ => ?_); go_wp2_with fail)
          refine plan_last ?_
          go_wp2_with fail
          -- end of the round
          go_roundw
          case rel => exact ⟨k + 1, by omega, by go_num, fun j hj => by
            by_cases ej : j = k
            · subst ej; exact hx'.out.trans hz'.out.symm
            · exact hn j (by omega), hb.drew⟩
          case measure => simp [intOf]; omega
        · have hne : ¬ L = M := fun q => e (by
            have q2 := hx'.out
            rw [q, hz'.out] at q2
            exact ⟨(congrArg Prod.fst q2).symm, (congrArg Prod.snd q2).symm⟩)
          have hdec := Lib.hid (decide_eq_false hne)
          clear hne
          go_wp2_with fail
          refine wp_region_plan [0, 0, 3, 7, 0, 0, 48, 112, 255] (.seg 0 (.seg 1 (.seg 2 (.seg 3 (.seg 4 (.seg 5 (.seg 6 (.seg 7 (.seg 8 .last))))))))) rfl (by kernel_rfl) rfl ?_
          iterate 9 (refine plan_seg rfl (fun _ _ => ?_); go_wp2_with fail)
          refine plan_last ?_
          go_wp2_with fail
          go_ret
          exact ⟨by rw [hdec.out]; rfl, hb.drew⟩
      · go_wp2_with fail
        go_ret
        exact ⟨by rw [decide_eq_true (eq_of_getD (0, 0) hl'.out fun j hj => hn j (by omega))]; rfl, hb⟩
  · have hne : ¬ L = M := fun e => hl (by rw [e])
    rw [decide_eq_false hne]
    have hl2 : ¬ (L.length : Int) = (M.length : Int) := by omega
    clear hA hB h g hne hl
    go_enter Try.func15, Try.ntmps15
    go_wp2_with fail
    go_ret
    exact ⟨rfl, (by repeat' (first | exact Below.refl _ _ | (refine Below.via ?_ (by assumption) ?_) | refine Below.setCell ?_ ?_ _ | refine Below.alloc ?_ ?_ _ | refine Below.drew ?_ | omega | (simp; omega) | (simp; done)))⟩
end Go.Proofs.Ytalippdhfkpbmaa
