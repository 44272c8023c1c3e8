/- slices.Clone and slices.Index over shapes; Between: what they answer. -/
import Derived.Test.YtalippdhfkpbmaaApp
import Derived.Test.YtalippdhfkpbmaaShpV
import Derived.Test.YtalippdhfkpbmaaShpA
namespace Go.Proofs.Ytalippdhfkpbmaa
open Go.RowKit
theorem between_any (n lo hi : Int) (w : World) :
    Calls Try.prog 16 #[.int .i64 n, .int .i64 lo, .int .i64 hi] w fun e w' => e = .returned (.bool (decide (lo ≤ n) && decide (n ≤ hi))) ∧ w' = w := by
  by_cases h : lo ≤ n
  · go_enter Try.func16, Try.ntmps16
    go_wp2
    go_ret
    exact ⟨by simp [h], rfl⟩
  · go_enter Try.func16, Try.ntmps16
    go_wp2
    go_ret
    exact ⟨by simp [show ¬ lo ≤ n by omega], rfl⟩
set_option maxHeartbeats 1000000 in
theorem cloneD_any (w : World) (v : Value) (L : List (Int × Int)) (h : Duos w v L) (hbig : L.length ≤ 1000000) :
    Calls Try.prog 32 #[v] w fun e w' => ∃ r, e = .returned r ∧ OwnDuos w' w.heap.size r L ∧ Below w.heap.size w w' := by
  have h' := h
  obtain ⟨A, cap, rfl, hcap, hmx, hA0, hA⟩ := h.open
  cases A with
  | none =>
    obtain ⟨h1, rfl⟩ := hA0 rfl
    obtain rfl : L = [] := List.eq_nil_of_length_eq_zero h1
    go_enter Try.func32, Try.ntmps32
    go_wp2
    go_ret
    exact ⟨_, rfl, OwnDuos.nil _ _, Below.refl _ _⟩
  | some a =>
    go_enter Try.func32, Try.ntmps32
    go_wp2_with (at_builtin; refine Stay.out ?_)
    refine Stay.mk (wpList_app_duos rfl _ _ rfl rfl (OwnDuos.lit0 _ (Nat.le_refl _)) rfl (h'.keep (B := w.heap.size) (by repeat' (first | exact Below.refl _ _ | (refine Below.via ?_ (by assumption) ?_) | refine Below.setCell ?_ ?_ _ | refine Below.alloc ?_ ?_ _ | refine Below.drew ?_ | omega | (simp; omega) | (simp; done))) (Nat.le_refl _)) (by first | (simp; done) | (simp; omega) | omega) (by first | (simp; done) | (simp; omega) | omega) ?_); intro v1 w1 ho1 hb1 hg1; obtain ⟨hc1, hf1⟩ := bcell hb1
    have hq1 := hb1.size; (try simp at hq1)
    clear hc1 hf1
    clear hg1
    go_wp2_with fail
    go_ret
    exact ⟨_, rfl, by simpa using ho1, (by repeat' (first | exact Below.refl _ _ | (refine Below.via ?_ (by assumption) ?_) | refine Below.setCell ?_ ?_ _ | refine Below.alloc ?_ ?_ _ | refine Below.drew ?_ | omega | (simp; omega) | (simp; done)))⟩
set_option maxHeartbeats 1000000 in
theorem indexD_any (w : World) (v : Value) (L : List (Int × Int)) (x y : Int) (h : Duos w v L) :
    Calls Try.prog 33 #[v, .agg #[.int .i64 x, .int .i64 y]] w fun e w' => e = .returned (.int .i64 (idx L (x, y))) ∧ Below w.heap.size w w' := by
  obtain ⟨A, cap, rfl, hcap, hmx, hA0, hA⟩ := h.open
  simp only [maxLen] at hmx
  go_enter Try.func33, Try.ntmps33
  go_wp2
  go_loopw [8] (fun i wr => ∃ k : Nat, k ≤ L.length ∧ i = .int .i64 k ∧ (x, y) ∉ L.take k ∧ Below w.heap.size w wr ∧ w.heap.size < wr.heap.size ∧ wr.cell? ⟨w.heap.size, 0, none⟩ = some (.int .i64 x) ∧ wr.cell? ⟨w.heap.size, 1, none⟩ = some (.int .i64 y)) (fun i _ => L.length - (intOf i).toNat)
  case atStart => exact ⟨0, by omega, rfl, by simp, (by repeat' (first | exact Below.refl _ _ | (refine Below.via ?_ (by assumption) ?_) | refine Below.setCell ?_ ?_ _ | refine Below.alloc ?_ ?_ _ | refine Below.drew ?_ | omega | (simp; omega) | (simp; done))), by simp, by simp [go_sem], by simp [go_sem]⟩
  case round =>
    obtain ⟨k, hk, rfl, hn, hb, hs, cx, cy⟩ := hrel
    by_cases hlt : k < L.length
    · obtain ⟨b, o, rfl, hbl, hc⟩ := hA (by omega)
      have c0 := (hb.cell (p := ⟨b, o + k * 2, none⟩) hbl).trans (hc k hlt).1
      have c1 := (hb.cell (p := ⟨b, o + k * 2 + 1, none⟩) hbl).trans (hc k hlt).2
      clear h hA hA0 hc
      have hy : Hid ((fstD L k, sndD L k) = L.getD k (0, 0)) := rfl
      generalize fstD L k = f at *
      generalize sndD L k = g at *
      by_cases hx : x = f ∧ y = g
      · obtain ⟨rfl, rfl⟩ := hx
        go_wp2_with fail
        refine wp_region_plan [0, 0, 0, 6, 14, 31] (.seg 0 (.seg 1 (.seg 2 (.seg 3 (.seg 4 (.seg 5 .last)))))) rfl (by kernel_rfl) rfl ?_
        iterate 6 (refine plan_seg rfl (fun _ _ => ?_); go_wp2_with fail)
        refine plan_last ?_
        go_wp2_with fail
        go_ret
        exact ⟨by rw [idx_at (0, 0) hlt hn hy.out.symm]; rfl, (by repeat' (first | exact Below.refl _ _ | (refine Below.via ?_ (by assumption) ?_) | refine Below.setCell ?_ ?_ _ | refine Below.alloc ?_ ?_ _ | refine Below.drew ?_ | omega | (simp; omega) | (simp; done)))⟩
      · have hx2 : (f, g) ≠ (x, y) := fun e => hx ⟨(congrArg Prod.fst e).symm, (congrArg Prod.snd e).symm⟩
        go_wp2_with fail
        refine wp_region_plan [0, 0, 0, 6, 14, 31] (.seg 0 (.seg 1 (.seg 2 (.seg 3 (.seg 4 (.seg 5 .last)))))) rfl (by kernel_rfl) rfl ?_
        iterate 6 (refine plan_seg rfl (fun _ _ => ?_); go_wp2_with fail)
        refine plan_last ?_
        go_wp2_with fail
        -- end of the round
        go_roundw
        case rel => exact ⟨k + 1, by omega, by go_num, take_more (0, 0) hlt hn (hy.out ▸ hx2), hb.drew, hs, cx, cy⟩
        case measure => simp [intOf]; omega
    · have hke : k = L.length := by omega
      subst hke
      rw [List.take_length] at hn
      go_wp2_with fail
      go_ret
      exact ⟨by rw [idx_no hn]; rfl, (by repeat' (first | exact Below.refl _ _ | (refine Below.via ?_ (by assumption) ?_) | refine Below.setCell ?_ ?_ _ | refine Below.alloc ?_ ?_ _ | refine Below.drew ?_ | omega | (simp; omega) | (simp; done)))⟩
end Go.Proofs.Ytalippdhfkpbmaa
