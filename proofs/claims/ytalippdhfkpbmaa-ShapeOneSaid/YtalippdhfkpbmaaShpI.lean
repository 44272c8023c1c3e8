/- With: what it answers. -/
import Derived.Test.YtalippdhfkpbmaaShpH
namespace Go.Proofs.Ytalippdhfkpbmaa
open Go.RowKit
set_option maxHeartbeats 2000000 in
theorem with_any (w : World) (v : Value) (L : List Shp) (a n : Int) (hd : Duos w v L) (hin : ∀ p ∈ L, InS p) (hn : InI n) :
    Calls Try.prog 11 #[v, .int .i64 a, .int .i64 n] w fun e w' => ∃ r, e = .returned (.tuple #[r, .int .i64 (withP L a n).2.1, .int .i64 (withP L a n).2.2]) ∧ Duos w' r (withP L a n).1 ∧ Below w.heap.size w w'
    := by
  have hd0 := hd
  obtain ⟨A, cap, rfl, hcap, hmx, -, -⟩ := hd.open
  simp only [maxLen] at hmx
  by_cases hf : faultP L = 0
  · obtain ⟨h100, hok⟩ := faultP_ok hf
    by_cases h1 : a < 0
    · have hr : withP L a n = ([], 0, 1) := by unfold withP; rw [if_neg (by simp [hf]), if_pos (.inl h1)]
      rw [hr]
      go_enter Try.func11, Try.ntmps11
      go_wp2_with fail
      refine (check_any _ _ L hd hin).mono ?_; rintro e w1 ⟨rfl, hb1⟩; obtain ⟨hc1, hf1⟩ := bcell hb1
      have hq1 := hb1.size; (try simp at hq1)
      clear hc1 hf1
      go_wp2_with fail
      refine bodyPost_ret (v := .tuple #[.slice none 0 0, .int .i64 0, .int .i64 1]) (by simp [results, Try.results11, go_sem, *] <;> rfl) rfl ?_
      exact ⟨_, rfl, Duos.nil _, (by repeat' (first | exact Below.refl _ _ | (refine Below.via ?_ (by assumption) ?_) | refine Below.setCell ?_ ?_ _ | refine Below.alloc ?_ ?_ _ | refine Below.drew ?_ | omega | (simp; omega) | (simp; done)))⟩
    · by_cases h2 : (L.length : Int) ≤ a
      · have hr : withP L a n = ([], 0, 1) := by unfold withP; rw [if_neg (by simp [hf]), if_pos (.inr (.inl h2))]
        rw [hr]
        have d1 : decide (a < 0) = false := by simp; omega
        go_enter Try.func11, Try.ntmps11
        go_wp2_with fail
        refine (check_any _ _ L hd hin).mono ?_; rintro e w1 ⟨rfl, hb1⟩; obtain ⟨hc1, hf1⟩ := bcell hb1
        have hq1 := hb1.size; (try simp at hq1)
        clear hc1 hf1
        go_wp2_with fail
        refine bodyPost_ret (v := .tuple #[.slice none 0 0, .int .i64 0, .int .i64 1]) (by simp [results, Try.results11, go_sem, *] <;> rfl) rfl ?_
        exact ⟨_, rfl, Duos.nil _, (by repeat' (first | exact Below.refl _ _ | (refine Below.via ?_ (by assumption) ?_) | refine Below.setCell ?_ ?_ _ | refine Below.alloc ?_ ?_ _ | refine Below.drew ?_ | omega | (simp; omega) | (simp; done)))⟩
      · obtain ⟨t, rfl⟩ : ∃ t : Nat, a = t := ⟨a.toNat, by omega⟩
        have d1 : decide ((t : Int) < 0) = false := by simp
        have d2 : decide (L.length ≤ t) = false := by simp; omega
        have d2' : decide ((L.length : Int) ≤ t) = false := by simp; omega
        by_cases h3 : n < 0
        · have hr : withP L t n = ([], 0, 1) := by unfold withP; rw [if_neg (by simp [hf]), if_pos (.inr (.inr h3))]
          rw [hr]
          go_enter Try.func11, Try.ntmps11
          go_wp2_with fail
          refine (check_any _ _ L hd hin).mono ?_; rintro e w1 ⟨rfl, hb1⟩; obtain ⟨hc1, hf1⟩ := bcell hb1
          have hq1 := hb1.size; (try simp at hq1)
          clear hc1 hf1
          go_wp2_with fail
          refine bodyPost_ret (v := .tuple #[.slice none 0 0, .int .i64 0, .int .i64 1]) (by simp [results, Try.results11, go_sem, *] <;> rfl) rfl ?_
          exact ⟨_, rfl, Duos.nil _, (by repeat' (first | exact Below.refl _ _ | (refine Below.via ?_ (by assumption) ?_) | refine Below.setCell ?_ ?_ _ | refine Below.alloc ?_ ?_ _ | refine Below.drew ?_ | omega | (simp; omega) | (simp; done)))⟩
        · have d3 : decide (n < 0) = false := by simp; omega
          by_cases h4 : n ∈ namesP L t
          · have hr : withP L t n = ([], 0, 6) := by unfold withP; rw [if_neg (by simp [hf]), if_neg (by omega), if_pos (by simpa using h4)]
            rw [hr]
            go_enter Try.func11, Try.ntmps11
            go_wp2_with fail
            refine (check_any _ _ L hd hin).mono ?_; rintro e w1 ⟨rfl, hb1⟩; obtain ⟨hc1, hf1⟩ := bcell hb1
            have hq1 := hb1.size; (try simp at hq1)
            clear hc1 hf1
            go_wp2_with fail
            refine (names_any _ _ L t (hd.keep (by repeat' (first | exact Below.refl _ _ | (refine Below.via ?_ (by assumption) ?_) | refine Below.setCell ?_ ?_ _ | refine Below.alloc ?_ ?_ _ | refine Below.drew ?_ | omega | (simp; omega) | (simp; done))) (Nat.le_refl _)) (by omega) (hok.2.2.ahead (by omega)) (by omega)).mono ?_; rintro e w2 ⟨v2, rfl, ho2, hb2⟩; obtain ⟨hc2, hf2⟩ := bcell hb2
            have hq2 := hb2.size; (try simp at hq2)
            clear hc2 hf2
            go_wp2_with fail
            refine (containsI_any _ _ (namesP L t) n ho2.lies).mono ?_; rintro e w3 ⟨rfl, hb3⟩; obtain ⟨hc3, hf3⟩ := bcell hb3
            have hq3 := hb3.size; (try simp at hq3)
            clear hc3 hf3
            go_wp2_with fail
            refine bodyPost_ret (v := .tuple #[.slice none 0 0, .int .i64 0, .int .i64 6]) (by simp [results, Try.results11, go_sem, *] <;> rfl) rfl ?_
            exact ⟨_, rfl, Duos.nil _, (by repeat' (first | exact Below.refl _ _ | (refine Below.via ?_ (by assumption) ?_) | refine Below.setCell ?_ ?_ _ | refine Below.alloc ?_ ?_ _ | refine Below.drew ?_ | omega | (simp; omega) | (simp; done)))⟩
          · by_cases h5 : ((t : Int), n) ∈ L
            · have hr : withP L t n = (L, idx L (t, n), 0) := by unfold withP; rw [if_neg (by simp [hf]), if_neg (by omega), if_neg (by simpa using h4), if_pos h5]
              rw [hr]
              have hi : 0 ≤ idx L ((t : Int), n) := by simp [idx, h5]
              have hx := fun w v h => indexD_any w v L t n h
              generalize idx L ((t : Int), n) = q at *
              go_enter Try.func11, Try.ntmps11
              go_wp2_with fail
              refine (check_any _ _ L hd hin).mono ?_; rintro e w1 ⟨rfl, hb1⟩; obtain ⟨hc1, hf1⟩ := bcell hb1
              have hq1 := hb1.size; (try simp at hq1)
              clear hc1 hf1
              go_wp2_with fail
              refine (names_any _ _ L t (hd.keep (by repeat' (first | exact Below.refl _ _ | (refine Below.via ?_ (by assumption) ?_) | refine Below.setCell ?_ ?_ _ | refine Below.alloc ?_ ?_ _ | refine Below.drew ?_ | omega | (simp; omega) | (simp; done))) (Nat.le_refl _)) (by omega) (hok.2.2.ahead (by omega)) (by omega)).mono ?_; rintro e w2 ⟨v2, rfl, ho2, hb2⟩; obtain ⟨hc2, hf2⟩ := bcell hb2
              have hq2 := hb2.size; (try simp at hq2)
              clear hc2 hf2
              go_wp2_with fail
              refine (containsI_any _ _ (namesP L t) n ho2.lies).mono ?_; rintro e w3 ⟨rfl, hb3⟩; obtain ⟨hc3, hf3⟩ := bcell hb3
              have hq3 := hb3.size; (try simp at hq3)
              clear hc3 hf3
              go_wp2_with fail
              refine (cloneD_any _ _ L (hd.keep (by repeat' (first | exact Below.refl _ _ | (refine Below.via ?_ (by assumption) ?_) | refine Below.setCell ?_ ?_ _ | refine Below.alloc ?_ ?_ _ | refine Below.drew ?_ | omega | (simp; omega) | (simp; done))) (Nat.le_refl _)) (by omega)).mono ?_; rintro e w4 ⟨v4, rfl, ho4, hb4⟩; obtain ⟨hc4, hf4⟩ := bcell hb4
              obtain ⟨A4, c4, rfl⟩ := ho4.form
              have hq4 := hb4.size; (try simp at hq4)
              have hz4_0 : w3.heap.size < w4.heap.size := (by omega)
              have k4_0_0 := hc4 (w3.heap.size) 0 (by first | omega | (simp; done) | (simp; omega)); (try simp [go_sem, *, -hc4, -hf4] at k4_0_0)
              have k4_0_1 := hc4 (w3.heap.size) 1 (by first | omega | (simp; done) | (simp; omega)); (try simp [go_sem, *, -hc4, -hf4] at k4_0_1)
              clear hc4 hf4
              go_wp2_with fail
              refine (hx _ _ ho4.lies).mono ?_; rintro e w5 ⟨rfl, hb5⟩; obtain ⟨hc5, hf5⟩ := bcell hb5
              have hq5 := hb5.size; (try simp at hq5)
              have hz5_0 : w3.heap.size < w5.heap.size := (by omega)
              have k5_0_0 := hc5 (w3.heap.size) 0 (by first | omega | (simp; done) | (simp; omega)); (try simp [go_sem, *, -hc5, -hf5] at k5_0_0)
              have k5_0_1 := hc5 (w3.heap.size) 1 (by first | omega | (simp; done) | (simp; omega)); (try simp [go_sem, *, -hc5, -hf5] at k5_0_1)
              clear hc5 hf5
              clear k4_0_0 k4_0_1
              go_wp2_with fail
              refine bodyPost_ret (v := .tuple #[.slice A4 L.length c4, .int .i64 q, .int .i64 0]) (by simp [results, Try.results11, go_sem, *] <;> rfl) rfl ?_
              exact ⟨_, rfl, ho4.lies.keep (B := w4.heap.size) (by repeat' (first | exact Below.refl _ _ | (refine Below.via ?_ (by assumption) ?_) | refine Below.setCell ?_ ?_ _ | refine Below.alloc ?_ ?_ _ | refine Below.drew ?_ | omega | (simp; omega) | (simp; done))) (Nat.le_refl _), (by repeat' (first | exact Below.refl _ _ | (refine Below.via ?_ (by assumption) ?_) | refine Below.setCell ?_ ?_ _ | refine Below.alloc ?_ ?_ _ | refine Below.drew ?_ | omega | (simp; omega) | (simp; done)))⟩
            · have hi : idx L ((t : Int), n) = -1 := by simp [idx, h5]
              by_cases h6 : L.length = 100
              · have hr : withP L t n = ([], 0, 2) := by unfold withP; rw [if_neg (by simp [hf]), if_neg (by omega), if_neg (by simpa using h4), if_neg h5, if_pos h6]
                rw [hr]
                have d4 : ((L.length : Int) == 100) = true := by simp; omega
                clear h6
                have hx := fun w v h => indexD_any w v L t n h
                generalize idx L ((t : Int), n) = q at *
                go_enter Try.func11, Try.ntmps11
                go_wp2_with fail
                refine (check_any _ _ L hd hin).mono ?_; rintro e w1 ⟨rfl, hb1⟩; obtain ⟨hc1, hf1⟩ := bcell hb1
                have hq1 := hb1.size; (try simp at hq1)
                clear hc1 hf1
                go_wp2_with fail
                refine (names_any _ _ L t (hd.keep (by repeat' (first | exact Below.refl _ _ | (refine Below.via ?_ (by assumption) ?_) | refine Below.setCell ?_ ?_ _ | refine Below.alloc ?_ ?_ _ | refine Below.drew ?_ | omega | (simp; omega) | (simp; done))) (Nat.le_refl _)) (by omega) (hok.2.2.ahead (by omega)) (by omega)).mono ?_; rintro e w2 ⟨v2, rfl, ho2, hb2⟩; obtain ⟨hc2, hf2⟩ := bcell hb2
                have hq2 := hb2.size; (try simp at hq2)
                clear hc2 hf2
                go_wp2_with fail
                refine (containsI_any _ _ (namesP L t) n ho2.lies).mono ?_; rintro e w3 ⟨rfl, hb3⟩; obtain ⟨hc3, hf3⟩ := bcell hb3
                have hq3 := hb3.size; (try simp at hq3)
                clear hc3 hf3
                go_wp2_with fail
                refine (cloneD_any _ _ L (hd.keep (by repeat' (first | exact Below.refl _ _ | (refine Below.via ?_ (by assumption) ?_) | refine Below.setCell ?_ ?_ _ | refine Below.alloc ?_ ?_ _ | refine Below.drew ?_ | omega | (simp; omega) | (simp; done))) (Nat.le_refl _)) (by omega)).mono ?_; rintro e w4 ⟨v4, rfl, ho4, hb4⟩; obtain ⟨hc4, hf4⟩ := bcell hb4
                obtain ⟨A4, c4, rfl⟩ := ho4.form
                have hq4 := hb4.size; (try simp at hq4)
                have hz4_0 : w3.heap.size < w4.heap.size := (by omega)
                have k4_0_0 := hc4 (w3.heap.size) 0 (by first | omega | (simp; done) | (simp; omega)); (try simp [go_sem, *, -hc4, -hf4] at k4_0_0)
                have k4_0_1 := hc4 (w3.heap.size) 1 (by first | omega | (simp; done) | (simp; omega)); (try simp [go_sem, *, -hc4, -hf4] at k4_0_1)
                clear hc4 hf4
                go_wp2_with fail
                refine (hx _ _ ho4.lies).mono ?_; rintro e w5 ⟨rfl, hb5⟩; obtain ⟨hc5, hf5⟩ := bcell hb5
                have hq5 := hb5.size; (try simp at hq5)
                have hz5_0 : w3.heap.size < w5.heap.size := (by omega)
                have k5_0_0 := hc5 (w3.heap.size) 0 (by first | omega | (simp; done) | (simp; omega)); (try simp [go_sem, *, -hc5, -hf5] at k5_0_0)
                have k5_0_1 := hc5 (w3.heap.size) 1 (by first | omega | (simp; done) | (simp; omega)); (try simp [go_sem, *, -hc5, -hf5] at k5_0_1)
                clear hc5 hf5
                clear k4_0_0 k4_0_1
                go_wp2_with fail
                refine bodyPost_ret (v := .tuple #[.slice none 0 0, .int .i64 0, .int .i64 2]) (by simp [results, Try.results11, go_sem, *] <;> rfl) rfl ?_
                exact ⟨_, rfl, Duos.nil _, (by repeat' (first | exact Below.refl _ _ | (refine Below.via ?_ (by assumption) ?_) | refine Below.setCell ?_ ?_ _ | refine Below.alloc ?_ ?_ _ | refine Below.drew ?_ | omega | (simp; omega) | (simp; done)))⟩
              · have hr : withP L t n = (L ++ [((t : Int), n)], (L.length : Int), 0) := by unfold withP; rw [if_neg (by simp [hf]), if_neg (by omega), if_neg (by simpa using h4), if_neg h5, if_neg h6]
                rw [hr]
                have hx := fun w v h => indexD_any w v L t n h
                generalize idx L ((t : Int), n) = q at *
                have d4 : ((L.length : Int) == 100) = false := by simp; omega
                go_enter Try.func11, Try.ntmps11
                go_wp2_with fail
                refine (check_any _ _ L hd hin).mono ?_; rintro e w1 ⟨rfl, hb1⟩; obtain ⟨hc1, hf1⟩ := bcell hb1
                have hq1 := hb1.size; (try simp at hq1)
                clear hc1 hf1
                go_wp2_with fail
                refine (names_any _ _ L t (hd.keep (by repeat' (first | exact Below.refl _ _ | (refine Below.via ?_ (by assumption) ?_) | refine Below.setCell ?_ ?_ _ | refine Below.alloc ?_ ?_ _ | refine Below.drew ?_ | omega | (simp; omega) | (simp; done))) (Nat.le_refl _)) (by omega) (hok.2.2.ahead (by omega)) (by omega)).mono ?_; rintro e w2 ⟨v2, rfl, ho2, hb2⟩; obtain ⟨hc2, hf2⟩ := bcell hb2
                have hq2 := hb2.size; (try simp at hq2)
                clear hc2 hf2
                go_wp2_with fail
                refine (containsI_any _ _ (namesP L t) n ho2.lies).mono ?_; rintro e w3 ⟨rfl, hb3⟩; obtain ⟨hc3, hf3⟩ := bcell hb3
                have hq3 := hb3.size; (try simp at hq3)
                clear hc3 hf3
                go_wp2_with fail
                refine (cloneD_any _ _ L (hd.keep (by repeat' (first | exact Below.refl _ _ | (refine Below.via ?_ (by assumption) ?_) | refine Below.setCell ?_ ?_ _ | refine Below.alloc ?_ ?_ _ | refine Below.drew ?_ | omega | (simp; omega) | (simp; done))) (Nat.le_refl _)) (by omega)).mono ?_; rintro e w4 ⟨v4, rfl, ho4, hb4⟩; obtain ⟨hc4, hf4⟩ := bcell hb4
                obtain ⟨A4, c4, rfl⟩ := ho4.form
                have hq4 := hb4.size; (try simp at hq4)
                have hz4_0 : w3.heap.size < w4.heap.size := (by omega)
                have k4_0_0 := hc4 (w3.heap.size) 0 (by first | omega | (simp; done) | (simp; omega)); (try simp [go_sem, *, -hc4, -hf4] at k4_0_0)
                have k4_0_1 := hc4 (w3.heap.size) 1 (by first | omega | (simp; done) | (simp; omega)); (try simp [go_sem, *, -hc4, -hf4] at k4_0_1)
                clear hc4 hf4
                go_wp2_with fail
                refine (hx _ _ ho4.lies).mono ?_; rintro e w5 ⟨rfl, hb5⟩; obtain ⟨hc5, hf5⟩ := bcell hb5
                have hq5 := hb5.size; (try simp at hq5)
                have hz5_0 : w3.heap.size < w5.heap.size := (by omega)
                have k5_0_0 := hc5 (w3.heap.size) 0 (by first | omega | (simp; done) | (simp; omega)); (try simp [go_sem, *, -hc5, -hf5] at k5_0_0)
                have k5_0_1 := hc5 (w3.heap.size) 1 (by first | omega | (simp; done) | (simp; omega)); (try simp [go_sem, *, -hc5, -hf5] at k5_0_1)
                clear hc5 hf5
                clear k4_0_0 k4_0_1
                go_wp2_with (at_builtin; refine Stay.out ?_)
                refine Stay.mk (wpList_app_duos rfl _ _ rfl rfl ((ho4.keep (by repeat' (first | exact Below.refl _ _ | (refine Below.via ?_ (by assumption) ?_) | refine Below.setCell ?_ ?_ _ | refine Below.alloc ?_ ?_ _ | refine Below.drew ?_ | omega | (simp; omega) | (simp; done)))).alloc _) rfl ((OwnDuos.lit _ (Nat.le_refl _) _ _).lies) (by first | (simp; done) | (simp; omega) | omega) (by first | (simp; done) | (simp; omega) | omega) ?_); intro v6 w6 ho6 hb6 hg6; obtain ⟨hc6, hf6⟩ := bcell hb6
                have hq6 := hb6.size; (try simp at hq6)
                clear hc6 hf6
                clear k5_0_0 k5_0_1
                clear hg6
                go_wp2_with fail
                refine bodyPost_ret (v := .tuple #[v6, .int .i64 L.length, .int .i64 0]) (by simp [results, Try.results11, go_sem, *] <;> rfl) rfl ?_
                exact ⟨_, rfl, ho6.lies, (by repeat' (first | exact Below.refl _ _ | (refine Below.via ?_ (by assumption) ?_) | refine Below.setCell ?_ ?_ _ | refine Below.alloc ?_ ?_ _ | refine Below.drew ?_ | omega | (simp; omega) | (simp; done)))⟩
  · have hr : withP L a n = ([], 0, faultP L) := by unfold withP; rw [if_pos hf]
    rw [hr]
    have hc := check_any w (.slice A L.length cap) L hd hin
    generalize faultP L = f at *
    go_enter Try.func11, Try.ntmps11
    go_wp2_with fail
    refine (hc).mono ?_; rintro e w1 ⟨rfl, hb1⟩; obtain ⟨hc1, hf1⟩ := bcell hb1
    have hq1 := hb1.size; (try simp at hq1)
    clear hc1 hf1
    go_wp2_with fail
    refine bodyPost_ret (v := .tuple #[.slice none 0 0, .int .i64 0, .int .i64 f]) (by simp [results, Try.results11, go_sem, *] <;> rfl) rfl ?_
    exact ⟨_, rfl, Duos.nil _, (by repeat' (first | exact Below.refl _ _ | (refine Below.via ?_ (by assumption) ?_) | refine Below.setCell ?_ ?_ _ | refine Below.alloc ?_ ?_ _ | refine Below.drew ?_ | omega | (simp; omega) | (simp; done)))⟩
end Go.Proofs.Ytalippdhfkpbmaa
