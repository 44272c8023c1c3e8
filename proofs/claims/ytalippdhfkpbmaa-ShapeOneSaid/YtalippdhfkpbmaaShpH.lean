/- With, Names, Slot: what they answer. -/
import Derived.Test.YtalippdhfkpbmaaShpE
import Derived.Test.YtalippdhfkpbmaaShpF
namespace Go.Proofs.Ytalippdhfkpbmaa
open Go.RowKit
set_option maxHeartbeats 2000000 in
theorem names_all (w : World) (v : Value) (L : List Shp) (a : Int) (hd : Duos w v L) (hin : ∀ p ∈ L, InS p) :
    Calls Try.prog 21 #[v, .int .i64 a] w fun e w' => ∃ r, e = .returned r ∧ OwnInts w' w.heap.size r (namesQ L a) ∧ Below w.heap.size w w' := by
  obtain ⟨A, cap, rfl, hcap, hmx, -, -⟩ := hd.open
  simp only [maxLen] at hmx
  by_cases hf : faultP L = 0
  · obtain ⟨h100, hok⟩ := faultP_ok hf
    by_cases h1 : a < 0
    · have hr : namesQ L a = [] := by unfold namesQ; rw [if_pos (by omega)]
      rw [hr]
      go_enter Try.func21, Try.ntmps21
      go_wp2_with fail
      refine (check_any _ _ L hd hin).mono ?_; rintro e w1 ⟨rfl, hb1⟩; obtain ⟨hc1, hf1⟩ := bcell hb1
      have hq1 := hb1.size; (try simp at hq1)
      clear hc1 hf1
      go_wp2_with fail
      go_ret
      exact ⟨_, rfl, OwnInts.nil _ _, (by repeat' (first | exact Below.refl _ _ | (refine Below.via ?_ (by assumption) ?_) | refine Below.setCell ?_ ?_ _ | refine Below.alloc ?_ ?_ _ | refine Below.drew ?_ | omega | (simp; omega) | (simp; done)))⟩
    · by_cases h2 : (L.length : Int) ≤ a
      · have hr : namesQ L a = [] := by unfold namesQ; rw [if_pos (by omega)]
        rw [hr]
        go_enter Try.func21, Try.ntmps21
        go_wp2_with fail
        refine (check_any _ _ L hd hin).mono ?_; rintro e w1 ⟨rfl, hb1⟩; obtain ⟨hc1, hf1⟩ := bcell hb1
        have hq1 := hb1.size; (try simp at hq1)
        clear hc1 hf1
        go_wp2_with fail
        go_ret
        exact ⟨_, rfl, OwnInts.nil _ _, (by repeat' (first | exact Below.refl _ _ | (refine Below.via ?_ (by assumption) ?_) | refine Below.setCell ?_ ?_ _ | refine Below.alloc ?_ ?_ _ | refine Below.drew ?_ | omega | (simp; omega) | (simp; done)))⟩
      · obtain ⟨t, rfl⟩ : ∃ t : Nat, a = t := ⟨a.toNat, by omega⟩
        have hr : namesQ L t = namesP L t := by unfold namesQ; rw [if_neg (by omega)]; simp
        rw [hr]
        have h1 : decide ((t : Int) < 0) = false := by simp
        go_enter Try.func21, Try.ntmps21
        go_wp2_with fail
        refine (check_any _ _ L hd hin).mono ?_; rintro e w1 ⟨rfl, hb1⟩; obtain ⟨hc1, hf1⟩ := bcell hb1
        have hq1 := hb1.size; (try simp at hq1)
        clear hc1 hf1
        go_wp2_with fail
        refine (names_any _ _ L t (hd.keep (by repeat' (first | exact Below.refl _ _ | (refine Below.via ?_ (by assumption) ?_) | refine Below.setCell ?_ ?_ _ | refine Below.alloc ?_ ?_ _ | refine Below.drew ?_ | omega | (simp; omega) | (simp; done))) (Nat.le_refl _)) (by omega) (hok.2.2.ahead (by omega)) (by omega)).mono ?_; rintro e w2 ⟨v2, rfl, ho2, hb2⟩; obtain ⟨hc2, hf2⟩ := bcell hb2
        have hq2 := hb2.size; (try simp at hq2)
        clear hc2 hf2
        go_wp2_with fail
        go_ret
        exact ⟨_, rfl, ho2.down (by first | omega | (simp; done) | (simp; omega)), (by repeat' (first | exact Below.refl _ _ | (refine Below.via ?_ (by assumption) ?_) | refine Below.setCell ?_ ?_ _ | refine Below.alloc ?_ ?_ _ | refine Below.drew ?_ | omega | (simp; omega) | (simp; done)))⟩
  · have hr : namesQ L a = [] := by unfold namesQ; rw [if_pos (.inl hf)]
    rw [hr]
    have hc := check_any w (.slice A L.length cap) L hd hin
    generalize faultP L = f at *
    go_enter Try.func21, Try.ntmps21
    go_wp2_with fail
    refine (hc).mono ?_; rintro e w1 ⟨rfl, hb1⟩; obtain ⟨hc1, hf1⟩ := bcell hb1
    have hq1 := hb1.size; (try simp at hq1)
    clear hc1 hf1
    go_wp2_with fail
    go_ret
    exact ⟨_, rfl, OwnInts.nil _ _, (by repeat' (first | exact Below.refl _ _ | (refine Below.via ?_ (by assumption) ?_) | refine Below.setCell ?_ ?_ _ | refine Below.alloc ?_ ?_ _ | refine Below.drew ?_ | omega | (simp; omega) | (simp; done)))⟩
set_option maxHeartbeats 1000000 in
theorem slot_any (w : World) (v : Value) (L : List Shp) (a n : Int) (hd : Duos w v L) (hin : ∀ p ∈ L, InS p) :
    Calls Try.prog 18 #[v, .int .i64 a, .int .i64 n] w fun e w' => e = .returned (.tuple #[.int .i64 (if n ∈ namesQ L a then idx (namesQ L a) n else 0), .bool (decide (n ∈ namesQ L a))]) ∧ Below w.heap.size w w' := by
  by_cases h : n ∈ namesQ L a
  · have hi : 0 ≤ idx (namesQ L a) n := by simp [idx, h]
    rw [if_pos h, decide_eq_true h]
    have hc := names_all w v L a hd hin
    generalize namesQ L a = Q at *
    have hi2 : decide (idx Q n < 0) = false := by simp; omega
    go_enter Try.func18, Try.ntmps18
    go_wp2_with fail
    refine (hc).mono ?_; rintro e w1 ⟨v1, rfl, ho1, hb1⟩; obtain ⟨hc1, hf1⟩ := bcell hb1
    have hq1 := hb1.size; (try simp at hq1)
    clear hc1 hf1
    go_wp2_with fail
    refine (indexI_any _ _ Q n ho1.lies).mono ?_; rintro e w2 ⟨rfl, hb2⟩; obtain ⟨hc2, hf2⟩ := bcell hb2
    have hq2 := hb2.size; (try simp at hq2)
    clear hc2 hf2
    go_wp2_with fail
    refine bodyPost_ret (v := .tuple #[.int .i64 (idx Q n), .bool true]) (by simp [results, Try.results18, go_sem, *] <;> rfl) rfl ?_
    exact ⟨rfl, (by repeat' (first | exact Below.refl _ _ | (refine Below.via ?_ (by assumption) ?_) | refine Below.setCell ?_ ?_ _ | refine Below.alloc ?_ ?_ _ | refine Below.drew ?_ | omega | (simp; omega) | (simp; done)))⟩
  · rw [if_neg h, decide_eq_false h]
    have hc := names_all w v L a hd hin
    generalize namesQ L a = Q at *
    have hi : idx Q n = -1 := by simp [idx, h]
    go_enter Try.func18, Try.ntmps18
    go_wp2_with fail
    refine (hc).mono ?_; rintro e w1 ⟨v1, rfl, ho1, hb1⟩; obtain ⟨hc1, hf1⟩ := bcell hb1
    have hq1 := hb1.size; (try simp at hq1)
    clear hc1 hf1
    go_wp2_with fail
    refine (indexI_any _ _ Q n ho1.lies).mono ?_; rintro e w2 ⟨rfl, hb2⟩; obtain ⟨hc2, hf2⟩ := bcell hb2
    have hq2 := hb2.size; (try simp at hq2)
    clear hc2 hf2
    go_wp2_with fail
    refine bodyPost_ret (v := .tuple #[.int .i64 0, .bool false]) (by simp [results, Try.results18, go_sem, *] <;> rfl) rfl ?_
    exact ⟨rfl, (by repeat' (first | exact Below.refl _ _ | (refine Below.via ?_ (by assumption) ?_) | refine Below.setCell ?_ ?_ _ | refine Below.alloc ?_ ?_ _ | refine Below.drew ?_ | omega | (simp; omega) | (simp; done)))⟩
end Go.Proofs.Ytalippdhfkpbmaa
