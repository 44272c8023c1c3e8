/- ShapeSays: whatever is handed in, Check, With, Slot and Names answer what the document says: the law answers true. No condition. -/
import Derived.Test.YtalippdhfkpbmaaRows
import Derived.Test.YtalippdhfkpbmaaShpI
import Derived.Test.YtalippdhfkpbmaaShpJ
import Derived.Test.YtalippdhfkpbmaaShpK
import Derived.Test.YtalippdhfkpbmaaShpO
import Derived.OpenShut
import Derived.ChangeOld
import Derived.Lib.SmallJoins
namespace Go.Proofs.Ytalippdhfkpbmaa
open Go.RowKit
set_option maxHeartbeats 2000000 in
theorem shapeSays_walk (v : Value) (L : List Shp) (a n : Int) (w : World) (hd : Duos w v L) (hin : ∀ p ∈ L, InS p) (hn : InI n) :
    Calls Try.prog 3 #[v, .int .i64 a, .int .i64 n] w fun e w' => e = .returned (.bool true) ∧ Below w.heap.size w w' := by
  have hf : ∃ A cap, v = .slice A L.length cap := by
    obtain ⟨A, cap, h, -⟩ := hd.open
    exact ⟨A, cap, h⟩
  obtain ⟨A, cap, rfl⟩ := hf
  have hW := fun (w : World) (h : Duos w (.slice A L.length cap) L) => with_any w _ L a n h hin hn
  have hR := fun (w : World) (h : Duos w (.slice A L.length cap) L) => shapeWith_any w _ L a n h
  have hC := fun (w : World) (h : Duos w (.slice A L.length cap) L) => check_any w _ L h hin
  have hF := fun (w : World) (h : Duos w (.slice A L.length cap) L) => shapesFault_any w _ L h
  have hS := fun (w : World) (h : Duos w (.slice A L.length cap) L) => slot_any w _ L a n h hin
  have hN := fun (w : World) (h : Duos w (.slice A L.length cap) L) => names_all w _ L a h hin
  have hQ : (faultP L = 0 ∧ 0 ≤ a ∧ a < L.length ∧ namesQ L a = namesP L a.toNat) ∨ (¬ (faultP L = 0 ∧ 0 ≤ a ∧ a < L.length) ∧ namesQ L a = []) := by
    by_cases h : faultP L = 0 ∧ 0 ≤ a ∧ a < L.length
    · left; refine ⟨h.1, h.2.1, h.2.2, ?_⟩; unfold namesQ; rw [if_neg (by omega)]
    · right; refine ⟨h, ?_⟩; unfold namesQ; rw [if_pos (by omega)]
  have hok := @faultP_ok L
  have hx := fun (w : World) (v : Value) (h : Ints w v (namesQ L a)) => indexI_any w v (namesQ L a) n h
  have hi : (n ∈ namesQ L a ∧ 0 ≤ idx (namesQ L a) n) ∨ (n ∉ namesQ L a ∧ idx (namesQ L a) n = -1) := by
    by_cases h : n ∈ namesQ L a <;> simp [idx, h]
  generalize withP L a n = R at *
  obtain ⟨S, k, ee⟩ := R
  simp only at hW hR
  rcases hQ with ⟨hf, h0, h1, hq⟩ | ⟨hnot, hq⟩
  · obtain ⟨h100, hokay⟩ := hok hf
    obtain ⟨t, rfl⟩ : ∃ t : Nat, a = t := ⟨a.toNat, by omega⟩
    have d0 : decide ((t : Int) ≤ (L.length : Int) - 1) = true := by simp; omega
    have hSN := fun (w : World) (h : Duos w (.slice A L.length cap) L) => shapeNames_any _ L (by omega) t w h (by omega) (hokay.2.2.ahead (by omega))
    rw [show namesP L t = namesQ L t from by rw [hq]; simp] at hSN
    clear hq
    generalize namesQ L t = Q at *
    rw [hf] at hC hF
    rcases hi with ⟨hm, hi⟩ | ⟨hm, hi⟩
    · simp only [if_pos hm, decide_eq_true hm] at hS
      generalize idx Q n = i at *
      go_enter Try.func3, Try.ntmps3
      go_wp2_with fail
      refine (hW _ hd).mono ?_; rintro e w1 ⟨v1, rfl, hd1, hb1⟩; obtain ⟨hc1, hf1⟩ := bcell hb1
      have hq1 := hb1.size; (try simp at hq1)
      clear hc1 hf1
      go_wp2_with fail
      refine (hR _ (hd.keep (by repeat' (first | exact Below.refl _ _ | (refine Below.via ?_ (by assumption) ?_) | refine Below.setCell ?_ ?_ _ | refine Below.alloc ?_ ?_ _ | refine Below.drew ?_ | omega | (simp; omega) | (simp; done))) (Nat.le_refl _))).mono ?_; rintro e w2 ⟨v2, rfl, hd2, hb2⟩; obtain ⟨hc2, hf2⟩ := bcell hb2
      have hq2 := hb2.size; (try simp at hq2)
      clear hc2 hf2
      go_wp2_with fail
      refine (hF _ (hd.keep (by repeat' (first | exact Below.refl _ _ | (refine Below.via ?_ (by assumption) ?_) | refine Below.setCell ?_ ?_ _ | refine Below.alloc ?_ ?_ _ | refine Below.drew ?_ | omega | (simp; omega) | (simp; done))) (Nat.le_refl _))).mono ?_; rintro e w3 ⟨rfl, hb3⟩; obtain ⟨hc3, hf3⟩ := bcell hb3
      have hq3 := hb3.size; (try simp at hq3)
      clear hc3 hf3
      go_wp2_with fail
      refine (hC _ (hd.keep (by repeat' (first | exact Below.refl _ _ | (refine Below.via ?_ (by assumption) ?_) | refine Below.setCell ?_ ?_ _ | refine Below.alloc ?_ ?_ _ | refine Below.drew ?_ | omega | (simp; omega) | (simp; done))) (Nat.le_refl _))).mono ?_; rintro e w4 ⟨rfl, hb4⟩; obtain ⟨hc4, hf4⟩ := bcell hb4
      have hq4 := hb4.size; (try simp at hq4)
      clear hc4 hf4
      go_wp2_with fail
      refine (equalD_any _ _ _ S S (hd1.keep (B := w1.heap.size) (by repeat' (first | exact Below.refl _ _ | (refine Below.via ?_ (by assumption) ?_) | refine Below.setCell ?_ ?_ _ | refine Below.alloc ?_ ?_ _ | refine Below.drew ?_ | omega | (simp; omega) | (simp; done))) (Nat.le_refl _)) (hd2.keep (B := w2.heap.size) (by repeat' (first | exact Below.refl _ _ | (refine Below.via ?_ (by assumption) ?_) | refine Below.setCell ?_ ?_ _ | refine Below.alloc ?_ ?_ _ | refine Below.drew ?_ | omega | (simp; omega) | (simp; done))) (Nat.le_refl _))).mono ?_; rintro e w5 ⟨rfl, hb5⟩; obtain ⟨hc5, hf5⟩ := bcell hb5
      have hq5 := hb5.size; (try simp at hq5)
      clear hc5 hf5
      go_wp2_with fail
      refine (between_any _ _ _ _).mono ?_; rintro e w0 ⟨rfl, rfl⟩
      go_wp2_with fail
      refine (hSN _ (hd.keep (by repeat' (first | exact Below.refl _ _ | (refine Below.via ?_ (by assumption) ?_) | refine Below.setCell ?_ ?_ _ | refine Below.alloc ?_ ?_ _ | refine Below.drew ?_ | omega | (simp; omega) | (simp; done))) (Nat.le_refl _))).mono ?_; rintro e w6 ⟨v6, rfl, ho6, hb6⟩; obtain ⟨hc6, hf6⟩ := bcell hb6
      have hq6 := hb6.size; (try simp at hq6)
      clear hc6 hf6
      go_wp2_with fail
      refine (hS _ (hd.keep (by repeat' (first | exact Below.refl _ _ | (refine Below.via ?_ (by assumption) ?_) | refine Below.setCell ?_ ?_ _ | refine Below.alloc ?_ ?_ _ | refine Below.drew ?_ | omega | (simp; omega) | (simp; done))) (Nat.le_refl _))).mono ?_; rintro e w7 ⟨rfl, hb7⟩; obtain ⟨hc7, hf7⟩ := bcell hb7
      have hq7 := hb7.size; (try simp at hq7)
      clear hc7 hf7
      go_wp2_with fail
      refine (hx _ _ (ho6.lies.keep (B := w6.heap.size) (by repeat' (first | exact Below.refl _ _ | (refine Below.via ?_ (by assumption) ?_) | refine Below.setCell ?_ ?_ _ | refine Below.alloc ?_ ?_ _ | refine Below.drew ?_ | omega | (simp; omega) | (simp; done))) (Nat.le_refl _))).mono ?_; rintro e w8 ⟨rfl, hb8⟩; obtain ⟨hc8, hf8⟩ := bcell hb8
      have hq8 := hb8.size; (try simp at hq8)
      clear hc8 hf8
      go_wp2_with fail
      refine (hN _ (hd.keep (by repeat' (first | exact Below.refl _ _ | (refine Below.via ?_ (by assumption) ?_) | refine Below.setCell ?_ ?_ _ | refine Below.alloc ?_ ?_ _ | refine Below.drew ?_ | omega | (simp; omega) | (simp; done))) (Nat.le_refl _))).mono ?_; rintro e w9 ⟨v9, rfl, ho9, hb9⟩; obtain ⟨hc9, hf9⟩ := bcell hb9
      have hq9 := hb9.size; (try simp at hq9)
      clear hc9 hf9
      go_wp2_with fail
      refine (equalI_any _ _ _ Q Q ho9.lies (ho6.lies.keep (B := w6.heap.size) (by repeat' (first | exact Below.refl _ _ | (refine Below.via ?_ (by assumption) ?_) | refine Below.setCell ?_ ?_ _ | refine Below.alloc ?_ ?_ _ | refine Below.drew ?_ | omega | (simp; omega) | (simp; done))) (Nat.le_refl _))).mono ?_; rintro e w10 ⟨rfl, hb10⟩; obtain ⟨hc10, hf10⟩ := bcell hb10
      have hq10 := hb10.size; (try simp at hq10)
      clear hc10 hf10
      go_wp2_with fail
      refine (hasInt_any _ _ Q n (ho6.lies.keep (B := w6.heap.size) (by repeat' (first | exact Below.refl _ _ | (refine Below.via ?_ (by assumption) ?_) | refine Below.setCell ?_ ?_ _ | refine Below.alloc ?_ ?_ _ | refine Below.drew ?_ | omega | (simp; omega) | (simp; done))) (Nat.le_refl _))).mono ?_; rintro e w11 ⟨rfl, hb11⟩; obtain ⟨hc11, hf11⟩ := bcell hb11
      have hq11 := hb11.size; (try simp at hq11)
      clear hc11 hf11
      go_wp2_with fail
      have hmax : max i 0 = i := by omega
      go_ret
      exact ⟨by simp [hmax] <;> omega, (by repeat' (first | exact Below.refl _ _ | (refine Below.via ?_ (by assumption) ?_) | refine Below.setCell ?_ ?_ _ | refine Below.alloc ?_ ?_ _ | refine Below.drew ?_ | omega | (simp; omega) | (simp; done)))⟩
    · simp only [if_neg hm, decide_eq_false hm] at hS
      rw [hi] at hx
      go_enter Try.func3, Try.ntmps3
      go_wp2_with fail
      refine (hW _ hd).mono ?_; rintro e w1 ⟨v1, rfl, hd1, hb1⟩; obtain ⟨hc1, hf1⟩ := bcell hb1
      have hq1 := hb1.size; (try simp at hq1)
      clear hc1 hf1
      go_wp2_with fail
      refine (hR _ (hd.keep (by repeat' (first | exact Below.refl _ _ | (refine Below.via ?_ (by assumption) ?_) | refine Below.setCell ?_ ?_ _ | refine Below.alloc ?_ ?_ _ | refine Below.drew ?_ | omega | (simp; omega) | (simp; done))) (Nat.le_refl _))).mono ?_; rintro e w2 ⟨v2, rfl, hd2, hb2⟩; obtain ⟨hc2, hf2⟩ := bcell hb2
      have hq2 := hb2.size; (try simp at hq2)
      clear hc2 hf2
      go_wp2_with fail
      refine (hF _ (hd.keep (by repeat' (first | exact Below.refl _ _ | (refine Below.via ?_ (by assumption) ?_) | refine Below.setCell ?_ ?_ _ | refine Below.alloc ?_ ?_ _ | refine Below.drew ?_ | omega | (simp; omega) | (simp; done))) (Nat.le_refl _))).mono ?_; rintro e w3 ⟨rfl, hb3⟩; obtain ⟨hc3, hf3⟩ := bcell hb3
      have hq3 := hb3.size; (try simp at hq3)
      clear hc3 hf3
      go_wp2_with fail
      refine (hC _ (hd.keep (by repeat' (first | exact Below.refl _ _ | (refine Below.via ?_ (by assumption) ?_) | refine Below.setCell ?_ ?_ _ | refine Below.alloc ?_ ?_ _ | refine Below.drew ?_ | omega | (simp; omega) | (simp; done))) (Nat.le_refl _))).mono ?_; rintro e w4 ⟨rfl, hb4⟩; obtain ⟨hc4, hf4⟩ := bcell hb4
      have hq4 := hb4.size; (try simp at hq4)
      clear hc4 hf4
      go_wp2_with fail
      refine (equalD_any _ _ _ S S (hd1.keep (B := w1.heap.size) (by repeat' (first | exact Below.refl _ _ | (refine Below.via ?_ (by assumption) ?_) | refine Below.setCell ?_ ?_ _ | refine Below.alloc ?_ ?_ _ | refine Below.drew ?_ | omega | (simp; omega) | (simp; done))) (Nat.le_refl _)) (hd2.keep (B := w2.heap.size) (by repeat' (first | exact Below.refl _ _ | (refine Below.via ?_ (by assumption) ?_) | refine Below.setCell ?_ ?_ _ | refine Below.alloc ?_ ?_ _ | refine Below.drew ?_ | omega | (simp; omega) | (simp; done))) (Nat.le_refl _))).mono ?_; rintro e w5 ⟨rfl, hb5⟩; obtain ⟨hc5, hf5⟩ := bcell hb5
      have hq5 := hb5.size; (try simp at hq5)
      clear hc5 hf5
      go_wp2_with fail
      refine (between_any _ _ _ _).mono ?_; rintro e w0 ⟨rfl, rfl⟩
      go_wp2_with fail
      refine (hSN _ (hd.keep (by repeat' (first | exact Below.refl _ _ | (refine Below.via ?_ (by assumption) ?_) | refine Below.setCell ?_ ?_ _ | refine Below.alloc ?_ ?_ _ | refine Below.drew ?_ | omega | (simp; omega) | (simp; done))) (Nat.le_refl _))).mono ?_; rintro e w6 ⟨v6, rfl, ho6, hb6⟩; obtain ⟨hc6, hf6⟩ := bcell hb6
      have hq6 := hb6.size; (try simp at hq6)
      clear hc6 hf6
      go_wp2_with fail
      refine (hS _ (hd.keep (by repeat' (first | exact Below.refl _ _ | (refine Below.via ?_ (by assumption) ?_) | refine Below.setCell ?_ ?_ _ | refine Below.alloc ?_ ?_ _ | refine Below.drew ?_ | omega | (simp; omega) | (simp; done))) (Nat.le_refl _))).mono ?_; rintro e w7 ⟨rfl, hb7⟩; obtain ⟨hc7, hf7⟩ := bcell hb7
      have hq7 := hb7.size; (try simp at hq7)
      clear hc7 hf7
      go_wp2_with fail
      refine (hx _ _ (ho6.lies.keep (B := w6.heap.size) (by repeat' (first | exact Below.refl _ _ | (refine Below.via ?_ (by assumption) ?_) | refine Below.setCell ?_ ?_ _ | refine Below.alloc ?_ ?_ _ | refine Below.drew ?_ | omega | (simp; omega) | (simp; done))) (Nat.le_refl _))).mono ?_; rintro e w8 ⟨rfl, hb8⟩; obtain ⟨hc8, hf8⟩ := bcell hb8
      have hq8 := hb8.size; (try simp at hq8)
      clear hc8 hf8
      go_wp2_with fail
      refine (hN _ (hd.keep (by repeat' (first | exact Below.refl _ _ | (refine Below.via ?_ (by assumption) ?_) | refine Below.setCell ?_ ?_ _ | refine Below.alloc ?_ ?_ _ | refine Below.drew ?_ | omega | (simp; omega) | (simp; done))) (Nat.le_refl _))).mono ?_; rintro e w9 ⟨v9, rfl, ho9, hb9⟩; obtain ⟨hc9, hf9⟩ := bcell hb9
      have hq9 := hb9.size; (try simp at hq9)
      clear hc9 hf9
      go_wp2_with fail
      refine (equalI_any _ _ _ Q Q ho9.lies (ho6.lies.keep (B := w6.heap.size) (by repeat' (first | exact Below.refl _ _ | (refine Below.via ?_ (by assumption) ?_) | refine Below.setCell ?_ ?_ _ | refine Below.alloc ?_ ?_ _ | refine Below.drew ?_ | omega | (simp; omega) | (simp; done))) (Nat.le_refl _))).mono ?_; rintro e w10 ⟨rfl, hb10⟩; obtain ⟨hc10, hf10⟩ := bcell hb10
      have hq10 := hb10.size; (try simp at hq10)
      clear hc10 hf10
      go_wp2_with fail
      refine (hasInt_any _ _ Q n (ho6.lies.keep (B := w6.heap.size) (by repeat' (first | exact Below.refl _ _ | (refine Below.via ?_ (by assumption) ?_) | refine Below.setCell ?_ ?_ _ | refine Below.alloc ?_ ?_ _ | refine Below.drew ?_ | omega | (simp; omega) | (simp; done))) (Nat.le_refl _))).mono ?_; rintro e w11 ⟨rfl, hb11⟩; obtain ⟨hc11, hf11⟩ := bcell hb11
      have hq11 := hb11.size; (try simp at hq11)
      clear hc11 hf11
      go_wp2_with fail
      go_ret
      exact ⟨rfl, (by repeat' (first | exact Below.refl _ _ | (refine Below.via ?_ (by assumption) ?_) | refine Below.setCell ?_ ?_ _ | refine Below.alloc ?_ ?_ _ | refine Below.drew ?_ | omega | (simp; omega) | (simp; done)))⟩
  · rw [hq] at hS hN hx
    have hm : n ∉ ([] : List Int) := by simp
    have he : idx ([] : List Int) n = -1 := by simp [idx]
    simp only [if_neg hm, decide_eq_false hm] at hS
    rw [he] at hx
    by_cases hf : faultP L = 0
    · have d0 : (decide (0 ≤ a) && decide (a ≤ (L.length : Int) - 1)) = false := by
        have h3 : ¬ (0 ≤ a ∧ a < L.length) := fun h => hnot ⟨hf, h⟩
        simp; omega
      rw [hf] at hC hF
      go_enter Try.func3, Try.ntmps3
      go_wp2_with fail
      refine (hW _ hd).mono ?_; rintro e w1 ⟨v1, rfl, hd1, hb1⟩; obtain ⟨hc1, hf1⟩ := bcell hb1
      have hq1 := hb1.size; (try simp at hq1)
      clear hc1 hf1
      go_wp2_with fail
      refine (hR _ (hd.keep (by repeat' (first | exact Below.refl _ _ | (refine Below.via ?_ (by assumption) ?_) | refine Below.setCell ?_ ?_ _ | refine Below.alloc ?_ ?_ _ | refine Below.drew ?_ | omega | (simp; omega) | (simp; done))) (Nat.le_refl _))).mono ?_; rintro e w2 ⟨v2, rfl, hd2, hb2⟩; obtain ⟨hc2, hf2⟩ := bcell hb2
      have hq2 := hb2.size; (try simp at hq2)
      clear hc2 hf2
      go_wp2_with fail
      refine (hF _ (hd.keep (by repeat' (first | exact Below.refl _ _ | (refine Below.via ?_ (by assumption) ?_) | refine Below.setCell ?_ ?_ _ | refine Below.alloc ?_ ?_ _ | refine Below.drew ?_ | omega | (simp; omega) | (simp; done))) (Nat.le_refl _))).mono ?_; rintro e w3 ⟨rfl, hb3⟩; obtain ⟨hc3, hf3⟩ := bcell hb3
      have hq3 := hb3.size; (try simp at hq3)
      clear hc3 hf3
      go_wp2_with fail
      refine (hC _ (hd.keep (by repeat' (first | exact Below.refl _ _ | (refine Below.via ?_ (by assumption) ?_) | refine Below.setCell ?_ ?_ _ | refine Below.alloc ?_ ?_ _ | refine Below.drew ?_ | omega | (simp; omega) | (simp; done))) (Nat.le_refl _))).mono ?_; rintro e w4 ⟨rfl, hb4⟩; obtain ⟨hc4, hf4⟩ := bcell hb4
      have hq4 := hb4.size; (try simp at hq4)
      clear hc4 hf4
      go_wp2_with fail
      refine (equalD_any _ _ _ S S (hd1.keep (B := w1.heap.size) (by repeat' (first | exact Below.refl _ _ | (refine Below.via ?_ (by assumption) ?_) | refine Below.setCell ?_ ?_ _ | refine Below.alloc ?_ ?_ _ | refine Below.drew ?_ | omega | (simp; omega) | (simp; done))) (Nat.le_refl _)) (hd2.keep (B := w2.heap.size) (by repeat' (first | exact Below.refl _ _ | (refine Below.via ?_ (by assumption) ?_) | refine Below.setCell ?_ ?_ _ | refine Below.alloc ?_ ?_ _ | refine Below.drew ?_ | omega | (simp; omega) | (simp; done))) (Nat.le_refl _))).mono ?_; rintro e w5 ⟨rfl, hb5⟩; obtain ⟨hc5, hf5⟩ := bcell hb5
      have hq5 := hb5.size; (try simp at hq5)
      clear hc5 hf5
      go_wp2_with fail
      refine (between_any _ _ _ _).mono ?_; rintro e w0 ⟨rfl, rfl⟩
      go_wp2_with fail
      refine (hS _ (hd.keep (by repeat' (first | exact Below.refl _ _ | (refine Below.via ?_ (by assumption) ?_) | refine Below.setCell ?_ ?_ _ | refine Below.alloc ?_ ?_ _ | refine Below.drew ?_ | omega | (simp; omega) | (simp; done))) (Nat.le_refl _))).mono ?_; rintro e w6 ⟨rfl, hb6⟩; obtain ⟨hc6, hf6⟩ := bcell hb6
      have hq6 := hb6.size; (try simp at hq6)
      clear hc6 hf6
      go_wp2_with fail
      refine (hx _ _ (Ints.nil _)).mono ?_; rintro e w7 ⟨rfl, hb7⟩; obtain ⟨hc7, hf7⟩ := bcell hb7
      have hq7 := hb7.size; (try simp at hq7)
      clear hc7 hf7
      go_wp2_with fail
      refine (hN _ (hd.keep (by repeat' (first | exact Below.refl _ _ | (refine Below.via ?_ (by assumption) ?_) | refine Below.setCell ?_ ?_ _ | refine Below.alloc ?_ ?_ _ | refine Below.drew ?_ | omega | (simp; omega) | (simp; done))) (Nat.le_refl _))).mono ?_; rintro e w8 ⟨v8, rfl, ho8, hb8⟩; obtain ⟨hc8, hf8⟩ := bcell hb8
      have hq8 := hb8.size; (try simp at hq8)
      clear hc8 hf8
      go_wp2_with fail
      refine (equalI_any _ _ _ [] [] ho8.lies (Ints.nil _)).mono ?_; rintro e w9 ⟨rfl, hb9⟩; obtain ⟨hc9, hf9⟩ := bcell hb9
      have hq9 := hb9.size; (try simp at hq9)
      clear hc9 hf9
      go_wp2_with fail
      refine (hasInt_any _ _ [] n (Ints.nil _)).mono ?_; rintro e w10 ⟨rfl, hb10⟩; obtain ⟨hc10, hf10⟩ := bcell hb10
      have hq10 := hb10.size; (try simp at hq10)
      clear hc10 hf10
      go_wp2_with fail
      go_ret
      exact ⟨rfl, (by repeat' (first | exact Below.refl _ _ | (refine Below.via ?_ (by assumption) ?_) | refine Below.setCell ?_ ?_ _ | refine Below.alloc ?_ ?_ _ | refine Below.drew ?_ | omega | (simp; omega) | (simp; done)))⟩
    · clear hnot hok
      generalize faultP L = f at *
      go_enter Try.func3, Try.ntmps3
      go_wp2_with fail
      refine (hW _ hd).mono ?_; rintro e w1 ⟨v1, rfl, hd1, hb1⟩; obtain ⟨hc1, hf1⟩ := bcell hb1
      have hq1 := hb1.size; (try simp at hq1)
      clear hc1 hf1
      go_wp2_with fail
      refine (hR _ (hd.keep (by repeat' (first | exact Below.refl _ _ | (refine Below.via ?_ (by assumption) ?_) | refine Below.setCell ?_ ?_ _ | refine Below.alloc ?_ ?_ _ | refine Below.drew ?_ | omega | (simp; omega) | (simp; done))) (Nat.le_refl _))).mono ?_; rintro e w2 ⟨v2, rfl, hd2, hb2⟩; obtain ⟨hc2, hf2⟩ := bcell hb2
      have hq2 := hb2.size; (try simp at hq2)
      clear hc2 hf2
      go_wp2_with fail
      refine (hF _ (hd.keep (by repeat' (first | exact Below.refl _ _ | (refine Below.via ?_ (by assumption) ?_) | refine Below.setCell ?_ ?_ _ | refine Below.alloc ?_ ?_ _ | refine Below.drew ?_ | omega | (simp; omega) | (simp; done))) (Nat.le_refl _))).mono ?_; rintro e w3 ⟨rfl, hb3⟩; obtain ⟨hc3, hf3⟩ := bcell hb3
      have hq3 := hb3.size; (try simp at hq3)
      clear hc3 hf3
      go_wp2_with fail
      refine (hC _ (hd.keep (by repeat' (first | exact Below.refl _ _ | (refine Below.via ?_ (by assumption) ?_) | refine Below.setCell ?_ ?_ _ | refine Below.alloc ?_ ?_ _ | refine Below.drew ?_ | omega | (simp; omega) | (simp; done))) (Nat.le_refl _))).mono ?_; rintro e w4 ⟨rfl, hb4⟩; obtain ⟨hc4, hf4⟩ := bcell hb4
      have hq4 := hb4.size; (try simp at hq4)
      clear hc4 hf4
      go_wp2_with fail
      refine (equalD_any _ _ _ S S (hd1.keep (B := w1.heap.size) (by repeat' (first | exact Below.refl _ _ | (refine Below.via ?_ (by assumption) ?_) | refine Below.setCell ?_ ?_ _ | refine Below.alloc ?_ ?_ _ | refine Below.drew ?_ | omega | (simp; omega) | (simp; done))) (Nat.le_refl _)) (hd2.keep (B := w2.heap.size) (by repeat' (first | exact Below.refl _ _ | (refine Below.via ?_ (by assumption) ?_) | refine Below.setCell ?_ ?_ _ | refine Below.alloc ?_ ?_ _ | refine Below.drew ?_ | omega | (simp; omega) | (simp; done))) (Nat.le_refl _))).mono ?_; rintro e w5 ⟨rfl, hb5⟩; obtain ⟨hc5, hf5⟩ := bcell hb5
      have hq5 := hb5.size; (try simp at hq5)
      clear hc5 hf5
      go_wp2_with fail
      refine (hS _ (hd.keep (by repeat' (first | exact Below.refl _ _ | (refine Below.via ?_ (by assumption) ?_) | refine Below.setCell ?_ ?_ _ | refine Below.alloc ?_ ?_ _ | refine Below.drew ?_ | omega | (simp; omega) | (simp; done))) (Nat.le_refl _))).mono ?_; rintro e w6 ⟨rfl, hb6⟩; obtain ⟨hc6, hf6⟩ := bcell hb6
      have hq6 := hb6.size; (try simp at hq6)
      clear hc6 hf6
      go_wp2_with fail
      refine (hx _ _ (Ints.nil _)).mono ?_; rintro e w7 ⟨rfl, hb7⟩; obtain ⟨hc7, hf7⟩ := bcell hb7
      have hq7 := hb7.size; (try simp at hq7)
      clear hc7 hf7
      go_wp2_with fail
      refine (hN _ (hd.keep (by repeat' (first | exact Below.refl _ _ | (refine Below.via ?_ (by assumption) ?_) | refine Below.setCell ?_ ?_ _ | refine Below.alloc ?_ ?_ _ | refine Below.drew ?_ | omega | (simp; omega) | (simp; done))) (Nat.le_refl _))).mono ?_; rintro e w8 ⟨v8, rfl, ho8, hb8⟩; obtain ⟨hc8, hf8⟩ := bcell hb8
      have hq8 := hb8.size; (try simp at hq8)
      clear hc8 hf8
      go_wp2_with fail
      refine (equalI_any _ _ _ [] [] ho8.lies (Ints.nil _)).mono ?_; rintro e w9 ⟨rfl, hb9⟩; obtain ⟨hc9, hf9⟩ := bcell hb9
      have hq9 := hb9.size; (try simp at hq9)
      clear hc9 hf9
      go_wp2_with fail
      refine (hasInt_any _ _ [] n (Ints.nil _)).mono ?_; rintro e w10 ⟨rfl, hb10⟩; obtain ⟨hc10, hf10⟩ := bcell hb10
      have hq10 := hb10.size; (try simp at hq10)
      clear hc10 hf10
      go_wp2_with fail
      all_goals go_ret
      all_goals exact ⟨rfl, (by repeat' (first | exact Below.refl _ _ | (refine Below.via ?_ (by assumption) ?_) | refine Below.setCell ?_ ?_ _ | refine Below.alloc ?_ ?_ _ | refine Below.drew ?_ | omega | (simp; omega) | (simp; done)))⟩
theorem shapeSays_row (w : World) (v : Value) (L : List Shp) (hd : Duos w v L) (hin : ∀ p ∈ L, InS p) (a : Int) (_ : (Lit.int .i64 a).wf = true) (n : Int) (hn : (Lit.int .i64 n).wf = true) :
    Calls Try.prog 3 #[v, .int .i64 a, .int .i64 n] w fun e w' => e = .returned (.bool true) ∧ Below w.heap.size w w' := shapeSays_walk v L a n w hd hin (inI_wf hn)
/-! ### THE ROW: ShapeSays (after the kit's skeleton) -/
namespace shapeSays
open Go.ChangeShapes Go.WideShapes Go.ChangeAt Go.RowKit Go.Joins
theorem own : ownKnob Try.prog.godebug = none := by kernel_rfl
theorem laidOut : laidOutB Try.prog = true := by kernel_rfl
set_option maxRecDepth 100000 in
theorem lifted (os : Os) (started : os.Started) (H : Type) (enc : TypeId × Value → H) :
    ReturnsInHanded {} Try.checked os 3 .any (Rows.shapeSaysSpec.pre6 enc Try.prog Try.f3 Rows.shapeSaysRow.domain false) (Rows.shapeSaysSpec.post enc Try.prog Try.f3 false true false false) := by
  refine returnsInHanded_of_change (C := Try.checked) own started (by kernel_rfl) Try.func3
    (ChangeSpec.witness6 (enc := enc) (C := Try.checked) false ⟨#[], #[.slice none 0 0, .int .i64 0, .int .i64 0], []⟩ 8 (by kernel_rfl) (by kernel_rfl) (by kernel_rfl) (by kernel_rfl)) ?_
  intro W base args ds gs before hval0 hW hcnd _
  have hval : ∀ (j : Nat) t v, Try.f3.params[j]? = some t → args[j]? = some v → Value.okWide Try.prog W .any base t v := hval0
  have hW' := hW
  obtain ⟨p, q, hA0, hV, rfl, hfz, hnd⟩ := hW
  have hA : DataW.TrodAll enc Try.prog W 0 (fun _ => true) true Try.f3.params.toList args.toList ds p := hA0
  rw [Try.params3] at hA hval
  obtain ⟨v0, vs0, d0, ds0, p0, q0, hargs, rfl, rfl, h0, r0⟩ := trodAll_cons hA
  obtain ⟨v1, vs1, d1, ds1, p1, q1, rfl, rfl, rfl, h1, r1⟩ := trodAll_cons r0
  obtain ⟨v2, vs2, d2, ds2, p2, q2, rfl, rfl, rfl, h2, r2⟩ := trodAll_cons r1
  obtain ⟨rfl, rfl, rfl⟩ := trodAll_nil r2
  obtain rfl : args = #[v0, v1, v2] := by cases args; simp_all
  obtain ⟨rfl, rfl⟩ := trodVars_none hV
  have kk0 := h0
  have lt0 : ∀ x ∈ p0, x.block < W.heap.size := by obtain ⟨m, hm⟩ := kk0; exact DataW.trod_lt m _ _ _ hm
  have kk1 := h1
  have lt1 : ∀ x ∈ p1, x.block < W.heap.size := by obtain ⟨m, hm⟩ := kk1; exact DataW.trod_lt m _ _ _ hm
  have kk2 := h2
  have lt2 : ∀ x ∈ p2, x.block < W.heap.size := by obtain ⟨m, hm⟩ := kk2; exact DataW.trod_lt m _ _ _ hm
  obtain ⟨L0, hd0, hi0⟩ := open_duos (hval 0 22 v0 rfl rfl) h0
  obtain ⟨a1, rfl, rfl, rfl, g1⟩ := open_int Try.underlying3 (hval 1 3 v1 rfl rfl) h1
  obtain ⟨a2, rfl, rfl, rfl, g2⟩ := open_int Try.underlying3 (hval 2 3 v2 rfl rfl) h2
  clear hA0 hval0
  refine (shapeSays_row W v0 L0 hd0 hi0 a1 g1 a2 g2).mono fun e W' ⟨he, bel⟩ => ?_
  subst he
  exact ⟨_, rfl, _, _, _, [], _, [], hW', trodAll_mk1 (shut_bool Try.underlying4 _), (trodAll_cons_mk (Below.trod laidOut (by kernel_rfl) (of_decide_eq_true (by kernel_rfl)) kk0 bel lt0) (trodAll_cons_mk (Below.trod laidOut (by kernel_rfl) (of_decide_eq_true (by kernel_rfl)) kk1 bel lt1) (trodAll_cons_mk (Below.trod laidOut (by kernel_rfl) (of_decide_eq_true (by kernel_rfl)) kk2 bel lt2) trodAll_mk0))), rfl, bel.frame _, fun h => by cases h⟩
theorem over : Rows.shapeSaysRow.holds Try.pinned (OpenSpec.ofChange Rows.shapeSaysSpec) :=
  OpenClaim.holds_of_wide 3 Try.f3 rfl rfl rfl rfl rfl rfl rfl ⟨rfl, rfl, rfl, rfl, rfl⟩ rfl rfl rfl rfl rfl (by kernel_rfl) Try.func3 (by kernel_rfl)
    (of_decide_eq_true (by kernel_rfl)) (by unfold Func.isWrapper; first | (rw [if_pos (by decide +kernel)]; kernel_rfl) | (rw [if_neg (by decide +kernel)]; exact ⟨rfl, rfl⟩))
    (fun os started H enc _ => lifted os started H enc)
end shapeSays
theorem shapeSays_holds : Rows.ShapeSaysSaid := shapeSays.over
#print axioms shapeSays_holds
end Go.Proofs.Ytalippdhfkpbmaa
