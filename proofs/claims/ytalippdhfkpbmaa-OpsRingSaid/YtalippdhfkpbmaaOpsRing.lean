/- OpsRing: for every three whole numbers the law answers true: sums and products go in any order and any brackets, and a product with a sum is the sum of both products, where nothing is thrown. No condition. -/
import Derived.Test.YtalippdhfkpbmaaOpsL
import Derived.Test.YtalippdhfkpbmaaOpsR
import Derived.OpenShut
import Derived.ChangeOld
import Derived.Lib.SmallJoins
import Derived.BigGuardPart
namespace Go.Proofs.Ytalippdhfkpbmaa
open Go.RowKit
set_option maxRecDepth 100000 in
set_option maxHeartbeats 1000000 in
theorem opsRing_n1 (a b c : Int) (w : World) (h1 : rightB 2 a = false) :
    Calls Try.prog 7 #[.int .i64 a, .int .i64 b, .int .i64 c] w fun e w' => e = .returned (.bool true) ∧ Below w.heap.size w w' := by
  go_enter Try.func7, Try.ntmps7
  go_wp2_with fail
  refine (num_any _ _).mono ?_; rintro e w1 ⟨rfl, hb1⟩; obtain ⟨hc1, hf1⟩ := bcell hb1
  have hq1 := hb1.size; (try simp at hq1)
  clear hc1 hf1
  go_wp2_with fail
  refine (num_any _ _).mono ?_; rintro e w2 ⟨rfl, hb2⟩; obtain ⟨hc2, hf2⟩ := bcell hb2
  have hq2 := hb2.size; (try simp at hq2)
  clear hc2 hf2
  go_wp2_with fail
  refine (num_any _ _).mono ?_; rintro e w3 ⟨rfl, hb3⟩; obtain ⟨hc3, hf3⟩ := bcell hb3
  have hq3 := hb3.size; (try simp at hq3)
  clear hc3 hf3
  go_wp2_with fail
  refine (opsLives_any _).mono ?_; rintro e w4 ⟨rfl, hb4⟩; obtain ⟨hc4, hf4⟩ := bcell hb4
  have hq4 := hb4.size; (try simp at hq4)
  have hz4_0 : w3.heap.size < w4.heap.size := (by omega)
  have k4_0_0 := hc4 (w3.heap.size) 0 (by first | omega | (simp; done) | (simp; omega)); (try simp [go_sem, *, -hc4, -hf4] at k4_0_0)
  have k4_0_1 := hc4 (w3.heap.size) 1 (by first | omega | (simp; done) | (simp; omega)); (try simp [go_sem, *, -hc4, -hf4] at k4_0_1)
  have hz4_1 : w3.heap.size + 1 < w4.heap.size := (by omega)
  have k4_1_0 := hc4 (w3.heap.size + 1) 0 (by first | omega | (simp; done) | (simp; omega)); (try simp [go_sem, *, -hc4, -hf4] at k4_1_0)
  have k4_1_1 := hc4 (w3.heap.size + 1) 1 (by first | omega | (simp; done) | (simp; omega)); (try simp [go_sem, *, -hc4, -hf4] at k4_1_1)
  have hz4_2 : w3.heap.size + 1 + 1 < w4.heap.size := (by omega)
  have k4_2_0 := hc4 (w3.heap.size + 1 + 1) 0 (by first | omega | (simp; done) | (simp; omega)); (try simp [go_sem, *, -hc4, -hf4] at k4_2_0)
  have k4_2_1 := hc4 (w3.heap.size + 1 + 1) 1 (by first | omega | (simp; done) | (simp; omega)); (try simp [go_sem, *, -hc4, -hf4] at k4_2_1)
  clear hc4 hf4
  go_wp2_with fail
  refine (right_any _ _ _).mono ?_; rintro e w5 ⟨rfl, hb5⟩; obtain ⟨hc5, hf5⟩ := bcell hb5
  have hq5 := hb5.size; (try simp at hq5)
  have hz5_0 : w3.heap.size < w5.heap.size := (by omega)
  have k5_0_0 := hc5 (w3.heap.size) 0 (by first | omega | (simp; done) | (simp; omega)); (try simp [go_sem, *, -hc5, -hf5] at k5_0_0)
  have k5_0_1 := hc5 (w3.heap.size) 1 (by first | omega | (simp; done) | (simp; omega)); (try simp [go_sem, *, -hc5, -hf5] at k5_0_1)
  have hz5_1 : w3.heap.size + 1 < w5.heap.size := (by omega)
  have k5_1_0 := hc5 (w3.heap.size + 1) 0 (by first | omega | (simp; done) | (simp; omega)); (try simp [go_sem, *, -hc5, -hf5] at k5_1_0)
  have k5_1_1 := hc5 (w3.heap.size + 1) 1 (by first | omega | (simp; done) | (simp; omega)); (try simp [go_sem, *, -hc5, -hf5] at k5_1_1)
  have hz5_2 : w3.heap.size + 1 + 1 < w5.heap.size := (by omega)
  have k5_2_0 := hc5 (w3.heap.size + 1 + 1) 0 (by first | omega | (simp; done) | (simp; omega)); (try simp [go_sem, *, -hc5, -hf5] at k5_2_0)
  have k5_2_1 := hc5 (w3.heap.size + 1 + 1) 1 (by first | omega | (simp; done) | (simp; omega)); (try simp [go_sem, *, -hc5, -hf5] at k5_2_1)
  clear hc5 hf5
  clear k4_0_0 k4_0_1 k4_1_0 k4_1_1 k4_2_0 k4_2_1
  go_wp2_with fail
  refine (opsLives_any _).mono ?_; rintro e w6 ⟨rfl, hb6⟩; obtain ⟨hc6, hf6⟩ := bcell hb6
  have hq6 := hb6.size; (try simp at hq6)
  have hz6_0 : w3.heap.size < w6.heap.size := (by omega)
  have k6_0_0 := hc6 (w3.heap.size) 0 (by first | omega | (simp; done) | (simp; omega)); (try simp [go_sem, *, -hc6, -hf6] at k6_0_0)
  have k6_0_1 := hc6 (w3.heap.size) 1 (by first | omega | (simp; done) | (simp; omega)); (try simp [go_sem, *, -hc6, -hf6] at k6_0_1)
  have hz6_1 : w3.heap.size + 1 < w6.heap.size := (by omega)
  have k6_1_0 := hc6 (w3.heap.size + 1) 0 (by first | omega | (simp; done) | (simp; omega)); (try simp [go_sem, *, -hc6, -hf6] at k6_1_0)
  have k6_1_1 := hc6 (w3.heap.size + 1) 1 (by first | omega | (simp; done) | (simp; omega)); (try simp [go_sem, *, -hc6, -hf6] at k6_1_1)
  have hz6_2 : w3.heap.size + 1 + 1 < w6.heap.size := (by omega)
  have k6_2_0 := hc6 (w3.heap.size + 1 + 1) 0 (by first | omega | (simp; done) | (simp; omega)); (try simp [go_sem, *, -hc6, -hf6] at k6_2_0)
  have k6_2_1 := hc6 (w3.heap.size + 1 + 1) 1 (by first | omega | (simp; done) | (simp; omega)); (try simp [go_sem, *, -hc6, -hf6] at k6_2_1)
  clear hc6 hf6
  clear k5_0_0 k5_0_1 k5_1_0 k5_1_1 k5_2_0 k5_2_1
  go_wp2_with fail
  go_ret
  exact ⟨rfl, (by repeat' (first | exact Below.refl _ _ | (refine Below.via ?_ (by assumption) ?_) | refine Below.setCell ?_ ?_ _ | refine Below.alloc ?_ ?_ _ | refine Below.drew ?_ | omega | (simp; omega) | (simp; done)))⟩
set_option maxRecDepth 100000 in
set_option maxHeartbeats 1000000 in
theorem opsRing_n2 (a b c : Int) (w : World) (h1 : rightB 2 a = true) (h2 : rightB 2 b = false) :
    Calls Try.prog 7 #[.int .i64 a, .int .i64 b, .int .i64 c] w fun e w' => e = .returned (.bool true) ∧ Below w.heap.size w w' := by
  go_enter Try.func7, Try.ntmps7
  go_wp2_with fail
  refine (num_any _ _).mono ?_; rintro e w1 ⟨rfl, hb1⟩; obtain ⟨hc1, hf1⟩ := bcell hb1
  have hq1 := hb1.size; (try simp at hq1)
  clear hc1 hf1
  go_wp2_with fail
  refine (num_any _ _).mono ?_; rintro e w2 ⟨rfl, hb2⟩; obtain ⟨hc2, hf2⟩ := bcell hb2
  have hq2 := hb2.size; (try simp at hq2)
  clear hc2 hf2
  go_wp2_with fail
  refine (num_any _ _).mono ?_; rintro e w3 ⟨rfl, hb3⟩; obtain ⟨hc3, hf3⟩ := bcell hb3
  have hq3 := hb3.size; (try simp at hq3)
  clear hc3 hf3
  go_wp2_with fail
  refine (opsLives_any _).mono ?_; rintro e w4 ⟨rfl, hb4⟩; obtain ⟨hc4, hf4⟩ := bcell hb4
  have hq4 := hb4.size; (try simp at hq4)
  have hz4_0 : w3.heap.size < w4.heap.size := (by omega)
  have k4_0_0 := hc4 (w3.heap.size) 0 (by first | omega | (simp; done) | (simp; omega)); (try simp [go_sem, *, -hc4, -hf4] at k4_0_0)
  have k4_0_1 := hc4 (w3.heap.size) 1 (by first | omega | (simp; done) | (simp; omega)); (try simp [go_sem, *, -hc4, -hf4] at k4_0_1)
  have hz4_1 : w3.heap.size + 1 < w4.heap.size := (by omega)
  have k4_1_0 := hc4 (w3.heap.size + 1) 0 (by first | omega | (simp; done) | (simp; omega)); (try simp [go_sem, *, -hc4, -hf4] at k4_1_0)
  have k4_1_1 := hc4 (w3.heap.size + 1) 1 (by first | omega | (simp; done) | (simp; omega)); (try simp [go_sem, *, -hc4, -hf4] at k4_1_1)
  have hz4_2 : w3.heap.size + 1 + 1 < w4.heap.size := (by omega)
  have k4_2_0 := hc4 (w3.heap.size + 1 + 1) 0 (by first | omega | (simp; done) | (simp; omega)); (try simp [go_sem, *, -hc4, -hf4] at k4_2_0)
  have k4_2_1 := hc4 (w3.heap.size + 1 + 1) 1 (by first | omega | (simp; done) | (simp; omega)); (try simp [go_sem, *, -hc4, -hf4] at k4_2_1)
  clear hc4 hf4
  go_wp2_with fail
  refine (right_any _ _ _).mono ?_; rintro e w5 ⟨rfl, hb5⟩; obtain ⟨hc5, hf5⟩ := bcell hb5
  have hq5 := hb5.size; (try simp at hq5)
  have hz5_0 : w3.heap.size < w5.heap.size := (by omega)
  have k5_0_0 := hc5 (w3.heap.size) 0 (by first | omega | (simp; done) | (simp; omega)); (try simp [go_sem, *, -hc5, -hf5] at k5_0_0)
  have k5_0_1 := hc5 (w3.heap.size) 1 (by first | omega | (simp; done) | (simp; omega)); (try simp [go_sem, *, -hc5, -hf5] at k5_0_1)
  have hz5_1 : w3.heap.size + 1 < w5.heap.size := (by omega)
  have k5_1_0 := hc5 (w3.heap.size + 1) 0 (by first | omega | (simp; done) | (simp; omega)); (try simp [go_sem, *, -hc5, -hf5] at k5_1_0)
  have k5_1_1 := hc5 (w3.heap.size + 1) 1 (by first | omega | (simp; done) | (simp; omega)); (try simp [go_sem, *, -hc5, -hf5] at k5_1_1)
  have hz5_2 : w3.heap.size + 1 + 1 < w5.heap.size := (by omega)
  have k5_2_0 := hc5 (w3.heap.size + 1 + 1) 0 (by first | omega | (simp; done) | (simp; omega)); (try simp [go_sem, *, -hc5, -hf5] at k5_2_0)
  have k5_2_1 := hc5 (w3.heap.size + 1 + 1) 1 (by first | omega | (simp; done) | (simp; omega)); (try simp [go_sem, *, -hc5, -hf5] at k5_2_1)
  clear hc5 hf5
  clear k4_0_0 k4_0_1 k4_1_0 k4_1_1 k4_2_0 k4_2_1
  go_wp2_with fail
  refine (right_any _ _ _).mono ?_; rintro e w6 ⟨rfl, hb6⟩; obtain ⟨hc6, hf6⟩ := bcell hb6
  have hq6 := hb6.size; (try simp at hq6)
  have hz6_0 : w3.heap.size < w6.heap.size := (by omega)
  have k6_0_0 := hc6 (w3.heap.size) 0 (by first | omega | (simp; done) | (simp; omega)); (try simp [go_sem, *, -hc6, -hf6] at k6_0_0)
  have k6_0_1 := hc6 (w3.heap.size) 1 (by first | omega | (simp; done) | (simp; omega)); (try simp [go_sem, *, -hc6, -hf6] at k6_0_1)
  have hz6_1 : w3.heap.size + 1 < w6.heap.size := (by omega)
  have k6_1_0 := hc6 (w3.heap.size + 1) 0 (by first | omega | (simp; done) | (simp; omega)); (try simp [go_sem, *, -hc6, -hf6] at k6_1_0)
  have k6_1_1 := hc6 (w3.heap.size + 1) 1 (by first | omega | (simp; done) | (simp; omega)); (try simp [go_sem, *, -hc6, -hf6] at k6_1_1)
  have hz6_2 : w3.heap.size + 1 + 1 < w6.heap.size := (by omega)
  have k6_2_0 := hc6 (w3.heap.size + 1 + 1) 0 (by first | omega | (simp; done) | (simp; omega)); (try simp [go_sem, *, -hc6, -hf6] at k6_2_0)
  have k6_2_1 := hc6 (w3.heap.size + 1 + 1) 1 (by first | omega | (simp; done) | (simp; omega)); (try simp [go_sem, *, -hc6, -hf6] at k6_2_1)
  clear hc6 hf6
  clear k5_0_0 k5_0_1 k5_1_0 k5_1_1 k5_2_0 k5_2_1
  go_wp2_with fail
  refine (opsLives_any _).mono ?_; rintro e w7 ⟨rfl, hb7⟩; obtain ⟨hc7, hf7⟩ := bcell hb7
  have hq7 := hb7.size; (try simp at hq7)
  have hz7_0 : w3.heap.size < w7.heap.size := (by omega)
  have k7_0_0 := hc7 (w3.heap.size) 0 (by first | omega | (simp; done) | (simp; omega)); (try simp [go_sem, *, -hc7, -hf7] at k7_0_0)
  have k7_0_1 := hc7 (w3.heap.size) 1 (by first | omega | (simp; done) | (simp; omega)); (try simp [go_sem, *, -hc7, -hf7] at k7_0_1)
  have hz7_1 : w3.heap.size + 1 < w7.heap.size := (by omega)
  have k7_1_0 := hc7 (w3.heap.size + 1) 0 (by first | omega | (simp; done) | (simp; omega)); (try simp [go_sem, *, -hc7, -hf7] at k7_1_0)
  have k7_1_1 := hc7 (w3.heap.size + 1) 1 (by first | omega | (simp; done) | (simp; omega)); (try simp [go_sem, *, -hc7, -hf7] at k7_1_1)
  have hz7_2 : w3.heap.size + 1 + 1 < w7.heap.size := (by omega)
  have k7_2_0 := hc7 (w3.heap.size + 1 + 1) 0 (by first | omega | (simp; done) | (simp; omega)); (try simp [go_sem, *, -hc7, -hf7] at k7_2_0)
  have k7_2_1 := hc7 (w3.heap.size + 1 + 1) 1 (by first | omega | (simp; done) | (simp; omega)); (try simp [go_sem, *, -hc7, -hf7] at k7_2_1)
  clear hc7 hf7
  clear k6_0_0 k6_0_1 k6_1_0 k6_1_1 k6_2_0 k6_2_1
  go_wp2_with fail
  go_ret
  exact ⟨rfl, (by repeat' (first | exact Below.refl _ _ | (refine Below.via ?_ (by assumption) ?_) | refine Below.setCell ?_ ?_ _ | refine Below.alloc ?_ ?_ _ | refine Below.drew ?_ | omega | (simp; omega) | (simp; done)))⟩
set_option maxRecDepth 100000 in
set_option maxHeartbeats 1000000 in
theorem opsRing_n3 (a b c : Int) (w : World) (h1 : rightB 2 a = true) (h2 : rightB 2 b = true) (h3 : rightB 2 c = false) :
    Calls Try.prog 7 #[.int .i64 a, .int .i64 b, .int .i64 c] w fun e w' => e = .returned (.bool true) ∧ Below w.heap.size w w' := by
  go_enter Try.func7, Try.ntmps7
  go_wp2_with fail
  refine (num_any _ _).mono ?_; rintro e w1 ⟨rfl, hb1⟩; obtain ⟨hc1, hf1⟩ := bcell hb1
  have hq1 := hb1.size; (try simp at hq1)
  clear hc1 hf1
  go_wp2_with fail
  refine (num_any _ _).mono ?_; rintro e w2 ⟨rfl, hb2⟩; obtain ⟨hc2, hf2⟩ := bcell hb2
  have hq2 := hb2.size; (try simp at hq2)
  clear hc2 hf2
  go_wp2_with fail
  refine (num_any _ _).mono ?_; rintro e w3 ⟨rfl, hb3⟩; obtain ⟨hc3, hf3⟩ := bcell hb3
  have hq3 := hb3.size; (try simp at hq3)
  clear hc3 hf3
  go_wp2_with fail
  refine (opsLives_any _).mono ?_; rintro e w4 ⟨rfl, hb4⟩; obtain ⟨hc4, hf4⟩ := bcell hb4
  have hq4 := hb4.size; (try simp at hq4)
  have hz4_0 : w3.heap.size < w4.heap.size := (by omega)
  have k4_0_0 := hc4 (w3.heap.size) 0 (by first | omega | (simp; done) | (simp; omega)); (try simp [go_sem, *, -hc4, -hf4] at k4_0_0)
  have k4_0_1 := hc4 (w3.heap.size) 1 (by first | omega | (simp; done) | (simp; omega)); (try simp [go_sem, *, -hc4, -hf4] at k4_0_1)
  have hz4_1 : w3.heap.size + 1 < w4.heap.size := (by omega)
  have k4_1_0 := hc4 (w3.heap.size + 1) 0 (by first | omega | (simp; done) | (simp; omega)); (try simp [go_sem, *, -hc4, -hf4] at k4_1_0)
  have k4_1_1 := hc4 (w3.heap.size + 1) 1 (by first | omega | (simp; done) | (simp; omega)); (try simp [go_sem, *, -hc4, -hf4] at k4_1_1)
  have hz4_2 : w3.heap.size + 1 + 1 < w4.heap.size := (by omega)
  have k4_2_0 := hc4 (w3.heap.size + 1 + 1) 0 (by first | omega | (simp; done) | (simp; omega)); (try simp [go_sem, *, -hc4, -hf4] at k4_2_0)
  have k4_2_1 := hc4 (w3.heap.size + 1 + 1) 1 (by first | omega | (simp; done) | (simp; omega)); (try simp [go_sem, *, -hc4, -hf4] at k4_2_1)
  clear hc4 hf4
  go_wp2_with fail
  refine (right_any _ _ _).mono ?_; rintro e w5 ⟨rfl, hb5⟩; obtain ⟨hc5, hf5⟩ := bcell hb5
  have hq5 := hb5.size; (try simp at hq5)
  have hz5_0 : w3.heap.size < w5.heap.size := (by omega)
  have k5_0_0 := hc5 (w3.heap.size) 0 (by first | omega | (simp; done) | (simp; omega)); (try simp [go_sem, *, -hc5, -hf5] at k5_0_0)
  have k5_0_1 := hc5 (w3.heap.size) 1 (by first | omega | (simp; done) | (simp; omega)); (try simp [go_sem, *, -hc5, -hf5] at k5_0_1)
  have hz5_1 : w3.heap.size + 1 < w5.heap.size := (by omega)
  have k5_1_0 := hc5 (w3.heap.size + 1) 0 (by first | omega | (simp; done) | (simp; omega)); (try simp [go_sem, *, -hc5, -hf5] at k5_1_0)
  have k5_1_1 := hc5 (w3.heap.size + 1) 1 (by first | omega | (simp; done) | (simp; omega)); (try simp [go_sem, *, -hc5, -hf5] at k5_1_1)
  have hz5_2 : w3.heap.size + 1 + 1 < w5.heap.size := (by omega)
  have k5_2_0 := hc5 (w3.heap.size + 1 + 1) 0 (by first | omega | (simp; done) | (simp; omega)); (try simp [go_sem, *, -hc5, -hf5] at k5_2_0)
  have k5_2_1 := hc5 (w3.heap.size + 1 + 1) 1 (by first | omega | (simp; done) | (simp; omega)); (try simp [go_sem, *, -hc5, -hf5] at k5_2_1)
  clear hc5 hf5
  clear k4_0_0 k4_0_1 k4_1_0 k4_1_1 k4_2_0 k4_2_1
  go_wp2_with fail
  refine (right_any _ _ _).mono ?_; rintro e w6 ⟨rfl, hb6⟩; obtain ⟨hc6, hf6⟩ := bcell hb6
  have hq6 := hb6.size; (try simp at hq6)
  have hz6_0 : w3.heap.size < w6.heap.size := (by omega)
  have k6_0_0 := hc6 (w3.heap.size) 0 (by first | omega | (simp; done) | (simp; omega)); (try simp [go_sem, *, -hc6, -hf6] at k6_0_0)
  have k6_0_1 := hc6 (w3.heap.size) 1 (by first | omega | (simp; done) | (simp; omega)); (try simp [go_sem, *, -hc6, -hf6] at k6_0_1)
  have hz6_1 : w3.heap.size + 1 < w6.heap.size := (by omega)
  have k6_1_0 := hc6 (w3.heap.size + 1) 0 (by first | omega | (simp; done) | (simp; omega)); (try simp [go_sem, *, -hc6, -hf6] at k6_1_0)
  have k6_1_1 := hc6 (w3.heap.size + 1) 1 (by first | omega | (simp; done) | (simp; omega)); (try simp [go_sem, *, -hc6, -hf6] at k6_1_1)
  have hz6_2 : w3.heap.size + 1 + 1 < w6.heap.size := (by omega)
  have k6_2_0 := hc6 (w3.heap.size + 1 + 1) 0 (by first | omega | (simp; done) | (simp; omega)); (try simp [go_sem, *, -hc6, -hf6] at k6_2_0)
  have k6_2_1 := hc6 (w3.heap.size + 1 + 1) 1 (by first | omega | (simp; done) | (simp; omega)); (try simp [go_sem, *, -hc6, -hf6] at k6_2_1)
  clear hc6 hf6
  clear k5_0_0 k5_0_1 k5_1_0 k5_1_1 k5_2_0 k5_2_1
  go_wp2_with fail
  refine (right_any _ _ _).mono ?_; rintro e w7 ⟨rfl, hb7⟩; obtain ⟨hc7, hf7⟩ := bcell hb7
  have hq7 := hb7.size; (try simp at hq7)
  have hz7_0 : w3.heap.size < w7.heap.size := (by omega)
  have k7_0_0 := hc7 (w3.heap.size) 0 (by first | omega | (simp; done) | (simp; omega)); (try simp [go_sem, *, -hc7, -hf7] at k7_0_0)
  have k7_0_1 := hc7 (w3.heap.size) 1 (by first | omega | (simp; done) | (simp; omega)); (try simp [go_sem, *, -hc7, -hf7] at k7_0_1)
  have hz7_1 : w3.heap.size + 1 < w7.heap.size := (by omega)
  have k7_1_0 := hc7 (w3.heap.size + 1) 0 (by first | omega | (simp; done) | (simp; omega)); (try simp [go_sem, *, -hc7, -hf7] at k7_1_0)
  have k7_1_1 := hc7 (w3.heap.size + 1) 1 (by first | omega | (simp; done) | (simp; omega)); (try simp [go_sem, *, -hc7, -hf7] at k7_1_1)
  have hz7_2 : w3.heap.size + 1 + 1 < w7.heap.size := (by omega)
  have k7_2_0 := hc7 (w3.heap.size + 1 + 1) 0 (by first | omega | (simp; done) | (simp; omega)); (try simp [go_sem, *, -hc7, -hf7] at k7_2_0)
  have k7_2_1 := hc7 (w3.heap.size + 1 + 1) 1 (by first | omega | (simp; done) | (simp; omega)); (try simp [go_sem, *, -hc7, -hf7] at k7_2_1)
  clear hc7 hf7
  clear k6_0_0 k6_0_1 k6_1_0 k6_1_1 k6_2_0 k6_2_1
  go_wp2_with fail
  refine (opsLives_any _).mono ?_; rintro e w8 ⟨rfl, hb8⟩; obtain ⟨hc8, hf8⟩ := bcell hb8
  have hq8 := hb8.size; (try simp at hq8)
  have hz8_0 : w3.heap.size < w8.heap.size := (by omega)
  have k8_0_0 := hc8 (w3.heap.size) 0 (by first | omega | (simp; done) | (simp; omega)); (try simp [go_sem, *, -hc8, -hf8] at k8_0_0)
  have k8_0_1 := hc8 (w3.heap.size) 1 (by first | omega | (simp; done) | (simp; omega)); (try simp [go_sem, *, -hc8, -hf8] at k8_0_1)
  have hz8_1 : w3.heap.size + 1 < w8.heap.size := (by omega)
  have k8_1_0 := hc8 (w3.heap.size + 1) 0 (by first | omega | (simp; done) | (simp; omega)); (try simp [go_sem, *, -hc8, -hf8] at k8_1_0)
  have k8_1_1 := hc8 (w3.heap.size + 1) 1 (by first | omega | (simp; done) | (simp; omega)); (try simp [go_sem, *, -hc8, -hf8] at k8_1_1)
  have hz8_2 : w3.heap.size + 1 + 1 < w8.heap.size := (by omega)
  have k8_2_0 := hc8 (w3.heap.size + 1 + 1) 0 (by first | omega | (simp; done) | (simp; omega)); (try simp [go_sem, *, -hc8, -hf8] at k8_2_0)
  have k8_2_1 := hc8 (w3.heap.size + 1 + 1) 1 (by first | omega | (simp; done) | (simp; omega)); (try simp [go_sem, *, -hc8, -hf8] at k8_2_1)
  clear hc8 hf8
  clear k7_0_0 k7_0_1 k7_1_0 k7_1_1 k7_2_0 k7_2_1
  go_wp2_with fail
  go_ret
  exact ⟨rfl, (by repeat' (first | exact Below.refl _ _ | (refine Below.via ?_ (by assumption) ?_) | refine Below.setCell ?_ ?_ _ | refine Below.alloc ?_ ?_ _ | refine Below.drew ?_ | omega | (simp; omega) | (simp; done)))⟩
/-- What the loop holds: the three numbers in their blocks. -/
structure RingAt (w wr : World) (B : Nat) (a b c : Int) : Prop where
  bel : Below w.heap.size w wr
  low : w.heap.size ≤ B
  s0 : B < wr.heap.size
  s1 : B + 1 < wr.heap.size
  s2 : B + 1 + 1 < wr.heap.size
  c0 : wr.cell? ⟨B, 0, none⟩ = some (.int .i64 2)
  c1 : wr.cell? ⟨B, 1, none⟩ = some (.int .i64 a)
  c2 : wr.cell? ⟨B + 1, 0, none⟩ = some (.int .i64 2)
  c3 : wr.cell? ⟨B + 1, 1, none⟩ = some (.int .i64 b)
  c4 : wr.cell? ⟨B + 1 + 1, 0, none⟩ = some (.int .i64 2)
  c5 : wr.cell? ⟨B + 1 + 1, 1, none⟩ = some (.int .i64 c)
set_option maxRecDepth 100000 in
set_option maxHeartbeats 2000000 in
theorem opsRing_y (a b c : Int) (w : World) (h1 : rightB 2 a = true) (h2 : rightB 2 b = true) (h3 : rightB 2 c = true) :
    Calls Try.prog 7 #[.int .i64 a, .int .i64 b, .int .i64 c] w fun e w' => e = .returned (.bool true) ∧ Below w.heap.size w w' := by
  have i0 : ∀ (w : World), (Instr.index 46 (.agg #[.int .i64 3, .int .i64 5]) (.int .i64 0)).run Try.prog w = .ok (.int .i64 3) w := fun _ => by kernel_rfl
  have i1 : ∀ (w : World), (Instr.index 46 (.agg #[.int .i64 3, .int .i64 5]) (.int .i64 1)).run Try.prog w = .ok (.int .i64 5) w := fun _ => by kernel_rfl
  go_enter Try.func7, Try.ntmps7
  go_wp2_with fail
  refine (num_any _ _).mono ?_; rintro e w1 ⟨rfl, hb1⟩; obtain ⟨hc1, hf1⟩ := bcell hb1
  have hq1 := hb1.size; (try simp at hq1)
  clear hc1 hf1
  go_wp2_with fail
  refine (num_any _ _).mono ?_; rintro e w2 ⟨rfl, hb2⟩; obtain ⟨hc2, hf2⟩ := bcell hb2
  have hq2 := hb2.size; (try simp at hq2)
  clear hc2 hf2
  go_wp2_with fail
  refine (num_any _ _).mono ?_; rintro e w3 ⟨rfl, hb3⟩; obtain ⟨hc3, hf3⟩ := bcell hb3
  have hq3 := hb3.size; (try simp at hq3)
  clear hc3 hf3
  go_wp2_with fail
  refine (opsLives_any _).mono ?_; rintro e w4 ⟨rfl, hb4⟩; obtain ⟨hc4, hf4⟩ := bcell hb4
  have hq4 := hb4.size; (try simp at hq4)
  have hz4_0 : w3.heap.size < w4.heap.size := (by omega)
  have k4_0_0 := hc4 (w3.heap.size) 0 (by first | omega | (simp; done) | (simp; omega)); (try simp [go_sem, *, -hc4, -hf4] at k4_0_0)
  have k4_0_1 := hc4 (w3.heap.size) 1 (by first | omega | (simp; done) | (simp; omega)); (try simp [go_sem, *, -hc4, -hf4] at k4_0_1)
  have hz4_1 : w3.heap.size + 1 < w4.heap.size := (by omega)
  have k4_1_0 := hc4 (w3.heap.size + 1) 0 (by first | omega | (simp; done) | (simp; omega)); (try simp [go_sem, *, -hc4, -hf4] at k4_1_0)
  have k4_1_1 := hc4 (w3.heap.size + 1) 1 (by first | omega | (simp; done) | (simp; omega)); (try simp [go_sem, *, -hc4, -hf4] at k4_1_1)
  have hz4_2 : w3.heap.size + 1 + 1 < w4.heap.size := (by omega)
  have k4_2_0 := hc4 (w3.heap.size + 1 + 1) 0 (by first | omega | (simp; done) | (simp; omega)); (try simp [go_sem, *, -hc4, -hf4] at k4_2_0)
  have k4_2_1 := hc4 (w3.heap.size + 1 + 1) 1 (by first | omega | (simp; done) | (simp; omega)); (try simp [go_sem, *, -hc4, -hf4] at k4_2_1)
  clear hc4 hf4
  go_wp2_with fail
  refine (right_any _ _ _).mono ?_; rintro e w5 ⟨rfl, hb5⟩; obtain ⟨hc5, hf5⟩ := bcell hb5
  have hq5 := hb5.size; (try simp at hq5)
  have hz5_0 : w3.heap.size < w5.heap.size := (by omega)
  have k5_0_0 := hc5 (w3.heap.size) 0 (by first | omega | (simp; done) | (simp; omega)); (try simp [go_sem, *, -hc5, -hf5] at k5_0_0)
  have k5_0_1 := hc5 (w3.heap.size) 1 (by first | omega | (simp; done) | (simp; omega)); (try simp [go_sem, *, -hc5, -hf5] at k5_0_1)
  have hz5_1 : w3.heap.size + 1 < w5.heap.size := (by omega)
  have k5_1_0 := hc5 (w3.heap.size + 1) 0 (by first | omega | (simp; done) | (simp; omega)); (try simp [go_sem, *, -hc5, -hf5] at k5_1_0)
  have k5_1_1 := hc5 (w3.heap.size + 1) 1 (by first | omega | (simp; done) | (simp; omega)); (try simp [go_sem, *, -hc5, -hf5] at k5_1_1)
  have hz5_2 : w3.heap.size + 1 + 1 < w5.heap.size := (by omega)
  have k5_2_0 := hc5 (w3.heap.size + 1 + 1) 0 (by first | omega | (simp; done) | (simp; omega)); (try simp [go_sem, *, -hc5, -hf5] at k5_2_0)
  have k5_2_1 := hc5 (w3.heap.size + 1 + 1) 1 (by first | omega | (simp; done) | (simp; omega)); (try simp [go_sem, *, -hc5, -hf5] at k5_2_1)
  clear hc5 hf5
  clear k4_0_0 k4_0_1 k4_1_0 k4_1_1 k4_2_0 k4_2_1
  go_wp2_with fail
  refine (right_any _ _ _).mono ?_; rintro e w6 ⟨rfl, hb6⟩; obtain ⟨hc6, hf6⟩ := bcell hb6
  have hq6 := hb6.size; (try simp at hq6)
  have hz6_0 : w3.heap.size < w6.heap.size := (by omega)
  have k6_0_0 := hc6 (w3.heap.size) 0 (by first | omega | (simp; done) | (simp; omega)); (try simp [go_sem, *, -hc6, -hf6] at k6_0_0)
  have k6_0_1 := hc6 (w3.heap.size) 1 (by first | omega | (simp; done) | (simp; omega)); (try simp [go_sem, *, -hc6, -hf6] at k6_0_1)
  have hz6_1 : w3.heap.size + 1 < w6.heap.size := (by omega)
  have k6_1_0 := hc6 (w3.heap.size + 1) 0 (by first | omega | (simp; done) | (simp; omega)); (try simp [go_sem, *, -hc6, -hf6] at k6_1_0)
  have k6_1_1 := hc6 (w3.heap.size + 1) 1 (by first | omega | (simp; done) | (simp; omega)); (try simp [go_sem, *, -hc6, -hf6] at k6_1_1)
  have hz6_2 : w3.heap.size + 1 + 1 < w6.heap.size := (by omega)
  have k6_2_0 := hc6 (w3.heap.size + 1 + 1) 0 (by first | omega | (simp; done) | (simp; omega)); (try simp [go_sem, *, -hc6, -hf6] at k6_2_0)
  have k6_2_1 := hc6 (w3.heap.size + 1 + 1) 1 (by first | omega | (simp; done) | (simp; omega)); (try simp [go_sem, *, -hc6, -hf6] at k6_2_1)
  clear hc6 hf6
  clear k5_0_0 k5_0_1 k5_1_0 k5_1_1 k5_2_0 k5_2_1
  go_wp2_with fail
  refine (right_any _ _ _).mono ?_; rintro e w7 ⟨rfl, hb7⟩; obtain ⟨hc7, hf7⟩ := bcell hb7
  have hq7 := hb7.size; (try simp at hq7)
  have hz7_0 : w3.heap.size < w7.heap.size := (by omega)
  have k7_0_0 := hc7 (w3.heap.size) 0 (by first | omega | (simp; done) | (simp; omega)); (try simp [go_sem, *, -hc7, -hf7] at k7_0_0)
  have k7_0_1 := hc7 (w3.heap.size) 1 (by first | omega | (simp; done) | (simp; omega)); (try simp [go_sem, *, -hc7, -hf7] at k7_0_1)
  have hz7_1 : w3.heap.size + 1 < w7.heap.size := (by omega)
  have k7_1_0 := hc7 (w3.heap.size + 1) 0 (by first | omega | (simp; done) | (simp; omega)); (try simp [go_sem, *, -hc7, -hf7] at k7_1_0)
  have k7_1_1 := hc7 (w3.heap.size + 1) 1 (by first | omega | (simp; done) | (simp; omega)); (try simp [go_sem, *, -hc7, -hf7] at k7_1_1)
  have hz7_2 : w3.heap.size + 1 + 1 < w7.heap.size := (by omega)
  have k7_2_0 := hc7 (w3.heap.size + 1 + 1) 0 (by first | omega | (simp; done) | (simp; omega)); (try simp [go_sem, *, -hc7, -hf7] at k7_2_0)
  have k7_2_1 := hc7 (w3.heap.size + 1 + 1) 1 (by first | omega | (simp; done) | (simp; omega)); (try simp [go_sem, *, -hc7, -hf7] at k7_2_1)
  clear hc7 hf7
  clear k6_0_0 k6_0_1 k6_1_0 k6_1_1 k6_2_0 k6_2_1
  go_wp2_with fail
  -- STOP: a loop
  clear i0 i1
  go_loopw [57] (fun i wr => ∃ k : Nat, k ≤ 2 ∧ i = .int .i64 k ∧ RingAt w wr w3.heap.size a b c) (fun i _ => 2 - (intOf i).toNat)
  case atStart => exact ⟨0, by omega, rfl, ⟨(by repeat' (first | exact Below.refl _ _ | (refine Below.via ?_ (by assumption) ?_) | refine Below.setCell ?_ ?_ _ | refine Below.alloc ?_ ?_ _ | refine Below.drew ?_ | omega | (simp; omega) | (simp; done))), by omega, by omega, by omega, by omega, by assumption, by assumption, by assumption, by assumption, by assumption, by assumption⟩⟩
  case round =>
    obtain ⟨k, hk, rfl, R⟩ := hrel
    obtain ⟨bel, low, s0, s1, s2, c0, c1, c2, c3, c4, c5⟩ := R
    rcases (by omega : k = 0 ∨ k = 1 ∨ k = 2) with rfl | rfl | rfl
    · have i0 : ∀ (w : World), (Instr.index 46 (.agg #[.int .i64 3, .int .i64 5]) (.int .i64 0)).run Try.prog w = .ok (.int .i64 3) w := fun _ => by kernel_rfl
      have hC := ring_comm (op := 3) (.inl rfl) h1 h2
      have hA : ((binaryS 3 2 a 2 b).2.2 == -1) = true → ((binaryS 3 2 b 2 c).2.2 == -1) = true → binaryS 3 (binaryS 3 2 a 2 b).1 (binaryS 3 2 a 2 b).2.1 2 c = binaryS 3 2 a (binaryS 3 2 b 2 c).1 (binaryS 3 2 b 2 c).2.1 :=
        fun e h => ring_assoc (.inl rfl) h1 h2 h3 (by simpa using e) (by simpa using h)
      go_wp2_with fail
      refine (binary_any _ _ _ _ _ _).mono ?_; rintro e w21 ⟨rfl, hb21⟩; obtain ⟨hc21, hf21⟩ := bcell hb21
      have hq21 := hb21.size; (try simp at hq21)
      have hz21_0 : w3.heap.size < w21.heap.size := (by omega)
      have k21_0_0 := hc21 (w3.heap.size) 0 (by first | omega | (simp; done) | (simp; omega)); (try simp [go_sem, *, -hc21, -hf21] at k21_0_0)
      have k21_0_1 := hc21 (w3.heap.size) 1 (by first | omega | (simp; done) | (simp; omega)); (try simp [go_sem, *, -hc21, -hf21] at k21_0_1)
      have hz21_1 : w3.heap.size + 1 < w21.heap.size := (by omega)
      have k21_1_0 := hc21 (w3.heap.size + 1) 0 (by first | omega | (simp; done) | (simp; omega)); (try simp [go_sem, *, -hc21, -hf21] at k21_1_0)
      have k21_1_1 := hc21 (w3.heap.size + 1) 1 (by first | omega | (simp; done) | (simp; omega)); (try simp [go_sem, *, -hc21, -hf21] at k21_1_1)
      have hz21_2 : w3.heap.size + 1 + 1 < w21.heap.size := (by omega)
      have k21_2_0 := hc21 (w3.heap.size + 1 + 1) 0 (by first | omega | (simp; done) | (simp; omega)); (try simp [go_sem, *, -hc21, -hf21] at k21_2_0)
      have k21_2_1 := hc21 (w3.heap.size + 1 + 1) 1 (by first | omega | (simp; done) | (simp; omega)); (try simp [go_sem, *, -hc21, -hf21] at k21_2_1)
      clear hc21 hf21
      go_wp2_with fail
      refine (binary_any _ _ _ _ _ _).mono ?_; rintro e w22 ⟨rfl, hb22⟩; obtain ⟨hc22, hf22⟩ := bcell hb22
      have hq22 := hb22.size; (try simp at hq22)
      have hz22_0 : w3.heap.size < w22.heap.size := (by omega)
      have k22_0_0 := hc22 (w3.heap.size) 0 (by first | omega | (simp; done) | (simp; omega)); (try simp [go_sem, *, -hc22, -hf22] at k22_0_0)
      have k22_0_1 := hc22 (w3.heap.size) 1 (by first | omega | (simp; done) | (simp; omega)); (try simp [go_sem, *, -hc22, -hf22] at k22_0_1)
      have hz22_1 : w3.heap.size + 1 < w22.heap.size := (by omega)
      have k22_1_0 := hc22 (w3.heap.size + 1) 0 (by first | omega | (simp; done) | (simp; omega)); (try simp [go_sem, *, -hc22, -hf22] at k22_1_0)
      have k22_1_1 := hc22 (w3.heap.size + 1) 1 (by first | omega | (simp; done) | (simp; omega)); (try simp [go_sem, *, -hc22, -hf22] at k22_1_1)
      have hz22_2 : w3.heap.size + 1 + 1 < w22.heap.size := (by omega)
      have k22_2_0 := hc22 (w3.heap.size + 1 + 1) 0 (by first | omega | (simp; done) | (simp; omega)); (try simp [go_sem, *, -hc22, -hf22] at k22_2_0)
      have k22_2_1 := hc22 (w3.heap.size + 1 + 1) 1 (by first | omega | (simp; done) | (simp; omega)); (try simp [go_sem, *, -hc22, -hf22] at k22_2_1)
      have hz22_3 : w21.heap.size < w22.heap.size := (by omega)
      have k22_3_0 := hc22 (w21.heap.size) 0 (by first | omega | (simp; done) | (simp; omega)); (try simp [go_sem, *, -hc22, -hf22] at k22_3_0)
      have k22_3_1 := hc22 (w21.heap.size) 1 (by first | omega | (simp; done) | (simp; omega)); (try simp [go_sem, *, -hc22, -hf22] at k22_3_1)
      clear hc22 hf22
      clear k21_0_0 k21_0_1 k21_1_0 k21_1_1 k21_2_0 k21_2_1
      go_wp2_with fail
      refine (binary_any _ _ _ _ _ _).mono ?_; rintro e w23 ⟨rfl, hb23⟩; obtain ⟨hc23, hf23⟩ := bcell hb23
      have hq23 := hb23.size; (try simp at hq23)
      have hz23_0 : w3.heap.size < w23.heap.size := (by omega)
      have k23_0_0 := hc23 (w3.heap.size) 0 (by first | omega | (simp; done) | (simp; omega)); (try simp [go_sem, *, -hc23, -hf23] at k23_0_0)
      have k23_0_1 := hc23 (w3.heap.size) 1 (by first | omega | (simp; done) | (simp; omega)); (try simp [go_sem, *, -hc23, -hf23] at k23_0_1)
      have hz23_1 : w3.heap.size + 1 < w23.heap.size := (by omega)
      have k23_1_0 := hc23 (w3.heap.size + 1) 0 (by first | omega | (simp; done) | (simp; omega)); (try simp [go_sem, *, -hc23, -hf23] at k23_1_0)
      have k23_1_1 := hc23 (w3.heap.size + 1) 1 (by first | omega | (simp; done) | (simp; omega)); (try simp [go_sem, *, -hc23, -hf23] at k23_1_1)
      have hz23_2 : w3.heap.size + 1 + 1 < w23.heap.size := (by omega)
      have k23_2_0 := hc23 (w3.heap.size + 1 + 1) 0 (by first | omega | (simp; done) | (simp; omega)); (try simp [go_sem, *, -hc23, -hf23] at k23_2_0)
      have k23_2_1 := hc23 (w3.heap.size + 1 + 1) 1 (by first | omega | (simp; done) | (simp; omega)); (try simp [go_sem, *, -hc23, -hf23] at k23_2_1)
      have hz23_3 : w21.heap.size < w23.heap.size := (by omega)
      have k23_3_0 := hc23 (w21.heap.size) 0 (by first | omega | (simp; done) | (simp; omega)); (try simp [go_sem, *, -hc23, -hf23] at k23_3_0)
      have k23_3_1 := hc23 (w21.heap.size) 1 (by first | omega | (simp; done) | (simp; omega)); (try simp [go_sem, *, -hc23, -hf23] at k23_3_1)
      have hz23_4 : w22.heap.size < w23.heap.size := (by omega)
      have k23_4_0 := hc23 (w22.heap.size) 0 (by first | omega | (simp; done) | (simp; omega)); (try simp [go_sem, *, -hc23, -hf23] at k23_4_0)
      have k23_4_1 := hc23 (w22.heap.size) 1 (by first | omega | (simp; done) | (simp; omega)); (try simp [go_sem, *, -hc23, -hf23] at k23_4_1)
      clear hc23 hf23
      clear k22_0_0 k22_0_1 k22_1_0 k22_1_1 k22_2_0 k22_2_1 k22_3_0 k22_3_1
      go_wp2_with fail
      refine (binary_any _ _ _ _ _ _).mono ?_; rintro e w24 ⟨rfl, hb24⟩; obtain ⟨hc24, hf24⟩ := bcell hb24
      have hq24 := hb24.size; (try simp at hq24)
      have hz24_0 : w3.heap.size < w24.heap.size := (by omega)
      have k24_0_0 := hc24 (w3.heap.size) 0 (by first | omega | (simp; done) | (simp; omega)); (try simp [go_sem, *, -hc24, -hf24] at k24_0_0)
      have k24_0_1 := hc24 (w3.heap.size) 1 (by first | omega | (simp; done) | (simp; omega)); (try simp [go_sem, *, -hc24, -hf24] at k24_0_1)
      have hz24_1 : w3.heap.size + 1 < w24.heap.size := (by omega)
      have k24_1_0 := hc24 (w3.heap.size + 1) 0 (by first | omega | (simp; done) | (simp; omega)); (try simp [go_sem, *, -hc24, -hf24] at k24_1_0)
      have k24_1_1 := hc24 (w3.heap.size + 1) 1 (by first | omega | (simp; done) | (simp; omega)); (try simp [go_sem, *, -hc24, -hf24] at k24_1_1)
      have hz24_2 : w3.heap.size + 1 + 1 < w24.heap.size := (by omega)
      have k24_2_0 := hc24 (w3.heap.size + 1 + 1) 0 (by first | omega | (simp; done) | (simp; omega)); (try simp [go_sem, *, -hc24, -hf24] at k24_2_0)
      have k24_2_1 := hc24 (w3.heap.size + 1 + 1) 1 (by first | omega | (simp; done) | (simp; omega)); (try simp [go_sem, *, -hc24, -hf24] at k24_2_1)
      have hz24_3 : w21.heap.size < w24.heap.size := (by omega)
      have k24_3_0 := hc24 (w21.heap.size) 0 (by first | omega | (simp; done) | (simp; omega)); (try simp [go_sem, *, -hc24, -hf24] at k24_3_0)
      have k24_3_1 := hc24 (w21.heap.size) 1 (by first | omega | (simp; done) | (simp; omega)); (try simp [go_sem, *, -hc24, -hf24] at k24_3_1)
      have hz24_4 : w22.heap.size < w24.heap.size := (by omega)
      have k24_4_0 := hc24 (w22.heap.size) 0 (by first | omega | (simp; done) | (simp; omega)); (try simp [go_sem, *, -hc24, -hf24] at k24_4_0)
      have k24_4_1 := hc24 (w22.heap.size) 1 (by first | omega | (simp; done) | (simp; omega)); (try simp [go_sem, *, -hc24, -hf24] at k24_4_1)
      have hz24_5 : w23.heap.size < w24.heap.size := (by omega)
      have k24_5_0 := hc24 (w23.heap.size) 0 (by first | omega | (simp; done) | (simp; omega)); (try simp [go_sem, *, -hc24, -hf24] at k24_5_0)
      have k24_5_1 := hc24 (w23.heap.size) 1 (by first | omega | (simp; done) | (simp; omega)); (try simp [go_sem, *, -hc24, -hf24] at k24_5_1)
      clear hc24 hf24
      clear k23_0_0 k23_0_1 k23_1_0 k23_1_1 k23_2_0 k23_2_1 k23_3_0 k23_3_1 k23_4_0 k23_4_1
      go_wp2_with fail
      refine (binary_any _ _ _ _ _ _).mono ?_; rintro e w25 ⟨rfl, hb25⟩; obtain ⟨hc25, hf25⟩ := bcell hb25
      have hq25 := hb25.size; (try simp at hq25)
      have hz25_0 : w3.heap.size < w25.heap.size := (by omega)
      have k25_0_0 := hc25 (w3.heap.size) 0 (by first | omega | (simp; done) | (simp; omega)); (try simp [go_sem, *, -hc25, -hf25] at k25_0_0)
      have k25_0_1 := hc25 (w3.heap.size) 1 (by first | omega | (simp; done) | (simp; omega)); (try simp [go_sem, *, -hc25, -hf25] at k25_0_1)
      have hz25_1 : w3.heap.size + 1 < w25.heap.size := (by omega)
      have k25_1_0 := hc25 (w3.heap.size + 1) 0 (by first | omega | (simp; done) | (simp; omega)); (try simp [go_sem, *, -hc25, -hf25] at k25_1_0)
      have k25_1_1 := hc25 (w3.heap.size + 1) 1 (by first | omega | (simp; done) | (simp; omega)); (try simp [go_sem, *, -hc25, -hf25] at k25_1_1)
      have hz25_2 : w3.heap.size + 1 + 1 < w25.heap.size := (by omega)
      have k25_2_0 := hc25 (w3.heap.size + 1 + 1) 0 (by first | omega | (simp; done) | (simp; omega)); (try simp [go_sem, *, -hc25, -hf25] at k25_2_0)
      have k25_2_1 := hc25 (w3.heap.size + 1 + 1) 1 (by first | omega | (simp; done) | (simp; omega)); (try simp [go_sem, *, -hc25, -hf25] at k25_2_1)
      have hz25_3 : w21.heap.size < w25.heap.size := (by omega)
      have k25_3_0 := hc25 (w21.heap.size) 0 (by first | omega | (simp; done) | (simp; omega)); (try simp [go_sem, *, -hc25, -hf25] at k25_3_0)
      have k25_3_1 := hc25 (w21.heap.size) 1 (by first | omega | (simp; done) | (simp; omega)); (try simp [go_sem, *, -hc25, -hf25] at k25_3_1)
      have hz25_4 : w22.heap.size < w25.heap.size := (by omega)
      have k25_4_0 := hc25 (w22.heap.size) 0 (by first | omega | (simp; done) | (simp; omega)); (try simp [go_sem, *, -hc25, -hf25] at k25_4_0)
      have k25_4_1 := hc25 (w22.heap.size) 1 (by first | omega | (simp; done) | (simp; omega)); (try simp [go_sem, *, -hc25, -hf25] at k25_4_1)
      have hz25_5 : w23.heap.size < w25.heap.size := (by omega)
      have k25_5_0 := hc25 (w23.heap.size) 0 (by first | omega | (simp; done) | (simp; omega)); (try simp [go_sem, *, -hc25, -hf25] at k25_5_0)
      have k25_5_1 := hc25 (w23.heap.size) 1 (by first | omega | (simp; done) | (simp; omega)); (try simp [go_sem, *, -hc25, -hf25] at k25_5_1)
      clear hc25 hf25
      clear k24_0_0 k24_0_1 k24_1_0 k24_1_1 k24_2_0 k24_2_1 k24_3_0 k24_3_1 k24_4_0 k24_4_1 k24_5_0 k24_5_1
      go_wp2_with fail
      -- end of the round
      all_goals
        go_roundw
        case rel => exact ⟨1, by omega, by go_num, ⟨(by repeat' (first | exact Below.refl _ _ | (refine Below.via ?_ (by assumption) ?_) | refine Below.setCell ?_ ?_ _ | refine Below.alloc ?_ ?_ _ | refine Below.drew ?_ | omega | (simp; omega) | (simp; done))), low, by simp; omega, by simp; omega, by simp; omega, by simp [go_sem, *], by simp [go_sem, *], by simp [go_sem, *], by simp [go_sem, *], by simp [go_sem, *], by simp [go_sem, *]⟩⟩
        case measure => simp [intOf]
    · have i0 : ∀ (w : World), (Instr.index 46 (.agg #[.int .i64 3, .int .i64 5]) (.int .i64 1)).run Try.prog w = .ok (.int .i64 5) w := fun _ => by kernel_rfl
      have hC := ring_comm (op := 5) (.inr rfl) h1 h2
      have hA : ((binaryS 5 2 a 2 b).2.2 == -1) = true → ((binaryS 5 2 b 2 c).2.2 == -1) = true → binaryS 5 (binaryS 5 2 a 2 b).1 (binaryS 5 2 a 2 b).2.1 2 c = binaryS 5 2 a (binaryS 5 2 b 2 c).1 (binaryS 5 2 b 2 c).2.1 :=
        fun e h => ring_assoc (.inr rfl) h1 h2 h3 (by simpa using e) (by simpa using h)
      go_wp2_with fail
      refine (binary_any _ _ _ _ _ _).mono ?_; rintro e w21 ⟨rfl, hb21⟩; obtain ⟨hc21, hf21⟩ := bcell hb21
      have hq21 := hb21.size; (try simp at hq21)
      have hz21_0 : w3.heap.size < w21.heap.size := (by omega)
      have k21_0_0 := hc21 (w3.heap.size) 0 (by first | omega | (simp; done) | (simp; omega)); (try simp [go_sem, *, -hc21, -hf21] at k21_0_0)
      have k21_0_1 := hc21 (w3.heap.size) 1 (by first | omega | (simp; done) | (simp; omega)); (try simp [go_sem, *, -hc21, -hf21] at k21_0_1)
      have hz21_1 : w3.heap.size + 1 < w21.heap.size := (by omega)
      have k21_1_0 := hc21 (w3.heap.size + 1) 0 (by first | omega | (simp; done) | (simp; omega)); (try simp [go_sem, *, -hc21, -hf21] at k21_1_0)
      have k21_1_1 := hc21 (w3.heap.size + 1) 1 (by first | omega | (simp; done) | (simp; omega)); (try simp [go_sem, *, -hc21, -hf21] at k21_1_1)
      have hz21_2 : w3.heap.size + 1 + 1 < w21.heap.size := (by omega)
      have k21_2_0 := hc21 (w3.heap.size + 1 + 1) 0 (by first | omega | (simp; done) | (simp; omega)); (try simp [go_sem, *, -hc21, -hf21] at k21_2_0)
      have k21_2_1 := hc21 (w3.heap.size + 1 + 1) 1 (by first | omega | (simp; done) | (simp; omega)); (try simp [go_sem, *, -hc21, -hf21] at k21_2_1)
      clear hc21 hf21
      go_wp2_with fail
      refine (binary_any _ _ _ _ _ _).mono ?_; rintro e w22 ⟨rfl, hb22⟩; obtain ⟨hc22, hf22⟩ := bcell hb22
      have hq22 := hb22.size; (try simp at hq22)
      have hz22_0 : w3.heap.size < w22.heap.size := (by omega)
      have k22_0_0 := hc22 (w3.heap.size) 0 (by first | omega | (simp; done) | (simp; omega)); (try simp [go_sem, *, -hc22, -hf22] at k22_0_0)
      have k22_0_1 := hc22 (w3.heap.size) 1 (by first | omega | (simp; done) | (simp; omega)); (try simp [go_sem, *, -hc22, -hf22] at k22_0_1)
      have hz22_1 : w3.heap.size + 1 < w22.heap.size := (by omega)
      have k22_1_0 := hc22 (w3.heap.size + 1) 0 (by first | omega | (simp; done) | (simp; omega)); (try simp [go_sem, *, -hc22, -hf22] at k22_1_0)
      have k22_1_1 := hc22 (w3.heap.size + 1) 1 (by first | omega | (simp; done) | (simp; omega)); (try simp [go_sem, *, -hc22, -hf22] at k22_1_1)
      have hz22_2 : w3.heap.size + 1 + 1 < w22.heap.size := (by omega)
      have k22_2_0 := hc22 (w3.heap.size + 1 + 1) 0 (by first | omega | (simp; done) | (simp; omega)); (try simp [go_sem, *, -hc22, -hf22] at k22_2_0)
      have k22_2_1 := hc22 (w3.heap.size + 1 + 1) 1 (by first | omega | (simp; done) | (simp; omega)); (try simp [go_sem, *, -hc22, -hf22] at k22_2_1)
      have hz22_3 : w21.heap.size < w22.heap.size := (by omega)
      have k22_3_0 := hc22 (w21.heap.size) 0 (by first | omega | (simp; done) | (simp; omega)); (try simp [go_sem, *, -hc22, -hf22] at k22_3_0)
      have k22_3_1 := hc22 (w21.heap.size) 1 (by first | omega | (simp; done) | (simp; omega)); (try simp [go_sem, *, -hc22, -hf22] at k22_3_1)
      clear hc22 hf22
      clear k21_0_0 k21_0_1 k21_1_0 k21_1_1 k21_2_0 k21_2_1
      go_wp2_with fail
      refine (binary_any _ _ _ _ _ _).mono ?_; rintro e w23 ⟨rfl, hb23⟩; obtain ⟨hc23, hf23⟩ := bcell hb23
      have hq23 := hb23.size; (try simp at hq23)
      have hz23_0 : w3.heap.size < w23.heap.size := (by omega)
      have k23_0_0 := hc23 (w3.heap.size) 0 (by first | omega | (simp; done) | (simp; omega)); (try simp [go_sem, *, -hc23, -hf23] at k23_0_0)
      have k23_0_1 := hc23 (w3.heap.size) 1 (by first | omega | (simp; done) | (simp; omega)); (try simp [go_sem, *, -hc23, -hf23] at k23_0_1)
      have hz23_1 : w3.heap.size + 1 < w23.heap.size := (by omega)
      have k23_1_0 := hc23 (w3.heap.size + 1) 0 (by first | omega | (simp; done) | (simp; omega)); (try simp [go_sem, *, -hc23, -hf23] at k23_1_0)
      have k23_1_1 := hc23 (w3.heap.size + 1) 1 (by first | omega | (simp; done) | (simp; omega)); (try simp [go_sem, *, -hc23, -hf23] at k23_1_1)
      have hz23_2 : w3.heap.size + 1 + 1 < w23.heap.size := (by omega)
      have k23_2_0 := hc23 (w3.heap.size + 1 + 1) 0 (by first | omega | (simp; done) | (simp; omega)); (try simp [go_sem, *, -hc23, -hf23] at k23_2_0)
      have k23_2_1 := hc23 (w3.heap.size + 1 + 1) 1 (by first | omega | (simp; done) | (simp; omega)); (try simp [go_sem, *, -hc23, -hf23] at k23_2_1)
      have hz23_3 : w21.heap.size < w23.heap.size := (by omega)
      have k23_3_0 := hc23 (w21.heap.size) 0 (by first | omega | (simp; done) | (simp; omega)); (try simp [go_sem, *, -hc23, -hf23] at k23_3_0)
      have k23_3_1 := hc23 (w21.heap.size) 1 (by first | omega | (simp; done) | (simp; omega)); (try simp [go_sem, *, -hc23, -hf23] at k23_3_1)
      have hz23_4 : w22.heap.size < w23.heap.size := (by omega)
      have k23_4_0 := hc23 (w22.heap.size) 0 (by first | omega | (simp; done) | (simp; omega)); (try simp [go_sem, *, -hc23, -hf23] at k23_4_0)
      have k23_4_1 := hc23 (w22.heap.size) 1 (by first | omega | (simp; done) | (simp; omega)); (try simp [go_sem, *, -hc23, -hf23] at k23_4_1)
      clear hc23 hf23
      clear k22_0_0 k22_0_1 k22_1_0 k22_1_1 k22_2_0 k22_2_1 k22_3_0 k22_3_1
      go_wp2_with fail
      refine (binary_any _ _ _ _ _ _).mono ?_; rintro e w24 ⟨rfl, hb24⟩; obtain ⟨hc24, hf24⟩ := bcell hb24
      have hq24 := hb24.size; (try simp at hq24)
      have hz24_0 : w3.heap.size < w24.heap.size := (by omega)
      have k24_0_0 := hc24 (w3.heap.size) 0 (by first | omega | (simp; done) | (simp; omega)); (try simp [go_sem, *, -hc24, -hf24] at k24_0_0)
      have k24_0_1 := hc24 (w3.heap.size) 1 (by first | omega | (simp; done) | (simp; omega)); (try simp [go_sem, *, -hc24, -hf24] at k24_0_1)
      have hz24_1 : w3.heap.size + 1 < w24.heap.size := (by omega)
      have k24_1_0 := hc24 (w3.heap.size + 1) 0 (by first | omega | (simp; done) | (simp; omega)); (try simp [go_sem, *, -hc24, -hf24] at k24_1_0)
      have k24_1_1 := hc24 (w3.heap.size + 1) 1 (by first | omega | (simp; done) | (simp; omega)); (try simp [go_sem, *, -hc24, -hf24] at k24_1_1)
      have hz24_2 : w3.heap.size + 1 + 1 < w24.heap.size := (by omega)
      have k24_2_0 := hc24 (w3.heap.size + 1 + 1) 0 (by first | omega | (simp; done) | (simp; omega)); (try simp [go_sem, *, -hc24, -hf24] at k24_2_0)
      have k24_2_1 := hc24 (w3.heap.size + 1 + 1) 1 (by first | omega | (simp; done) | (simp; omega)); (try simp [go_sem, *, -hc24, -hf24] at k24_2_1)
      have hz24_3 : w21.heap.size < w24.heap.size := (by omega)
      have k24_3_0 := hc24 (w21.heap.size) 0 (by first | omega | (simp; done) | (simp; omega)); (try simp [go_sem, *, -hc24, -hf24] at k24_3_0)
      have k24_3_1 := hc24 (w21.heap.size) 1 (by first | omega | (simp; done) | (simp; omega)); (try simp [go_sem, *, -hc24, -hf24] at k24_3_1)
      have hz24_4 : w22.heap.size < w24.heap.size := (by omega)
      have k24_4_0 := hc24 (w22.heap.size) 0 (by first | omega | (simp; done) | (simp; omega)); (try simp [go_sem, *, -hc24, -hf24] at k24_4_0)
      have k24_4_1 := hc24 (w22.heap.size) 1 (by first | omega | (simp; done) | (simp; omega)); (try simp [go_sem, *, -hc24, -hf24] at k24_4_1)
      have hz24_5 : w23.heap.size < w24.heap.size := (by omega)
      have k24_5_0 := hc24 (w23.heap.size) 0 (by first | omega | (simp; done) | (simp; omega)); (try simp [go_sem, *, -hc24, -hf24] at k24_5_0)
      have k24_5_1 := hc24 (w23.heap.size) 1 (by first | omega | (simp; done) | (simp; omega)); (try simp [go_sem, *, -hc24, -hf24] at k24_5_1)
      clear hc24 hf24
      clear k23_0_0 k23_0_1 k23_1_0 k23_1_1 k23_2_0 k23_2_1 k23_3_0 k23_3_1 k23_4_0 k23_4_1
      go_wp2_with fail
      refine (binary_any _ _ _ _ _ _).mono ?_; rintro e w25 ⟨rfl, hb25⟩; obtain ⟨hc25, hf25⟩ := bcell hb25
      have hq25 := hb25.size; (try simp at hq25)
      have hz25_0 : w3.heap.size < w25.heap.size := (by omega)
      have k25_0_0 := hc25 (w3.heap.size) 0 (by first | omega | (simp; done) | (simp; omega)); (try simp [go_sem, *, -hc25, -hf25] at k25_0_0)
      have k25_0_1 := hc25 (w3.heap.size) 1 (by first | omega | (simp; done) | (simp; omega)); (try simp [go_sem, *, -hc25, -hf25] at k25_0_1)
      have hz25_1 : w3.heap.size + 1 < w25.heap.size := (by omega)
      have k25_1_0 := hc25 (w3.heap.size + 1) 0 (by first | omega | (simp; done) | (simp; omega)); (try simp [go_sem, *, -hc25, -hf25] at k25_1_0)
      have k25_1_1 := hc25 (w3.heap.size + 1) 1 (by first | omega | (simp; done) | (simp; omega)); (try simp [go_sem, *, -hc25, -hf25] at k25_1_1)
      have hz25_2 : w3.heap.size + 1 + 1 < w25.heap.size := (by omega)
      have k25_2_0 := hc25 (w3.heap.size + 1 + 1) 0 (by first | omega | (simp; done) | (simp; omega)); (try simp [go_sem, *, -hc25, -hf25] at k25_2_0)
      have k25_2_1 := hc25 (w3.heap.size + 1 + 1) 1 (by first | omega | (simp; done) | (simp; omega)); (try simp [go_sem, *, -hc25, -hf25] at k25_2_1)
      have hz25_3 : w21.heap.size < w25.heap.size := (by omega)
      have k25_3_0 := hc25 (w21.heap.size) 0 (by first | omega | (simp; done) | (simp; omega)); (try simp [go_sem, *, -hc25, -hf25] at k25_3_0)
      have k25_3_1 := hc25 (w21.heap.size) 1 (by first | omega | (simp; done) | (simp; omega)); (try simp [go_sem, *, -hc25, -hf25] at k25_3_1)
      have hz25_4 : w22.heap.size < w25.heap.size := (by omega)
      have k25_4_0 := hc25 (w22.heap.size) 0 (by first | omega | (simp; done) | (simp; omega)); (try simp [go_sem, *, -hc25, -hf25] at k25_4_0)
      have k25_4_1 := hc25 (w22.heap.size) 1 (by first | omega | (simp; done) | (simp; omega)); (try simp [go_sem, *, -hc25, -hf25] at k25_4_1)
      have hz25_5 : w23.heap.size < w25.heap.size := (by omega)
      have k25_5_0 := hc25 (w23.heap.size) 0 (by first | omega | (simp; done) | (simp; omega)); (try simp [go_sem, *, -hc25, -hf25] at k25_5_0)
      have k25_5_1 := hc25 (w23.heap.size) 1 (by first | omega | (simp; done) | (simp; omega)); (try simp [go_sem, *, -hc25, -hf25] at k25_5_1)
      clear hc25 hf25
      clear k24_0_0 k24_0_1 k24_1_0 k24_1_1 k24_2_0 k24_2_1 k24_3_0 k24_3_1 k24_4_0 k24_4_1 k24_5_0 k24_5_1
      go_wp2_with fail
      -- end of the round
      all_goals
        go_roundw
        case rel => exact ⟨2, by omega, by go_num, ⟨(by repeat' (first | exact Below.refl _ _ | (refine Below.via ?_ (by assumption) ?_) | refine Below.setCell ?_ ?_ _ | refine Below.alloc ?_ ?_ _ | refine Below.drew ?_ | omega | (simp; omega) | (simp; done))), low, by simp; omega, by simp; omega, by simp; omega, by simp [go_sem, *], by simp [go_sem, *], by simp [go_sem, *], by simp [go_sem, *], by simp [go_sem, *], by simp [go_sem, *]⟩⟩
        case measure => simp [intOf]
    · have hD : ((binaryS 3 2 b 2 c).2.2 != -1) = false → ((binaryS 5 2 a 2 b).2.2 != -1) = false → ((binaryS 5 2 a 2 c).2.2 != -1) = false →
          binaryS 5 2 a (binaryS 3 2 b 2 c).1 (binaryS 3 2 b 2 c).2.1 = binaryS 3 (binaryS 5 2 a 2 b).1 (binaryS 5 2 a 2 b).2.1 (binaryS 5 2 a 2 c).1 (binaryS 5 2 a 2 c).2.1 :=
        fun e g h => ring_dist h1 h2 h3 (by simpa using e) (by simpa using g) (by simpa using h)
      go_wp2_with fail
      refine (binary_any _ _ _ _ _ _).mono ?_; rintro e w21 ⟨rfl, hb21⟩; obtain ⟨hc21, hf21⟩ := bcell hb21
      have hq21 := hb21.size; (try simp at hq21)
      have hz21_0 : w3.heap.size < w21.heap.size := (by omega)
      have k21_0_0 := hc21 (w3.heap.size) 0 (by first | omega | (simp; done) | (simp; omega)); (try simp [go_sem, *, -hc21, -hf21] at k21_0_0)
      have k21_0_1 := hc21 (w3.heap.size) 1 (by first | omega | (simp; done) | (simp; omega)); (try simp [go_sem, *, -hc21, -hf21] at k21_0_1)
      have hz21_1 : w3.heap.size + 1 < w21.heap.size := (by omega)
      have k21_1_0 := hc21 (w3.heap.size + 1) 0 (by first | omega | (simp; done) | (simp; omega)); (try simp [go_sem, *, -hc21, -hf21] at k21_1_0)
      have k21_1_1 := hc21 (w3.heap.size + 1) 1 (by first | omega | (simp; done) | (simp; omega)); (try simp [go_sem, *, -hc21, -hf21] at k21_1_1)
      have hz21_2 : w3.heap.size + 1 + 1 < w21.heap.size := (by omega)
      have k21_2_0 := hc21 (w3.heap.size + 1 + 1) 0 (by first | omega | (simp; done) | (simp; omega)); (try simp [go_sem, *, -hc21, -hf21] at k21_2_0)
      have k21_2_1 := hc21 (w3.heap.size + 1 + 1) 1 (by first | omega | (simp; done) | (simp; omega)); (try simp [go_sem, *, -hc21, -hf21] at k21_2_1)
      clear hc21 hf21
      go_wp2_with fail
      refine (binary_any _ _ _ _ _ _).mono ?_; rintro e w22 ⟨rfl, hb22⟩; obtain ⟨hc22, hf22⟩ := bcell hb22
      have hq22 := hb22.size; (try simp at hq22)
      have hz22_0 : w3.heap.size < w22.heap.size := (by omega)
      have k22_0_0 := hc22 (w3.heap.size) 0 (by first | omega | (simp; done) | (simp; omega)); (try simp [go_sem, *, -hc22, -hf22] at k22_0_0)
      have k22_0_1 := hc22 (w3.heap.size) 1 (by first | omega | (simp; done) | (simp; omega)); (try simp [go_sem, *, -hc22, -hf22] at k22_0_1)
      have hz22_1 : w3.heap.size + 1 < w22.heap.size := (by omega)
      have k22_1_0 := hc22 (w3.heap.size + 1) 0 (by first | omega | (simp; done) | (simp; omega)); (try simp [go_sem, *, -hc22, -hf22] at k22_1_0)
      have k22_1_1 := hc22 (w3.heap.size + 1) 1 (by first | omega | (simp; done) | (simp; omega)); (try simp [go_sem, *, -hc22, -hf22] at k22_1_1)
      have hz22_2 : w3.heap.size + 1 + 1 < w22.heap.size := (by omega)
      have k22_2_0 := hc22 (w3.heap.size + 1 + 1) 0 (by first | omega | (simp; done) | (simp; omega)); (try simp [go_sem, *, -hc22, -hf22] at k22_2_0)
      have k22_2_1 := hc22 (w3.heap.size + 1 + 1) 1 (by first | omega | (simp; done) | (simp; omega)); (try simp [go_sem, *, -hc22, -hf22] at k22_2_1)
      clear hc22 hf22
      clear k21_0_0 k21_0_1 k21_1_0 k21_1_1 k21_2_0 k21_2_1
      go_wp2_with fail
      refine (binary_any _ _ _ _ _ _).mono ?_; rintro e w23 ⟨rfl, hb23⟩; obtain ⟨hc23, hf23⟩ := bcell hb23
      have hq23 := hb23.size; (try simp at hq23)
      have hz23_0 : w3.heap.size < w23.heap.size := (by omega)
      have k23_0_0 := hc23 (w3.heap.size) 0 (by first | omega | (simp; done) | (simp; omega)); (try simp [go_sem, *, -hc23, -hf23] at k23_0_0)
      have k23_0_1 := hc23 (w3.heap.size) 1 (by first | omega | (simp; done) | (simp; omega)); (try simp [go_sem, *, -hc23, -hf23] at k23_0_1)
      have hz23_1 : w3.heap.size + 1 < w23.heap.size := (by omega)
      have k23_1_0 := hc23 (w3.heap.size + 1) 0 (by first | omega | (simp; done) | (simp; omega)); (try simp [go_sem, *, -hc23, -hf23] at k23_1_0)
      have k23_1_1 := hc23 (w3.heap.size + 1) 1 (by first | omega | (simp; done) | (simp; omega)); (try simp [go_sem, *, -hc23, -hf23] at k23_1_1)
      have hz23_2 : w3.heap.size + 1 + 1 < w23.heap.size := (by omega)
      have k23_2_0 := hc23 (w3.heap.size + 1 + 1) 0 (by first | omega | (simp; done) | (simp; omega)); (try simp [go_sem, *, -hc23, -hf23] at k23_2_0)
      have k23_2_1 := hc23 (w3.heap.size + 1 + 1) 1 (by first | omega | (simp; done) | (simp; omega)); (try simp [go_sem, *, -hc23, -hf23] at k23_2_1)
      have hz23_4 : w22.heap.size < w23.heap.size := (by omega)
      have k23_4_0 := hc23 (w22.heap.size) 0 (by first | omega | (simp; done) | (simp; omega)); (try simp [go_sem, *, -hc23, -hf23] at k23_4_0)
      have k23_4_1 := hc23 (w22.heap.size) 1 (by first | omega | (simp; done) | (simp; omega)); (try simp [go_sem, *, -hc23, -hf23] at k23_4_1)
      clear hc23 hf23
      clear k22_0_0 k22_0_1 k22_1_0 k22_1_1 k22_2_0 k22_2_1
      go_wp2_with fail
      refine (binary_any _ _ _ _ _ _).mono ?_; rintro e w24 ⟨rfl, hb24⟩; obtain ⟨hc24, hf24⟩ := bcell hb24
      have hq24 := hb24.size; (try simp at hq24)
      have hz24_0 : w3.heap.size < w24.heap.size := (by omega)
      have k24_0_0 := hc24 (w3.heap.size) 0 (by first | omega | (simp; done) | (simp; omega)); (try simp [go_sem, *, -hc24, -hf24] at k24_0_0)
      have k24_0_1 := hc24 (w3.heap.size) 1 (by first | omega | (simp; done) | (simp; omega)); (try simp [go_sem, *, -hc24, -hf24] at k24_0_1)
      have hz24_1 : w3.heap.size + 1 < w24.heap.size := (by omega)
      have k24_1_0 := hc24 (w3.heap.size + 1) 0 (by first | omega | (simp; done) | (simp; omega)); (try simp [go_sem, *, -hc24, -hf24] at k24_1_0)
      have k24_1_1 := hc24 (w3.heap.size + 1) 1 (by first | omega | (simp; done) | (simp; omega)); (try simp [go_sem, *, -hc24, -hf24] at k24_1_1)
      have hz24_2 : w3.heap.size + 1 + 1 < w24.heap.size := (by omega)
      have k24_2_0 := hc24 (w3.heap.size + 1 + 1) 0 (by first | omega | (simp; done) | (simp; omega)); (try simp [go_sem, *, -hc24, -hf24] at k24_2_0)
      have k24_2_1 := hc24 (w3.heap.size + 1 + 1) 1 (by first | omega | (simp; done) | (simp; omega)); (try simp [go_sem, *, -hc24, -hf24] at k24_2_1)
      have hz24_4 : w22.heap.size < w24.heap.size := (by omega)
      have k24_4_0 := hc24 (w22.heap.size) 0 (by first | omega | (simp; done) | (simp; omega)); (try simp [go_sem, *, -hc24, -hf24] at k24_4_0)
      have k24_4_1 := hc24 (w22.heap.size) 1 (by first | omega | (simp; done) | (simp; omega)); (try simp [go_sem, *, -hc24, -hf24] at k24_4_1)
      have hz24_5 : w23.heap.size < w24.heap.size := (by omega)
      have k24_5_0 := hc24 (w23.heap.size) 0 (by first | omega | (simp; done) | (simp; omega)); (try simp [go_sem, *, -hc24, -hf24] at k24_5_0)
      have k24_5_1 := hc24 (w23.heap.size) 1 (by first | omega | (simp; done) | (simp; omega)); (try simp [go_sem, *, -hc24, -hf24] at k24_5_1)
      clear hc24 hf24
      clear k23_0_0 k23_0_1 k23_1_0 k23_1_1 k23_2_0 k23_2_1 k23_4_0 k23_4_1
      go_wp2_with fail
      refine (binary_any _ _ _ _ _ _).mono ?_; rintro e w25 ⟨rfl, hb25⟩; obtain ⟨hc25, hf25⟩ := bcell hb25
      have hq25 := hb25.size; (try simp at hq25)
      have hz25_0 : w3.heap.size < w25.heap.size := (by omega)
      have k25_0_0 := hc25 (w3.heap.size) 0 (by first | omega | (simp; done) | (simp; omega)); (try simp [go_sem, *, -hc25, -hf25] at k25_0_0)
      have k25_0_1 := hc25 (w3.heap.size) 1 (by first | omega | (simp; done) | (simp; omega)); (try simp [go_sem, *, -hc25, -hf25] at k25_0_1)
      have hz25_1 : w3.heap.size + 1 < w25.heap.size := (by omega)
      have k25_1_0 := hc25 (w3.heap.size + 1) 0 (by first | omega | (simp; done) | (simp; omega)); (try simp [go_sem, *, -hc25, -hf25] at k25_1_0)
      have k25_1_1 := hc25 (w3.heap.size + 1) 1 (by first | omega | (simp; done) | (simp; omega)); (try simp [go_sem, *, -hc25, -hf25] at k25_1_1)
      have hz25_2 : w3.heap.size + 1 + 1 < w25.heap.size := (by omega)
      have k25_2_0 := hc25 (w3.heap.size + 1 + 1) 0 (by first | omega | (simp; done) | (simp; omega)); (try simp [go_sem, *, -hc25, -hf25] at k25_2_0)
      have k25_2_1 := hc25 (w3.heap.size + 1 + 1) 1 (by first | omega | (simp; done) | (simp; omega)); (try simp [go_sem, *, -hc25, -hf25] at k25_2_1)
      have hz25_4 : w22.heap.size < w25.heap.size := (by omega)
      have k25_4_0 := hc25 (w22.heap.size) 0 (by first | omega | (simp; done) | (simp; omega)); (try simp [go_sem, *, -hc25, -hf25] at k25_4_0)
      have k25_4_1 := hc25 (w22.heap.size) 1 (by first | omega | (simp; done) | (simp; omega)); (try simp [go_sem, *, -hc25, -hf25] at k25_4_1)
      clear hc25 hf25
      clear k24_0_0 k24_0_1 k24_1_0 k24_1_1 k24_2_0 k24_2_1 k24_4_0 k24_4_1 k24_5_0 k24_5_1
      go_wp2_with fail
      all_goals
        go_ret
        exact ⟨rfl, (by repeat' (first | exact Below.refl _ _ | (refine Below.via ?_ (by assumption) ?_) | refine Below.setCell ?_ ?_ _ | refine Below.alloc ?_ ?_ _ | refine Below.drew ?_ | omega | (simp; omega) | (simp; done)))⟩
theorem opsRing_walk (a b c : Int) (w : World) :
    Calls Try.prog 7 #[.int .i64 a, .int .i64 b, .int .i64 c] w fun e w' => e = .returned (.bool true) ∧ Below w.heap.size w w' := by
  cases h1 : rightB 2 a
  · exact opsRing_n1 a b c w h1
  · cases h2 : rightB 2 b
    · exact opsRing_n2 a b c w h1 h2
    · cases h3 : rightB 2 c
      · exact opsRing_n3 a b c w h1 h2 h3
      · exact opsRing_y a b c w h1 h2 h3
/-! ### THE ROW: OpsRing (after the kit's skeleton) -/
namespace opsRing
open Go.ChangeShapes Go.WideShapes Go.ChangeAt Go.RowKit Go.Joins
theorem own : ownKnob Try.prog.godebug = none := by kernel_rfl
theorem laidOut : laidOutB Try.prog = true := by kernel_rfl
set_option maxRecDepth 100000 in
theorem lifted (os : Os) (started : os.Started) (H : Type) (enc : TypeId × Value → H) :
    ReturnsInHanded {} Try.checked os 7 .any (Rows.opsRingSpec.pre6 enc Try.prog Try.f7 Rows.opsRingRow.domain false) (Rows.opsRingSpec.post enc Try.prog Try.f7 false true false false) := by
  refine returnsInHanded_of_change (C := Try.checked) own started (by kernel_rfl) Try.func7
    (ChangeSpec.witness6 (enc := enc) (C := Try.checked) false ⟨#[], #[.int .i64 0, .int .i64 0, .int .i64 0], []⟩ 8 (by kernel_rfl) (by kernel_rfl) (by kernel_rfl) (by kernel_rfl)) ?_
  intro W base args ds gs before hval0 hW hcnd _
  have hval : ∀ (j : Nat) t v, Try.f7.params[j]? = some t → args[j]? = some v → Value.okWide Try.prog W .any base t v := hval0
  have hW' := hW
  obtain ⟨p, q, hA0, hV, rfl, hfz, hnd⟩ := hW
  have hA : DataW.TrodAll enc Try.prog W 0 (fun _ => true) true Try.f7.params.toList args.toList ds p := hA0
  rw [Try.params7] at hA hval
  obtain ⟨v0, vs0, d0, ds0, p0, q0, hargs, rfl, rfl, h0, r0⟩ := trodAll_cons hA
  obtain ⟨v1, vs1, d1, ds1, p1, q1, rfl, rfl, rfl, h1, r1⟩ := trodAll_cons r0
  obtain ⟨v2, vs2, d2, ds2, p2, q2, rfl, rfl, rfl, h2, r2⟩ := trodAll_cons r1
  obtain ⟨rfl, rfl, rfl⟩ := trodAll_nil r2
  obtain rfl : args = #[v0, v1, v2] := by cases args; simp_all
  obtain ⟨rfl, rfl⟩ := trodVars_none hV
  have kk0 := h0
  have lt0 : ∀ x ∈ p0, x.block < W.heap.size := by obtain ⟨m, hm⟩ := kk0; exact DataW.trod_lt m _ _ _ hm
  have kk1 := h1
  have lt1 : ∀ x ∈ p1, x.block < W.heap.size := by obtain ⟨m, hm⟩ := kk1; exact DataW.trod_lt m _ _ _ hm
  have kk2 := h2
  have lt2 : ∀ x ∈ p2, x.block < W.heap.size := by obtain ⟨m, hm⟩ := kk2; exact DataW.trod_lt m _ _ _ hm
  obtain ⟨a0, rfl, rfl, rfl, g0⟩ := open_int Try.underlying3 (hval 0 3 v0 rfl rfl) h0
  obtain ⟨a1, rfl, rfl, rfl, g1⟩ := open_int Try.underlying3 (hval 1 3 v1 rfl rfl) h1
  obtain ⟨a2, rfl, rfl, rfl, g2⟩ := open_int Try.underlying3 (hval 2 3 v2 rfl rfl) h2
  clear hA0 hval0
  refine (opsRing_walk a0 a1 a2 W).mono fun e W' ⟨he, bel⟩ => ?_
  subst he
  exact ⟨_, rfl, _, _, _, [], _, [], hW', trodAll_mk1 (shut_bool Try.underlying4 _), (trodAll_cons_mk (Below.trod laidOut (by kernel_rfl) (of_decide_eq_true (by kernel_rfl)) kk0 bel lt0) (trodAll_cons_mk (Below.trod laidOut (by kernel_rfl) (of_decide_eq_true (by kernel_rfl)) kk1 bel lt1) (trodAll_cons_mk (Below.trod laidOut (by kernel_rfl) (of_decide_eq_true (by kernel_rfl)) kk2 bel lt2) trodAll_mk0))), rfl, bel.frame _, fun h => by cases h⟩
theorem over : Rows.opsRingRow.holds Try.pinned (OpenSpec.ofChange Rows.opsRingSpec) :=
  OpenClaim.holds_of_wide 7 Try.f7 rfl rfl rfl rfl rfl rfl rfl ⟨rfl, rfl, rfl, rfl, rfl⟩ rfl rfl rfl rfl rfl (by kernel_rfl) Try.func7 (by kernel_rfl)
    (of_decide_eq_true (by kernel_rfl)) (by unfold Func.isWrapper; first | (rw [if_pos (by decide +kernel)]; kernel_rfl) | (rw [if_neg (by decide +kernel)]; exact ⟨rfl, rfl⟩))
    (fun os started H enc _ => lifted os started H enc)
end opsRing
theorem opsRing_holds : Rows.OpsRingSaid := opsRing.over
#print axioms opsRing_holds
end Go.Proofs.Ytalippdhfkpbmaa
