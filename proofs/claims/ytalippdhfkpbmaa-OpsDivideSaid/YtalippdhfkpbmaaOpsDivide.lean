/- OpsDivide: for every two whole numbers the law answers true: Euclid's equation, the remainder's size and sign. No condition. -/
import Derived.Test.YtalippdhfkpbmaaOpsL
import Derived.Test.YtalippdhfkpbmaaOpsR
import Derived.OpenShut
import Derived.ChangeOld
import Derived.Lib.SmallJoins
namespace Go.Proofs.Ytalippdhfkpbmaa
open Go.RowKit
set_option maxHeartbeats 1000000 in
theorem opsDivide_n1 (a b : Int) (w : World) (h1 : rightB 2 a = false) (h2 : ((binaryS 6 2 a 2 b).2.2 != -1) = true) (h3 : (binaryS 7 2 a 2 b).2.2 = (binaryS 6 2 a 2 b).2.2) :
    Calls Try.prog 8 #[.int .i64 a, .int .i64 b] w fun e w' => e = .returned (.bool true) ∧ Below w.heap.size w w' := by
  go_enter Try.func8, Try.ntmps8
  go_wp2_with fail
  refine (num_any _ _).mono ?_; rintro e w1 ⟨rfl, hb1⟩; obtain ⟨hc1, hf1⟩ := bcell hb1
  have hq1 := hb1.size; (try simp at hq1)
  clear hc1 hf1
  go_wp2_with fail
  refine (num_any _ _).mono ?_; rintro e w2 ⟨rfl, hb2⟩; obtain ⟨hc2, hf2⟩ := bcell hb2
  have hq2 := hb2.size; (try simp at hq2)
  clear hc2 hf2
  go_wp2_with fail
  refine (binary_any _ _ _ _ _ _).mono ?_; rintro e w3 ⟨rfl, hb3⟩; obtain ⟨hc3, hf3⟩ := bcell hb3
  have hq3 := hb3.size; (try simp at hq3)
  have hz3_0 : w2.heap.size < w3.heap.size := (by omega)
  have k3_0_0 := hc3 (w2.heap.size) 0 (by first | omega | (simp; done) | (simp; omega)); (try simp [go_sem, *, -hc3, -hf3] at k3_0_0)
  have f3_0_0 := hf3 (w2.heap.size) 0 (by first | omega | (simp; done) | (simp; omega)); (try simp [go_sem, *, -hc3, -hf3] at f3_0_0)
  have k3_0_1 := hc3 (w2.heap.size) 1 (by first | omega | (simp; done) | (simp; omega)); (try simp [go_sem, *, -hc3, -hf3] at k3_0_1)
  have f3_0_1 := hf3 (w2.heap.size) 1 (by first | omega | (simp; done) | (simp; omega)); (try simp [go_sem, *, -hc3, -hf3] at f3_0_1)
  have hz3_1 : w2.heap.size + 1 < w3.heap.size := (by omega)
  have k3_1_0 := hc3 (w2.heap.size + 1) 0 (by first | omega | (simp; done) | (simp; omega)); (try simp [go_sem, *, -hc3, -hf3] at k3_1_0)
  have f3_1_0 := hf3 (w2.heap.size + 1) 0 (by first | omega | (simp; done) | (simp; omega)); (try simp [go_sem, *, -hc3, -hf3] at f3_1_0)
  have k3_1_1 := hc3 (w2.heap.size + 1) 1 (by first | omega | (simp; done) | (simp; omega)); (try simp [go_sem, *, -hc3, -hf3] at k3_1_1)
  have f3_1_1 := hf3 (w2.heap.size + 1) 1 (by first | omega | (simp; done) | (simp; omega)); (try simp [go_sem, *, -hc3, -hf3] at f3_1_1)
  clear hc3 hf3
  go_wp2_with fail
  refine (binary_any _ _ _ _ _ _).mono ?_; rintro e w4 ⟨rfl, hb4⟩; obtain ⟨hc4, hf4⟩ := bcell hb4
  have hq4 := hb4.size; (try simp at hq4)
  have hz4_0 : w2.heap.size < w4.heap.size := (by omega)
  have k4_0_0 := hc4 (w2.heap.size) 0 (by first | omega | (simp; done) | (simp; omega)); (try simp [go_sem, *, -hc4, -hf4] at k4_0_0)
  have f4_0_0 := hf4 (w2.heap.size) 0 (by first | omega | (simp; done) | (simp; omega)); (try simp [go_sem, *, -hc4, -hf4] at f4_0_0)
  have k4_0_1 := hc4 (w2.heap.size) 1 (by first | omega | (simp; done) | (simp; omega)); (try simp [go_sem, *, -hc4, -hf4] at k4_0_1)
  have f4_0_1 := hf4 (w2.heap.size) 1 (by first | omega | (simp; done) | (simp; omega)); (try simp [go_sem, *, -hc4, -hf4] at f4_0_1)
  have hz4_1 : w2.heap.size + 1 < w4.heap.size := (by omega)
  have k4_1_0 := hc4 (w2.heap.size + 1) 0 (by first | omega | (simp; done) | (simp; omega)); (try simp [go_sem, *, -hc4, -hf4] at k4_1_0)
  have f4_1_0 := hf4 (w2.heap.size + 1) 0 (by first | omega | (simp; done) | (simp; omega)); (try simp [go_sem, *, -hc4, -hf4] at f4_1_0)
  have k4_1_1 := hc4 (w2.heap.size + 1) 1 (by first | omega | (simp; done) | (simp; omega)); (try simp [go_sem, *, -hc4, -hf4] at k4_1_1)
  have f4_1_1 := hf4 (w2.heap.size + 1) 1 (by first | omega | (simp; done) | (simp; omega)); (try simp [go_sem, *, -hc4, -hf4] at f4_1_1)
  have hz4_2 : w3.heap.size < w4.heap.size := (by omega)
  have k4_2_0 := hc4 (w3.heap.size) 0 (by first | omega | (simp; done) | (simp; omega)); (try simp [go_sem, *, -hc4, -hf4] at k4_2_0)
  have f4_2_0 := hf4 (w3.heap.size) 0 (by first | omega | (simp; done) | (simp; omega)); (try simp [go_sem, *, -hc4, -hf4] at f4_2_0)
  have k4_2_1 := hc4 (w3.heap.size) 1 (by first | omega | (simp; done) | (simp; omega)); (try simp [go_sem, *, -hc4, -hf4] at k4_2_1)
  have f4_2_1 := hf4 (w3.heap.size) 1 (by first | omega | (simp; done) | (simp; omega)); (try simp [go_sem, *, -hc4, -hf4] at f4_2_1)
  clear hc4 hf4
  clear k3_0_0 f3_0_0 k3_0_1 f3_0_1 k3_1_0 f3_1_0 k3_1_1 f3_1_1
  go_wp2_with fail
  refine (opsLives_any _).mono ?_; rintro e w5 ⟨rfl, hb5⟩; obtain ⟨hc5, hf5⟩ := bcell hb5
  have hq5 := hb5.size; (try simp at hq5)
  have hz5_0 : w2.heap.size < w5.heap.size := (by omega)
  have k5_0_0 := hc5 (w2.heap.size) 0 (by first | omega | (simp; done) | (simp; omega)); (try simp [go_sem, *, -hc5, -hf5] at k5_0_0)
  have f5_0_0 := hf5 (w2.heap.size) 0 (by first | omega | (simp; done) | (simp; omega)); (try simp [go_sem, *, -hc5, -hf5] at f5_0_0)
  have k5_0_1 := hc5 (w2.heap.size) 1 (by first | omega | (simp; done) | (simp; omega)); (try simp [go_sem, *, -hc5, -hf5] at k5_0_1)
  have f5_0_1 := hf5 (w2.heap.size) 1 (by first | omega | (simp; done) | (simp; omega)); (try simp [go_sem, *, -hc5, -hf5] at f5_0_1)
  have hz5_1 : w2.heap.size + 1 < w5.heap.size := (by omega)
  have k5_1_0 := hc5 (w2.heap.size + 1) 0 (by first | omega | (simp; done) | (simp; omega)); (try simp [go_sem, *, -hc5, -hf5] at k5_1_0)
  have f5_1_0 := hf5 (w2.heap.size + 1) 0 (by first | omega | (simp; done) | (simp; omega)); (try simp [go_sem, *, -hc5, -hf5] at f5_1_0)
  have k5_1_1 := hc5 (w2.heap.size + 1) 1 (by first | omega | (simp; done) | (simp; omega)); (try simp [go_sem, *, -hc5, -hf5] at k5_1_1)
  have f5_1_1 := hf5 (w2.heap.size + 1) 1 (by first | omega | (simp; done) | (simp; omega)); (try simp [go_sem, *, -hc5, -hf5] at f5_1_1)
  have hz5_2 : w3.heap.size < w5.heap.size := (by omega)
  have k5_2_0 := hc5 (w3.heap.size) 0 (by first | omega | (simp; done) | (simp; omega)); (try simp [go_sem, *, -hc5, -hf5] at k5_2_0)
  have f5_2_0 := hf5 (w3.heap.size) 0 (by first | omega | (simp; done) | (simp; omega)); (try simp [go_sem, *, -hc5, -hf5] at f5_2_0)
  have k5_2_1 := hc5 (w3.heap.size) 1 (by first | omega | (simp; done) | (simp; omega)); (try simp [go_sem, *, -hc5, -hf5] at k5_2_1)
  have f5_2_1 := hf5 (w3.heap.size) 1 (by first | omega | (simp; done) | (simp; omega)); (try simp [go_sem, *, -hc5, -hf5] at f5_2_1)
  have hz5_3 : w4.heap.size < w5.heap.size := (by omega)
  have k5_3_0 := hc5 (w4.heap.size) 0 (by first | omega | (simp; done) | (simp; omega)); (try simp [go_sem, *, -hc5, -hf5] at k5_3_0)
  have f5_3_0 := hf5 (w4.heap.size) 0 (by first | omega | (simp; done) | (simp; omega)); (try simp [go_sem, *, -hc5, -hf5] at f5_3_0)
  have k5_3_1 := hc5 (w4.heap.size) 1 (by first | omega | (simp; done) | (simp; omega)); (try simp [go_sem, *, -hc5, -hf5] at k5_3_1)
  have f5_3_1 := hf5 (w4.heap.size) 1 (by first | omega | (simp; done) | (simp; omega)); (try simp [go_sem, *, -hc5, -hf5] at f5_3_1)
  clear hc5 hf5
  clear k4_0_0 f4_0_0 k4_0_1 f4_0_1 k4_1_0 f4_1_0 k4_1_1 f4_1_1 k4_2_0 f4_2_0 k4_2_1 f4_2_1
  go_wp2_with fail
  refine (right_any _ _ _).mono ?_; rintro e w6 ⟨rfl, hb6⟩; obtain ⟨hc6, hf6⟩ := bcell hb6
  have hq6 := hb6.size; (try simp at hq6)
  have hz6_0 : w2.heap.size < w6.heap.size := (by omega)
  have k6_0_0 := hc6 (w2.heap.size) 0 (by first | omega | (simp; done) | (simp; omega)); (try simp [go_sem, *, -hc6, -hf6] at k6_0_0)
  have f6_0_0 := hf6 (w2.heap.size) 0 (by first | omega | (simp; done) | (simp; omega)); (try simp [go_sem, *, -hc6, -hf6] at f6_0_0)
  have k6_0_1 := hc6 (w2.heap.size) 1 (by first | omega | (simp; done) | (simp; omega)); (try simp [go_sem, *, -hc6, -hf6] at k6_0_1)
  have f6_0_1 := hf6 (w2.heap.size) 1 (by first | omega | (simp; done) | (simp; omega)); (try simp [go_sem, *, -hc6, -hf6] at f6_0_1)
  have hz6_1 : w2.heap.size + 1 < w6.heap.size := (by omega)
  have k6_1_0 := hc6 (w2.heap.size + 1) 0 (by first | omega | (simp; done) | (simp; omega)); (try simp [go_sem, *, -hc6, -hf6] at k6_1_0)
  have f6_1_0 := hf6 (w2.heap.size + 1) 0 (by first | omega | (simp; done) | (simp; omega)); (try simp [go_sem, *, -hc6, -hf6] at f6_1_0)
  have k6_1_1 := hc6 (w2.heap.size + 1) 1 (by first | omega | (simp; done) | (simp; omega)); (try simp [go_sem, *, -hc6, -hf6] at k6_1_1)
  have f6_1_1 := hf6 (w2.heap.size + 1) 1 (by first | omega | (simp; done) | (simp; omega)); (try simp [go_sem, *, -hc6, -hf6] at f6_1_1)
  have hz6_2 : w3.heap.size < w6.heap.size := (by omega)
  have k6_2_0 := hc6 (w3.heap.size) 0 (by first | omega | (simp; done) | (simp; omega)); (try simp [go_sem, *, -hc6, -hf6] at k6_2_0)
  have f6_2_0 := hf6 (w3.heap.size) 0 (by first | omega | (simp; done) | (simp; omega)); (try simp [go_sem, *, -hc6, -hf6] at f6_2_0)
  have k6_2_1 := hc6 (w3.heap.size) 1 (by first | omega | (simp; done) | (simp; omega)); (try simp [go_sem, *, -hc6, -hf6] at k6_2_1)
  have f6_2_1 := hf6 (w3.heap.size) 1 (by first | omega | (simp; done) | (simp; omega)); (try simp [go_sem, *, -hc6, -hf6] at f6_2_1)
  have hz6_3 : w4.heap.size < w6.heap.size := (by omega)
  have k6_3_0 := hc6 (w4.heap.size) 0 (by first | omega | (simp; done) | (simp; omega)); (try simp [go_sem, *, -hc6, -hf6] at k6_3_0)
  have f6_3_0 := hf6 (w4.heap.size) 0 (by first | omega | (simp; done) | (simp; omega)); (try simp [go_sem, *, -hc6, -hf6] at f6_3_0)
  have k6_3_1 := hc6 (w4.heap.size) 1 (by first | omega | (simp; done) | (simp; omega)); (try simp [go_sem, *, -hc6, -hf6] at k6_3_1)
  have f6_3_1 := hf6 (w4.heap.size) 1 (by first | omega | (simp; done) | (simp; omega)); (try simp [go_sem, *, -hc6, -hf6] at f6_3_1)
  clear hc6 hf6
  clear k5_0_0 f5_0_0 k5_0_1 f5_0_1 k5_1_0 f5_1_0 k5_1_1 f5_1_1 k5_2_0 f5_2_0 k5_2_1 f5_2_1 k5_3_0 f5_3_0 k5_3_1 f5_3_1
  go_wp2_with fail
  refine (opsLives_any _).mono ?_; rintro e w7 ⟨rfl, hb7⟩; obtain ⟨hc7, hf7⟩ := bcell hb7
  have hq7 := hb7.size; (try simp at hq7)
  have hz7_0 : w2.heap.size < w7.heap.size := (by omega)
  have k7_0_0 := hc7 (w2.heap.size) 0 (by first | omega | (simp; done) | (simp; omega)); (try simp [go_sem, *, -hc7, -hf7] at k7_0_0)
  have f7_0_0 := hf7 (w2.heap.size) 0 (by first | omega | (simp; done) | (simp; omega)); (try simp [go_sem, *, -hc7, -hf7] at f7_0_0)
  have k7_0_1 := hc7 (w2.heap.size) 1 (by first | omega | (simp; done) | (simp; omega)); (try simp [go_sem, *, -hc7, -hf7] at k7_0_1)
  have f7_0_1 := hf7 (w2.heap.size) 1 (by first | omega | (simp; done) | (simp; omega)); (try simp [go_sem, *, -hc7, -hf7] at f7_0_1)
  have hz7_1 : w2.heap.size + 1 < w7.heap.size := (by omega)
  have k7_1_0 := hc7 (w2.heap.size + 1) 0 (by first | omega | (simp; done) | (simp; omega)); (try simp [go_sem, *, -hc7, -hf7] at k7_1_0)
  have f7_1_0 := hf7 (w2.heap.size + 1) 0 (by first | omega | (simp; done) | (simp; omega)); (try simp [go_sem, *, -hc7, -hf7] at f7_1_0)
  have k7_1_1 := hc7 (w2.heap.size + 1) 1 (by first | omega | (simp; done) | (simp; omega)); (try simp [go_sem, *, -hc7, -hf7] at k7_1_1)
  have f7_1_1 := hf7 (w2.heap.size + 1) 1 (by first | omega | (simp; done) | (simp; omega)); (try simp [go_sem, *, -hc7, -hf7] at f7_1_1)
  have hz7_2 : w3.heap.size < w7.heap.size := (by omega)
  have k7_2_0 := hc7 (w3.heap.size) 0 (by first | omega | (simp; done) | (simp; omega)); (try simp [go_sem, *, -hc7, -hf7] at k7_2_0)
  have f7_2_0 := hf7 (w3.heap.size) 0 (by first | omega | (simp; done) | (simp; omega)); (try simp [go_sem, *, -hc7, -hf7] at f7_2_0)
  have k7_2_1 := hc7 (w3.heap.size) 1 (by first | omega | (simp; done) | (simp; omega)); (try simp [go_sem, *, -hc7, -hf7] at k7_2_1)
  have f7_2_1 := hf7 (w3.heap.size) 1 (by first | omega | (simp; done) | (simp; omega)); (try simp [go_sem, *, -hc7, -hf7] at f7_2_1)
  have hz7_3 : w4.heap.size < w7.heap.size := (by omega)
  have k7_3_0 := hc7 (w4.heap.size) 0 (by first | omega | (simp; done) | (simp; omega)); (try simp [go_sem, *, -hc7, -hf7] at k7_3_0)
  have f7_3_0 := hf7 (w4.heap.size) 0 (by first | omega | (simp; done) | (simp; omega)); (try simp [go_sem, *, -hc7, -hf7] at f7_3_0)
  have k7_3_1 := hc7 (w4.heap.size) 1 (by first | omega | (simp; done) | (simp; omega)); (try simp [go_sem, *, -hc7, -hf7] at k7_3_1)
  have f7_3_1 := hf7 (w4.heap.size) 1 (by first | omega | (simp; done) | (simp; omega)); (try simp [go_sem, *, -hc7, -hf7] at f7_3_1)
  clear hc7 hf7
  clear k6_0_0 f6_0_0 k6_0_1 f6_0_1 k6_1_0 f6_1_0 k6_1_1 f6_1_1 k6_2_0 f6_2_0 k6_2_1 f6_2_1 k6_3_0 f6_3_0 k6_3_1 f6_3_1
  go_wp2_with fail
  go_ret
  exact ⟨rfl, (by repeat' (first | exact Below.refl _ _ | (refine Below.via ?_ (by assumption) ?_) | refine Below.setCell ?_ ?_ _ | refine Below.alloc ?_ ?_ _ | refine Below.drew ?_ | omega | (simp; omega) | (simp; done)))⟩
set_option maxHeartbeats 1000000 in
theorem opsDivide_n2 (a b : Int) (w : World) (h0 : rightB 2 a = true) (h1 : rightB 2 b = false) (h2 : ((binaryS 6 2 a 2 b).2.2 != -1) = true) (h3 : (binaryS 7 2 a 2 b).2.2 = (binaryS 6 2 a 2 b).2.2) :
    Calls Try.prog 8 #[.int .i64 a, .int .i64 b] w fun e w' => e = .returned (.bool true) ∧ Below w.heap.size w w' := by
  go_enter Try.func8, Try.ntmps8
  go_wp2_with fail
  refine (num_any _ _).mono ?_; rintro e w1 ⟨rfl, hb1⟩; obtain ⟨hc1, hf1⟩ := bcell hb1
  have hq1 := hb1.size; (try simp at hq1)
  clear hc1 hf1
  go_wp2_with fail
  refine (num_any _ _).mono ?_; rintro e w2 ⟨rfl, hb2⟩; obtain ⟨hc2, hf2⟩ := bcell hb2
  have hq2 := hb2.size; (try simp at hq2)
  clear hc2 hf2
  go_wp2_with fail
  refine (binary_any _ _ _ _ _ _).mono ?_; rintro e w3 ⟨rfl, hb3⟩; obtain ⟨hc3, hf3⟩ := bcell hb3
  have hq3 := hb3.size; (try simp at hq3)
  have hz3_0 : w2.heap.size < w3.heap.size := (by omega)
  have k3_0_0 := hc3 (w2.heap.size) 0 (by first | omega | (simp; done) | (simp; omega)); (try simp [go_sem, *, -hc3, -hf3] at k3_0_0)
  have f3_0_0 := hf3 (w2.heap.size) 0 (by first | omega | (simp; done) | (simp; omega)); (try simp [go_sem, *, -hc3, -hf3] at f3_0_0)
  have k3_0_1 := hc3 (w2.heap.size) 1 (by first | omega | (simp; done) | (simp; omega)); (try simp [go_sem, *, -hc3, -hf3] at k3_0_1)
  have f3_0_1 := hf3 (w2.heap.size) 1 (by first | omega | (simp; done) | (simp; omega)); (try simp [go_sem, *, -hc3, -hf3] at f3_0_1)
  have hz3_1 : w2.heap.size + 1 < w3.heap.size := (by omega)
  have k3_1_0 := hc3 (w2.heap.size + 1) 0 (by first | omega | (simp; done) | (simp; omega)); (try simp [go_sem, *, -hc3, -hf3] at k3_1_0)
  have f3_1_0 := hf3 (w2.heap.size + 1) 0 (by first | omega | (simp; done) | (simp; omega)); (try simp [go_sem, *, -hc3, -hf3] at f3_1_0)
  have k3_1_1 := hc3 (w2.heap.size + 1) 1 (by first | omega | (simp; done) | (simp; omega)); (try simp [go_sem, *, -hc3, -hf3] at k3_1_1)
  have f3_1_1 := hf3 (w2.heap.size + 1) 1 (by first | omega | (simp; done) | (simp; omega)); (try simp [go_sem, *, -hc3, -hf3] at f3_1_1)
  clear hc3 hf3
  go_wp2_with fail
  refine (binary_any _ _ _ _ _ _).mono ?_; rintro e w4 ⟨rfl, hb4⟩; obtain ⟨hc4, hf4⟩ := bcell hb4
  have hq4 := hb4.size; (try simp at hq4)
  have hz4_0 : w2.heap.size < w4.heap.size := (by omega)
  have k4_0_0 := hc4 (w2.heap.size) 0 (by first | omega | (simp; done) | (simp; omega)); (try simp [go_sem, *, -hc4, -hf4] at k4_0_0)
  have f4_0_0 := hf4 (w2.heap.size) 0 (by first | omega | (simp; done) | (simp; omega)); (try simp [go_sem, *, -hc4, -hf4] at f4_0_0)
  have k4_0_1 := hc4 (w2.heap.size) 1 (by first | omega | (simp; done) | (simp; omega)); (try simp [go_sem, *, -hc4, -hf4] at k4_0_1)
  have f4_0_1 := hf4 (w2.heap.size) 1 (by first | omega | (simp; done) | (simp; omega)); (try simp [go_sem, *, -hc4, -hf4] at f4_0_1)
  have hz4_1 : w2.heap.size + 1 < w4.heap.size := (by omega)
  have k4_1_0 := hc4 (w2.heap.size + 1) 0 (by first | omega | (simp; done) | (simp; omega)); (try simp [go_sem, *, -hc4, -hf4] at k4_1_0)
  have f4_1_0 := hf4 (w2.heap.size + 1) 0 (by first | omega | (simp; done) | (simp; omega)); (try simp [go_sem, *, -hc4, -hf4] at f4_1_0)
  have k4_1_1 := hc4 (w2.heap.size + 1) 1 (by first | omega | (simp; done) | (simp; omega)); (try simp [go_sem, *, -hc4, -hf4] at k4_1_1)
  have f4_1_1 := hf4 (w2.heap.size + 1) 1 (by first | omega | (simp; done) | (simp; omega)); (try simp [go_sem, *, -hc4, -hf4] at f4_1_1)
  have hz4_2 : w3.heap.size < w4.heap.size := (by omega)
  have k4_2_0 := hc4 (w3.heap.size) 0 (by first | omega | (simp; done) | (simp; omega)); (try simp [go_sem, *, -hc4, -hf4] at k4_2_0)
  have f4_2_0 := hf4 (w3.heap.size) 0 (by first | omega | (simp; done) | (simp; omega)); (try simp [go_sem, *, -hc4, -hf4] at f4_2_0)
  have k4_2_1 := hc4 (w3.heap.size) 1 (by first | omega | (simp; done) | (simp; omega)); (try simp [go_sem, *, -hc4, -hf4] at k4_2_1)
  have f4_2_1 := hf4 (w3.heap.size) 1 (by first | omega | (simp; done) | (simp; omega)); (try simp [go_sem, *, -hc4, -hf4] at f4_2_1)
  clear hc4 hf4
  clear k3_0_0 f3_0_0 k3_0_1 f3_0_1 k3_1_0 f3_1_0 k3_1_1 f3_1_1
  go_wp2_with fail
  refine (opsLives_any _).mono ?_; rintro e w5 ⟨rfl, hb5⟩; obtain ⟨hc5, hf5⟩ := bcell hb5
  have hq5 := hb5.size; (try simp at hq5)
  have hz5_0 : w2.heap.size < w5.heap.size := (by omega)
  have k5_0_0 := hc5 (w2.heap.size) 0 (by first | omega | (simp; done) | (simp; omega)); (try simp [go_sem, *, -hc5, -hf5] at k5_0_0)
  have f5_0_0 := hf5 (w2.heap.size) 0 (by first | omega | (simp; done) | (simp; omega)); (try simp [go_sem, *, -hc5, -hf5] at f5_0_0)
  have k5_0_1 := hc5 (w2.heap.size) 1 (by first | omega | (simp; done) | (simp; omega)); (try simp [go_sem, *, -hc5, -hf5] at k5_0_1)
  have f5_0_1 := hf5 (w2.heap.size) 1 (by first | omega | (simp; done) | (simp; omega)); (try simp [go_sem, *, -hc5, -hf5] at f5_0_1)
  have hz5_1 : w2.heap.size + 1 < w5.heap.size := (by omega)
  have k5_1_0 := hc5 (w2.heap.size + 1) 0 (by first | omega | (simp; done) | (simp; omega)); (try simp [go_sem, *, -hc5, -hf5] at k5_1_0)
  have f5_1_0 := hf5 (w2.heap.size + 1) 0 (by first | omega | (simp; done) | (simp; omega)); (try simp [go_sem, *, -hc5, -hf5] at f5_1_0)
  have k5_1_1 := hc5 (w2.heap.size + 1) 1 (by first | omega | (simp; done) | (simp; omega)); (try simp [go_sem, *, -hc5, -hf5] at k5_1_1)
  have f5_1_1 := hf5 (w2.heap.size + 1) 1 (by first | omega | (simp; done) | (simp; omega)); (try simp [go_sem, *, -hc5, -hf5] at f5_1_1)
  have hz5_2 : w3.heap.size < w5.heap.size := (by omega)
  have k5_2_0 := hc5 (w3.heap.size) 0 (by first | omega | (simp; done) | (simp; omega)); (try simp [go_sem, *, -hc5, -hf5] at k5_2_0)
  have f5_2_0 := hf5 (w3.heap.size) 0 (by first | omega | (simp; done) | (simp; omega)); (try simp [go_sem, *, -hc5, -hf5] at f5_2_0)
  have k5_2_1 := hc5 (w3.heap.size) 1 (by first | omega | (simp; done) | (simp; omega)); (try simp [go_sem, *, -hc5, -hf5] at k5_2_1)
  have f5_2_1 := hf5 (w3.heap.size) 1 (by first | omega | (simp; done) | (simp; omega)); (try simp [go_sem, *, -hc5, -hf5] at f5_2_1)
  have hz5_3 : w4.heap.size < w5.heap.size := (by omega)
  have k5_3_0 := hc5 (w4.heap.size) 0 (by first | omega | (simp; done) | (simp; omega)); (try simp [go_sem, *, -hc5, -hf5] at k5_3_0)
  have f5_3_0 := hf5 (w4.heap.size) 0 (by first | omega | (simp; done) | (simp; omega)); (try simp [go_sem, *, -hc5, -hf5] at f5_3_0)
  have k5_3_1 := hc5 (w4.heap.size) 1 (by first | omega | (simp; done) | (simp; omega)); (try simp [go_sem, *, -hc5, -hf5] at k5_3_1)
  have f5_3_1 := hf5 (w4.heap.size) 1 (by first | omega | (simp; done) | (simp; omega)); (try simp [go_sem, *, -hc5, -hf5] at f5_3_1)
  clear hc5 hf5
  clear k4_0_0 f4_0_0 k4_0_1 f4_0_1 k4_1_0 f4_1_0 k4_1_1 f4_1_1 k4_2_0 f4_2_0 k4_2_1 f4_2_1
  go_wp2_with fail
  refine (right_any _ _ _).mono ?_; rintro e w6 ⟨rfl, hb6⟩; obtain ⟨hc6, hf6⟩ := bcell hb6
  have hq6 := hb6.size; (try simp at hq6)
  have hz6_0 : w2.heap.size < w6.heap.size := (by omega)
  have k6_0_0 := hc6 (w2.heap.size) 0 (by first | omega | (simp; done) | (simp; omega)); (try simp [go_sem, *, -hc6, -hf6] at k6_0_0)
  have f6_0_0 := hf6 (w2.heap.size) 0 (by first | omega | (simp; done) | (simp; omega)); (try simp [go_sem, *, -hc6, -hf6] at f6_0_0)
  have k6_0_1 := hc6 (w2.heap.size) 1 (by first | omega | (simp; done) | (simp; omega)); (try simp [go_sem, *, -hc6, -hf6] at k6_0_1)
  have f6_0_1 := hf6 (w2.heap.size) 1 (by first | omega | (simp; done) | (simp; omega)); (try simp [go_sem, *, -hc6, -hf6] at f6_0_1)
  have hz6_1 : w2.heap.size + 1 < w6.heap.size := (by omega)
  have k6_1_0 := hc6 (w2.heap.size + 1) 0 (by first | omega | (simp; done) | (simp; omega)); (try simp [go_sem, *, -hc6, -hf6] at k6_1_0)
  have f6_1_0 := hf6 (w2.heap.size + 1) 0 (by first | omega | (simp; done) | (simp; omega)); (try simp [go_sem, *, -hc6, -hf6] at f6_1_0)
  have k6_1_1 := hc6 (w2.heap.size + 1) 1 (by first | omega | (simp; done) | (simp; omega)); (try simp [go_sem, *, -hc6, -hf6] at k6_1_1)
  have f6_1_1 := hf6 (w2.heap.size + 1) 1 (by first | omega | (simp; done) | (simp; omega)); (try simp [go_sem, *, -hc6, -hf6] at f6_1_1)
  have hz6_2 : w3.heap.size < w6.heap.size := (by omega)
  have k6_2_0 := hc6 (w3.heap.size) 0 (by first | omega | (simp; done) | (simp; omega)); (try simp [go_sem, *, -hc6, -hf6] at k6_2_0)
  have f6_2_0 := hf6 (w3.heap.size) 0 (by first | omega | (simp; done) | (simp; omega)); (try simp [go_sem, *, -hc6, -hf6] at f6_2_0)
  have k6_2_1 := hc6 (w3.heap.size) 1 (by first | omega | (simp; done) | (simp; omega)); (try simp [go_sem, *, -hc6, -hf6] at k6_2_1)
  have f6_2_1 := hf6 (w3.heap.size) 1 (by first | omega | (simp; done) | (simp; omega)); (try simp [go_sem, *, -hc6, -hf6] at f6_2_1)
  have hz6_3 : w4.heap.size < w6.heap.size := (by omega)
  have k6_3_0 := hc6 (w4.heap.size) 0 (by first | omega | (simp; done) | (simp; omega)); (try simp [go_sem, *, -hc6, -hf6] at k6_3_0)
  have f6_3_0 := hf6 (w4.heap.size) 0 (by first | omega | (simp; done) | (simp; omega)); (try simp [go_sem, *, -hc6, -hf6] at f6_3_0)
  have k6_3_1 := hc6 (w4.heap.size) 1 (by first | omega | (simp; done) | (simp; omega)); (try simp [go_sem, *, -hc6, -hf6] at k6_3_1)
  have f6_3_1 := hf6 (w4.heap.size) 1 (by first | omega | (simp; done) | (simp; omega)); (try simp [go_sem, *, -hc6, -hf6] at f6_3_1)
  clear hc6 hf6
  clear k5_0_0 f5_0_0 k5_0_1 f5_0_1 k5_1_0 f5_1_0 k5_1_1 f5_1_1 k5_2_0 f5_2_0 k5_2_1 f5_2_1 k5_3_0 f5_3_0 k5_3_1 f5_3_1
  go_wp2_with fail
  refine (right_any _ _ _).mono ?_; rintro e w7 ⟨rfl, hb7⟩; obtain ⟨hc7, hf7⟩ := bcell hb7
  have hq7 := hb7.size; (try simp at hq7)
  have hz7_0 : w2.heap.size < w7.heap.size := (by omega)
  have k7_0_0 := hc7 (w2.heap.size) 0 (by first | omega | (simp; done) | (simp; omega)); (try simp [go_sem, *, -hc7, -hf7] at k7_0_0)
  have f7_0_0 := hf7 (w2.heap.size) 0 (by first | omega | (simp; done) | (simp; omega)); (try simp [go_sem, *, -hc7, -hf7] at f7_0_0)
  have k7_0_1 := hc7 (w2.heap.size) 1 (by first | omega | (simp; done) | (simp; omega)); (try simp [go_sem, *, -hc7, -hf7] at k7_0_1)
  have f7_0_1 := hf7 (w2.heap.size) 1 (by first | omega | (simp; done) | (simp; omega)); (try simp [go_sem, *, -hc7, -hf7] at f7_0_1)
  have hz7_1 : w2.heap.size + 1 < w7.heap.size := (by omega)
  have k7_1_0 := hc7 (w2.heap.size + 1) 0 (by first | omega | (simp; done) | (simp; omega)); (try simp [go_sem, *, -hc7, -hf7] at k7_1_0)
  have f7_1_0 := hf7 (w2.heap.size + 1) 0 (by first | omega | (simp; done) | (simp; omega)); (try simp [go_sem, *, -hc7, -hf7] at f7_1_0)
  have k7_1_1 := hc7 (w2.heap.size + 1) 1 (by first | omega | (simp; done) | (simp; omega)); (try simp [go_sem, *, -hc7, -hf7] at k7_1_1)
  have f7_1_1 := hf7 (w2.heap.size + 1) 1 (by first | omega | (simp; done) | (simp; omega)); (try simp [go_sem, *, -hc7, -hf7] at f7_1_1)
  have hz7_2 : w3.heap.size < w7.heap.size := (by omega)
  have k7_2_0 := hc7 (w3.heap.size) 0 (by first | omega | (simp; done) | (simp; omega)); (try simp [go_sem, *, -hc7, -hf7] at k7_2_0)
  have f7_2_0 := hf7 (w3.heap.size) 0 (by first | omega | (simp; done) | (simp; omega)); (try simp [go_sem, *, -hc7, -hf7] at f7_2_0)
  have k7_2_1 := hc7 (w3.heap.size) 1 (by first | omega | (simp; done) | (simp; omega)); (try simp [go_sem, *, -hc7, -hf7] at k7_2_1)
  have f7_2_1 := hf7 (w3.heap.size) 1 (by first | omega | (simp; done) | (simp; omega)); (try simp [go_sem, *, -hc7, -hf7] at f7_2_1)
  have hz7_3 : w4.heap.size < w7.heap.size := (by omega)
  have k7_3_0 := hc7 (w4.heap.size) 0 (by first | omega | (simp; done) | (simp; omega)); (try simp [go_sem, *, -hc7, -hf7] at k7_3_0)
  have f7_3_0 := hf7 (w4.heap.size) 0 (by first | omega | (simp; done) | (simp; omega)); (try simp [go_sem, *, -hc7, -hf7] at f7_3_0)
  have k7_3_1 := hc7 (w4.heap.size) 1 (by first | omega | (simp; done) | (simp; omega)); (try simp [go_sem, *, -hc7, -hf7] at k7_3_1)
  have f7_3_1 := hf7 (w4.heap.size) 1 (by first | omega | (simp; done) | (simp; omega)); (try simp [go_sem, *, -hc7, -hf7] at f7_3_1)
  clear hc7 hf7
  clear k6_0_0 f6_0_0 k6_0_1 f6_0_1 k6_1_0 f6_1_0 k6_1_1 f6_1_1 k6_2_0 f6_2_0 k6_2_1 f6_2_1 k6_3_0 f6_3_0 k6_3_1 f6_3_1
  go_wp2_with fail
  refine (opsLives_any _).mono ?_; rintro e w8 ⟨rfl, hb8⟩; obtain ⟨hc8, hf8⟩ := bcell hb8
  have hq8 := hb8.size; (try simp at hq8)
  have hz8_0 : w2.heap.size < w8.heap.size := (by omega)
  have k8_0_0 := hc8 (w2.heap.size) 0 (by first | omega | (simp; done) | (simp; omega)); (try simp [go_sem, *, -hc8, -hf8] at k8_0_0)
  have f8_0_0 := hf8 (w2.heap.size) 0 (by first | omega | (simp; done) | (simp; omega)); (try simp [go_sem, *, -hc8, -hf8] at f8_0_0)
  have k8_0_1 := hc8 (w2.heap.size) 1 (by first | omega | (simp; done) | (simp; omega)); (try simp [go_sem, *, -hc8, -hf8] at k8_0_1)
  have f8_0_1 := hf8 (w2.heap.size) 1 (by first | omega | (simp; done) | (simp; omega)); (try simp [go_sem, *, -hc8, -hf8] at f8_0_1)
  have hz8_1 : w2.heap.size + 1 < w8.heap.size := (by omega)
  have k8_1_0 := hc8 (w2.heap.size + 1) 0 (by first | omega | (simp; done) | (simp; omega)); (try simp [go_sem, *, -hc8, -hf8] at k8_1_0)
  have f8_1_0 := hf8 (w2.heap.size + 1) 0 (by first | omega | (simp; done) | (simp; omega)); (try simp [go_sem, *, -hc8, -hf8] at f8_1_0)
  have k8_1_1 := hc8 (w2.heap.size + 1) 1 (by first | omega | (simp; done) | (simp; omega)); (try simp [go_sem, *, -hc8, -hf8] at k8_1_1)
  have f8_1_1 := hf8 (w2.heap.size + 1) 1 (by first | omega | (simp; done) | (simp; omega)); (try simp [go_sem, *, -hc8, -hf8] at f8_1_1)
  have hz8_2 : w3.heap.size < w8.heap.size := (by omega)
  have k8_2_0 := hc8 (w3.heap.size) 0 (by first | omega | (simp; done) | (simp; omega)); (try simp [go_sem, *, -hc8, -hf8] at k8_2_0)
  have f8_2_0 := hf8 (w3.heap.size) 0 (by first | omega | (simp; done) | (simp; omega)); (try simp [go_sem, *, -hc8, -hf8] at f8_2_0)
  have k8_2_1 := hc8 (w3.heap.size) 1 (by first | omega | (simp; done) | (simp; omega)); (try simp [go_sem, *, -hc8, -hf8] at k8_2_1)
  have f8_2_1 := hf8 (w3.heap.size) 1 (by first | omega | (simp; done) | (simp; omega)); (try simp [go_sem, *, -hc8, -hf8] at f8_2_1)
  have hz8_3 : w4.heap.size < w8.heap.size := (by omega)
  have k8_3_0 := hc8 (w4.heap.size) 0 (by first | omega | (simp; done) | (simp; omega)); (try simp [go_sem, *, -hc8, -hf8] at k8_3_0)
  have f8_3_0 := hf8 (w4.heap.size) 0 (by first | omega | (simp; done) | (simp; omega)); (try simp [go_sem, *, -hc8, -hf8] at f8_3_0)
  have k8_3_1 := hc8 (w4.heap.size) 1 (by first | omega | (simp; done) | (simp; omega)); (try simp [go_sem, *, -hc8, -hf8] at k8_3_1)
  have f8_3_1 := hf8 (w4.heap.size) 1 (by first | omega | (simp; done) | (simp; omega)); (try simp [go_sem, *, -hc8, -hf8] at f8_3_1)
  clear hc8 hf8
  clear k7_0_0 f7_0_0 k7_0_1 f7_0_1 k7_1_0 f7_1_0 k7_1_1 f7_1_1 k7_2_0 f7_2_0 k7_2_1 f7_2_1 k7_3_0 f7_3_0 k7_3_1 f7_3_1
  go_wp2_with fail
  go_ret
  exact ⟨rfl, (by repeat' (first | exact Below.refl _ _ | (refine Below.via ?_ (by assumption) ?_) | refine Below.setCell ?_ ?_ _ | refine Below.alloc ?_ ?_ _ | refine Below.drew ?_ | omega | (simp; omega) | (simp; done)))⟩
set_option maxHeartbeats 1000000 in
theorem opsDivide_n3 (a b : Int) (w : World) (h0 : rightB 2 a = true) (h1 : rightB 2 b = true) (h2 : ((binaryS 6 2 a 2 b).2.2 != -1) = true) (h3 : (binaryS 7 2 a 2 b).2.2 = (binaryS 6 2 a 2 b).2.2) :
    Calls Try.prog 8 #[.int .i64 a, .int .i64 b] w fun e w' => e = .returned (.bool true) ∧ Below w.heap.size w w' := by
  go_enter Try.func8, Try.ntmps8
  go_wp2_with fail
  refine (num_any _ _).mono ?_; rintro e w1 ⟨rfl, hb1⟩; obtain ⟨hc1, hf1⟩ := bcell hb1
  have hq1 := hb1.size; (try simp at hq1)
  clear hc1 hf1
  go_wp2_with fail
  refine (num_any _ _).mono ?_; rintro e w2 ⟨rfl, hb2⟩; obtain ⟨hc2, hf2⟩ := bcell hb2
  have hq2 := hb2.size; (try simp at hq2)
  clear hc2 hf2
  go_wp2_with fail
  refine (binary_any _ _ _ _ _ _).mono ?_; rintro e w3 ⟨rfl, hb3⟩; obtain ⟨hc3, hf3⟩ := bcell hb3
  have hq3 := hb3.size; (try simp at hq3)
  have hz3_0 : w2.heap.size < w3.heap.size := (by omega)
  have k3_0_0 := hc3 (w2.heap.size) 0 (by first | omega | (simp; done) | (simp; omega)); (try simp [go_sem, *, -hc3, -hf3] at k3_0_0)
  have f3_0_0 := hf3 (w2.heap.size) 0 (by first | omega | (simp; done) | (simp; omega)); (try simp [go_sem, *, -hc3, -hf3] at f3_0_0)
  have k3_0_1 := hc3 (w2.heap.size) 1 (by first | omega | (simp; done) | (simp; omega)); (try simp [go_sem, *, -hc3, -hf3] at k3_0_1)
  have f3_0_1 := hf3 (w2.heap.size) 1 (by first | omega | (simp; done) | (simp; omega)); (try simp [go_sem, *, -hc3, -hf3] at f3_0_1)
  have hz3_1 : w2.heap.size + 1 < w3.heap.size := (by omega)
  have k3_1_0 := hc3 (w2.heap.size + 1) 0 (by first | omega | (simp; done) | (simp; omega)); (try simp [go_sem, *, -hc3, -hf3] at k3_1_0)
  have f3_1_0 := hf3 (w2.heap.size + 1) 0 (by first | omega | (simp; done) | (simp; omega)); (try simp [go_sem, *, -hc3, -hf3] at f3_1_0)
  have k3_1_1 := hc3 (w2.heap.size + 1) 1 (by first | omega | (simp; done) | (simp; omega)); (try simp [go_sem, *, -hc3, -hf3] at k3_1_1)
  have f3_1_1 := hf3 (w2.heap.size + 1) 1 (by first | omega | (simp; done) | (simp; omega)); (try simp [go_sem, *, -hc3, -hf3] at f3_1_1)
  clear hc3 hf3
  go_wp2_with fail
  refine (binary_any _ _ _ _ _ _).mono ?_; rintro e w4 ⟨rfl, hb4⟩; obtain ⟨hc4, hf4⟩ := bcell hb4
  have hq4 := hb4.size; (try simp at hq4)
  have hz4_0 : w2.heap.size < w4.heap.size := (by omega)
  have k4_0_0 := hc4 (w2.heap.size) 0 (by first | omega | (simp; done) | (simp; omega)); (try simp [go_sem, *, -hc4, -hf4] at k4_0_0)
  have f4_0_0 := hf4 (w2.heap.size) 0 (by first | omega | (simp; done) | (simp; omega)); (try simp [go_sem, *, -hc4, -hf4] at f4_0_0)
  have k4_0_1 := hc4 (w2.heap.size) 1 (by first | omega | (simp; done) | (simp; omega)); (try simp [go_sem, *, -hc4, -hf4] at k4_0_1)
  have f4_0_1 := hf4 (w2.heap.size) 1 (by first | omega | (simp; done) | (simp; omega)); (try simp [go_sem, *, -hc4, -hf4] at f4_0_1)
  have hz4_1 : w2.heap.size + 1 < w4.heap.size := (by omega)
  have k4_1_0 := hc4 (w2.heap.size + 1) 0 (by first | omega | (simp; done) | (simp; omega)); (try simp [go_sem, *, -hc4, -hf4] at k4_1_0)
  have f4_1_0 := hf4 (w2.heap.size + 1) 0 (by first | omega | (simp; done) | (simp; omega)); (try simp [go_sem, *, -hc4, -hf4] at f4_1_0)
  have k4_1_1 := hc4 (w2.heap.size + 1) 1 (by first | omega | (simp; done) | (simp; omega)); (try simp [go_sem, *, -hc4, -hf4] at k4_1_1)
  have f4_1_1 := hf4 (w2.heap.size + 1) 1 (by first | omega | (simp; done) | (simp; omega)); (try simp [go_sem, *, -hc4, -hf4] at f4_1_1)
  have hz4_2 : w3.heap.size < w4.heap.size := (by omega)
  have k4_2_0 := hc4 (w3.heap.size) 0 (by first | omega | (simp; done) | (simp; omega)); (try simp [go_sem, *, -hc4, -hf4] at k4_2_0)
  have f4_2_0 := hf4 (w3.heap.size) 0 (by first | omega | (simp; done) | (simp; omega)); (try simp [go_sem, *, -hc4, -hf4] at f4_2_0)
  have k4_2_1 := hc4 (w3.heap.size) 1 (by first | omega | (simp; done) | (simp; omega)); (try simp [go_sem, *, -hc4, -hf4] at k4_2_1)
  have f4_2_1 := hf4 (w3.heap.size) 1 (by first | omega | (simp; done) | (simp; omega)); (try simp [go_sem, *, -hc4, -hf4] at f4_2_1)
  clear hc4 hf4
  clear k3_0_0 f3_0_0 k3_0_1 f3_0_1 k3_1_0 f3_1_0 k3_1_1 f3_1_1
  go_wp2_with fail
  refine (opsLives_any _).mono ?_; rintro e w5 ⟨rfl, hb5⟩; obtain ⟨hc5, hf5⟩ := bcell hb5
  have hq5 := hb5.size; (try simp at hq5)
  have hz5_0 : w2.heap.size < w5.heap.size := (by omega)
  have k5_0_0 := hc5 (w2.heap.size) 0 (by first | omega | (simp; done) | (simp; omega)); (try simp [go_sem, *, -hc5, -hf5] at k5_0_0)
  have f5_0_0 := hf5 (w2.heap.size) 0 (by first | omega | (simp; done) | (simp; omega)); (try simp [go_sem, *, -hc5, -hf5] at f5_0_0)
  have k5_0_1 := hc5 (w2.heap.size) 1 (by first | omega | (simp; done) | (simp; omega)); (try simp [go_sem, *, -hc5, -hf5] at k5_0_1)
  have f5_0_1 := hf5 (w2.heap.size) 1 (by first | omega | (simp; done) | (simp; omega)); (try simp [go_sem, *, -hc5, -hf5] at f5_0_1)
  have hz5_1 : w2.heap.size + 1 < w5.heap.size := (by omega)
  have k5_1_0 := hc5 (w2.heap.size + 1) 0 (by first | omega | (simp; done) | (simp; omega)); (try simp [go_sem, *, -hc5, -hf5] at k5_1_0)
  have f5_1_0 := hf5 (w2.heap.size + 1) 0 (by first | omega | (simp; done) | (simp; omega)); (try simp [go_sem, *, -hc5, -hf5] at f5_1_0)
  have k5_1_1 := hc5 (w2.heap.size + 1) 1 (by first | omega | (simp; done) | (simp; omega)); (try simp [go_sem, *, -hc5, -hf5] at k5_1_1)
  have f5_1_1 := hf5 (w2.heap.size + 1) 1 (by first | omega | (simp; done) | (simp; omega)); (try simp [go_sem, *, -hc5, -hf5] at f5_1_1)
  have hz5_2 : w3.heap.size < w5.heap.size := (by omega)
  have k5_2_0 := hc5 (w3.heap.size) 0 (by first | omega | (simp; done) | (simp; omega)); (try simp [go_sem, *, -hc5, -hf5] at k5_2_0)
  have f5_2_0 := hf5 (w3.heap.size) 0 (by first | omega | (simp; done) | (simp; omega)); (try simp [go_sem, *, -hc5, -hf5] at f5_2_0)
  have k5_2_1 := hc5 (w3.heap.size) 1 (by first | omega | (simp; done) | (simp; omega)); (try simp [go_sem, *, -hc5, -hf5] at k5_2_1)
  have f5_2_1 := hf5 (w3.heap.size) 1 (by first | omega | (simp; done) | (simp; omega)); (try simp [go_sem, *, -hc5, -hf5] at f5_2_1)
  have hz5_3 : w4.heap.size < w5.heap.size := (by omega)
  have k5_3_0 := hc5 (w4.heap.size) 0 (by first | omega | (simp; done) | (simp; omega)); (try simp [go_sem, *, -hc5, -hf5] at k5_3_0)
  have f5_3_0 := hf5 (w4.heap.size) 0 (by first | omega | (simp; done) | (simp; omega)); (try simp [go_sem, *, -hc5, -hf5] at f5_3_0)
  have k5_3_1 := hc5 (w4.heap.size) 1 (by first | omega | (simp; done) | (simp; omega)); (try simp [go_sem, *, -hc5, -hf5] at k5_3_1)
  have f5_3_1 := hf5 (w4.heap.size) 1 (by first | omega | (simp; done) | (simp; omega)); (try simp [go_sem, *, -hc5, -hf5] at f5_3_1)
  clear hc5 hf5
  clear k4_0_0 f4_0_0 k4_0_1 f4_0_1 k4_1_0 f4_1_0 k4_1_1 f4_1_1 k4_2_0 f4_2_0 k4_2_1 f4_2_1
  go_wp2_with fail
  refine (right_any _ _ _).mono ?_; rintro e w6 ⟨rfl, hb6⟩; obtain ⟨hc6, hf6⟩ := bcell hb6
  have hq6 := hb6.size; (try simp at hq6)
  have hz6_0 : w2.heap.size < w6.heap.size := (by omega)
  have k6_0_0 := hc6 (w2.heap.size) 0 (by first | omega | (simp; done) | (simp; omega)); (try simp [go_sem, *, -hc6, -hf6] at k6_0_0)
  have f6_0_0 := hf6 (w2.heap.size) 0 (by first | omega | (simp; done) | (simp; omega)); (try simp [go_sem, *, -hc6, -hf6] at f6_0_0)
  have k6_0_1 := hc6 (w2.heap.size) 1 (by first | omega | (simp; done) | (simp; omega)); (try simp [go_sem, *, -hc6, -hf6] at k6_0_1)
  have f6_0_1 := hf6 (w2.heap.size) 1 (by first | omega | (simp; done) | (simp; omega)); (try simp [go_sem, *, -hc6, -hf6] at f6_0_1)
  have hz6_1 : w2.heap.size + 1 < w6.heap.size := (by omega)
  have k6_1_0 := hc6 (w2.heap.size + 1) 0 (by first | omega | (simp; done) | (simp; omega)); (try simp [go_sem, *, -hc6, -hf6] at k6_1_0)
  have f6_1_0 := hf6 (w2.heap.size + 1) 0 (by first | omega | (simp; done) | (simp; omega)); (try simp [go_sem, *, -hc6, -hf6] at f6_1_0)
  have k6_1_1 := hc6 (w2.heap.size + 1) 1 (by first | omega | (simp; done) | (simp; omega)); (try simp [go_sem, *, -hc6, -hf6] at k6_1_1)
  have f6_1_1 := hf6 (w2.heap.size + 1) 1 (by first | omega | (simp; done) | (simp; omega)); (try simp [go_sem, *, -hc6, -hf6] at f6_1_1)
  have hz6_2 : w3.heap.size < w6.heap.size := (by omega)
  have k6_2_0 := hc6 (w3.heap.size) 0 (by first | omega | (simp; done) | (simp; omega)); (try simp [go_sem, *, -hc6, -hf6] at k6_2_0)
  have f6_2_0 := hf6 (w3.heap.size) 0 (by first | omega | (simp; done) | (simp; omega)); (try simp [go_sem, *, -hc6, -hf6] at f6_2_0)
  have k6_2_1 := hc6 (w3.heap.size) 1 (by first | omega | (simp; done) | (simp; omega)); (try simp [go_sem, *, -hc6, -hf6] at k6_2_1)
  have f6_2_1 := hf6 (w3.heap.size) 1 (by first | omega | (simp; done) | (simp; omega)); (try simp [go_sem, *, -hc6, -hf6] at f6_2_1)
  have hz6_3 : w4.heap.size < w6.heap.size := (by omega)
  have k6_3_0 := hc6 (w4.heap.size) 0 (by first | omega | (simp; done) | (simp; omega)); (try simp [go_sem, *, -hc6, -hf6] at k6_3_0)
  have f6_3_0 := hf6 (w4.heap.size) 0 (by first | omega | (simp; done) | (simp; omega)); (try simp [go_sem, *, -hc6, -hf6] at f6_3_0)
  have k6_3_1 := hc6 (w4.heap.size) 1 (by first | omega | (simp; done) | (simp; omega)); (try simp [go_sem, *, -hc6, -hf6] at k6_3_1)
  have f6_3_1 := hf6 (w4.heap.size) 1 (by first | omega | (simp; done) | (simp; omega)); (try simp [go_sem, *, -hc6, -hf6] at f6_3_1)
  clear hc6 hf6
  clear k5_0_0 f5_0_0 k5_0_1 f5_0_1 k5_1_0 f5_1_0 k5_1_1 f5_1_1 k5_2_0 f5_2_0 k5_2_1 f5_2_1 k5_3_0 f5_3_0 k5_3_1 f5_3_1
  go_wp2_with fail
  refine (right_any _ _ _).mono ?_; rintro e w7 ⟨rfl, hb7⟩; obtain ⟨hc7, hf7⟩ := bcell hb7
  have hq7 := hb7.size; (try simp at hq7)
  have hz7_0 : w2.heap.size < w7.heap.size := (by omega)
  have k7_0_0 := hc7 (w2.heap.size) 0 (by first | omega | (simp; done) | (simp; omega)); (try simp [go_sem, *, -hc7, -hf7] at k7_0_0)
  have f7_0_0 := hf7 (w2.heap.size) 0 (by first | omega | (simp; done) | (simp; omega)); (try simp [go_sem, *, -hc7, -hf7] at f7_0_0)
  have k7_0_1 := hc7 (w2.heap.size) 1 (by first | omega | (simp; done) | (simp; omega)); (try simp [go_sem, *, -hc7, -hf7] at k7_0_1)
  have f7_0_1 := hf7 (w2.heap.size) 1 (by first | omega | (simp; done) | (simp; omega)); (try simp [go_sem, *, -hc7, -hf7] at f7_0_1)
  have hz7_1 : w2.heap.size + 1 < w7.heap.size := (by omega)
  have k7_1_0 := hc7 (w2.heap.size + 1) 0 (by first | omega | (simp; done) | (simp; omega)); (try simp [go_sem, *, -hc7, -hf7] at k7_1_0)
  have f7_1_0 := hf7 (w2.heap.size + 1) 0 (by first | omega | (simp; done) | (simp; omega)); (try simp [go_sem, *, -hc7, -hf7] at f7_1_0)
  have k7_1_1 := hc7 (w2.heap.size + 1) 1 (by first | omega | (simp; done) | (simp; omega)); (try simp [go_sem, *, -hc7, -hf7] at k7_1_1)
  have f7_1_1 := hf7 (w2.heap.size + 1) 1 (by first | omega | (simp; done) | (simp; omega)); (try simp [go_sem, *, -hc7, -hf7] at f7_1_1)
  have hz7_2 : w3.heap.size < w7.heap.size := (by omega)
  have k7_2_0 := hc7 (w3.heap.size) 0 (by first | omega | (simp; done) | (simp; omega)); (try simp [go_sem, *, -hc7, -hf7] at k7_2_0)
  have f7_2_0 := hf7 (w3.heap.size) 0 (by first | omega | (simp; done) | (simp; omega)); (try simp [go_sem, *, -hc7, -hf7] at f7_2_0)
  have k7_2_1 := hc7 (w3.heap.size) 1 (by first | omega | (simp; done) | (simp; omega)); (try simp [go_sem, *, -hc7, -hf7] at k7_2_1)
  have f7_2_1 := hf7 (w3.heap.size) 1 (by first | omega | (simp; done) | (simp; omega)); (try simp [go_sem, *, -hc7, -hf7] at f7_2_1)
  have hz7_3 : w4.heap.size < w7.heap.size := (by omega)
  have k7_3_0 := hc7 (w4.heap.size) 0 (by first | omega | (simp; done) | (simp; omega)); (try simp [go_sem, *, -hc7, -hf7] at k7_3_0)
  have f7_3_0 := hf7 (w4.heap.size) 0 (by first | omega | (simp; done) | (simp; omega)); (try simp [go_sem, *, -hc7, -hf7] at f7_3_0)
  have k7_3_1 := hc7 (w4.heap.size) 1 (by first | omega | (simp; done) | (simp; omega)); (try simp [go_sem, *, -hc7, -hf7] at k7_3_1)
  have f7_3_1 := hf7 (w4.heap.size) 1 (by first | omega | (simp; done) | (simp; omega)); (try simp [go_sem, *, -hc7, -hf7] at f7_3_1)
  clear hc7 hf7
  clear k6_0_0 f6_0_0 k6_0_1 f6_0_1 k6_1_0 f6_1_0 k6_1_1 f6_1_1 k6_2_0 f6_2_0 k6_2_1 f6_2_1 k6_3_0 f6_3_0 k6_3_1 f6_3_1
  go_wp2_with fail
  refine (opsLives_any _).mono ?_; rintro e w8 ⟨rfl, hb8⟩; obtain ⟨hc8, hf8⟩ := bcell hb8
  have hq8 := hb8.size; (try simp at hq8)
  have hz8_0 : w2.heap.size < w8.heap.size := (by omega)
  have k8_0_0 := hc8 (w2.heap.size) 0 (by first | omega | (simp; done) | (simp; omega)); (try simp [go_sem, *, -hc8, -hf8] at k8_0_0)
  have f8_0_0 := hf8 (w2.heap.size) 0 (by first | omega | (simp; done) | (simp; omega)); (try simp [go_sem, *, -hc8, -hf8] at f8_0_0)
  have k8_0_1 := hc8 (w2.heap.size) 1 (by first | omega | (simp; done) | (simp; omega)); (try simp [go_sem, *, -hc8, -hf8] at k8_0_1)
  have f8_0_1 := hf8 (w2.heap.size) 1 (by first | omega | (simp; done) | (simp; omega)); (try simp [go_sem, *, -hc8, -hf8] at f8_0_1)
  have hz8_1 : w2.heap.size + 1 < w8.heap.size := (by omega)
  have k8_1_0 := hc8 (w2.heap.size + 1) 0 (by first | omega | (simp; done) | (simp; omega)); (try simp [go_sem, *, -hc8, -hf8] at k8_1_0)
  have f8_1_0 := hf8 (w2.heap.size + 1) 0 (by first | omega | (simp; done) | (simp; omega)); (try simp [go_sem, *, -hc8, -hf8] at f8_1_0)
  have k8_1_1 := hc8 (w2.heap.size + 1) 1 (by first | omega | (simp; done) | (simp; omega)); (try simp [go_sem, *, -hc8, -hf8] at k8_1_1)
  have f8_1_1 := hf8 (w2.heap.size + 1) 1 (by first | omega | (simp; done) | (simp; omega)); (try simp [go_sem, *, -hc8, -hf8] at f8_1_1)
  have hz8_2 : w3.heap.size < w8.heap.size := (by omega)
  have k8_2_0 := hc8 (w3.heap.size) 0 (by first | omega | (simp; done) | (simp; omega)); (try simp [go_sem, *, -hc8, -hf8] at k8_2_0)
  have f8_2_0 := hf8 (w3.heap.size) 0 (by first | omega | (simp; done) | (simp; omega)); (try simp [go_sem, *, -hc8, -hf8] at f8_2_0)
  have k8_2_1 := hc8 (w3.heap.size) 1 (by first | omega | (simp; done) | (simp; omega)); (try simp [go_sem, *, -hc8, -hf8] at k8_2_1)
  have f8_2_1 := hf8 (w3.heap.size) 1 (by first | omega | (simp; done) | (simp; omega)); (try simp [go_sem, *, -hc8, -hf8] at f8_2_1)
  have hz8_3 : w4.heap.size < w8.heap.size := (by omega)
  have k8_3_0 := hc8 (w4.heap.size) 0 (by first | omega | (simp; done) | (simp; omega)); (try simp [go_sem, *, -hc8, -hf8] at k8_3_0)
  have f8_3_0 := hf8 (w4.heap.size) 0 (by first | omega | (simp; done) | (simp; omega)); (try simp [go_sem, *, -hc8, -hf8] at f8_3_0)
  have k8_3_1 := hc8 (w4.heap.size) 1 (by first | omega | (simp; done) | (simp; omega)); (try simp [go_sem, *, -hc8, -hf8] at k8_3_1)
  have f8_3_1 := hf8 (w4.heap.size) 1 (by first | omega | (simp; done) | (simp; omega)); (try simp [go_sem, *, -hc8, -hf8] at f8_3_1)
  clear hc8 hf8
  clear k7_0_0 f7_0_0 k7_0_1 f7_0_1 k7_1_0 f7_1_0 k7_1_1 f7_1_1 k7_2_0 f7_2_0 k7_2_1 f7_2_1 k7_3_0 f7_3_0 k7_3_1 f7_3_1
  go_wp2_with fail
  go_ret
  exact ⟨rfl, (by repeat' (first | exact Below.refl _ _ | (refine Below.via ?_ (by assumption) ?_) | refine Below.setCell ?_ ?_ _ | refine Below.alloc ?_ ?_ _ | refine Below.drew ?_ | omega | (simp; omega) | (simp; done)))⟩
set_option maxHeartbeats 1000000 in
theorem opsDivide_n4 (a b : Int) (w : World) (h0 : rightB 2 a = true) (h1 : rightB 2 b = true) (h2 : (binaryS 6 2 a 2 b) = (0, 0, 1)) (h3 : (binaryS 7 2 a 2 b).2.2 = -1) :
    Calls Try.prog 8 #[.int .i64 a, .int .i64 b] w fun e w' => e = .returned (.bool true) ∧ Below w.heap.size w w' := by
  go_enter Try.func8, Try.ntmps8
  go_wp2_with fail
  refine (num_any _ _).mono ?_; rintro e w1 ⟨rfl, hb1⟩; obtain ⟨hc1, hf1⟩ := bcell hb1
  have hq1 := hb1.size; (try simp at hq1)
  clear hc1 hf1
  go_wp2_with fail
  refine (num_any _ _).mono ?_; rintro e w2 ⟨rfl, hb2⟩; obtain ⟨hc2, hf2⟩ := bcell hb2
  have hq2 := hb2.size; (try simp at hq2)
  clear hc2 hf2
  go_wp2_with fail
  refine (binary_any _ _ _ _ _ _).mono ?_; rintro e w3 ⟨rfl, hb3⟩; obtain ⟨hc3, hf3⟩ := bcell hb3
  have hq3 := hb3.size; (try simp at hq3)
  have hz3_0 : w2.heap.size < w3.heap.size := (by omega)
  have k3_0_0 := hc3 (w2.heap.size) 0 (by first | omega | (simp; done) | (simp; omega)); (try simp [go_sem, *, -hc3, -hf3] at k3_0_0)
  have f3_0_0 := hf3 (w2.heap.size) 0 (by first | omega | (simp; done) | (simp; omega)); (try simp [go_sem, *, -hc3, -hf3] at f3_0_0)
  have k3_0_1 := hc3 (w2.heap.size) 1 (by first | omega | (simp; done) | (simp; omega)); (try simp [go_sem, *, -hc3, -hf3] at k3_0_1)
  have f3_0_1 := hf3 (w2.heap.size) 1 (by first | omega | (simp; done) | (simp; omega)); (try simp [go_sem, *, -hc3, -hf3] at f3_0_1)
  have hz3_1 : w2.heap.size + 1 < w3.heap.size := (by omega)
  have k3_1_0 := hc3 (w2.heap.size + 1) 0 (by first | omega | (simp; done) | (simp; omega)); (try simp [go_sem, *, -hc3, -hf3] at k3_1_0)
  have f3_1_0 := hf3 (w2.heap.size + 1) 0 (by first | omega | (simp; done) | (simp; omega)); (try simp [go_sem, *, -hc3, -hf3] at f3_1_0)
  have k3_1_1 := hc3 (w2.heap.size + 1) 1 (by first | omega | (simp; done) | (simp; omega)); (try simp [go_sem, *, -hc3, -hf3] at k3_1_1)
  have f3_1_1 := hf3 (w2.heap.size + 1) 1 (by first | omega | (simp; done) | (simp; omega)); (try simp [go_sem, *, -hc3, -hf3] at f3_1_1)
  clear hc3 hf3
  go_wp2_with fail
  refine (binary_any _ _ _ _ _ _).mono ?_; rintro e w4 ⟨rfl, hb4⟩; obtain ⟨hc4, hf4⟩ := bcell hb4
  have hq4 := hb4.size; (try simp at hq4)
  have hz4_0 : w2.heap.size < w4.heap.size := (by omega)
  have k4_0_0 := hc4 (w2.heap.size) 0 (by first | omega | (simp; done) | (simp; omega)); (try simp [go_sem, *, -hc4, -hf4] at k4_0_0)
  have f4_0_0 := hf4 (w2.heap.size) 0 (by first | omega | (simp; done) | (simp; omega)); (try simp [go_sem, *, -hc4, -hf4] at f4_0_0)
  have k4_0_1 := hc4 (w2.heap.size) 1 (by first | omega | (simp; done) | (simp; omega)); (try simp [go_sem, *, -hc4, -hf4] at k4_0_1)
  have f4_0_1 := hf4 (w2.heap.size) 1 (by first | omega | (simp; done) | (simp; omega)); (try simp [go_sem, *, -hc4, -hf4] at f4_0_1)
  have hz4_1 : w2.heap.size + 1 < w4.heap.size := (by omega)
  have k4_1_0 := hc4 (w2.heap.size + 1) 0 (by first | omega | (simp; done) | (simp; omega)); (try simp [go_sem, *, -hc4, -hf4] at k4_1_0)
  have f4_1_0 := hf4 (w2.heap.size + 1) 0 (by first | omega | (simp; done) | (simp; omega)); (try simp [go_sem, *, -hc4, -hf4] at f4_1_0)
  have k4_1_1 := hc4 (w2.heap.size + 1) 1 (by first | omega | (simp; done) | (simp; omega)); (try simp [go_sem, *, -hc4, -hf4] at k4_1_1)
  have f4_1_1 := hf4 (w2.heap.size + 1) 1 (by first | omega | (simp; done) | (simp; omega)); (try simp [go_sem, *, -hc4, -hf4] at f4_1_1)
  have hz4_2 : w3.heap.size < w4.heap.size := (by omega)
  have k4_2_0 := hc4 (w3.heap.size) 0 (by first | omega | (simp; done) | (simp; omega)); (try simp [go_sem, *, -hc4, -hf4] at k4_2_0)
  have f4_2_0 := hf4 (w3.heap.size) 0 (by first | omega | (simp; done) | (simp; omega)); (try simp [go_sem, *, -hc4, -hf4] at f4_2_0)
  have k4_2_1 := hc4 (w3.heap.size) 1 (by first | omega | (simp; done) | (simp; omega)); (try simp [go_sem, *, -hc4, -hf4] at k4_2_1)
  have f4_2_1 := hf4 (w3.heap.size) 1 (by first | omega | (simp; done) | (simp; omega)); (try simp [go_sem, *, -hc4, -hf4] at f4_2_1)
  clear hc4 hf4
  clear k3_0_0 f3_0_0 k3_0_1 f3_0_1 k3_1_0 f3_1_0 k3_1_1 f3_1_1
  go_wp2_with fail
  refine (opsLives_any _).mono ?_; rintro e w5 ⟨rfl, hb5⟩; obtain ⟨hc5, hf5⟩ := bcell hb5
  have hq5 := hb5.size; (try simp at hq5)
  have hz5_0 : w2.heap.size < w5.heap.size := (by omega)
  have k5_0_0 := hc5 (w2.heap.size) 0 (by first | omega | (simp; done) | (simp; omega)); (try simp [go_sem, *, -hc5, -hf5] at k5_0_0)
  have f5_0_0 := hf5 (w2.heap.size) 0 (by first | omega | (simp; done) | (simp; omega)); (try simp [go_sem, *, -hc5, -hf5] at f5_0_0)
  have k5_0_1 := hc5 (w2.heap.size) 1 (by first | omega | (simp; done) | (simp; omega)); (try simp [go_sem, *, -hc5, -hf5] at k5_0_1)
  have f5_0_1 := hf5 (w2.heap.size) 1 (by first | omega | (simp; done) | (simp; omega)); (try simp [go_sem, *, -hc5, -hf5] at f5_0_1)
  have hz5_1 : w2.heap.size + 1 < w5.heap.size := (by omega)
  have k5_1_0 := hc5 (w2.heap.size + 1) 0 (by first | omega | (simp; done) | (simp; omega)); (try simp [go_sem, *, -hc5, -hf5] at k5_1_0)
  have f5_1_0 := hf5 (w2.heap.size + 1) 0 (by first | omega | (simp; done) | (simp; omega)); (try simp [go_sem, *, -hc5, -hf5] at f5_1_0)
  have k5_1_1 := hc5 (w2.heap.size + 1) 1 (by first | omega | (simp; done) | (simp; omega)); (try simp [go_sem, *, -hc5, -hf5] at k5_1_1)
  have f5_1_1 := hf5 (w2.heap.size + 1) 1 (by first | omega | (simp; done) | (simp; omega)); (try simp [go_sem, *, -hc5, -hf5] at f5_1_1)
  have hz5_2 : w3.heap.size < w5.heap.size := (by omega)
  have k5_2_0 := hc5 (w3.heap.size) 0 (by first | omega | (simp; done) | (simp; omega)); (try simp [go_sem, *, -hc5, -hf5] at k5_2_0)
  have f5_2_0 := hf5 (w3.heap.size) 0 (by first | omega | (simp; done) | (simp; omega)); (try simp [go_sem, *, -hc5, -hf5] at f5_2_0)
  have k5_2_1 := hc5 (w3.heap.size) 1 (by first | omega | (simp; done) | (simp; omega)); (try simp [go_sem, *, -hc5, -hf5] at k5_2_1)
  have f5_2_1 := hf5 (w3.heap.size) 1 (by first | omega | (simp; done) | (simp; omega)); (try simp [go_sem, *, -hc5, -hf5] at f5_2_1)
  have hz5_3 : w4.heap.size < w5.heap.size := (by omega)
  have k5_3_0 := hc5 (w4.heap.size) 0 (by first | omega | (simp; done) | (simp; omega)); (try simp [go_sem, *, -hc5, -hf5] at k5_3_0)
  have f5_3_0 := hf5 (w4.heap.size) 0 (by first | omega | (simp; done) | (simp; omega)); (try simp [go_sem, *, -hc5, -hf5] at f5_3_0)
  have k5_3_1 := hc5 (w4.heap.size) 1 (by first | omega | (simp; done) | (simp; omega)); (try simp [go_sem, *, -hc5, -hf5] at k5_3_1)
  have f5_3_1 := hf5 (w4.heap.size) 1 (by first | omega | (simp; done) | (simp; omega)); (try simp [go_sem, *, -hc5, -hf5] at f5_3_1)
  clear hc5 hf5
  clear k4_0_0 f4_0_0 k4_0_1 f4_0_1 k4_1_0 f4_1_0 k4_1_1 f4_1_1 k4_2_0 f4_2_0 k4_2_1 f4_2_1
  go_wp2_with fail
  refine (right_any _ _ _).mono ?_; rintro e w6 ⟨rfl, hb6⟩; obtain ⟨hc6, hf6⟩ := bcell hb6
  have hq6 := hb6.size; (try simp at hq6)
  have hz6_0 : w2.heap.size < w6.heap.size := (by omega)
  have k6_0_0 := hc6 (w2.heap.size) 0 (by first | omega | (simp; done) | (simp; omega)); (try simp [go_sem, *, -hc6, -hf6] at k6_0_0)
  have f6_0_0 := hf6 (w2.heap.size) 0 (by first | omega | (simp; done) | (simp; omega)); (try simp [go_sem, *, -hc6, -hf6] at f6_0_0)
  have k6_0_1 := hc6 (w2.heap.size) 1 (by first | omega | (simp; done) | (simp; omega)); (try simp [go_sem, *, -hc6, -hf6] at k6_0_1)
  have f6_0_1 := hf6 (w2.heap.size) 1 (by first | omega | (simp; done) | (simp; omega)); (try simp [go_sem, *, -hc6, -hf6] at f6_0_1)
  have hz6_1 : w2.heap.size + 1 < w6.heap.size := (by omega)
  have k6_1_0 := hc6 (w2.heap.size + 1) 0 (by first | omega | (simp; done) | (simp; omega)); (try simp [go_sem, *, -hc6, -hf6] at k6_1_0)
  have f6_1_0 := hf6 (w2.heap.size + 1) 0 (by first | omega | (simp; done) | (simp; omega)); (try simp [go_sem, *, -hc6, -hf6] at f6_1_0)
  have k6_1_1 := hc6 (w2.heap.size + 1) 1 (by first | omega | (simp; done) | (simp; omega)); (try simp [go_sem, *, -hc6, -hf6] at k6_1_1)
  have f6_1_1 := hf6 (w2.heap.size + 1) 1 (by first | omega | (simp; done) | (simp; omega)); (try simp [go_sem, *, -hc6, -hf6] at f6_1_1)
  have hz6_2 : w3.heap.size < w6.heap.size := (by omega)
  have k6_2_0 := hc6 (w3.heap.size) 0 (by first | omega | (simp; done) | (simp; omega)); (try simp [go_sem, *, -hc6, -hf6] at k6_2_0)
  have f6_2_0 := hf6 (w3.heap.size) 0 (by first | omega | (simp; done) | (simp; omega)); (try simp [go_sem, *, -hc6, -hf6] at f6_2_0)
  have k6_2_1 := hc6 (w3.heap.size) 1 (by first | omega | (simp; done) | (simp; omega)); (try simp [go_sem, *, -hc6, -hf6] at k6_2_1)
  have f6_2_1 := hf6 (w3.heap.size) 1 (by first | omega | (simp; done) | (simp; omega)); (try simp [go_sem, *, -hc6, -hf6] at f6_2_1)
  have hz6_3 : w4.heap.size < w6.heap.size := (by omega)
  have k6_3_0 := hc6 (w4.heap.size) 0 (by first | omega | (simp; done) | (simp; omega)); (try simp [go_sem, *, -hc6, -hf6] at k6_3_0)
  have f6_3_0 := hf6 (w4.heap.size) 0 (by first | omega | (simp; done) | (simp; omega)); (try simp [go_sem, *, -hc6, -hf6] at f6_3_0)
  have k6_3_1 := hc6 (w4.heap.size) 1 (by first | omega | (simp; done) | (simp; omega)); (try simp [go_sem, *, -hc6, -hf6] at k6_3_1)
  have f6_3_1 := hf6 (w4.heap.size) 1 (by first | omega | (simp; done) | (simp; omega)); (try simp [go_sem, *, -hc6, -hf6] at f6_3_1)
  clear hc6 hf6
  clear k5_0_0 f5_0_0 k5_0_1 f5_0_1 k5_1_0 f5_1_0 k5_1_1 f5_1_1 k5_2_0 f5_2_0 k5_2_1 f5_2_1 k5_3_0 f5_3_0 k5_3_1 f5_3_1
  go_wp2_with fail
  refine (right_any _ _ _).mono ?_; rintro e w7 ⟨rfl, hb7⟩; obtain ⟨hc7, hf7⟩ := bcell hb7
  have hq7 := hb7.size; (try simp at hq7)
  have hz7_0 : w2.heap.size < w7.heap.size := (by omega)
  have k7_0_0 := hc7 (w2.heap.size) 0 (by first | omega | (simp; done) | (simp; omega)); (try simp [go_sem, *, -hc7, -hf7] at k7_0_0)
  have f7_0_0 := hf7 (w2.heap.size) 0 (by first | omega | (simp; done) | (simp; omega)); (try simp [go_sem, *, -hc7, -hf7] at f7_0_0)
  have k7_0_1 := hc7 (w2.heap.size) 1 (by first | omega | (simp; done) | (simp; omega)); (try simp [go_sem, *, -hc7, -hf7] at k7_0_1)
  have f7_0_1 := hf7 (w2.heap.size) 1 (by first | omega | (simp; done) | (simp; omega)); (try simp [go_sem, *, -hc7, -hf7] at f7_0_1)
  have hz7_1 : w2.heap.size + 1 < w7.heap.size := (by omega)
  have k7_1_0 := hc7 (w2.heap.size + 1) 0 (by first | omega | (simp; done) | (simp; omega)); (try simp [go_sem, *, -hc7, -hf7] at k7_1_0)
  have f7_1_0 := hf7 (w2.heap.size + 1) 0 (by first | omega | (simp; done) | (simp; omega)); (try simp [go_sem, *, -hc7, -hf7] at f7_1_0)
  have k7_1_1 := hc7 (w2.heap.size + 1) 1 (by first | omega | (simp; done) | (simp; omega)); (try simp [go_sem, *, -hc7, -hf7] at k7_1_1)
  have f7_1_1 := hf7 (w2.heap.size + 1) 1 (by first | omega | (simp; done) | (simp; omega)); (try simp [go_sem, *, -hc7, -hf7] at f7_1_1)
  have hz7_2 : w3.heap.size < w7.heap.size := (by omega)
  have k7_2_0 := hc7 (w3.heap.size) 0 (by first | omega | (simp; done) | (simp; omega)); (try simp [go_sem, *, -hc7, -hf7] at k7_2_0)
  have f7_2_0 := hf7 (w3.heap.size) 0 (by first | omega | (simp; done) | (simp; omega)); (try simp [go_sem, *, -hc7, -hf7] at f7_2_0)
  have k7_2_1 := hc7 (w3.heap.size) 1 (by first | omega | (simp; done) | (simp; omega)); (try simp [go_sem, *, -hc7, -hf7] at k7_2_1)
  have f7_2_1 := hf7 (w3.heap.size) 1 (by first | omega | (simp; done) | (simp; omega)); (try simp [go_sem, *, -hc7, -hf7] at f7_2_1)
  have hz7_3 : w4.heap.size < w7.heap.size := (by omega)
  have k7_3_0 := hc7 (w4.heap.size) 0 (by first | omega | (simp; done) | (simp; omega)); (try simp [go_sem, *, -hc7, -hf7] at k7_3_0)
  have f7_3_0 := hf7 (w4.heap.size) 0 (by first | omega | (simp; done) | (simp; omega)); (try simp [go_sem, *, -hc7, -hf7] at f7_3_0)
  have k7_3_1 := hc7 (w4.heap.size) 1 (by first | omega | (simp; done) | (simp; omega)); (try simp [go_sem, *, -hc7, -hf7] at k7_3_1)
  have f7_3_1 := hf7 (w4.heap.size) 1 (by first | omega | (simp; done) | (simp; omega)); (try simp [go_sem, *, -hc7, -hf7] at f7_3_1)
  clear hc7 hf7
  clear k6_0_0 f6_0_0 k6_0_1 f6_0_1 k6_1_0 f6_1_0 k6_1_1 f6_1_1 k6_2_0 f6_2_0 k6_2_1 f6_2_1 k6_3_0 f6_3_0 k6_3_1 f6_3_1
  go_wp2_with fail
  refine (opsLives_any _).mono ?_; rintro e w8 ⟨rfl, hb8⟩; obtain ⟨hc8, hf8⟩ := bcell hb8
  have hq8 := hb8.size; (try simp at hq8)
  have hz8_0 : w2.heap.size < w8.heap.size := (by omega)
  have k8_0_0 := hc8 (w2.heap.size) 0 (by first | omega | (simp; done) | (simp; omega)); (try simp [go_sem, *, -hc8, -hf8] at k8_0_0)
  have f8_0_0 := hf8 (w2.heap.size) 0 (by first | omega | (simp; done) | (simp; omega)); (try simp [go_sem, *, -hc8, -hf8] at f8_0_0)
  have k8_0_1 := hc8 (w2.heap.size) 1 (by first | omega | (simp; done) | (simp; omega)); (try simp [go_sem, *, -hc8, -hf8] at k8_0_1)
  have f8_0_1 := hf8 (w2.heap.size) 1 (by first | omega | (simp; done) | (simp; omega)); (try simp [go_sem, *, -hc8, -hf8] at f8_0_1)
  have hz8_1 : w2.heap.size + 1 < w8.heap.size := (by omega)
  have k8_1_0 := hc8 (w2.heap.size + 1) 0 (by first | omega | (simp; done) | (simp; omega)); (try simp [go_sem, *, -hc8, -hf8] at k8_1_0)
  have f8_1_0 := hf8 (w2.heap.size + 1) 0 (by first | omega | (simp; done) | (simp; omega)); (try simp [go_sem, *, -hc8, -hf8] at f8_1_0)
  have k8_1_1 := hc8 (w2.heap.size + 1) 1 (by first | omega | (simp; done) | (simp; omega)); (try simp [go_sem, *, -hc8, -hf8] at k8_1_1)
  have f8_1_1 := hf8 (w2.heap.size + 1) 1 (by first | omega | (simp; done) | (simp; omega)); (try simp [go_sem, *, -hc8, -hf8] at f8_1_1)
  have hz8_2 : w3.heap.size < w8.heap.size := (by omega)
  have k8_2_0 := hc8 (w3.heap.size) 0 (by first | omega | (simp; done) | (simp; omega)); (try simp [go_sem, *, -hc8, -hf8] at k8_2_0)
  have f8_2_0 := hf8 (w3.heap.size) 0 (by first | omega | (simp; done) | (simp; omega)); (try simp [go_sem, *, -hc8, -hf8] at f8_2_0)
  have k8_2_1 := hc8 (w3.heap.size) 1 (by first | omega | (simp; done) | (simp; omega)); (try simp [go_sem, *, -hc8, -hf8] at k8_2_1)
  have f8_2_1 := hf8 (w3.heap.size) 1 (by first | omega | (simp; done) | (simp; omega)); (try simp [go_sem, *, -hc8, -hf8] at f8_2_1)
  have hz8_3 : w4.heap.size < w8.heap.size := (by omega)
  have k8_3_0 := hc8 (w4.heap.size) 0 (by first | omega | (simp; done) | (simp; omega)); (try simp [go_sem, *, -hc8, -hf8] at k8_3_0)
  have f8_3_0 := hf8 (w4.heap.size) 0 (by first | omega | (simp; done) | (simp; omega)); (try simp [go_sem, *, -hc8, -hf8] at f8_3_0)
  have k8_3_1 := hc8 (w4.heap.size) 1 (by first | omega | (simp; done) | (simp; omega)); (try simp [go_sem, *, -hc8, -hf8] at k8_3_1)
  have f8_3_1 := hf8 (w4.heap.size) 1 (by first | omega | (simp; done) | (simp; omega)); (try simp [go_sem, *, -hc8, -hf8] at f8_3_1)
  clear hc8 hf8
  clear k7_0_0 f7_0_0 k7_0_1 f7_0_1 k7_1_0 f7_1_0 k7_1_1 f7_1_1 k7_2_0 f7_2_0 k7_2_1 f7_2_1 k7_3_0 f7_3_0 k7_3_1 f7_3_1
  go_wp2_with fail
  go_ret
  exact ⟨rfl, (by repeat' (first | exact Below.refl _ _ | (refine Below.via ?_ (by assumption) ?_) | refine Below.setCell ?_ ?_ _ | refine Below.alloc ?_ ?_ _ | refine Below.drew ?_ | omega | (simp; omega) | (simp; done)))⟩
theorem ret_true {c : Bool} (h : c = true) : Ending.returned (.bool c) = .returned (.bool true) := by rw [h]
set_option maxHeartbeats 1000000 in
theorem opsDivide_y (a b q r p : Int) (w : World) (h0 : rightB 2 a = true) (h1 : rightB 2 b = true) (h2 : binaryS 6 2 a 2 b = (2, q, -1)) (h3 : binaryS 7 2 a 2 b = (2, r, -1))
    (h4 : binaryS 5 2 q 2 b = (2, p, -1)) (h5 : binaryS 3 2 p 2 r = (2, a, -1)) (b1 : -2147483648 ≤ b) (b2 : b ≤ 2147483647) (r1 : -2147483648 ≤ r) (r2 : r ≤ 2147483647) (h6 : r.natAbs < b.natAbs)
    (h7 : (r == 0 || decide (r < 0) == decide (a < 0)) = true) :
    Calls Try.prog 8 #[.int .i64 a, .int .i64 b] w fun e w' => e = .returned (.bool true) ∧ Below w.heap.size w w' := by
  have H7 := Lib.hid h7
  clear h7
  go_enter Try.func8, Try.ntmps8
  go_wp2_with fail
  refine (num_any _ _).mono ?_; rintro e w1 ⟨rfl, hb1⟩; obtain ⟨hc1, hf1⟩ := bcell hb1
  have hq1 := hb1.size; (try simp at hq1)
  clear hc1 hf1
  go_wp2_with fail
  refine (num_any _ _).mono ?_; rintro e w2 ⟨rfl, hb2⟩; obtain ⟨hc2, hf2⟩ := bcell hb2
  have hq2 := hb2.size; (try simp at hq2)
  clear hc2 hf2
  go_wp2_with fail
  refine (binary_any _ _ _ _ _ _).mono ?_; rintro e w3 ⟨rfl, hb3⟩; obtain ⟨hc3, hf3⟩ := bcell hb3
  have hq3 := hb3.size; (try simp at hq3)
  have hz3_0 : w2.heap.size < w3.heap.size := (by omega)
  have k3_0_0 := hc3 (w2.heap.size) 0 (by first | omega | (simp; done) | (simp; omega)); (try simp [go_sem, *, -hc3, -hf3] at k3_0_0)
  have f3_0_0 := hf3 (w2.heap.size) 0 (by first | omega | (simp; done) | (simp; omega)); (try simp [go_sem, *, -hc3, -hf3] at f3_0_0)
  have k3_0_1 := hc3 (w2.heap.size) 1 (by first | omega | (simp; done) | (simp; omega)); (try simp [go_sem, *, -hc3, -hf3] at k3_0_1)
  have f3_0_1 := hf3 (w2.heap.size) 1 (by first | omega | (simp; done) | (simp; omega)); (try simp [go_sem, *, -hc3, -hf3] at f3_0_1)
  have hz3_1 : w2.heap.size + 1 < w3.heap.size := (by omega)
  have k3_1_0 := hc3 (w2.heap.size + 1) 0 (by first | omega | (simp; done) | (simp; omega)); (try simp [go_sem, *, -hc3, -hf3] at k3_1_0)
  have f3_1_0 := hf3 (w2.heap.size + 1) 0 (by first | omega | (simp; done) | (simp; omega)); (try simp [go_sem, *, -hc3, -hf3] at f3_1_0)
  have k3_1_1 := hc3 (w2.heap.size + 1) 1 (by first | omega | (simp; done) | (simp; omega)); (try simp [go_sem, *, -hc3, -hf3] at k3_1_1)
  have f3_1_1 := hf3 (w2.heap.size + 1) 1 (by first | omega | (simp; done) | (simp; omega)); (try simp [go_sem, *, -hc3, -hf3] at f3_1_1)
  clear hc3 hf3
  go_wp2_with fail
  refine (binary_any _ _ _ _ _ _).mono ?_; rintro e w4 ⟨rfl, hb4⟩; obtain ⟨hc4, hf4⟩ := bcell hb4
  have hq4 := hb4.size; (try simp at hq4)
  have hz4_0 : w2.heap.size < w4.heap.size := (by omega)
  have k4_0_0 := hc4 (w2.heap.size) 0 (by first | omega | (simp; done) | (simp; omega)); (try simp [go_sem, *, -hc4, -hf4] at k4_0_0)
  have f4_0_0 := hf4 (w2.heap.size) 0 (by first | omega | (simp; done) | (simp; omega)); (try simp [go_sem, *, -hc4, -hf4] at f4_0_0)
  have k4_0_1 := hc4 (w2.heap.size) 1 (by first | omega | (simp; done) | (simp; omega)); (try simp [go_sem, *, -hc4, -hf4] at k4_0_1)
  have f4_0_1 := hf4 (w2.heap.size) 1 (by first | omega | (simp; done) | (simp; omega)); (try simp [go_sem, *, -hc4, -hf4] at f4_0_1)
  have hz4_1 : w2.heap.size + 1 < w4.heap.size := (by omega)
  have k4_1_0 := hc4 (w2.heap.size + 1) 0 (by first | omega | (simp; done) | (simp; omega)); (try simp [go_sem, *, -hc4, -hf4] at k4_1_0)
  have f4_1_0 := hf4 (w2.heap.size + 1) 0 (by first | omega | (simp; done) | (simp; omega)); (try simp [go_sem, *, -hc4, -hf4] at f4_1_0)
  have k4_1_1 := hc4 (w2.heap.size + 1) 1 (by first | omega | (simp; done) | (simp; omega)); (try simp [go_sem, *, -hc4, -hf4] at k4_1_1)
  have f4_1_1 := hf4 (w2.heap.size + 1) 1 (by first | omega | (simp; done) | (simp; omega)); (try simp [go_sem, *, -hc4, -hf4] at f4_1_1)
  have hz4_2 : w3.heap.size < w4.heap.size := (by omega)
  have k4_2_0 := hc4 (w3.heap.size) 0 (by first | omega | (simp; done) | (simp; omega)); (try simp [go_sem, *, -hc4, -hf4] at k4_2_0)
  have f4_2_0 := hf4 (w3.heap.size) 0 (by first | omega | (simp; done) | (simp; omega)); (try simp [go_sem, *, -hc4, -hf4] at f4_2_0)
  have k4_2_1 := hc4 (w3.heap.size) 1 (by first | omega | (simp; done) | (simp; omega)); (try simp [go_sem, *, -hc4, -hf4] at k4_2_1)
  have f4_2_1 := hf4 (w3.heap.size) 1 (by first | omega | (simp; done) | (simp; omega)); (try simp [go_sem, *, -hc4, -hf4] at f4_2_1)
  clear hc4 hf4
  clear k3_0_0 f3_0_0 k3_0_1 f3_0_1 k3_1_0 f3_1_0 k3_1_1 f3_1_1
  go_wp2_with fail
  refine (opsLives_any _).mono ?_; rintro e w5 ⟨rfl, hb5⟩; obtain ⟨hc5, hf5⟩ := bcell hb5
  have hq5 := hb5.size; (try simp at hq5)
  have hz5_0 : w2.heap.size < w5.heap.size := (by omega)
  have k5_0_0 := hc5 (w2.heap.size) 0 (by first | omega | (simp; done) | (simp; omega)); (try simp [go_sem, *, -hc5, -hf5] at k5_0_0)
  have f5_0_0 := hf5 (w2.heap.size) 0 (by first | omega | (simp; done) | (simp; omega)); (try simp [go_sem, *, -hc5, -hf5] at f5_0_0)
  have k5_0_1 := hc5 (w2.heap.size) 1 (by first | omega | (simp; done) | (simp; omega)); (try simp [go_sem, *, -hc5, -hf5] at k5_0_1)
  have f5_0_1 := hf5 (w2.heap.size) 1 (by first | omega | (simp; done) | (simp; omega)); (try simp [go_sem, *, -hc5, -hf5] at f5_0_1)
  have hz5_1 : w2.heap.size + 1 < w5.heap.size := (by omega)
  have k5_1_0 := hc5 (w2.heap.size + 1) 0 (by first | omega | (simp; done) | (simp; omega)); (try simp [go_sem, *, -hc5, -hf5] at k5_1_0)
  have f5_1_0 := hf5 (w2.heap.size + 1) 0 (by first | omega | (simp; done) | (simp; omega)); (try simp [go_sem, *, -hc5, -hf5] at f5_1_0)
  have k5_1_1 := hc5 (w2.heap.size + 1) 1 (by first | omega | (simp; done) | (simp; omega)); (try simp [go_sem, *, -hc5, -hf5] at k5_1_1)
  have f5_1_1 := hf5 (w2.heap.size + 1) 1 (by first | omega | (simp; done) | (simp; omega)); (try simp [go_sem, *, -hc5, -hf5] at f5_1_1)
  have hz5_2 : w3.heap.size < w5.heap.size := (by omega)
  have k5_2_0 := hc5 (w3.heap.size) 0 (by first | omega | (simp; done) | (simp; omega)); (try simp [go_sem, *, -hc5, -hf5] at k5_2_0)
  have f5_2_0 := hf5 (w3.heap.size) 0 (by first | omega | (simp; done) | (simp; omega)); (try simp [go_sem, *, -hc5, -hf5] at f5_2_0)
  have k5_2_1 := hc5 (w3.heap.size) 1 (by first | omega | (simp; done) | (simp; omega)); (try simp [go_sem, *, -hc5, -hf5] at k5_2_1)
  have f5_2_1 := hf5 (w3.heap.size) 1 (by first | omega | (simp; done) | (simp; omega)); (try simp [go_sem, *, -hc5, -hf5] at f5_2_1)
  have hz5_3 : w4.heap.size < w5.heap.size := (by omega)
  have k5_3_0 := hc5 (w4.heap.size) 0 (by first | omega | (simp; done) | (simp; omega)); (try simp [go_sem, *, -hc5, -hf5] at k5_3_0)
  have f5_3_0 := hf5 (w4.heap.size) 0 (by first | omega | (simp; done) | (simp; omega)); (try simp [go_sem, *, -hc5, -hf5] at f5_3_0)
  have k5_3_1 := hc5 (w4.heap.size) 1 (by first | omega | (simp; done) | (simp; omega)); (try simp [go_sem, *, -hc5, -hf5] at k5_3_1)
  have f5_3_1 := hf5 (w4.heap.size) 1 (by first | omega | (simp; done) | (simp; omega)); (try simp [go_sem, *, -hc5, -hf5] at f5_3_1)
  clear hc5 hf5
  clear k4_0_0 f4_0_0 k4_0_1 f4_0_1 k4_1_0 f4_1_0 k4_1_1 f4_1_1 k4_2_0 f4_2_0 k4_2_1 f4_2_1
  go_wp2_with fail
  refine (right_any _ _ _).mono ?_; rintro e w6 ⟨rfl, hb6⟩; obtain ⟨hc6, hf6⟩ := bcell hb6
  have hq6 := hb6.size; (try simp at hq6)
  have hz6_0 : w2.heap.size < w6.heap.size := (by omega)
  have k6_0_0 := hc6 (w2.heap.size) 0 (by first | omega | (simp; done) | (simp; omega)); (try simp [go_sem, *, -hc6, -hf6] at k6_0_0)
  have f6_0_0 := hf6 (w2.heap.size) 0 (by first | omega | (simp; done) | (simp; omega)); (try simp [go_sem, *, -hc6, -hf6] at f6_0_0)
  have k6_0_1 := hc6 (w2.heap.size) 1 (by first | omega | (simp; done) | (simp; omega)); (try simp [go_sem, *, -hc6, -hf6] at k6_0_1)
  have f6_0_1 := hf6 (w2.heap.size) 1 (by first | omega | (simp; done) | (simp; omega)); (try simp [go_sem, *, -hc6, -hf6] at f6_0_1)
  have hz6_1 : w2.heap.size + 1 < w6.heap.size := (by omega)
  have k6_1_0 := hc6 (w2.heap.size + 1) 0 (by first | omega | (simp; done) | (simp; omega)); (try simp [go_sem, *, -hc6, -hf6] at k6_1_0)
  have f6_1_0 := hf6 (w2.heap.size + 1) 0 (by first | omega | (simp; done) | (simp; omega)); (try simp [go_sem, *, -hc6, -hf6] at f6_1_0)
  have k6_1_1 := hc6 (w2.heap.size + 1) 1 (by first | omega | (simp; done) | (simp; omega)); (try simp [go_sem, *, -hc6, -hf6] at k6_1_1)
  have f6_1_1 := hf6 (w2.heap.size + 1) 1 (by first | omega | (simp; done) | (simp; omega)); (try simp [go_sem, *, -hc6, -hf6] at f6_1_1)
  have hz6_2 : w3.heap.size < w6.heap.size := (by omega)
  have k6_2_0 := hc6 (w3.heap.size) 0 (by first | omega | (simp; done) | (simp; omega)); (try simp [go_sem, *, -hc6, -hf6] at k6_2_0)
  have f6_2_0 := hf6 (w3.heap.size) 0 (by first | omega | (simp; done) | (simp; omega)); (try simp [go_sem, *, -hc6, -hf6] at f6_2_0)
  have k6_2_1 := hc6 (w3.heap.size) 1 (by first | omega | (simp; done) | (simp; omega)); (try simp [go_sem, *, -hc6, -hf6] at k6_2_1)
  have f6_2_1 := hf6 (w3.heap.size) 1 (by first | omega | (simp; done) | (simp; omega)); (try simp [go_sem, *, -hc6, -hf6] at f6_2_1)
  have hz6_3 : w4.heap.size < w6.heap.size := (by omega)
  have k6_3_0 := hc6 (w4.heap.size) 0 (by first | omega | (simp; done) | (simp; omega)); (try simp [go_sem, *, -hc6, -hf6] at k6_3_0)
  have f6_3_0 := hf6 (w4.heap.size) 0 (by first | omega | (simp; done) | (simp; omega)); (try simp [go_sem, *, -hc6, -hf6] at f6_3_0)
  have k6_3_1 := hc6 (w4.heap.size) 1 (by first | omega | (simp; done) | (simp; omega)); (try simp [go_sem, *, -hc6, -hf6] at k6_3_1)
  have f6_3_1 := hf6 (w4.heap.size) 1 (by first | omega | (simp; done) | (simp; omega)); (try simp [go_sem, *, -hc6, -hf6] at f6_3_1)
  clear hc6 hf6
  clear k5_0_0 f5_0_0 k5_0_1 f5_0_1 k5_1_0 f5_1_0 k5_1_1 f5_1_1 k5_2_0 f5_2_0 k5_2_1 f5_2_1 k5_3_0 f5_3_0 k5_3_1 f5_3_1
  go_wp2_with fail
  refine (right_any _ _ _).mono ?_; rintro e w7 ⟨rfl, hb7⟩; obtain ⟨hc7, hf7⟩ := bcell hb7
  have hq7 := hb7.size; (try simp at hq7)
  have hz7_0 : w2.heap.size < w7.heap.size := (by omega)
  have k7_0_0 := hc7 (w2.heap.size) 0 (by first | omega | (simp; done) | (simp; omega)); (try simp [go_sem, *, -hc7, -hf7] at k7_0_0)
  have f7_0_0 := hf7 (w2.heap.size) 0 (by first | omega | (simp; done) | (simp; omega)); (try simp [go_sem, *, -hc7, -hf7] at f7_0_0)
  have k7_0_1 := hc7 (w2.heap.size) 1 (by first | omega | (simp; done) | (simp; omega)); (try simp [go_sem, *, -hc7, -hf7] at k7_0_1)
  have f7_0_1 := hf7 (w2.heap.size) 1 (by first | omega | (simp; done) | (simp; omega)); (try simp [go_sem, *, -hc7, -hf7] at f7_0_1)
  have hz7_1 : w2.heap.size + 1 < w7.heap.size := (by omega)
  have k7_1_0 := hc7 (w2.heap.size + 1) 0 (by first | omega | (simp; done) | (simp; omega)); (try simp [go_sem, *, -hc7, -hf7] at k7_1_0)
  have f7_1_0 := hf7 (w2.heap.size + 1) 0 (by first | omega | (simp; done) | (simp; omega)); (try simp [go_sem, *, -hc7, -hf7] at f7_1_0)
  have k7_1_1 := hc7 (w2.heap.size + 1) 1 (by first | omega | (simp; done) | (simp; omega)); (try simp [go_sem, *, -hc7, -hf7] at k7_1_1)
  have f7_1_1 := hf7 (w2.heap.size + 1) 1 (by first | omega | (simp; done) | (simp; omega)); (try simp [go_sem, *, -hc7, -hf7] at f7_1_1)
  have hz7_2 : w3.heap.size < w7.heap.size := (by omega)
  have k7_2_0 := hc7 (w3.heap.size) 0 (by first | omega | (simp; done) | (simp; omega)); (try simp [go_sem, *, -hc7, -hf7] at k7_2_0)
  have f7_2_0 := hf7 (w3.heap.size) 0 (by first | omega | (simp; done) | (simp; omega)); (try simp [go_sem, *, -hc7, -hf7] at f7_2_0)
  have k7_2_1 := hc7 (w3.heap.size) 1 (by first | omega | (simp; done) | (simp; omega)); (try simp [go_sem, *, -hc7, -hf7] at k7_2_1)
  have f7_2_1 := hf7 (w3.heap.size) 1 (by first | omega | (simp; done) | (simp; omega)); (try simp [go_sem, *, -hc7, -hf7] at f7_2_1)
  have hz7_3 : w4.heap.size < w7.heap.size := (by omega)
  have k7_3_0 := hc7 (w4.heap.size) 0 (by first | omega | (simp; done) | (simp; omega)); (try simp [go_sem, *, -hc7, -hf7] at k7_3_0)
  have f7_3_0 := hf7 (w4.heap.size) 0 (by first | omega | (simp; done) | (simp; omega)); (try simp [go_sem, *, -hc7, -hf7] at f7_3_0)
  have k7_3_1 := hc7 (w4.heap.size) 1 (by first | omega | (simp; done) | (simp; omega)); (try simp [go_sem, *, -hc7, -hf7] at k7_3_1)
  have f7_3_1 := hf7 (w4.heap.size) 1 (by first | omega | (simp; done) | (simp; omega)); (try simp [go_sem, *, -hc7, -hf7] at f7_3_1)
  clear hc7 hf7
  clear k6_0_0 f6_0_0 k6_0_1 f6_0_1 k6_1_0 f6_1_0 k6_1_1 f6_1_1 k6_2_0 f6_2_0 k6_2_1 f6_2_1 k6_3_0 f6_3_0 k6_3_1 f6_3_1
  go_wp2_with fail
  refine (binary_any _ _ _ _ _ _).mono ?_; rintro e w8 ⟨rfl, hb8⟩; obtain ⟨hc8, hf8⟩ := bcell hb8
  have hq8 := hb8.size; (try simp at hq8)
  have hz8_0 : w2.heap.size < w8.heap.size := (by omega)
  have k8_0_0 := hc8 (w2.heap.size) 0 (by first | omega | (simp; done) | (simp; omega)); (try simp [go_sem, *, -hc8, -hf8] at k8_0_0)
  have f8_0_0 := hf8 (w2.heap.size) 0 (by first | omega | (simp; done) | (simp; omega)); (try simp [go_sem, *, -hc8, -hf8] at f8_0_0)
  have k8_0_1 := hc8 (w2.heap.size) 1 (by first | omega | (simp; done) | (simp; omega)); (try simp [go_sem, *, -hc8, -hf8] at k8_0_1)
  have f8_0_1 := hf8 (w2.heap.size) 1 (by first | omega | (simp; done) | (simp; omega)); (try simp [go_sem, *, -hc8, -hf8] at f8_0_1)
  have hz8_3 : w4.heap.size < w8.heap.size := (by omega)
  have k8_3_0 := hc8 (w4.heap.size) 0 (by first | omega | (simp; done) | (simp; omega)); (try simp [go_sem, *, -hc8, -hf8] at k8_3_0)
  have f8_3_0 := hf8 (w4.heap.size) 0 (by first | omega | (simp; done) | (simp; omega)); (try simp [go_sem, *, -hc8, -hf8] at f8_3_0)
  have k8_3_1 := hc8 (w4.heap.size) 1 (by first | omega | (simp; done) | (simp; omega)); (try simp [go_sem, *, -hc8, -hf8] at k8_3_1)
  have f8_3_1 := hf8 (w4.heap.size) 1 (by first | omega | (simp; done) | (simp; omega)); (try simp [go_sem, *, -hc8, -hf8] at f8_3_1)
  clear hc8 hf8
  clear k7_0_0 f7_0_0 k7_0_1 f7_0_1 k7_1_0 f7_1_0 k7_1_1 f7_1_1 k7_2_0 f7_2_0 k7_2_1 f7_2_1 k7_3_0 f7_3_0 k7_3_1 f7_3_1
  go_wp2_with fail
  refine (binary_any _ _ _ _ _ _).mono ?_; rintro e w9 ⟨rfl, hb9⟩; obtain ⟨hc9, hf9⟩ := bcell hb9
  have hq9 := hb9.size; (try simp at hq9)
  have hz9_0 : w2.heap.size < w9.heap.size := (by omega)
  have k9_0_0 := hc9 (w2.heap.size) 0 (by first | omega | (simp; done) | (simp; omega)); (try simp [go_sem, *, -hc9, -hf9] at k9_0_0)
  have f9_0_0 := hf9 (w2.heap.size) 0 (by first | omega | (simp; done) | (simp; omega)); (try simp [go_sem, *, -hc9, -hf9] at f9_0_0)
  have k9_0_1 := hc9 (w2.heap.size) 1 (by first | omega | (simp; done) | (simp; omega)); (try simp [go_sem, *, -hc9, -hf9] at k9_0_1)
  have f9_0_1 := hf9 (w2.heap.size) 1 (by first | omega | (simp; done) | (simp; omega)); (try simp [go_sem, *, -hc9, -hf9] at f9_0_1)
  have hz9_3 : w4.heap.size < w9.heap.size := (by omega)
  have k9_3_0 := hc9 (w4.heap.size) 0 (by first | omega | (simp; done) | (simp; omega)); (try simp [go_sem, *, -hc9, -hf9] at k9_3_0)
  have f9_3_0 := hf9 (w4.heap.size) 0 (by first | omega | (simp; done) | (simp; omega)); (try simp [go_sem, *, -hc9, -hf9] at f9_3_0)
  have k9_3_1 := hc9 (w4.heap.size) 1 (by first | omega | (simp; done) | (simp; omega)); (try simp [go_sem, *, -hc9, -hf9] at k9_3_1)
  have f9_3_1 := hf9 (w4.heap.size) 1 (by first | omega | (simp; done) | (simp; omega)); (try simp [go_sem, *, -hc9, -hf9] at f9_3_1)
  clear hc9 hf9
  clear k8_0_0 f8_0_0 k8_0_1 f8_0_1 k8_3_0 f8_3_0 k8_3_1 f8_3_1
  go_wp2_with fail
  all_goals
    go_ret
    refine ⟨?_, (by repeat' (first | exact Below.refl _ _ | (refine Below.via ?_ (by assumption) ?_) | refine Below.setCell ?_ ?_ _ | refine Below.alloc ?_ ?_ _ | refine Below.drew ?_ | omega | (simp; omega) | (simp; done)))⟩
    first | rfl | exact ret_true H7.out
theorem opsDivide_walk (a b : Int) (w : World) :
    Calls Try.prog 8 #[.int .i64 a, .int .i64 b] w fun e w' => e = .returned (.bool true) ∧ Below w.heap.size w w' := by
  cases ha : rightB 2 a
  · have t : takK 2 a = 0 := by simp [takK, ha]
    exact opsDivide_n1 a b w ha (by rw [bin_nilL t (by omega)]; rfl) (by rw [bin_nilL t (by omega), bin_nilL t (by omega)])
  · cases hb : rightB 2 b
    · have t : takK 2 b = 0 := by simp [takK, hb]
      exact opsDivide_n2 a b w ha hb (by rw [bin_nil' t (by omega)]; rfl) (by rw [bin_nil' t (by omega), bin_nil' t (by omega)])
    · rcases div_law ha hb with ⟨h1, h2 | ⟨h2, h3⟩⟩ | ⟨q, r, p, h1, h2, h3, h4, h5, h6, h7, h8⟩
      · exact opsDivide_n3 a b w ha hb (by simpa using h1) h2
      · exact opsDivide_n4 a b w ha hb h2 h3
      · have bb := right_int hb
        refine opsDivide_y a b q r p w ha hb h1 h2 h3 h4 bb.1 bb.2 h5 h6 h7 ?_
        rcases h8 with h8 | h8
        · simp [h8]
        · have : decide (r < 0) = decide (a < 0) := by simp [h8]
          simp [this]
/-! ### THE ROW: OpsDivide (after the kit's skeleton) -/
namespace opsDivide
open Go.ChangeShapes Go.WideShapes Go.ChangeAt Go.RowKit Go.Joins
theorem own : ownKnob Try.prog.godebug = none := by kernel_rfl
theorem laidOut : laidOutB Try.prog = true := by kernel_rfl
set_option maxRecDepth 100000 in
theorem lifted (os : Os) (started : os.Started) (H : Type) (enc : TypeId × Value → H) :
    ReturnsInHanded {} Try.checked os 8 .any (Rows.opsDivideSpec.pre6 enc Try.prog Try.f8 Rows.opsDivideRow.domain false) (Rows.opsDivideSpec.post enc Try.prog Try.f8 false true false false) := by
  refine returnsInHanded_of_change (C := Try.checked) own started (by kernel_rfl) Try.func8
    (ChangeSpec.witness6 (enc := enc) (C := Try.checked) false ⟨#[], #[.int .i64 0, .int .i64 0], []⟩ 8 (by kernel_rfl) (by kernel_rfl) (by kernel_rfl) (by kernel_rfl)) ?_
  intro W base args ds gs before hval0 hW hcnd _
  have hval : ∀ (j : Nat) t v, Try.f8.params[j]? = some t → args[j]? = some v → Value.okWide Try.prog W .any base t v := hval0
  have hW' := hW
  obtain ⟨p, q, hA0, hV, rfl, hfz, hnd⟩ := hW
  have hA : DataW.TrodAll enc Try.prog W 0 (fun _ => true) true Try.f8.params.toList args.toList ds p := hA0
  rw [Try.params8] at hA hval
  obtain ⟨v0, vs0, d0, ds0, p0, q0, hargs, rfl, rfl, h0, r0⟩ := trodAll_cons hA
  obtain ⟨v1, vs1, d1, ds1, p1, q1, rfl, rfl, rfl, h1, r1⟩ := trodAll_cons r0
  obtain ⟨rfl, rfl, rfl⟩ := trodAll_nil r1
  obtain rfl : args = #[v0, v1] := by cases args; simp_all
  obtain ⟨rfl, rfl⟩ := trodVars_none hV
  have kk0 := h0
  have lt0 : ∀ x ∈ p0, x.block < W.heap.size := by obtain ⟨m, hm⟩ := kk0; exact DataW.trod_lt m _ _ _ hm
  have kk1 := h1
  have lt1 : ∀ x ∈ p1, x.block < W.heap.size := by obtain ⟨m, hm⟩ := kk1; exact DataW.trod_lt m _ _ _ hm
  obtain ⟨a0, rfl, rfl, rfl, g0⟩ := open_int Try.underlying3 (hval 0 3 v0 rfl rfl) h0
  obtain ⟨a1, rfl, rfl, rfl, g1⟩ := open_int Try.underlying3 (hval 1 3 v1 rfl rfl) h1
  clear hA0 hval0
  refine (opsDivide_walk a0 a1 W).mono fun e W' ⟨he, bel⟩ => ?_
  subst he
  exact ⟨_, rfl, _, _, _, [], _, [], hW', trodAll_mk1 (shut_bool Try.underlying4 _), (trodAll_cons_mk (Below.trod laidOut (by kernel_rfl) (of_decide_eq_true (by kernel_rfl)) kk0 bel lt0) (trodAll_cons_mk (Below.trod laidOut (by kernel_rfl) (of_decide_eq_true (by kernel_rfl)) kk1 bel lt1) trodAll_mk0)), rfl, bel.frame _, fun h => by cases h⟩
theorem over : Rows.opsDivideRow.holds Try.pinned (OpenSpec.ofChange Rows.opsDivideSpec) :=
  OpenClaim.holds_of_wide 8 Try.f8 rfl rfl rfl rfl rfl rfl rfl ⟨rfl, rfl, rfl, rfl, rfl⟩ rfl rfl rfl rfl rfl (by kernel_rfl) Try.func8 (by kernel_rfl)
    (of_decide_eq_true (by kernel_rfl)) (by unfold Func.isWrapper; first | (rw [if_pos (by decide +kernel)]; kernel_rfl) | (rw [if_neg (by decide +kernel)]; exact ⟨rfl, rfl⟩))
    (fun os started H enc _ => lifted os started H enc)
end opsDivide
theorem opsDivide_holds : Rows.OpsDivideSaid := opsDivide.over
#print axioms opsDivide_holds
end Go.Proofs.Ytalippdhfkpbmaa
