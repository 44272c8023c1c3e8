/- OpsStay: for every op and every two values the law answers true: what the operators tell is a value, and nil where something is thrown. No condition. -/
import Derived.Test.YtalippdhfkpbmaaOpsL
import Derived.Test.YtalippdhfkpbmaaOpsQ
import Derived.OpenShut
import Derived.ChangeOld
import Derived.Lib.SmallJoins
namespace Go.Proofs.Ytalippdhfkpbmaa
open Go.RowKit
theorem opsStay_tt (op ak an bk bn : Int) (w : World) (t1 : ((unaryS op ak an).2.2 == -1) = true) (t2 : ((binaryS op ak an bk bn).2.2 == -1) = true) :
    Calls Try.prog 10 #[.int .i64 op, .agg #[.int .i64 ak, .int .i64 an], .agg #[.int .i64 bk, .int .i64 bn]] w fun e w' => e = .returned (.bool true) ∧ Below w.heap.size w w' := by
  have r1 := (ok_unary op ak an).1
  have r2 := (ok_binary op ak an bk bn).1
  go_enter Try.func10, Try.ntmps10
  go_wp2_with fail
  refine (unary_any _ _ _ _).mono ?_; rintro e w1 ⟨rfl, hb1⟩; obtain ⟨hc1, hf1⟩ := bcell hb1
  have hq1 := hb1.size; (try simp at hq1)
  have hz1_0 : w.heap.size < w1.heap.size := (by omega)
  have k1_0_0 := hc1 (w.heap.size) 0 (by first | omega | (simp; done) | (simp; omega)); (try simp [go_sem, *, -hc1, -hf1] at k1_0_0)
  have f1_0_0 := hf1 (w.heap.size) 0 (by first | omega | (simp; done) | (simp; omega)); (try simp [go_sem, *, -hc1, -hf1] at f1_0_0)
  have k1_0_1 := hc1 (w.heap.size) 1 (by first | omega | (simp; done) | (simp; omega)); (try simp [go_sem, *, -hc1, -hf1] at k1_0_1)
  have f1_0_1 := hf1 (w.heap.size) 1 (by first | omega | (simp; done) | (simp; omega)); (try simp [go_sem, *, -hc1, -hf1] at f1_0_1)
  have hz1_1 : w.heap.size + 1 < w1.heap.size := (by omega)
  have k1_1_0 := hc1 (w.heap.size + 1) 0 (by first | omega | (simp; done) | (simp; omega)); (try simp [go_sem, *, -hc1, -hf1] at k1_1_0)
  have f1_1_0 := hf1 (w.heap.size + 1) 0 (by first | omega | (simp; done) | (simp; omega)); (try simp [go_sem, *, -hc1, -hf1] at f1_1_0)
  have k1_1_1 := hc1 (w.heap.size + 1) 1 (by first | omega | (simp; done) | (simp; omega)); (try simp [go_sem, *, -hc1, -hf1] at k1_1_1)
  have f1_1_1 := hf1 (w.heap.size + 1) 1 (by first | omega | (simp; done) | (simp; omega)); (try simp [go_sem, *, -hc1, -hf1] at f1_1_1)
  clear hc1 hf1
  go_wp2_with fail
  refine (binary_any _ _ _ _ _ _).mono ?_; rintro e w2 ⟨rfl, hb2⟩; obtain ⟨hc2, hf2⟩ := bcell hb2
  have hq2 := hb2.size; (try simp at hq2)
  have hz2_2 : w1.heap.size < w2.heap.size := (by omega)
  have k2_2_0 := hc2 (w1.heap.size) 0 (by first | omega | (simp; done) | (simp; omega)); (try simp [go_sem, *, -hc2, -hf2] at k2_2_0)
  have f2_2_0 := hf2 (w1.heap.size) 0 (by first | omega | (simp; done) | (simp; omega)); (try simp [go_sem, *, -hc2, -hf2] at f2_2_0)
  have k2_2_1 := hc2 (w1.heap.size) 1 (by first | omega | (simp; done) | (simp; omega)); (try simp [go_sem, *, -hc2, -hf2] at k2_2_1)
  have f2_2_1 := hf2 (w1.heap.size) 1 (by first | omega | (simp; done) | (simp; omega)); (try simp [go_sem, *, -hc2, -hf2] at f2_2_1)
  clear hc2 hf2
  clear k1_0_0 f1_0_0 k1_0_1 f1_0_1 k1_1_0 f1_1_0 k1_1_1 f1_1_1
  go_wp2_with fail
  refine (opsLives_any _).mono ?_; rintro e w3 ⟨rfl, hb3⟩; obtain ⟨hc3, hf3⟩ := bcell hb3
  have hq3 := hb3.size; (try simp at hq3)
  have hz3_2 : w1.heap.size < w3.heap.size := (by omega)
  have k3_2_0 := hc3 (w1.heap.size) 0 (by first | omega | (simp; done) | (simp; omega)); (try simp [go_sem, *, -hc3, -hf3] at k3_2_0)
  have f3_2_0 := hf3 (w1.heap.size) 0 (by first | omega | (simp; done) | (simp; omega)); (try simp [go_sem, *, -hc3, -hf3] at f3_2_0)
  have k3_2_1 := hc3 (w1.heap.size) 1 (by first | omega | (simp; done) | (simp; omega)); (try simp [go_sem, *, -hc3, -hf3] at k3_2_1)
  have f3_2_1 := hf3 (w1.heap.size) 1 (by first | omega | (simp; done) | (simp; omega)); (try simp [go_sem, *, -hc3, -hf3] at f3_2_1)
  have hz3_3 : w2.heap.size < w3.heap.size := (by omega)
  have k3_3_0 := hc3 (w2.heap.size) 0 (by first | omega | (simp; done) | (simp; omega)); (try simp [go_sem, *, -hc3, -hf3] at k3_3_0)
  have f3_3_0 := hf3 (w2.heap.size) 0 (by first | omega | (simp; done) | (simp; omega)); (try simp [go_sem, *, -hc3, -hf3] at f3_3_0)
  have k3_3_1 := hc3 (w2.heap.size) 1 (by first | omega | (simp; done) | (simp; omega)); (try simp [go_sem, *, -hc3, -hf3] at k3_3_1)
  have f3_3_1 := hf3 (w2.heap.size) 1 (by first | omega | (simp; done) | (simp; omega)); (try simp [go_sem, *, -hc3, -hf3] at f3_3_1)
  clear hc3 hf3
  clear k2_2_0 f2_2_0 k2_2_1 f2_2_1
  go_wp2_with fail
  refine (right_any _ _ _).mono ?_; rintro e w4 ⟨rfl, hb4⟩; obtain ⟨hc4, hf4⟩ := bcell hb4
  have hq4 := hb4.size; (try simp at hq4)
  have hz4_2 : w1.heap.size < w4.heap.size := (by omega)
  have k4_2_0 := hc4 (w1.heap.size) 0 (by first | omega | (simp; done) | (simp; omega)); (try simp [go_sem, *, -hc4, -hf4] at k4_2_0)
  have f4_2_0 := hf4 (w1.heap.size) 0 (by first | omega | (simp; done) | (simp; omega)); (try simp [go_sem, *, -hc4, -hf4] at f4_2_0)
  have k4_2_1 := hc4 (w1.heap.size) 1 (by first | omega | (simp; done) | (simp; omega)); (try simp [go_sem, *, -hc4, -hf4] at k4_2_1)
  have f4_2_1 := hf4 (w1.heap.size) 1 (by first | omega | (simp; done) | (simp; omega)); (try simp [go_sem, *, -hc4, -hf4] at f4_2_1)
  have hz4_3 : w2.heap.size < w4.heap.size := (by omega)
  have k4_3_0 := hc4 (w2.heap.size) 0 (by first | omega | (simp; done) | (simp; omega)); (try simp [go_sem, *, -hc4, -hf4] at k4_3_0)
  have f4_3_0 := hf4 (w2.heap.size) 0 (by first | omega | (simp; done) | (simp; omega)); (try simp [go_sem, *, -hc4, -hf4] at f4_3_0)
  have k4_3_1 := hc4 (w2.heap.size) 1 (by first | omega | (simp; done) | (simp; omega)); (try simp [go_sem, *, -hc4, -hf4] at k4_3_1)
  have f4_3_1 := hf4 (w2.heap.size) 1 (by first | omega | (simp; done) | (simp; omega)); (try simp [go_sem, *, -hc4, -hf4] at f4_3_1)
  clear hc4 hf4
  clear k3_2_0 f3_2_0 k3_2_1 f3_2_1 k3_3_0 f3_3_0 k3_3_1 f3_3_1
  go_wp2_with fail
  refine (right_any _ _ _).mono ?_; rintro e w5 ⟨rfl, hb5⟩; obtain ⟨hc5, hf5⟩ := bcell hb5
  have hq5 := hb5.size; (try simp at hq5)
  have hz5_2 : w1.heap.size < w5.heap.size := (by omega)
  have k5_2_0 := hc5 (w1.heap.size) 0 (by first | omega | (simp; done) | (simp; omega)); (try simp [go_sem, *, -hc5, -hf5] at k5_2_0)
  have f5_2_0 := hf5 (w1.heap.size) 0 (by first | omega | (simp; done) | (simp; omega)); (try simp [go_sem, *, -hc5, -hf5] at f5_2_0)
  have k5_2_1 := hc5 (w1.heap.size) 1 (by first | omega | (simp; done) | (simp; omega)); (try simp [go_sem, *, -hc5, -hf5] at k5_2_1)
  have f5_2_1 := hf5 (w1.heap.size) 1 (by first | omega | (simp; done) | (simp; omega)); (try simp [go_sem, *, -hc5, -hf5] at f5_2_1)
  have hz5_3 : w2.heap.size < w5.heap.size := (by omega)
  have k5_3_0 := hc5 (w2.heap.size) 0 (by first | omega | (simp; done) | (simp; omega)); (try simp [go_sem, *, -hc5, -hf5] at k5_3_0)
  have f5_3_0 := hf5 (w2.heap.size) 0 (by first | omega | (simp; done) | (simp; omega)); (try simp [go_sem, *, -hc5, -hf5] at f5_3_0)
  have k5_3_1 := hc5 (w2.heap.size) 1 (by first | omega | (simp; done) | (simp; omega)); (try simp [go_sem, *, -hc5, -hf5] at k5_3_1)
  have f5_3_1 := hf5 (w2.heap.size) 1 (by first | omega | (simp; done) | (simp; omega)); (try simp [go_sem, *, -hc5, -hf5] at f5_3_1)
  clear hc5 hf5
  clear k4_2_0 f4_2_0 k4_2_1 f4_2_1 k4_3_0 f4_3_0 k4_3_1 f4_3_1
  go_wp2_with fail
  go_ret
  exact ⟨rfl, (by repeat' (first | exact Below.refl _ _ | (refine Below.via ?_ (by assumption) ?_) | refine Below.setCell ?_ ?_ _ | refine Below.alloc ?_ ?_ _ | refine Below.drew ?_ | omega | (simp; omega) | (simp; done)))⟩
theorem opsStay_tf (op ak an bk bn : Int) (w : World) (t1 : ((unaryS op ak an).2.2 == -1) = true) (t2 : ((binaryS op ak an bk bn).2.2 == -1) = false) (z1 : (binaryS op ak an bk bn).1 = 0) (z2 : (binaryS op ak an bk bn).2.1 = 0) :
    Calls Try.prog 10 #[.int .i64 op, .agg #[.int .i64 ak, .int .i64 an], .agg #[.int .i64 bk, .int .i64 bn]] w fun e w' => e = .returned (.bool true) ∧ Below w.heap.size w w' := by
  have r1 := (ok_unary op ak an).1
  have r2 := (ok_binary op ak an bk bn).1
  go_enter Try.func10, Try.ntmps10
  go_wp2_with fail
  refine (unary_any _ _ _ _).mono ?_; rintro e w1 ⟨rfl, hb1⟩; obtain ⟨hc1, hf1⟩ := bcell hb1
  have hq1 := hb1.size; (try simp at hq1)
  have hz1_0 : w.heap.size < w1.heap.size := (by omega)
  have k1_0_0 := hc1 (w.heap.size) 0 (by first | omega | (simp; done) | (simp; omega)); (try simp [go_sem, *, -hc1, -hf1] at k1_0_0)
  have f1_0_0 := hf1 (w.heap.size) 0 (by first | omega | (simp; done) | (simp; omega)); (try simp [go_sem, *, -hc1, -hf1] at f1_0_0)
  have k1_0_1 := hc1 (w.heap.size) 1 (by first | omega | (simp; done) | (simp; omega)); (try simp [go_sem, *, -hc1, -hf1] at k1_0_1)
  have f1_0_1 := hf1 (w.heap.size) 1 (by first | omega | (simp; done) | (simp; omega)); (try simp [go_sem, *, -hc1, -hf1] at f1_0_1)
  have hz1_1 : w.heap.size + 1 < w1.heap.size := (by omega)
  have k1_1_0 := hc1 (w.heap.size + 1) 0 (by first | omega | (simp; done) | (simp; omega)); (try simp [go_sem, *, -hc1, -hf1] at k1_1_0)
  have f1_1_0 := hf1 (w.heap.size + 1) 0 (by first | omega | (simp; done) | (simp; omega)); (try simp [go_sem, *, -hc1, -hf1] at f1_1_0)
  have k1_1_1 := hc1 (w.heap.size + 1) 1 (by first | omega | (simp; done) | (simp; omega)); (try simp [go_sem, *, -hc1, -hf1] at k1_1_1)
  have f1_1_1 := hf1 (w.heap.size + 1) 1 (by first | omega | (simp; done) | (simp; omega)); (try simp [go_sem, *, -hc1, -hf1] at f1_1_1)
  clear hc1 hf1
  go_wp2_with fail
  refine (binary_any _ _ _ _ _ _).mono ?_; rintro e w2 ⟨rfl, hb2⟩; obtain ⟨hc2, hf2⟩ := bcell hb2
  have hq2 := hb2.size; (try simp at hq2)
  have hz2_2 : w1.heap.size < w2.heap.size := (by omega)
  have k2_2_0 := hc2 (w1.heap.size) 0 (by first | omega | (simp; done) | (simp; omega)); (try simp [go_sem, *, -hc2, -hf2] at k2_2_0)
  have f2_2_0 := hf2 (w1.heap.size) 0 (by first | omega | (simp; done) | (simp; omega)); (try simp [go_sem, *, -hc2, -hf2] at f2_2_0)
  have k2_2_1 := hc2 (w1.heap.size) 1 (by first | omega | (simp; done) | (simp; omega)); (try simp [go_sem, *, -hc2, -hf2] at k2_2_1)
  have f2_2_1 := hf2 (w1.heap.size) 1 (by first | omega | (simp; done) | (simp; omega)); (try simp [go_sem, *, -hc2, -hf2] at f2_2_1)
  clear hc2 hf2
  clear k1_0_0 f1_0_0 k1_0_1 f1_0_1 k1_1_0 f1_1_0 k1_1_1 f1_1_1
  go_wp2_with fail
  refine (opsLives_any _).mono ?_; rintro e w3 ⟨rfl, hb3⟩; obtain ⟨hc3, hf3⟩ := bcell hb3
  have hq3 := hb3.size; (try simp at hq3)
  have hz3_2 : w1.heap.size < w3.heap.size := (by omega)
  have k3_2_0 := hc3 (w1.heap.size) 0 (by first | omega | (simp; done) | (simp; omega)); (try simp [go_sem, *, -hc3, -hf3] at k3_2_0)
  have f3_2_0 := hf3 (w1.heap.size) 0 (by first | omega | (simp; done) | (simp; omega)); (try simp [go_sem, *, -hc3, -hf3] at f3_2_0)
  have k3_2_1 := hc3 (w1.heap.size) 1 (by first | omega | (simp; done) | (simp; omega)); (try simp [go_sem, *, -hc3, -hf3] at k3_2_1)
  have f3_2_1 := hf3 (w1.heap.size) 1 (by first | omega | (simp; done) | (simp; omega)); (try simp [go_sem, *, -hc3, -hf3] at f3_2_1)
  have hz3_3 : w2.heap.size < w3.heap.size := (by omega)
  have k3_3_0 := hc3 (w2.heap.size) 0 (by first | omega | (simp; done) | (simp; omega)); (try simp [go_sem, *, -hc3, -hf3] at k3_3_0)
  have f3_3_0 := hf3 (w2.heap.size) 0 (by first | omega | (simp; done) | (simp; omega)); (try simp [go_sem, *, -hc3, -hf3] at f3_3_0)
  have k3_3_1 := hc3 (w2.heap.size) 1 (by first | omega | (simp; done) | (simp; omega)); (try simp [go_sem, *, -hc3, -hf3] at k3_3_1)
  have f3_3_1 := hf3 (w2.heap.size) 1 (by first | omega | (simp; done) | (simp; omega)); (try simp [go_sem, *, -hc3, -hf3] at f3_3_1)
  clear hc3 hf3
  clear k2_2_0 f2_2_0 k2_2_1 f2_2_1
  go_wp2_with fail
  refine (right_any _ _ _).mono ?_; rintro e w4 ⟨rfl, hb4⟩; obtain ⟨hc4, hf4⟩ := bcell hb4
  have hq4 := hb4.size; (try simp at hq4)
  have hz4_2 : w1.heap.size < w4.heap.size := (by omega)
  have k4_2_0 := hc4 (w1.heap.size) 0 (by first | omega | (simp; done) | (simp; omega)); (try simp [go_sem, *, -hc4, -hf4] at k4_2_0)
  have f4_2_0 := hf4 (w1.heap.size) 0 (by first | omega | (simp; done) | (simp; omega)); (try simp [go_sem, *, -hc4, -hf4] at f4_2_0)
  have k4_2_1 := hc4 (w1.heap.size) 1 (by first | omega | (simp; done) | (simp; omega)); (try simp [go_sem, *, -hc4, -hf4] at k4_2_1)
  have f4_2_1 := hf4 (w1.heap.size) 1 (by first | omega | (simp; done) | (simp; omega)); (try simp [go_sem, *, -hc4, -hf4] at f4_2_1)
  have hz4_3 : w2.heap.size < w4.heap.size := (by omega)
  have k4_3_0 := hc4 (w2.heap.size) 0 (by first | omega | (simp; done) | (simp; omega)); (try simp [go_sem, *, -hc4, -hf4] at k4_3_0)
  have f4_3_0 := hf4 (w2.heap.size) 0 (by first | omega | (simp; done) | (simp; omega)); (try simp [go_sem, *, -hc4, -hf4] at f4_3_0)
  have k4_3_1 := hc4 (w2.heap.size) 1 (by first | omega | (simp; done) | (simp; omega)); (try simp [go_sem, *, -hc4, -hf4] at k4_3_1)
  have f4_3_1 := hf4 (w2.heap.size) 1 (by first | omega | (simp; done) | (simp; omega)); (try simp [go_sem, *, -hc4, -hf4] at f4_3_1)
  clear hc4 hf4
  clear k3_2_0 f3_2_0 k3_2_1 f3_2_1 k3_3_0 f3_3_0 k3_3_1 f3_3_1
  go_wp2_with fail
  refine (right_any _ _ _).mono ?_; rintro e w5 ⟨rfl, hb5⟩; obtain ⟨hc5, hf5⟩ := bcell hb5
  have hq5 := hb5.size; (try simp at hq5)
  have hz5_2 : w1.heap.size < w5.heap.size := (by omega)
  have k5_2_0 := hc5 (w1.heap.size) 0 (by first | omega | (simp; done) | (simp; omega)); (try simp [go_sem, *, -hc5, -hf5] at k5_2_0)
  have f5_2_0 := hf5 (w1.heap.size) 0 (by first | omega | (simp; done) | (simp; omega)); (try simp [go_sem, *, -hc5, -hf5] at f5_2_0)
  have k5_2_1 := hc5 (w1.heap.size) 1 (by first | omega | (simp; done) | (simp; omega)); (try simp [go_sem, *, -hc5, -hf5] at k5_2_1)
  have f5_2_1 := hf5 (w1.heap.size) 1 (by first | omega | (simp; done) | (simp; omega)); (try simp [go_sem, *, -hc5, -hf5] at f5_2_1)
  have hz5_3 : w2.heap.size < w5.heap.size := (by omega)
  have k5_3_0 := hc5 (w2.heap.size) 0 (by first | omega | (simp; done) | (simp; omega)); (try simp [go_sem, *, -hc5, -hf5] at k5_3_0)
  have f5_3_0 := hf5 (w2.heap.size) 0 (by first | omega | (simp; done) | (simp; omega)); (try simp [go_sem, *, -hc5, -hf5] at f5_3_0)
  have k5_3_1 := hc5 (w2.heap.size) 1 (by first | omega | (simp; done) | (simp; omega)); (try simp [go_sem, *, -hc5, -hf5] at k5_3_1)
  have f5_3_1 := hf5 (w2.heap.size) 1 (by first | omega | (simp; done) | (simp; omega)); (try simp [go_sem, *, -hc5, -hf5] at f5_3_1)
  clear hc5 hf5
  clear k4_2_0 f4_2_0 k4_2_1 f4_2_1 k4_3_0 f4_3_0 k4_3_1 f4_3_1
  go_wp2_with fail
  go_ret
  exact ⟨rfl, (by repeat' (first | exact Below.refl _ _ | (refine Below.via ?_ (by assumption) ?_) | refine Below.setCell ?_ ?_ _ | refine Below.alloc ?_ ?_ _ | refine Below.drew ?_ | omega | (simp; omega) | (simp; done)))⟩
theorem opsStay_ft (op ak an bk bn : Int) (w : World) (t1 : ((unaryS op ak an).2.2 == -1) = false) (t2 : ((binaryS op ak an bk bn).2.2 == -1) = true) (z1 : (unaryS op ak an).1 = 0) (z2 : (unaryS op ak an).2.1 = 0) :
    Calls Try.prog 10 #[.int .i64 op, .agg #[.int .i64 ak, .int .i64 an], .agg #[.int .i64 bk, .int .i64 bn]] w fun e w' => e = .returned (.bool true) ∧ Below w.heap.size w w' := by
  have r1 := (ok_unary op ak an).1
  have r2 := (ok_binary op ak an bk bn).1
  go_enter Try.func10, Try.ntmps10
  go_wp2_with fail
  refine (unary_any _ _ _ _).mono ?_; rintro e w1 ⟨rfl, hb1⟩; obtain ⟨hc1, hf1⟩ := bcell hb1
  have hq1 := hb1.size; (try simp at hq1)
  have hz1_0 : w.heap.size < w1.heap.size := (by omega)
  have k1_0_0 := hc1 (w.heap.size) 0 (by first | omega | (simp; done) | (simp; omega)); (try simp [go_sem, *, -hc1, -hf1] at k1_0_0)
  have f1_0_0 := hf1 (w.heap.size) 0 (by first | omega | (simp; done) | (simp; omega)); (try simp [go_sem, *, -hc1, -hf1] at f1_0_0)
  have k1_0_1 := hc1 (w.heap.size) 1 (by first | omega | (simp; done) | (simp; omega)); (try simp [go_sem, *, -hc1, -hf1] at k1_0_1)
  have f1_0_1 := hf1 (w.heap.size) 1 (by first | omega | (simp; done) | (simp; omega)); (try simp [go_sem, *, -hc1, -hf1] at f1_0_1)
  have hz1_1 : w.heap.size + 1 < w1.heap.size := (by omega)
  have k1_1_0 := hc1 (w.heap.size + 1) 0 (by first | omega | (simp; done) | (simp; omega)); (try simp [go_sem, *, -hc1, -hf1] at k1_1_0)
  have f1_1_0 := hf1 (w.heap.size + 1) 0 (by first | omega | (simp; done) | (simp; omega)); (try simp [go_sem, *, -hc1, -hf1] at f1_1_0)
  have k1_1_1 := hc1 (w.heap.size + 1) 1 (by first | omega | (simp; done) | (simp; omega)); (try simp [go_sem, *, -hc1, -hf1] at k1_1_1)
  have f1_1_1 := hf1 (w.heap.size + 1) 1 (by first | omega | (simp; done) | (simp; omega)); (try simp [go_sem, *, -hc1, -hf1] at f1_1_1)
  clear hc1 hf1
  go_wp2_with fail
  refine (binary_any _ _ _ _ _ _).mono ?_; rintro e w2 ⟨rfl, hb2⟩; obtain ⟨hc2, hf2⟩ := bcell hb2
  have hq2 := hb2.size; (try simp at hq2)
  have hz2_2 : w1.heap.size < w2.heap.size := (by omega)
  have k2_2_0 := hc2 (w1.heap.size) 0 (by first | omega | (simp; done) | (simp; omega)); (try simp [go_sem, *, -hc2, -hf2] at k2_2_0)
  have f2_2_0 := hf2 (w1.heap.size) 0 (by first | omega | (simp; done) | (simp; omega)); (try simp [go_sem, *, -hc2, -hf2] at f2_2_0)
  have k2_2_1 := hc2 (w1.heap.size) 1 (by first | omega | (simp; done) | (simp; omega)); (try simp [go_sem, *, -hc2, -hf2] at k2_2_1)
  have f2_2_1 := hf2 (w1.heap.size) 1 (by first | omega | (simp; done) | (simp; omega)); (try simp [go_sem, *, -hc2, -hf2] at f2_2_1)
  clear hc2 hf2
  clear k1_0_0 f1_0_0 k1_0_1 f1_0_1 k1_1_0 f1_1_0 k1_1_1 f1_1_1
  go_wp2_with fail
  refine (opsLives_any _).mono ?_; rintro e w3 ⟨rfl, hb3⟩; obtain ⟨hc3, hf3⟩ := bcell hb3
  have hq3 := hb3.size; (try simp at hq3)
  have hz3_2 : w1.heap.size < w3.heap.size := (by omega)
  have k3_2_0 := hc3 (w1.heap.size) 0 (by first | omega | (simp; done) | (simp; omega)); (try simp [go_sem, *, -hc3, -hf3] at k3_2_0)
  have f3_2_0 := hf3 (w1.heap.size) 0 (by first | omega | (simp; done) | (simp; omega)); (try simp [go_sem, *, -hc3, -hf3] at f3_2_0)
  have k3_2_1 := hc3 (w1.heap.size) 1 (by first | omega | (simp; done) | (simp; omega)); (try simp [go_sem, *, -hc3, -hf3] at k3_2_1)
  have f3_2_1 := hf3 (w1.heap.size) 1 (by first | omega | (simp; done) | (simp; omega)); (try simp [go_sem, *, -hc3, -hf3] at f3_2_1)
  have hz3_3 : w2.heap.size < w3.heap.size := (by omega)
  have k3_3_0 := hc3 (w2.heap.size) 0 (by first | omega | (simp; done) | (simp; omega)); (try simp [go_sem, *, -hc3, -hf3] at k3_3_0)
  have f3_3_0 := hf3 (w2.heap.size) 0 (by first | omega | (simp; done) | (simp; omega)); (try simp [go_sem, *, -hc3, -hf3] at f3_3_0)
  have k3_3_1 := hc3 (w2.heap.size) 1 (by first | omega | (simp; done) | (simp; omega)); (try simp [go_sem, *, -hc3, -hf3] at k3_3_1)
  have f3_3_1 := hf3 (w2.heap.size) 1 (by first | omega | (simp; done) | (simp; omega)); (try simp [go_sem, *, -hc3, -hf3] at f3_3_1)
  clear hc3 hf3
  clear k2_2_0 f2_2_0 k2_2_1 f2_2_1
  go_wp2_with fail
  refine (right_any _ _ _).mono ?_; rintro e w4 ⟨rfl, hb4⟩; obtain ⟨hc4, hf4⟩ := bcell hb4
  have hq4 := hb4.size; (try simp at hq4)
  have hz4_2 : w1.heap.size < w4.heap.size := (by omega)
  have k4_2_0 := hc4 (w1.heap.size) 0 (by first | omega | (simp; done) | (simp; omega)); (try simp [go_sem, *, -hc4, -hf4] at k4_2_0)
  have f4_2_0 := hf4 (w1.heap.size) 0 (by first | omega | (simp; done) | (simp; omega)); (try simp [go_sem, *, -hc4, -hf4] at f4_2_0)
  have k4_2_1 := hc4 (w1.heap.size) 1 (by first | omega | (simp; done) | (simp; omega)); (try simp [go_sem, *, -hc4, -hf4] at k4_2_1)
  have f4_2_1 := hf4 (w1.heap.size) 1 (by first | omega | (simp; done) | (simp; omega)); (try simp [go_sem, *, -hc4, -hf4] at f4_2_1)
  have hz4_3 : w2.heap.size < w4.heap.size := (by omega)
  have k4_3_0 := hc4 (w2.heap.size) 0 (by first | omega | (simp; done) | (simp; omega)); (try simp [go_sem, *, -hc4, -hf4] at k4_3_0)
  have f4_3_0 := hf4 (w2.heap.size) 0 (by first | omega | (simp; done) | (simp; omega)); (try simp [go_sem, *, -hc4, -hf4] at f4_3_0)
  have k4_3_1 := hc4 (w2.heap.size) 1 (by first | omega | (simp; done) | (simp; omega)); (try simp [go_sem, *, -hc4, -hf4] at k4_3_1)
  have f4_3_1 := hf4 (w2.heap.size) 1 (by first | omega | (simp; done) | (simp; omega)); (try simp [go_sem, *, -hc4, -hf4] at f4_3_1)
  clear hc4 hf4
  clear k3_2_0 f3_2_0 k3_2_1 f3_2_1 k3_3_0 f3_3_0 k3_3_1 f3_3_1
  go_wp2_with fail
  refine (right_any _ _ _).mono ?_; rintro e w5 ⟨rfl, hb5⟩; obtain ⟨hc5, hf5⟩ := bcell hb5
  have hq5 := hb5.size; (try simp at hq5)
  have hz5_2 : w1.heap.size < w5.heap.size := (by omega)
  have k5_2_0 := hc5 (w1.heap.size) 0 (by first | omega | (simp; done) | (simp; omega)); (try simp [go_sem, *, -hc5, -hf5] at k5_2_0)
  have f5_2_0 := hf5 (w1.heap.size) 0 (by first | omega | (simp; done) | (simp; omega)); (try simp [go_sem, *, -hc5, -hf5] at f5_2_0)
  have k5_2_1 := hc5 (w1.heap.size) 1 (by first | omega | (simp; done) | (simp; omega)); (try simp [go_sem, *, -hc5, -hf5] at k5_2_1)
  have f5_2_1 := hf5 (w1.heap.size) 1 (by first | omega | (simp; done) | (simp; omega)); (try simp [go_sem, *, -hc5, -hf5] at f5_2_1)
  have hz5_3 : w2.heap.size < w5.heap.size := (by omega)
  have k5_3_0 := hc5 (w2.heap.size) 0 (by first | omega | (simp; done) | (simp; omega)); (try simp [go_sem, *, -hc5, -hf5] at k5_3_0)
  have f5_3_0 := hf5 (w2.heap.size) 0 (by first | omega | (simp; done) | (simp; omega)); (try simp [go_sem, *, -hc5, -hf5] at f5_3_0)
  have k5_3_1 := hc5 (w2.heap.size) 1 (by first | omega | (simp; done) | (simp; omega)); (try simp [go_sem, *, -hc5, -hf5] at k5_3_1)
  have f5_3_1 := hf5 (w2.heap.size) 1 (by first | omega | (simp; done) | (simp; omega)); (try simp [go_sem, *, -hc5, -hf5] at f5_3_1)
  clear hc5 hf5
  clear k4_2_0 f4_2_0 k4_2_1 f4_2_1 k4_3_0 f4_3_0 k4_3_1 f4_3_1
  go_wp2_with fail
  go_ret
  exact ⟨rfl, (by repeat' (first | exact Below.refl _ _ | (refine Below.via ?_ (by assumption) ?_) | refine Below.setCell ?_ ?_ _ | refine Below.alloc ?_ ?_ _ | refine Below.drew ?_ | omega | (simp; omega) | (simp; done)))⟩
theorem opsStay_ff (op ak an bk bn : Int) (w : World) (t1 : ((unaryS op ak an).2.2 == -1) = false) (t2 : ((binaryS op ak an bk bn).2.2 == -1) = false) (z1 : (unaryS op ak an).1 = 0) (z2 : (unaryS op ak an).2.1 = 0) (z3 : (binaryS op ak an bk bn).1 = 0) (z4 : (binaryS op ak an bk bn).2.1 = 0) :
    Calls Try.prog 10 #[.int .i64 op, .agg #[.int .i64 ak, .int .i64 an], .agg #[.int .i64 bk, .int .i64 bn]] w fun e w' => e = .returned (.bool true) ∧ Below w.heap.size w w' := by
  have r1 := (ok_unary op ak an).1
  have r2 := (ok_binary op ak an bk bn).1
  go_enter Try.func10, Try.ntmps10
  go_wp2_with fail
  refine (unary_any _ _ _ _).mono ?_; rintro e w1 ⟨rfl, hb1⟩; obtain ⟨hc1, hf1⟩ := bcell hb1
  have hq1 := hb1.size; (try simp at hq1)
  have hz1_0 : w.heap.size < w1.heap.size := (by omega)
  have k1_0_0 := hc1 (w.heap.size) 0 (by first | omega | (simp; done) | (simp; omega)); (try simp [go_sem, *, -hc1, -hf1] at k1_0_0)
  have f1_0_0 := hf1 (w.heap.size) 0 (by first | omega | (simp; done) | (simp; omega)); (try simp [go_sem, *, -hc1, -hf1] at f1_0_0)
  have k1_0_1 := hc1 (w.heap.size) 1 (by first | omega | (simp; done) | (simp; omega)); (try simp [go_sem, *, -hc1, -hf1] at k1_0_1)
  have f1_0_1 := hf1 (w.heap.size) 1 (by first | omega | (simp; done) | (simp; omega)); (try simp [go_sem, *, -hc1, -hf1] at f1_0_1)
  have hz1_1 : w.heap.size + 1 < w1.heap.size := (by omega)
  have k1_1_0 := hc1 (w.heap.size + 1) 0 (by first | omega | (simp; done) | (simp; omega)); (try simp [go_sem, *, -hc1, -hf1] at k1_1_0)
  have f1_1_0 := hf1 (w.heap.size + 1) 0 (by first | omega | (simp; done) | (simp; omega)); (try simp [go_sem, *, -hc1, -hf1] at f1_1_0)
  have k1_1_1 := hc1 (w.heap.size + 1) 1 (by first | omega | (simp; done) | (simp; omega)); (try simp [go_sem, *, -hc1, -hf1] at k1_1_1)
  have f1_1_1 := hf1 (w.heap.size + 1) 1 (by first | omega | (simp; done) | (simp; omega)); (try simp [go_sem, *, -hc1, -hf1] at f1_1_1)
  clear hc1 hf1
  go_wp2_with fail
  refine (binary_any _ _ _ _ _ _).mono ?_; rintro e w2 ⟨rfl, hb2⟩; obtain ⟨hc2, hf2⟩ := bcell hb2
  have hq2 := hb2.size; (try simp at hq2)
  have hz2_2 : w1.heap.size < w2.heap.size := (by omega)
  have k2_2_0 := hc2 (w1.heap.size) 0 (by first | omega | (simp; done) | (simp; omega)); (try simp [go_sem, *, -hc2, -hf2] at k2_2_0)
  have f2_2_0 := hf2 (w1.heap.size) 0 (by first | omega | (simp; done) | (simp; omega)); (try simp [go_sem, *, -hc2, -hf2] at f2_2_0)
  have k2_2_1 := hc2 (w1.heap.size) 1 (by first | omega | (simp; done) | (simp; omega)); (try simp [go_sem, *, -hc2, -hf2] at k2_2_1)
  have f2_2_1 := hf2 (w1.heap.size) 1 (by first | omega | (simp; done) | (simp; omega)); (try simp [go_sem, *, -hc2, -hf2] at f2_2_1)
  clear hc2 hf2
  clear k1_0_0 f1_0_0 k1_0_1 f1_0_1 k1_1_0 f1_1_0 k1_1_1 f1_1_1
  go_wp2_with fail
  refine (opsLives_any _).mono ?_; rintro e w3 ⟨rfl, hb3⟩; obtain ⟨hc3, hf3⟩ := bcell hb3
  have hq3 := hb3.size; (try simp at hq3)
  have hz3_2 : w1.heap.size < w3.heap.size := (by omega)
  have k3_2_0 := hc3 (w1.heap.size) 0 (by first | omega | (simp; done) | (simp; omega)); (try simp [go_sem, *, -hc3, -hf3] at k3_2_0)
  have f3_2_0 := hf3 (w1.heap.size) 0 (by first | omega | (simp; done) | (simp; omega)); (try simp [go_sem, *, -hc3, -hf3] at f3_2_0)
  have k3_2_1 := hc3 (w1.heap.size) 1 (by first | omega | (simp; done) | (simp; omega)); (try simp [go_sem, *, -hc3, -hf3] at k3_2_1)
  have f3_2_1 := hf3 (w1.heap.size) 1 (by first | omega | (simp; done) | (simp; omega)); (try simp [go_sem, *, -hc3, -hf3] at f3_2_1)
  have hz3_3 : w2.heap.size < w3.heap.size := (by omega)
  have k3_3_0 := hc3 (w2.heap.size) 0 (by first | omega | (simp; done) | (simp; omega)); (try simp [go_sem, *, -hc3, -hf3] at k3_3_0)
  have f3_3_0 := hf3 (w2.heap.size) 0 (by first | omega | (simp; done) | (simp; omega)); (try simp [go_sem, *, -hc3, -hf3] at f3_3_0)
  have k3_3_1 := hc3 (w2.heap.size) 1 (by first | omega | (simp; done) | (simp; omega)); (try simp [go_sem, *, -hc3, -hf3] at k3_3_1)
  have f3_3_1 := hf3 (w2.heap.size) 1 (by first | omega | (simp; done) | (simp; omega)); (try simp [go_sem, *, -hc3, -hf3] at f3_3_1)
  clear hc3 hf3
  clear k2_2_0 f2_2_0 k2_2_1 f2_2_1
  go_wp2_with fail
  refine (right_any _ _ _).mono ?_; rintro e w4 ⟨rfl, hb4⟩; obtain ⟨hc4, hf4⟩ := bcell hb4
  have hq4 := hb4.size; (try simp at hq4)
  have hz4_2 : w1.heap.size < w4.heap.size := (by omega)
  have k4_2_0 := hc4 (w1.heap.size) 0 (by first | omega | (simp; done) | (simp; omega)); (try simp [go_sem, *, -hc4, -hf4] at k4_2_0)
  have f4_2_0 := hf4 (w1.heap.size) 0 (by first | omega | (simp; done) | (simp; omega)); (try simp [go_sem, *, -hc4, -hf4] at f4_2_0)
  have k4_2_1 := hc4 (w1.heap.size) 1 (by first | omega | (simp; done) | (simp; omega)); (try simp [go_sem, *, -hc4, -hf4] at k4_2_1)
  have f4_2_1 := hf4 (w1.heap.size) 1 (by first | omega | (simp; done) | (simp; omega)); (try simp [go_sem, *, -hc4, -hf4] at f4_2_1)
  have hz4_3 : w2.heap.size < w4.heap.size := (by omega)
  have k4_3_0 := hc4 (w2.heap.size) 0 (by first | omega | (simp; done) | (simp; omega)); (try simp [go_sem, *, -hc4, -hf4] at k4_3_0)
  have f4_3_0 := hf4 (w2.heap.size) 0 (by first | omega | (simp; done) | (simp; omega)); (try simp [go_sem, *, -hc4, -hf4] at f4_3_0)
  have k4_3_1 := hc4 (w2.heap.size) 1 (by first | omega | (simp; done) | (simp; omega)); (try simp [go_sem, *, -hc4, -hf4] at k4_3_1)
  have f4_3_1 := hf4 (w2.heap.size) 1 (by first | omega | (simp; done) | (simp; omega)); (try simp [go_sem, *, -hc4, -hf4] at f4_3_1)
  clear hc4 hf4
  clear k3_2_0 f3_2_0 k3_2_1 f3_2_1 k3_3_0 f3_3_0 k3_3_1 f3_3_1
  go_wp2_with fail
  refine (right_any _ _ _).mono ?_; rintro e w5 ⟨rfl, hb5⟩; obtain ⟨hc5, hf5⟩ := bcell hb5
  have hq5 := hb5.size; (try simp at hq5)
  have hz5_2 : w1.heap.size < w5.heap.size := (by omega)
  have k5_2_0 := hc5 (w1.heap.size) 0 (by first | omega | (simp; done) | (simp; omega)); (try simp [go_sem, *, -hc5, -hf5] at k5_2_0)
  have f5_2_0 := hf5 (w1.heap.size) 0 (by first | omega | (simp; done) | (simp; omega)); (try simp [go_sem, *, -hc5, -hf5] at f5_2_0)
  have k5_2_1 := hc5 (w1.heap.size) 1 (by first | omega | (simp; done) | (simp; omega)); (try simp [go_sem, *, -hc5, -hf5] at k5_2_1)
  have f5_2_1 := hf5 (w1.heap.size) 1 (by first | omega | (simp; done) | (simp; omega)); (try simp [go_sem, *, -hc5, -hf5] at f5_2_1)
  have hz5_3 : w2.heap.size < w5.heap.size := (by omega)
  have k5_3_0 := hc5 (w2.heap.size) 0 (by first | omega | (simp; done) | (simp; omega)); (try simp [go_sem, *, -hc5, -hf5] at k5_3_0)
  have f5_3_0 := hf5 (w2.heap.size) 0 (by first | omega | (simp; done) | (simp; omega)); (try simp [go_sem, *, -hc5, -hf5] at f5_3_0)
  have k5_3_1 := hc5 (w2.heap.size) 1 (by first | omega | (simp; done) | (simp; omega)); (try simp [go_sem, *, -hc5, -hf5] at k5_3_1)
  have f5_3_1 := hf5 (w2.heap.size) 1 (by first | omega | (simp; done) | (simp; omega)); (try simp [go_sem, *, -hc5, -hf5] at f5_3_1)
  clear hc5 hf5
  clear k4_2_0 f4_2_0 k4_2_1 f4_2_1 k4_3_0 f4_3_0 k4_3_1 f4_3_1
  go_wp2_with fail
  go_ret
  exact ⟨rfl, (by repeat' (first | exact Below.refl _ _ | (refine Below.via ?_ (by assumption) ?_) | refine Below.setCell ?_ ?_ _ | refine Below.alloc ?_ ?_ _ | refine Below.drew ?_ | omega | (simp; omega) | (simp; done)))⟩
theorem opsStay_walk (op ak an bk bn : Int) (w : World) :
    Calls Try.prog 10 #[.int .i64 op, .agg #[.int .i64 ak, .int .i64 an], .agg #[.int .i64 bk, .int .i64 bn]] w fun e w' => e = .returned (.bool true) ∧ Below w.heap.size w w' := by
  have h1 := (ok_unary op ak an).2
  have h2 := (ok_binary op ak an bk bn).2
  cases t1 : ((unaryS op ak an).2.2 == -1)
  · have z := h1.resolve_left (by simpa using t1)
    cases t2 : ((binaryS op ak an bk bn).2.2 == -1)
    · have z' := h2.resolve_left (by simpa using t2)
      exact opsStay_ff op ak an bk bn w t1 t2 z.1 z.2 z'.1 z'.2
    · exact opsStay_ft op ak an bk bn w t1 t2 z.1 z.2
  · cases t2 : ((binaryS op ak an bk bn).2.2 == -1)
    · have z' := h2.resolve_left (by simpa using t2)
      exact opsStay_tf op ak an bk bn w t1 t2 z'.1 z'.2
    · exact opsStay_tt op ak an bk bn w t1 t2
/-! ### THE ROW: OpsStay (after the kit's skeleton) -/
namespace opsStay
open Go.ChangeShapes Go.WideShapes Go.ChangeAt Go.RowKit Go.Joins
theorem own : ownKnob Try.prog.godebug = none := by kernel_rfl
theorem laidOut : laidOutB Try.prog = true := by kernel_rfl
set_option maxRecDepth 100000 in
theorem lifted (os : Os) (started : os.Started) (H : Type) (enc : TypeId × Value → H) :
    ReturnsInHanded {} Try.checked os 10 .any (Rows.opsStaySpec.pre6 enc Try.prog Try.f10 Rows.opsStayRow.domain false) (Rows.opsStaySpec.post enc Try.prog Try.f10 false true false false) := by
  refine returnsInHanded_of_change (C := Try.checked) own started (by kernel_rfl) Try.func10
    (ChangeSpec.witness6 (enc := enc) (C := Try.checked) false ⟨#[], #[.int .i64 0, .agg #[.int .i64 0, .int .i64 0], .agg #[.int .i64 0, .int .i64 0]], []⟩ 8 (by kernel_rfl) (by kernel_rfl) (by kernel_rfl) (by kernel_rfl)) ?_
  intro W base args ds gs before hval0 hW hcnd _
  have hval : ∀ (j : Nat) t v, Try.f10.params[j]? = some t → args[j]? = some v → Value.okWide Try.prog W .any base t v := hval0
  have hW' := hW
  obtain ⟨p, q, hA0, hV, rfl, hfz, hnd⟩ := hW
  have hA : DataW.TrodAll enc Try.prog W 0 (fun _ => true) true Try.f10.params.toList args.toList ds p := hA0
  rw [Try.params10] at hA hval
  obtain ⟨v0, vs0, d0, ds0, p0, q0, hargs, rfl, rfl, h0, r0⟩ := trodAll_cons hA
  obtain ⟨v1, vs1, d1, ds1, p1, q1, rfl, rfl, rfl, h1, r1⟩ := trodAll_cons r0
  obtain ⟨v2, vs2, d2, ds2, p2, q2, rfl, rfl, rfl, h2, r2⟩ := trodAll_cons r1
  obtain ⟨rfl, rfl, rfl⟩ := trodAll_nil r2
  obtain rfl : args = #[v0, v1, v2] := by cases args; simp_all
  obtain ⟨rfl, rfl⟩ := trodVars_none hV
  have kk0 := h0
  have lt0 : ∀ x ∈ p0, x.block < W.heap.size := by obtain ⟨m, hm⟩ := kk0; exact DataW.trod_lt m _ _ _ hm
  have kk1 := h1
  have lt1 : ∀ x ∈ p1, x.block < W.heap.size := by obtain ⟨m, hm⟩ := kk1; exact DataW.trod_lt m _ _ _ hm
  have kk2 := h2
  have lt2 : ∀ x ∈ p2, x.block < W.heap.size := by obtain ⟨m, hm⟩ := kk2; exact DataW.trod_lt m _ _ _ hm
  obtain ⟨a0, rfl, rfl, rfl, g0⟩ := open_int Try.underlying3 (hval 0 3 v0 rfl rfl) h0
  obtain ⟨c1a, c1b, y1a, y1b, m1, rfl, rfl, rfl, hy1a, hy1b⟩ := open_agg2 Try.underlying43 (by kernel_rfl) (by kernel_rfl) (hval 1 43 v1 rfl rfl) h1
  obtain ⟨k1, ea1, rfl, wk1⟩ := DataW.trod_int Try.underlying3 hy1a
  obtain ⟨n1, eb1, rfl, wn1⟩ := DataW.trod_int Try.underlying3 hy1b
  simp at ea1 eb1
  subst ea1 eb1
  obtain ⟨c2a, c2b, y2a, y2b, m2, rfl, rfl, rfl, hy2a, hy2b⟩ := open_agg2 Try.underlying43 (by kernel_rfl) (by kernel_rfl) (hval 2 43 v2 rfl rfl) h2
  obtain ⟨k2, ea2, rfl, wk2⟩ := DataW.trod_int Try.underlying3 hy2a
  obtain ⟨n2, eb2, rfl, wn2⟩ := DataW.trod_int Try.underlying3 hy2b
  simp at ea2 eb2
  subst ea2 eb2
  clear hA0 hval0
  refine (opsStay_walk a0 k1 n1 k2 n2 W).mono fun e W' ⟨he, bel⟩ => ?_
  subst he
  exact ⟨_, rfl, _, _, _, [], _, [], hW', trodAll_mk1 (shut_bool Try.underlying4 _), (trodAll_cons_mk (Below.trod laidOut (by kernel_rfl) (of_decide_eq_true (by kernel_rfl)) kk0 bel lt0) (trodAll_cons_mk (Below.trod laidOut (by kernel_rfl) (of_decide_eq_true (by kernel_rfl)) kk1 bel lt1) (trodAll_cons_mk (Below.trod laidOut (by kernel_rfl) (of_decide_eq_true (by kernel_rfl)) kk2 bel lt2) trodAll_mk0))), rfl, bel.frame _, fun h => by cases h⟩
theorem over : Rows.opsStayRow.holds Try.pinned (OpenSpec.ofChange Rows.opsStaySpec) :=
  OpenClaim.holds_of_wide 10 Try.f10 rfl rfl rfl rfl rfl rfl rfl ⟨rfl, rfl, rfl, rfl, rfl⟩ rfl rfl rfl rfl rfl (by kernel_rfl) Try.func10 (by kernel_rfl)
    (of_decide_eq_true (by kernel_rfl)) (by unfold Func.isWrapper; first | (rw [if_pos (by decide +kernel)]; kernel_rfl) | (rw [if_neg (by decide +kernel)]; exact ⟨rfl, rfl⟩))
    (fun os started H enc _ => lifted os started H enc)
end opsStay
theorem opsStay_holds : Rows.OpsStaySaid := opsStay.over
#print axioms opsStay_holds
end Go.Proofs.Ytalippdhfkpbmaa
