/- What every law on the operators asks first: that they live. -/
import Derived.Test.YtalippdhfkpbmaaOpsI
namespace Go.Proofs.Ytalippdhfkpbmaa
open Go.RowKit
theorem num_any (n : Int) (w : World) :
    Calls Try.prog 25 #[.int .i64 n] w fun e w' => e = .returned (.agg #[.int .i64 2, .int .i64 n]) ∧ Below w.heap.size w w' := by
  go_enter Try.func25, Try.ntmps25
  go_wp2
  refine bodyPost_ret (v := .agg #[.int .i64 2, .int .i64 n]) (by simp [results, Try.results25, go_sem, *] <;> rfl) rfl ?_
  exact ⟨rfl, (by repeat' (first | exact Below.refl _ _ | (refine Below.via ?_ (by assumption) ?_) | refine Below.setCell ?_ ?_ _ | refine Below.alloc ?_ ?_ _ | refine Below.drew ?_ | omega | (simp; omega) | (simp; done)))⟩
set_option maxHeartbeats 1000000 in
theorem opsLives_any (w : World) :
    Calls Try.prog 26 #[] w fun e w' => e = .returned (.bool true) ∧ Below w.heap.size w w' := by
  have h1 : binaryS 5 2 2 2 3 = (2, 6, -1) := by kernel_rfl
  have h2 : binaryS 6 2 1 2 0 = (0, 0, 2) := by kernel_rfl
  have h3 : binaryS 3 2 2147483647 2 1 = (0, 0, 1) := by kernel_rfl
  have h4 : truthB 0 0 = false := by kernel_rfl
  have h5 : truthB 2 0 = true := by kernel_rfl
  go_enter Try.func26, Try.ntmps26
  go_wp2_with fail
  refine (num_any _ _).mono ?_; rintro e w1 ⟨rfl, hb1⟩; obtain ⟨hc1, hf1⟩ := bcell hb1
  have hq1 := hb1.size; (try simp at hq1)
  clear hc1 hf1
  go_wp2_with fail
  refine (num_any _ _).mono ?_; rintro e w2 ⟨rfl, hb2⟩; obtain ⟨hc2, hf2⟩ := bcell hb2
  have hq2 := hb2.size; (try simp at hq2)
  clear hc2 hf2
  go_wp2_with fail
  refine (binary_any _ _ _ _ _ _).mono ?_; rintro e w3 ⟨rfl, hb3⟩; obtain ⟨hc3, hf3⟩ := bcell hb3
  have hq3 := hb3.size; (try simp at hq3)
  clear hc3 hf3
  go_wp2_with fail
  refine (num_any _ _).mono ?_; rintro e w4 ⟨rfl, hb4⟩; obtain ⟨hc4, hf4⟩ := bcell hb4
  have hq4 := hb4.size; (try simp at hq4)
  have hz4_0 : w3.heap.size < w4.heap.size := (by omega)
  have k4_0_0 := hc4 (w3.heap.size) 0 (by first | omega | (simp; done) | (simp; omega)); (try simp [go_sem, *, -hc4, -hf4] at k4_0_0)
  have k4_0_1 := hc4 (w3.heap.size) 1 (by first | omega | (simp; done) | (simp; omega)); (try simp [go_sem, *, -hc4, -hf4] at k4_0_1)
  clear hc4 hf4
  go_wp2_with fail
  refine (num_any _ _).mono ?_; rintro e w5 ⟨rfl, hb5⟩; obtain ⟨hc5, hf5⟩ := bcell hb5
  have hq5 := hb5.size; (try simp at hq5)
  have hz5_0 : w3.heap.size < w5.heap.size := (by omega)
  have k5_0_0 := hc5 (w3.heap.size) 0 (by first | omega | (simp; done) | (simp; omega)); (try simp [go_sem, *, -hc5, -hf5] at k5_0_0)
  have k5_0_1 := hc5 (w3.heap.size) 1 (by first | omega | (simp; done) | (simp; omega)); (try simp [go_sem, *, -hc5, -hf5] at k5_0_1)
  clear hc5 hf5
  clear k4_0_0 k4_0_1
  go_wp2_with fail
  refine (binary_any _ _ _ _ _ _).mono ?_; rintro e w6 ⟨rfl, hb6⟩; obtain ⟨hc6, hf6⟩ := bcell hb6
  have hq6 := hb6.size; (try simp at hq6)
  have hz6_0 : w3.heap.size < w6.heap.size := (by omega)
  have k6_0_0 := hc6 (w3.heap.size) 0 (by first | omega | (simp; done) | (simp; omega)); (try simp [go_sem, *, -hc6, -hf6] at k6_0_0)
  have k6_0_1 := hc6 (w3.heap.size) 1 (by first | omega | (simp; done) | (simp; omega)); (try simp [go_sem, *, -hc6, -hf6] at k6_0_1)
  clear hc6 hf6
  clear k5_0_0 k5_0_1
  go_wp2_with fail
  refine (num_any _ _).mono ?_; rintro e w7 ⟨rfl, hb7⟩; obtain ⟨hc7, hf7⟩ := bcell hb7
  have hq7 := hb7.size; (try simp at hq7)
  have hz7_0 : w3.heap.size < w7.heap.size := (by omega)
  have k7_0_0 := hc7 (w3.heap.size) 0 (by first | omega | (simp; done) | (simp; omega)); (try simp [go_sem, *, -hc7, -hf7] at k7_0_0)
  have k7_0_1 := hc7 (w3.heap.size) 1 (by first | omega | (simp; done) | (simp; omega)); (try simp [go_sem, *, -hc7, -hf7] at k7_0_1)
  clear hc7 hf7
  clear k6_0_0 k6_0_1
  go_wp2_with fail
  refine (num_any _ _).mono ?_; rintro e w8 ⟨rfl, hb8⟩; obtain ⟨hc8, hf8⟩ := bcell hb8
  have hq8 := hb8.size; (try simp at hq8)
  have hz8_0 : w3.heap.size < w8.heap.size := (by omega)
  have k8_0_0 := hc8 (w3.heap.size) 0 (by first | omega | (simp; done) | (simp; omega)); (try simp [go_sem, *, -hc8, -hf8] at k8_0_0)
  have k8_0_1 := hc8 (w3.heap.size) 1 (by first | omega | (simp; done) | (simp; omega)); (try simp [go_sem, *, -hc8, -hf8] at k8_0_1)
  clear hc8 hf8
  clear k7_0_0 k7_0_1
  go_wp2_with fail
  refine (binary_any _ _ _ _ _ _).mono ?_; rintro e w9 ⟨rfl, hb9⟩; obtain ⟨hc9, hf9⟩ := bcell hb9
  have hq9 := hb9.size; (try simp at hq9)
  have hz9_0 : w3.heap.size < w9.heap.size := (by omega)
  have k9_0_0 := hc9 (w3.heap.size) 0 (by first | omega | (simp; done) | (simp; omega)); (try simp [go_sem, *, -hc9, -hf9] at k9_0_0)
  have k9_0_1 := hc9 (w3.heap.size) 1 (by first | omega | (simp; done) | (simp; omega)); (try simp [go_sem, *, -hc9, -hf9] at k9_0_1)
  clear hc9 hf9
  clear k8_0_0 k8_0_1
  go_wp2_with fail
  refine wp_region_plan [0, 0, 3, 7, 15, 31, 63, 127, 255, 511, 1023, 2047, 4095, 4095, 16383, 32767, 65535, 131071, 262143, 524287, 1048575, 2097151, 4194303, 8388607, 16777215, 33554431, 67108863, 134217727, 268435455, 536870911] (.seg 0 (.eff 1 [0] (.seg 2 (.seg 3 (.seg 4 (.seg 5 (.seg 6 (.seg 7 (.seg 8 (.seg 9 (.seg 10 (.seg 11 (.seg 12 (.seg 13 (.seg 14 (.seg 15 (.seg 16 (.seg 17 (.seg 18 (.seg 19 (.seg 20 (.seg 21 (.eff 22 [] (.seg 23 (.seg 24 (.seg 25 (.eff 26 [] (.eff 27 [] (.seg 28 (.seg 29 .last)))))))))))))))))))))))))))))) rfl (by kernel_rfl) rfl ?_
  iterate 1 (refine plan_seg rfl (fun _ _ => ?_); go_wp2_with fail)
  refine plan_eff rfl (fun _ hQ => ?_)
  go_wp2_with fail
  refine (num_any _ _).mono ?_; rintro e w10 ⟨rfl, hb10⟩; obtain ⟨hc10, hf10⟩ := bcell hb10
  have hq10 := hb10.size; (try simp at hq10)
  have hz10_0 : w3.heap.size < w10.heap.size := (by omega)
  have k10_0_0 := hc10 (w3.heap.size) 0 (by first | omega | (simp; done) | (simp; omega)); (try simp [go_sem, *, -hc10, -hf10] at k10_0_0)
  have k10_0_1 := hc10 (w3.heap.size) 1 (by first | omega | (simp; done) | (simp; omega)); (try simp [go_sem, *, -hc10, -hf10] at k10_0_1)
  have hz10_2 : w9.heap.size < w10.heap.size := (by omega)
  have k10_2_0 := hc10 (w9.heap.size) 0 (by first | omega | (simp; done) | (simp; omega)); (try simp [go_sem, *, -hc10, -hf10] at k10_2_0)
  have k10_2_1 := hc10 (w9.heap.size) 1 (by first | omega | (simp; done) | (simp; omega)); (try simp [go_sem, *, -hc10, -hf10] at k10_2_1)
  clear hc10 hf10
  clear k9_0_0 k9_0_1
  go_wp2_with fail
  refine hQ _ _ (pend_cons rfl rfl (by go_simp; rfl) <|  pend_nil) ?_
  iterate 20 (refine plan_seg rfl (fun _ _ => ?_); go_wp2_with fail)
  refine plan_eff0 rfl (fun _ _ => ?_)
  go_wp2_with fail
  refine (truthV_any _ _ _).mono ?_; rintro e w11 ⟨rfl, hb11⟩; obtain ⟨hc11, hf11⟩ := bcell hb11
  have hq11 := hb11.size; (try simp at hq11)
  clear hc11 hf11
  clear k10_0_0 k10_0_1 k10_2_0 k10_2_1
  go_wp2_with fail
  iterate 3 (refine plan_seg rfl (fun _ _ => ?_); go_wp2_with fail)
  refine plan_eff0 rfl (fun _ _ => ?_)
  go_wp2_with fail
  refine (num_any _ _).mono ?_; rintro e w12 ⟨rfl, hb12⟩; obtain ⟨hc12, hf12⟩ := bcell hb12
  have hq12 := hb12.size; (try simp at hq12)
  clear hc12 hf12
  go_wp2_with fail
  refine plan_eff0 rfl (fun _ _ => ?_)
  go_wp2_with fail
  refine (truthV_any _ _ _).mono ?_; rintro e w13 ⟨rfl, hb13⟩; obtain ⟨hc13, hf13⟩ := bcell hb13
  have hq13 := hb13.size; (try simp at hq13)
  clear hc13 hf13
  go_wp2_with fail
  iterate 2 (refine plan_seg rfl (fun _ _ => ?_); go_wp2_with fail)
  refine plan_last ?_
  go_wp2_with fail
  go_ret
  exact ⟨rfl, (by repeat' (first | exact Below.refl _ _ | (refine Below.via ?_ (by assumption) ?_) | refine Below.setCell ?_ ?_ _ | refine Below.alloc ?_ ?_ _ | refine Below.drew ?_ | omega | (simp; omega) | (simp; done)))⟩
end Go.Proofs.Ytalippdhfkpbmaa
