/- OpsOrder: for every two values the law answers true: of less, the other way less and same at most one is true; just one, if they are whole; less or same is what it says. No condition. -/
import Derived.Test.YtalippdhfkpbmaaOpsL
import Derived.Test.YtalippdhfkpbmaaOpsQ
import Derived.OpenShut
import Derived.ChangeOld
import Derived.Lib.SmallJoins
namespace Go.Proofs.Ytalippdhfkpbmaa
open Go.RowKit
theorem truth_bit (b : Bool) : truthB 1 (bit b) = b := by cases b <;> decide
theorem bit_eq (b : Bool) : (bit b == 0) = !b := by cases b <;> decide
set_option maxHeartbeats 1000000 in
theorem opsOrder_n (ak an bk bn : Int) (w : World) (wh : Bool) (hk : (ak == 2) = wh) (hw : (wh && true) = false)
    (h1 : binaryS 9 ak an bk bn = (1, bit false, -1)) (h2 : binaryS 9 bk bn ak an = (1, bit false, -1)) (h3 : binaryS 8 ak an bk bn = (1, bit false, -1)) (h4 : binaryS 10 ak an bk bn = (1, bit (false || false), -1)) :
    Calls Try.prog 9 #[.agg #[.int .i64 ak, .int .i64 an], .agg #[.int .i64 bk, .int .i64 bn]] w fun e w' => e = .returned (.bool true) ∧ Below w.heap.size w w' := by
  have tt : truthB 1 (bit true) = true := truth_bit true
  have tf : truthB 1 (bit false) = false := truth_bit false
  have i0 : ∀ (a b c d e f : Int) (w : World), (Instr.index 50 (.agg #[.int .i64 a, .int .i64 b, .int .i64 c, .int .i64 d, .int .i64 e, .int .i64 f]) (.int .i64 0)).run Try.prog w = .ok (.agg #[.int .i64 a, .int .i64 b]) w := fun _ _ _ _ _ _ _ => by kernel_rfl
  have i1 : ∀ (a b c d e f : Int) (w : World), (Instr.index 50 (.agg #[.int .i64 a, .int .i64 b, .int .i64 c, .int .i64 d, .int .i64 e, .int .i64 f]) (.int .i64 1)).run Try.prog w = .ok (.agg #[.int .i64 c, .int .i64 d]) w := fun _ _ _ _ _ _ _ => by kernel_rfl
  have i2 : ∀ (a b c d e f : Int) (w : World), (Instr.index 50 (.agg #[.int .i64 a, .int .i64 b, .int .i64 c, .int .i64 d, .int .i64 e, .int .i64 f]) (.int .i64 2)).run Try.prog w = .ok (.agg #[.int .i64 e, .int .i64 f]) w := fun _ _ _ _ _ _ _ => by kernel_rfl
  cases wh <;> simp only [Bool.true_and, Bool.false_and, Bool.and_true, Bool.and_false] at hw <;> first | (cases hw; done) | skip
  all_goals
    try clear hw
    go_enter Try.func9, Try.ntmps9
    go_wp2_with fail
    refine (binary_any _ _ _ _ _ _).mono ?_; rintro e w1 ⟨rfl, hb1⟩; obtain ⟨hc1, hf1⟩ := bcell hb1
    have hq1 := hb1.size; (try simp at hq1)
    have hz1_0 : w.heap.size < w1.heap.size := (by omega)
    have k1_0_0 := hc1 (w.heap.size) 0 (by first | omega | (simp; done) | (simp; omega)); (try simp [go_sem, *, -hc1, -hf1] at k1_0_0)
    have f1_0_0 := hf1 (w.heap.size) 0 (by first | omega | (simp; done) | (simp; omega)); (try simp [go_sem, *, -hc1, -hf1] at f1_0_0)
    have k1_0_1 := hc1 (w.heap.size) 1 (by first | omega | (simp; done) | (simp; omega)); (try simp [go_sem, *, -hc1, -hf1] at k1_0_1)
    have f1_0_1 := hf1 (w.heap.size) 1 (by first | omega | (simp; done) | (simp; omega)); (try simp [go_sem, *, -hc1, -hf1] at f1_0_1)
    have hz1_1 : w.heap.size + 1 < w1.heap.size := (by omega)
    have k1_1_0 := hc1 (w.heap.size + 1) 0 (by first | omega | (simp; done) | (simp; omega)); (try simp [go_sem, *, -hc1, -hf1] at k1_1_0)
    have f1_1_0 := hf1 (w.heap.size + 1) 0 (by first | omega | (simp; done) | (simp; omega)); (try simp [go_sem, *, -hc1, -hf1] at f1_1_0)
    have k1_1_1 := hc1 (w.heap.size + 1) 1 (by first | omega | (simp; done) | (simp; omega)); (try simp [go_sem, *, -hc1, -hf1] at k1_1_1)
    have f1_1_1 := hf1 (w.heap.size + 1) 1 (by first | omega | (simp; done) | (simp; omega)); (try simp [go_sem, *, -hc1, -hf1] at f1_1_1)
    clear hc1 hf1
    go_wp2_with fail
    refine (binary_any _ _ _ _ _ _).mono ?_; rintro e w2 ⟨rfl, hb2⟩; obtain ⟨hc2, hf2⟩ := bcell hb2
    have hq2 := hb2.size; (try simp at hq2)
    have hz2_0 : w.heap.size < w2.heap.size := (by omega)
    have k2_0_0 := hc2 (w.heap.size) 0 (by first | omega | (simp; done) | (simp; omega)); (try simp [go_sem, *, -hc2, -hf2] at k2_0_0)
    have f2_0_0 := hf2 (w.heap.size) 0 (by first | omega | (simp; done) | (simp; omega)); (try simp [go_sem, *, -hc2, -hf2] at f2_0_0)
    have k2_0_1 := hc2 (w.heap.size) 1 (by first | omega | (simp; done) | (simp; omega)); (try simp [go_sem, *, -hc2, -hf2] at k2_0_1)
    have f2_0_1 := hf2 (w.heap.size) 1 (by first | omega | (simp; done) | (simp; omega)); (try simp [go_sem, *, -hc2, -hf2] at f2_0_1)
    have hz2_1 : w.heap.size + 1 < w2.heap.size := (by omega)
    have k2_1_0 := hc2 (w.heap.size + 1) 0 (by first | omega | (simp; done) | (simp; omega)); (try simp [go_sem, *, -hc2, -hf2] at k2_1_0)
    have f2_1_0 := hf2 (w.heap.size + 1) 0 (by first | omega | (simp; done) | (simp; omega)); (try simp [go_sem, *, -hc2, -hf2] at f2_1_0)
    have k2_1_1 := hc2 (w.heap.size + 1) 1 (by first | omega | (simp; done) | (simp; omega)); (try simp [go_sem, *, -hc2, -hf2] at k2_1_1)
    have f2_1_1 := hf2 (w.heap.size + 1) 1 (by first | omega | (simp; done) | (simp; omega)); (try simp [go_sem, *, -hc2, -hf2] at f2_1_1)
    have hz2_2 : w1.heap.size < w2.heap.size := (by omega)
    have k2_2_0 := hc2 (w1.heap.size) 0 (by first | omega | (simp; done) | (simp; omega)); (try simp [go_sem, *, -hc2, -hf2] at k2_2_0)
    have f2_2_0 := hf2 (w1.heap.size) 0 (by first | omega | (simp; done) | (simp; omega)); (try simp [go_sem, *, -hc2, -hf2] at f2_2_0)
    have k2_2_1 := hc2 (w1.heap.size) 1 (by first | omega | (simp; done) | (simp; omega)); (try simp [go_sem, *, -hc2, -hf2] at k2_2_1)
    have f2_2_1 := hf2 (w1.heap.size) 1 (by first | omega | (simp; done) | (simp; omega)); (try simp [go_sem, *, -hc2, -hf2] at f2_2_1)
    clear hc2 hf2
    clear k1_0_0 f1_0_0 k1_0_1 f1_0_1 k1_1_0 f1_1_0 k1_1_1 f1_1_1
    go_wp2_with fail
    refine (binary_any _ _ _ _ _ _).mono ?_; rintro e w3 ⟨rfl, hb3⟩; obtain ⟨hc3, hf3⟩ := bcell hb3
    have hq3 := hb3.size; (try simp at hq3)
    have hz3_0 : w.heap.size < w3.heap.size := (by omega)
    have k3_0_0 := hc3 (w.heap.size) 0 (by first | omega | (simp; done) | (simp; omega)); (try simp [go_sem, *, -hc3, -hf3] at k3_0_0)
    have f3_0_0 := hf3 (w.heap.size) 0 (by first | omega | (simp; done) | (simp; omega)); (try simp [go_sem, *, -hc3, -hf3] at f3_0_0)
    have k3_0_1 := hc3 (w.heap.size) 1 (by first | omega | (simp; done) | (simp; omega)); (try simp [go_sem, *, -hc3, -hf3] at k3_0_1)
    have f3_0_1 := hf3 (w.heap.size) 1 (by first | omega | (simp; done) | (simp; omega)); (try simp [go_sem, *, -hc3, -hf3] at f3_0_1)
    have hz3_1 : w.heap.size + 1 < w3.heap.size := (by omega)
    have k3_1_0 := hc3 (w.heap.size + 1) 0 (by first | omega | (simp; done) | (simp; omega)); (try simp [go_sem, *, -hc3, -hf3] at k3_1_0)
    have f3_1_0 := hf3 (w.heap.size + 1) 0 (by first | omega | (simp; done) | (simp; omega)); (try simp [go_sem, *, -hc3, -hf3] at f3_1_0)
    have k3_1_1 := hc3 (w.heap.size + 1) 1 (by first | omega | (simp; done) | (simp; omega)); (try simp [go_sem, *, -hc3, -hf3] at k3_1_1)
    have f3_1_1 := hf3 (w.heap.size + 1) 1 (by first | omega | (simp; done) | (simp; omega)); (try simp [go_sem, *, -hc3, -hf3] at f3_1_1)
    have hz3_2 : w1.heap.size < w3.heap.size := (by omega)
    have k3_2_0 := hc3 (w1.heap.size) 0 (by first | omega | (simp; done) | (simp; omega)); (try simp [go_sem, *, -hc3, -hf3] at k3_2_0)
    have f3_2_0 := hf3 (w1.heap.size) 0 (by first | omega | (simp; done) | (simp; omega)); (try simp [go_sem, *, -hc3, -hf3] at f3_2_0)
    have k3_2_1 := hc3 (w1.heap.size) 1 (by first | omega | (simp; done) | (simp; omega)); (try simp [go_sem, *, -hc3, -hf3] at k3_2_1)
    have f3_2_1 := hf3 (w1.heap.size) 1 (by first | omega | (simp; done) | (simp; omega)); (try simp [go_sem, *, -hc3, -hf3] at f3_2_1)
    have hz3_3 : w2.heap.size < w3.heap.size := (by omega)
    have k3_3_0 := hc3 (w2.heap.size) 0 (by first | omega | (simp; done) | (simp; omega)); (try simp [go_sem, *, -hc3, -hf3] at k3_3_0)
    have f3_3_0 := hf3 (w2.heap.size) 0 (by first | omega | (simp; done) | (simp; omega)); (try simp [go_sem, *, -hc3, -hf3] at f3_3_0)
    have k3_3_1 := hc3 (w2.heap.size) 1 (by first | omega | (simp; done) | (simp; omega)); (try simp [go_sem, *, -hc3, -hf3] at k3_3_1)
    have f3_3_1 := hf3 (w2.heap.size) 1 (by first | omega | (simp; done) | (simp; omega)); (try simp [go_sem, *, -hc3, -hf3] at f3_3_1)
    clear hc3 hf3
    clear k2_0_0 f2_0_0 k2_0_1 f2_0_1 k2_1_0 f2_1_0 k2_1_1 f2_1_1 k2_2_0 f2_2_0 k2_2_1 f2_2_1
    go_wp2_with fail
    refine (binary_any _ _ _ _ _ _).mono ?_; rintro e w4 ⟨rfl, hb4⟩; obtain ⟨hc4, hf4⟩ := bcell hb4
    have hq4 := hb4.size; (try simp at hq4)
    have hz4_0 : w.heap.size < w4.heap.size := (by omega)
    have k4_0_0 := hc4 (w.heap.size) 0 (by first | omega | (simp; done) | (simp; omega)); (try simp [go_sem, *, -hc4, -hf4] at k4_0_0)
    have f4_0_0 := hf4 (w.heap.size) 0 (by first | omega | (simp; done) | (simp; omega)); (try simp [go_sem, *, -hc4, -hf4] at f4_0_0)
    have k4_0_1 := hc4 (w.heap.size) 1 (by first | omega | (simp; done) | (simp; omega)); (try simp [go_sem, *, -hc4, -hf4] at k4_0_1)
    have f4_0_1 := hf4 (w.heap.size) 1 (by first | omega | (simp; done) | (simp; omega)); (try simp [go_sem, *, -hc4, -hf4] at f4_0_1)
    have hz4_2 : w1.heap.size < w4.heap.size := (by omega)
    have k4_2_0 := hc4 (w1.heap.size) 0 (by first | omega | (simp; done) | (simp; omega)); (try simp [go_sem, *, -hc4, -hf4] at k4_2_0)
    have f4_2_0 := hf4 (w1.heap.size) 0 (by first | omega | (simp; done) | (simp; omega)); (try simp [go_sem, *, -hc4, -hf4] at f4_2_0)
    have k4_2_1 := hc4 (w1.heap.size) 1 (by first | omega | (simp; done) | (simp; omega)); (try simp [go_sem, *, -hc4, -hf4] at k4_2_1)
    have f4_2_1 := hf4 (w1.heap.size) 1 (by first | omega | (simp; done) | (simp; omega)); (try simp [go_sem, *, -hc4, -hf4] at f4_2_1)
    have hz4_3 : w2.heap.size < w4.heap.size := (by omega)
    have k4_3_0 := hc4 (w2.heap.size) 0 (by first | omega | (simp; done) | (simp; omega)); (try simp [go_sem, *, -hc4, -hf4] at k4_3_0)
    have f4_3_0 := hf4 (w2.heap.size) 0 (by first | omega | (simp; done) | (simp; omega)); (try simp [go_sem, *, -hc4, -hf4] at f4_3_0)
    have k4_3_1 := hc4 (w2.heap.size) 1 (by first | omega | (simp; done) | (simp; omega)); (try simp [go_sem, *, -hc4, -hf4] at k4_3_1)
    have f4_3_1 := hf4 (w2.heap.size) 1 (by first | omega | (simp; done) | (simp; omega)); (try simp [go_sem, *, -hc4, -hf4] at f4_3_1)
    have hz4_4 : w3.heap.size < w4.heap.size := (by omega)
    have k4_4_0 := hc4 (w3.heap.size) 0 (by first | omega | (simp; done) | (simp; omega)); (try simp [go_sem, *, -hc4, -hf4] at k4_4_0)
    have f4_4_0 := hf4 (w3.heap.size) 0 (by first | omega | (simp; done) | (simp; omega)); (try simp [go_sem, *, -hc4, -hf4] at f4_4_0)
    have k4_4_1 := hc4 (w3.heap.size) 1 (by first | omega | (simp; done) | (simp; omega)); (try simp [go_sem, *, -hc4, -hf4] at k4_4_1)
    have f4_4_1 := hf4 (w3.heap.size) 1 (by first | omega | (simp; done) | (simp; omega)); (try simp [go_sem, *, -hc4, -hf4] at f4_4_1)
    clear hc4 hf4
    clear k3_0_0 f3_0_0 k3_0_1 f3_0_1 k3_1_0 f3_1_0 k3_1_1 f3_1_1 k3_2_0 f3_2_0 k3_2_1 f3_2_1 k3_3_0 f3_3_0 k3_3_1 f3_3_1
    go_wp2_with fail
    refine (opsLives_any _).mono ?_; rintro e w5 ⟨rfl, hb5⟩; obtain ⟨hc5, hf5⟩ := bcell hb5
    have hq5 := hb5.size; (try simp at hq5)
    have hz5_0 : w.heap.size < w5.heap.size := (by omega)
    have k5_0_0 := hc5 (w.heap.size) 0 (by first | omega | (simp; done) | (simp; omega)); (try simp [go_sem, *, -hc5, -hf5] at k5_0_0)
    have f5_0_0 := hf5 (w.heap.size) 0 (by first | omega | (simp; done) | (simp; omega)); (try simp [go_sem, *, -hc5, -hf5] at f5_0_0)
    have k5_0_1 := hc5 (w.heap.size) 1 (by first | omega | (simp; done) | (simp; omega)); (try simp [go_sem, *, -hc5, -hf5] at k5_0_1)
    have f5_0_1 := hf5 (w.heap.size) 1 (by first | omega | (simp; done) | (simp; omega)); (try simp [go_sem, *, -hc5, -hf5] at f5_0_1)
    have hz5_2 : w1.heap.size < w5.heap.size := (by omega)
    have k5_2_0 := hc5 (w1.heap.size) 0 (by first | omega | (simp; done) | (simp; omega)); (try simp [go_sem, *, -hc5, -hf5] at k5_2_0)
    have f5_2_0 := hf5 (w1.heap.size) 0 (by first | omega | (simp; done) | (simp; omega)); (try simp [go_sem, *, -hc5, -hf5] at f5_2_0)
    have k5_2_1 := hc5 (w1.heap.size) 1 (by first | omega | (simp; done) | (simp; omega)); (try simp [go_sem, *, -hc5, -hf5] at k5_2_1)
    have f5_2_1 := hf5 (w1.heap.size) 1 (by first | omega | (simp; done) | (simp; omega)); (try simp [go_sem, *, -hc5, -hf5] at f5_2_1)
    have hz5_3 : w2.heap.size < w5.heap.size := (by omega)
    have k5_3_0 := hc5 (w2.heap.size) 0 (by first | omega | (simp; done) | (simp; omega)); (try simp [go_sem, *, -hc5, -hf5] at k5_3_0)
    have f5_3_0 := hf5 (w2.heap.size) 0 (by first | omega | (simp; done) | (simp; omega)); (try simp [go_sem, *, -hc5, -hf5] at f5_3_0)
    have k5_3_1 := hc5 (w2.heap.size) 1 (by first | omega | (simp; done) | (simp; omega)); (try simp [go_sem, *, -hc5, -hf5] at k5_3_1)
    have f5_3_1 := hf5 (w2.heap.size) 1 (by first | omega | (simp; done) | (simp; omega)); (try simp [go_sem, *, -hc5, -hf5] at f5_3_1)
    have hz5_4 : w3.heap.size < w5.heap.size := (by omega)
    have k5_4_0 := hc5 (w3.heap.size) 0 (by first | omega | (simp; done) | (simp; omega)); (try simp [go_sem, *, -hc5, -hf5] at k5_4_0)
    have f5_4_0 := hf5 (w3.heap.size) 0 (by first | omega | (simp; done) | (simp; omega)); (try simp [go_sem, *, -hc5, -hf5] at f5_4_0)
    have k5_4_1 := hc5 (w3.heap.size) 1 (by first | omega | (simp; done) | (simp; omega)); (try simp [go_sem, *, -hc5, -hf5] at k5_4_1)
    have f5_4_1 := hf5 (w3.heap.size) 1 (by first | omega | (simp; done) | (simp; omega)); (try simp [go_sem, *, -hc5, -hf5] at f5_4_1)
    have hz5_5 : w4.heap.size < w5.heap.size := (by omega)
    have k5_5_0 := hc5 (w4.heap.size) 0 (by first | omega | (simp; done) | (simp; omega)); (try simp [go_sem, *, -hc5, -hf5] at k5_5_0)
    have f5_5_0 := hf5 (w4.heap.size) 0 (by first | omega | (simp; done) | (simp; omega)); (try simp [go_sem, *, -hc5, -hf5] at f5_5_0)
    have k5_5_1 := hc5 (w4.heap.size) 1 (by first | omega | (simp; done) | (simp; omega)); (try simp [go_sem, *, -hc5, -hf5] at k5_5_1)
    have f5_5_1 := hf5 (w4.heap.size) 1 (by first | omega | (simp; done) | (simp; omega)); (try simp [go_sem, *, -hc5, -hf5] at f5_5_1)
    clear hc5 hf5
    clear k4_0_0 f4_0_0 k4_0_1 f4_0_1 k4_2_0 f4_2_0 k4_2_1 f4_2_1 k4_3_0 f4_3_0 k4_3_1 f4_3_1 k4_4_0 f4_4_0 k4_4_1 f4_4_1
    go_wp2_with fail
    refine wp_loop_rounds 12 ?_
    rw [rounds_succ]
    go_wp2_with fail
    refine (truthV_any _ _ _).mono ?_; rintro e w6 ⟨rfl, hb6⟩; obtain ⟨hc6, hf6⟩ := bcell hb6
    have hq6 := hb6.size; (try simp at hq6)
    have hz6_0 : w.heap.size < w6.heap.size := (by omega)
    have k6_0_0 := hc6 (w.heap.size) 0 (by first | omega | (simp; done) | (simp; omega)); (try simp [go_sem, *, -hc6, -hf6] at k6_0_0)
    have f6_0_0 := hf6 (w.heap.size) 0 (by first | omega | (simp; done) | (simp; omega)); (try simp [go_sem, *, -hc6, -hf6] at f6_0_0)
    have k6_0_1 := hc6 (w.heap.size) 1 (by first | omega | (simp; done) | (simp; omega)); (try simp [go_sem, *, -hc6, -hf6] at k6_0_1)
    have f6_0_1 := hf6 (w.heap.size) 1 (by first | omega | (simp; done) | (simp; omega)); (try simp [go_sem, *, -hc6, -hf6] at f6_0_1)
    have hz6_2 : w1.heap.size < w6.heap.size := (by omega)
    have k6_2_0 := hc6 (w1.heap.size) 0 (by first | omega | (simp; done) | (simp; omega)); (try simp [go_sem, *, -hc6, -hf6] at k6_2_0)
    have f6_2_0 := hf6 (w1.heap.size) 0 (by first | omega | (simp; done) | (simp; omega)); (try simp [go_sem, *, -hc6, -hf6] at f6_2_0)
    have k6_2_1 := hc6 (w1.heap.size) 1 (by first | omega | (simp; done) | (simp; omega)); (try simp [go_sem, *, -hc6, -hf6] at k6_2_1)
    have f6_2_1 := hf6 (w1.heap.size) 1 (by first | omega | (simp; done) | (simp; omega)); (try simp [go_sem, *, -hc6, -hf6] at f6_2_1)
    have hz6_4 : w3.heap.size < w6.heap.size := (by omega)
    have k6_4_0 := hc6 (w3.heap.size) 0 (by first | omega | (simp; done) | (simp; omega)); (try simp [go_sem, *, -hc6, -hf6] at k6_4_0)
    have f6_4_0 := hf6 (w3.heap.size) 0 (by first | omega | (simp; done) | (simp; omega)); (try simp [go_sem, *, -hc6, -hf6] at f6_4_0)
    have k6_4_1 := hc6 (w3.heap.size) 1 (by first | omega | (simp; done) | (simp; omega)); (try simp [go_sem, *, -hc6, -hf6] at k6_4_1)
    have f6_4_1 := hf6 (w3.heap.size) 1 (by first | omega | (simp; done) | (simp; omega)); (try simp [go_sem, *, -hc6, -hf6] at f6_4_1)
    have hz6_5 : w4.heap.size < w6.heap.size := (by omega)
    have k6_5_0 := hc6 (w4.heap.size) 0 (by first | omega | (simp; done) | (simp; omega)); (try simp [go_sem, *, -hc6, -hf6] at k6_5_0)
    have f6_5_0 := hf6 (w4.heap.size) 0 (by first | omega | (simp; done) | (simp; omega)); (try simp [go_sem, *, -hc6, -hf6] at f6_5_0)
    have k6_5_1 := hc6 (w4.heap.size) 1 (by first | omega | (simp; done) | (simp; omega)); (try simp [go_sem, *, -hc6, -hf6] at k6_5_1)
    have f6_5_1 := hf6 (w4.heap.size) 1 (by first | omega | (simp; done) | (simp; omega)); (try simp [go_sem, *, -hc6, -hf6] at f6_5_1)
    have hz6_6 : w5.heap.size < w6.heap.size := (by omega)
    have k6_6_0 := hc6 (w5.heap.size) 0 (by first | omega | (simp; done) | (simp; omega)); (try simp [go_sem, *, -hc6, -hf6] at k6_6_0)
    have f6_6_0 := hf6 (w5.heap.size) 0 (by first | omega | (simp; done) | (simp; omega)); (try simp [go_sem, *, -hc6, -hf6] at f6_6_0)
    have k6_6_1 := hc6 (w5.heap.size) 1 (by first | omega | (simp; done) | (simp; omega)); (try simp [go_sem, *, -hc6, -hf6] at k6_6_1)
    have f6_6_1 := hf6 (w5.heap.size) 1 (by first | omega | (simp; done) | (simp; omega)); (try simp [go_sem, *, -hc6, -hf6] at f6_6_1)
    clear hc6 hf6
    clear k5_0_0 f5_0_0 k5_0_1 f5_0_1 k5_2_0 f5_2_0 k5_2_1 f5_2_1 k5_3_0 f5_3_0 k5_3_1 f5_3_1 k5_4_0 f5_4_0 k5_4_1 f5_4_1 k5_5_0 f5_5_0 k5_5_1 f5_5_1
    go_wp2_with fail
    rw [rounds_succ]
    go_wp2_with fail
    refine (truthV_any _ _ _).mono ?_; rintro e w7 ⟨rfl, hb7⟩; obtain ⟨hc7, hf7⟩ := bcell hb7
    have hq7 := hb7.size; (try simp at hq7)
    have hz7_0 : w.heap.size < w7.heap.size := (by omega)
    have k7_0_0 := hc7 (w.heap.size) 0 (by first | omega | (simp; done) | (simp; omega)); (try simp [go_sem, *, -hc7, -hf7] at k7_0_0)
    have f7_0_0 := hf7 (w.heap.size) 0 (by first | omega | (simp; done) | (simp; omega)); (try simp [go_sem, *, -hc7, -hf7] at f7_0_0)
    have k7_0_1 := hc7 (w.heap.size) 1 (by first | omega | (simp; done) | (simp; omega)); (try simp [go_sem, *, -hc7, -hf7] at k7_0_1)
    have f7_0_1 := hf7 (w.heap.size) 1 (by first | omega | (simp; done) | (simp; omega)); (try simp [go_sem, *, -hc7, -hf7] at f7_0_1)
    have hz7_2 : w1.heap.size < w7.heap.size := (by omega)
    have k7_2_0 := hc7 (w1.heap.size) 0 (by first | omega | (simp; done) | (simp; omega)); (try simp [go_sem, *, -hc7, -hf7] at k7_2_0)
    have f7_2_0 := hf7 (w1.heap.size) 0 (by first | omega | (simp; done) | (simp; omega)); (try simp [go_sem, *, -hc7, -hf7] at f7_2_0)
    have k7_2_1 := hc7 (w1.heap.size) 1 (by first | omega | (simp; done) | (simp; omega)); (try simp [go_sem, *, -hc7, -hf7] at k7_2_1)
    have f7_2_1 := hf7 (w1.heap.size) 1 (by first | omega | (simp; done) | (simp; omega)); (try simp [go_sem, *, -hc7, -hf7] at f7_2_1)
    have hz7_4 : w3.heap.size < w7.heap.size := (by omega)
    have k7_4_0 := hc7 (w3.heap.size) 0 (by first | omega | (simp; done) | (simp; omega)); (try simp [go_sem, *, -hc7, -hf7] at k7_4_0)
    have f7_4_0 := hf7 (w3.heap.size) 0 (by first | omega | (simp; done) | (simp; omega)); (try simp [go_sem, *, -hc7, -hf7] at f7_4_0)
    have k7_4_1 := hc7 (w3.heap.size) 1 (by first | omega | (simp; done) | (simp; omega)); (try simp [go_sem, *, -hc7, -hf7] at k7_4_1)
    have f7_4_1 := hf7 (w3.heap.size) 1 (by first | omega | (simp; done) | (simp; omega)); (try simp [go_sem, *, -hc7, -hf7] at f7_4_1)
    have hz7_5 : w4.heap.size < w7.heap.size := (by omega)
    have k7_5_0 := hc7 (w4.heap.size) 0 (by first | omega | (simp; done) | (simp; omega)); (try simp [go_sem, *, -hc7, -hf7] at k7_5_0)
    have f7_5_0 := hf7 (w4.heap.size) 0 (by first | omega | (simp; done) | (simp; omega)); (try simp [go_sem, *, -hc7, -hf7] at f7_5_0)
    have k7_5_1 := hc7 (w4.heap.size) 1 (by first | omega | (simp; done) | (simp; omega)); (try simp [go_sem, *, -hc7, -hf7] at k7_5_1)
    have f7_5_1 := hf7 (w4.heap.size) 1 (by first | omega | (simp; done) | (simp; omega)); (try simp [go_sem, *, -hc7, -hf7] at f7_5_1)
    have hz7_6 : w5.heap.size < w7.heap.size := (by omega)
    have k7_6_0 := hc7 (w5.heap.size) 0 (by first | omega | (simp; done) | (simp; omega)); (try simp [go_sem, *, -hc7, -hf7] at k7_6_0)
    have f7_6_0 := hf7 (w5.heap.size) 0 (by first | omega | (simp; done) | (simp; omega)); (try simp [go_sem, *, -hc7, -hf7] at f7_6_0)
    have k7_6_1 := hc7 (w5.heap.size) 1 (by first | omega | (simp; done) | (simp; omega)); (try simp [go_sem, *, -hc7, -hf7] at k7_6_1)
    have f7_6_1 := hf7 (w5.heap.size) 1 (by first | omega | (simp; done) | (simp; omega)); (try simp [go_sem, *, -hc7, -hf7] at f7_6_1)
    have hz7_7 : w6.heap.size < w7.heap.size := (by omega)
    have k7_7_0 := hc7 (w6.heap.size) 0 (by first | omega | (simp; done) | (simp; omega)); (try simp [go_sem, *, -hc7, -hf7] at k7_7_0)
    have f7_7_0 := hf7 (w6.heap.size) 0 (by first | omega | (simp; done) | (simp; omega)); (try simp [go_sem, *, -hc7, -hf7] at f7_7_0)
    have k7_7_1 := hc7 (w6.heap.size) 1 (by first | omega | (simp; done) | (simp; omega)); (try simp [go_sem, *, -hc7, -hf7] at k7_7_1)
    have f7_7_1 := hf7 (w6.heap.size) 1 (by first | omega | (simp; done) | (simp; omega)); (try simp [go_sem, *, -hc7, -hf7] at f7_7_1)
    clear hc7 hf7
    clear k6_0_0 f6_0_0 k6_0_1 f6_0_1 k6_2_0 f6_2_0 k6_2_1 f6_2_1 k6_4_0 f6_4_0 k6_4_1 f6_4_1 k6_5_0 f6_5_0 k6_5_1 f6_5_1 k6_6_0 f6_6_0 k6_6_1 f6_6_1
    go_wp2_with fail
    rw [rounds_succ]
    go_wp2_with fail
    refine (truthV_any _ _ _).mono ?_; rintro e w8 ⟨rfl, hb8⟩; obtain ⟨hc8, hf8⟩ := bcell hb8
    have hq8 := hb8.size; (try simp at hq8)
    have hz8_0 : w.heap.size < w8.heap.size := (by omega)
    have k8_0_0 := hc8 (w.heap.size) 0 (by first | omega | (simp; done) | (simp; omega)); (try simp [go_sem, *, -hc8, -hf8] at k8_0_0)
    have f8_0_0 := hf8 (w.heap.size) 0 (by first | omega | (simp; done) | (simp; omega)); (try simp [go_sem, *, -hc8, -hf8] at f8_0_0)
    have k8_0_1 := hc8 (w.heap.size) 1 (by first | omega | (simp; done) | (simp; omega)); (try simp [go_sem, *, -hc8, -hf8] at k8_0_1)
    have f8_0_1 := hf8 (w.heap.size) 1 (by first | omega | (simp; done) | (simp; omega)); (try simp [go_sem, *, -hc8, -hf8] at f8_0_1)
    have hz8_2 : w1.heap.size < w8.heap.size := (by omega)
    have k8_2_0 := hc8 (w1.heap.size) 0 (by first | omega | (simp; done) | (simp; omega)); (try simp [go_sem, *, -hc8, -hf8] at k8_2_0)
    have f8_2_0 := hf8 (w1.heap.size) 0 (by first | omega | (simp; done) | (simp; omega)); (try simp [go_sem, *, -hc8, -hf8] at f8_2_0)
    have k8_2_1 := hc8 (w1.heap.size) 1 (by first | omega | (simp; done) | (simp; omega)); (try simp [go_sem, *, -hc8, -hf8] at k8_2_1)
    have f8_2_1 := hf8 (w1.heap.size) 1 (by first | omega | (simp; done) | (simp; omega)); (try simp [go_sem, *, -hc8, -hf8] at f8_2_1)
    have hz8_4 : w3.heap.size < w8.heap.size := (by omega)
    have k8_4_0 := hc8 (w3.heap.size) 0 (by first | omega | (simp; done) | (simp; omega)); (try simp [go_sem, *, -hc8, -hf8] at k8_4_0)
    have f8_4_0 := hf8 (w3.heap.size) 0 (by first | omega | (simp; done) | (simp; omega)); (try simp [go_sem, *, -hc8, -hf8] at f8_4_0)
    have k8_4_1 := hc8 (w3.heap.size) 1 (by first | omega | (simp; done) | (simp; omega)); (try simp [go_sem, *, -hc8, -hf8] at k8_4_1)
    have f8_4_1 := hf8 (w3.heap.size) 1 (by first | omega | (simp; done) | (simp; omega)); (try simp [go_sem, *, -hc8, -hf8] at f8_4_1)
    have hz8_5 : w4.heap.size < w8.heap.size := (by omega)
    have k8_5_0 := hc8 (w4.heap.size) 0 (by first | omega | (simp; done) | (simp; omega)); (try simp [go_sem, *, -hc8, -hf8] at k8_5_0)
    have f8_5_0 := hf8 (w4.heap.size) 0 (by first | omega | (simp; done) | (simp; omega)); (try simp [go_sem, *, -hc8, -hf8] at f8_5_0)
    have k8_5_1 := hc8 (w4.heap.size) 1 (by first | omega | (simp; done) | (simp; omega)); (try simp [go_sem, *, -hc8, -hf8] at k8_5_1)
    have f8_5_1 := hf8 (w4.heap.size) 1 (by first | omega | (simp; done) | (simp; omega)); (try simp [go_sem, *, -hc8, -hf8] at f8_5_1)
    have hz8_6 : w5.heap.size < w8.heap.size := (by omega)
    have k8_6_0 := hc8 (w5.heap.size) 0 (by first | omega | (simp; done) | (simp; omega)); (try simp [go_sem, *, -hc8, -hf8] at k8_6_0)
    have f8_6_0 := hf8 (w5.heap.size) 0 (by first | omega | (simp; done) | (simp; omega)); (try simp [go_sem, *, -hc8, -hf8] at f8_6_0)
    have k8_6_1 := hc8 (w5.heap.size) 1 (by first | omega | (simp; done) | (simp; omega)); (try simp [go_sem, *, -hc8, -hf8] at k8_6_1)
    have f8_6_1 := hf8 (w5.heap.size) 1 (by first | omega | (simp; done) | (simp; omega)); (try simp [go_sem, *, -hc8, -hf8] at f8_6_1)
    have hz8_7 : w6.heap.size < w8.heap.size := (by omega)
    have k8_7_0 := hc8 (w6.heap.size) 0 (by first | omega | (simp; done) | (simp; omega)); (try simp [go_sem, *, -hc8, -hf8] at k8_7_0)
    have f8_7_0 := hf8 (w6.heap.size) 0 (by first | omega | (simp; done) | (simp; omega)); (try simp [go_sem, *, -hc8, -hf8] at f8_7_0)
    have k8_7_1 := hc8 (w6.heap.size) 1 (by first | omega | (simp; done) | (simp; omega)); (try simp [go_sem, *, -hc8, -hf8] at k8_7_1)
    have f8_7_1 := hf8 (w6.heap.size) 1 (by first | omega | (simp; done) | (simp; omega)); (try simp [go_sem, *, -hc8, -hf8] at f8_7_1)
    have hz8_8 : w7.heap.size < w8.heap.size := (by omega)
    have k8_8_0 := hc8 (w7.heap.size) 0 (by first | omega | (simp; done) | (simp; omega)); (try simp [go_sem, *, -hc8, -hf8] at k8_8_0)
    have f8_8_0 := hf8 (w7.heap.size) 0 (by first | omega | (simp; done) | (simp; omega)); (try simp [go_sem, *, -hc8, -hf8] at f8_8_0)
    have k8_8_1 := hc8 (w7.heap.size) 1 (by first | omega | (simp; done) | (simp; omega)); (try simp [go_sem, *, -hc8, -hf8] at k8_8_1)
    have f8_8_1 := hf8 (w7.heap.size) 1 (by first | omega | (simp; done) | (simp; omega)); (try simp [go_sem, *, -hc8, -hf8] at f8_8_1)
    clear hc8 hf8
    clear k7_0_0 f7_0_0 k7_0_1 f7_0_1 k7_2_0 f7_2_0 k7_2_1 f7_2_1 k7_4_0 f7_4_0 k7_4_1 f7_4_1 k7_5_0 f7_5_0 k7_5_1 f7_5_1 k7_6_0 f7_6_0 k7_6_1 f7_6_1 k7_7_0 f7_7_0 k7_7_1 f7_7_1
    go_wp2_with fail
    rw [rounds_succ]
    go_wp2_with fail
    refine wp_region_plan [0, 1, 3, 7, 15, 31, 63, 127, 255, 511, 1023, 2047, 4095, 8191, 16383, 32767, 65535, 131071, 262143, 524287, 1048575, 524287, 4194303, 8388607, 16777215, 33554431, 67108863, 134217727, 268435455, 536870911] (.seg 0 (.seg 1 (.seg 2 (.seg 3 (.seg 4 (.seg 5 (.seg 6 (.seg 7 (.seg 8 (.seg 9 (.seg 10 (.seg 11 (.seg 12 (.seg 13 (.seg 14 (.seg 15 (.seg 16 (.seg 17 (.seg 18 (.seg 19 (.seg 21 (.eff 20 [21] (.eff 22 [] (.seg 23 (.seg 24 (.eff 25 [] (.seg 26 (.seg 27 (.seg 28 (.seg 29 .last)))))))))))))))))))))))))))))) rfl (by kernel_rfl) rfl ?_
    iterate 21 (refine plan_seg rfl (fun _ _ => ?_); go_wp2_with fail)
    refine plan_eff rfl (fun _ hQ => ?_)
    go_wp2_with fail
    refine (truthV_any _ _ _).mono ?_; rintro e w9 ⟨rfl, hb9⟩; obtain ⟨hc9, hf9⟩ := bcell hb9
    have hq9 := hb9.size; (try simp at hq9)
    have hz9_2 : w1.heap.size < w9.heap.size := (by omega)
    have k9_2_0 := hc9 (w1.heap.size) 0 (by first | omega | (simp; done) | (simp; omega)); (try simp [go_sem, *, -hc9, -hf9] at k9_2_0)
    have f9_2_0 := hf9 (w1.heap.size) 0 (by first | omega | (simp; done) | (simp; omega)); (try simp [go_sem, *, -hc9, -hf9] at f9_2_0)
    have k9_2_1 := hc9 (w1.heap.size) 1 (by first | omega | (simp; done) | (simp; omega)); (try simp [go_sem, *, -hc9, -hf9] at k9_2_1)
    have f9_2_1 := hf9 (w1.heap.size) 1 (by first | omega | (simp; done) | (simp; omega)); (try simp [go_sem, *, -hc9, -hf9] at f9_2_1)
    have hz9_4 : w3.heap.size < w9.heap.size := (by omega)
    have k9_4_0 := hc9 (w3.heap.size) 0 (by first | omega | (simp; done) | (simp; omega)); (try simp [go_sem, *, -hc9, -hf9] at k9_4_0)
    have f9_4_0 := hf9 (w3.heap.size) 0 (by first | omega | (simp; done) | (simp; omega)); (try simp [go_sem, *, -hc9, -hf9] at f9_4_0)
    have k9_4_1 := hc9 (w3.heap.size) 1 (by first | omega | (simp; done) | (simp; omega)); (try simp [go_sem, *, -hc9, -hf9] at k9_4_1)
    have f9_4_1 := hf9 (w3.heap.size) 1 (by first | omega | (simp; done) | (simp; omega)); (try simp [go_sem, *, -hc9, -hf9] at f9_4_1)
    clear hc9 hf9
    clear k8_0_0 f8_0_0 k8_0_1 f8_0_1 k8_2_0 f8_2_0 k8_2_1 f8_2_1 k8_4_0 f8_4_0 k8_4_1 f8_4_1 k8_5_0 f8_5_0 k8_5_1 f8_5_1 k8_6_0 f8_6_0 k8_6_1 f8_6_1 k8_7_0 f8_7_0 k8_7_1 f8_7_1 k8_8_0 f8_8_0 k8_8_1 f8_8_1
    go_wp2_with fail
    refine hQ _ _ (pend_cons rfl rfl (by go_simp; rfl) <|  pend_nil) ?_
    refine plan_eff0 rfl (fun _ _ => ?_)
    go_wp2_with fail
    refine (truthV_any _ _ _).mono ?_; rintro e w10 ⟨rfl, hb10⟩; obtain ⟨hc10, hf10⟩ := bcell hb10
    have hq10 := hb10.size; (try simp at hq10)
    have hz10_4 : w3.heap.size < w10.heap.size := (by omega)
    have k10_4_0 := hc10 (w3.heap.size) 0 (by first | omega | (simp; done) | (simp; omega)); (try simp [go_sem, *, -hc10, -hf10] at k10_4_0)
    have f10_4_0 := hf10 (w3.heap.size) 0 (by first | omega | (simp; done) | (simp; omega)); (try simp [go_sem, *, -hc10, -hf10] at f10_4_0)
    have k10_4_1 := hc10 (w3.heap.size) 1 (by first | omega | (simp; done) | (simp; omega)); (try simp [go_sem, *, -hc10, -hf10] at k10_4_1)
    have f10_4_1 := hf10 (w3.heap.size) 1 (by first | omega | (simp; done) | (simp; omega)); (try simp [go_sem, *, -hc10, -hf10] at f10_4_1)
    clear hc10 hf10
    clear k9_2_0 f9_2_0 k9_2_1 f9_2_1 k9_4_0 f9_4_0 k9_4_1 f9_4_1
    go_wp2_with fail
    iterate 2 (refine plan_seg rfl (fun _ _ => ?_); go_wp2_with fail)
    refine plan_eff0 rfl (fun _ _ => ?_)
    go_wp2_with fail
    refine (truthV_any _ _ _).mono ?_; rintro e w11 ⟨rfl, hb11⟩; obtain ⟨hc11, hf11⟩ := bcell hb11
    have hq11 := hb11.size; (try simp at hq11)
    clear hc11 hf11
    clear k10_4_0 f10_4_0 k10_4_1 f10_4_1
    go_wp2_with fail
    iterate 4 (refine plan_seg rfl (fun _ _ => ?_); go_wp2_with fail)
    refine plan_last ?_
    go_wp2_with fail
    go_ret
    exact ⟨rfl, (by repeat' (first | exact Below.refl _ _ | (refine Below.via ?_ (by assumption) ?_) | refine Below.setCell ?_ ?_ _ | refine Below.alloc ?_ ?_ _ | refine Below.drew ?_ | omega | (simp; omega) | (simp; done)))⟩
set_option maxHeartbeats 1000000 in
theorem opsOrder_l (ak an bk bn : Int) (w : World) (wh : Bool) (hk : (ak == 2) = wh) (hw : (wh && false) = false)
    (h1 : binaryS 9 ak an bk bn = (1, bit true, -1)) (h2 : binaryS 9 bk bn ak an = (1, bit false, -1)) (h3 : binaryS 8 ak an bk bn = (1, bit false, -1)) (h4 : binaryS 10 ak an bk bn = (1, bit (true || false), -1)) :
    Calls Try.prog 9 #[.agg #[.int .i64 ak, .int .i64 an], .agg #[.int .i64 bk, .int .i64 bn]] w fun e w' => e = .returned (.bool true) ∧ Below w.heap.size w w' := by
  have tt : truthB 1 (bit true) = true := truth_bit true
  have tf : truthB 1 (bit false) = false := truth_bit false
  have i0 : ∀ (a b c d e f : Int) (w : World), (Instr.index 50 (.agg #[.int .i64 a, .int .i64 b, .int .i64 c, .int .i64 d, .int .i64 e, .int .i64 f]) (.int .i64 0)).run Try.prog w = .ok (.agg #[.int .i64 a, .int .i64 b]) w := fun _ _ _ _ _ _ _ => by kernel_rfl
  have i1 : ∀ (a b c d e f : Int) (w : World), (Instr.index 50 (.agg #[.int .i64 a, .int .i64 b, .int .i64 c, .int .i64 d, .int .i64 e, .int .i64 f]) (.int .i64 1)).run Try.prog w = .ok (.agg #[.int .i64 c, .int .i64 d]) w := fun _ _ _ _ _ _ _ => by kernel_rfl
  have i2 : ∀ (a b c d e f : Int) (w : World), (Instr.index 50 (.agg #[.int .i64 a, .int .i64 b, .int .i64 c, .int .i64 d, .int .i64 e, .int .i64 f]) (.int .i64 2)).run Try.prog w = .ok (.agg #[.int .i64 e, .int .i64 f]) w := fun _ _ _ _ _ _ _ => by kernel_rfl
  cases wh <;> simp only [Bool.true_and, Bool.false_and, Bool.and_true, Bool.and_false] at hw <;> first | (cases hw; done) | skip
  all_goals
    try clear hw
    go_enter Try.func9, Try.ntmps9
    go_wp2_with fail
    refine (binary_any _ _ _ _ _ _).mono ?_; rintro e w1 ⟨rfl, hb1⟩; obtain ⟨hc1, hf1⟩ := bcell hb1
    have hq1 := hb1.size; (try simp at hq1)
    have hz1_0 : w.heap.size < w1.heap.size := (by omega)
    have k1_0_0 := hc1 (w.heap.size) 0 (by first | omega | (simp; done) | (simp; omega)); (try simp [go_sem, *, -hc1, -hf1] at k1_0_0)
    have f1_0_0 := hf1 (w.heap.size) 0 (by first | omega | (simp; done) | (simp; omega)); (try simp [go_sem, *, -hc1, -hf1] at f1_0_0)
    have k1_0_1 := hc1 (w.heap.size) 1 (by first | omega | (simp; done) | (simp; omega)); (try simp [go_sem, *, -hc1, -hf1] at k1_0_1)
    have f1_0_1 := hf1 (w.heap.size) 1 (by first | omega | (simp; done) | (simp; omega)); (try simp [go_sem, *, -hc1, -hf1] at f1_0_1)
    have hz1_1 : w.heap.size + 1 < w1.heap.size := (by omega)
    have k1_1_0 := hc1 (w.heap.size + 1) 0 (by first | omega | (simp; done) | (simp; omega)); (try simp [go_sem, *, -hc1, -hf1] at k1_1_0)
    have f1_1_0 := hf1 (w.heap.size + 1) 0 (by first | omega | (simp; done) | (simp; omega)); (try simp [go_sem, *, -hc1, -hf1] at f1_1_0)
    have k1_1_1 := hc1 (w.heap.size + 1) 1 (by first | omega | (simp; done) | (simp; omega)); (try simp [go_sem, *, -hc1, -hf1] at k1_1_1)
    have f1_1_1 := hf1 (w.heap.size + 1) 1 (by first | omega | (simp; done) | (simp; omega)); (try simp [go_sem, *, -hc1, -hf1] at f1_1_1)
    clear hc1 hf1
    go_wp2_with fail
    refine (binary_any _ _ _ _ _ _).mono ?_; rintro e w2 ⟨rfl, hb2⟩; obtain ⟨hc2, hf2⟩ := bcell hb2
    have hq2 := hb2.size; (try simp at hq2)
    have hz2_0 : w.heap.size < w2.heap.size := (by omega)
    have k2_0_0 := hc2 (w.heap.size) 0 (by first | omega | (simp; done) | (simp; omega)); (try simp [go_sem, *, -hc2, -hf2] at k2_0_0)
    have f2_0_0 := hf2 (w.heap.size) 0 (by first | omega | (simp; done) | (simp; omega)); (try simp [go_sem, *, -hc2, -hf2] at f2_0_0)
    have k2_0_1 := hc2 (w.heap.size) 1 (by first | omega | (simp; done) | (simp; omega)); (try simp [go_sem, *, -hc2, -hf2] at k2_0_1)
    have f2_0_1 := hf2 (w.heap.size) 1 (by first | omega | (simp; done) | (simp; omega)); (try simp [go_sem, *, -hc2, -hf2] at f2_0_1)
    have hz2_1 : w.heap.size + 1 < w2.heap.size := (by omega)
    have k2_1_0 := hc2 (w.heap.size + 1) 0 (by first | omega | (simp; done) | (simp; omega)); (try simp [go_sem, *, -hc2, -hf2] at k2_1_0)
    have f2_1_0 := hf2 (w.heap.size + 1) 0 (by first | omega | (simp; done) | (simp; omega)); (try simp [go_sem, *, -hc2, -hf2] at f2_1_0)
    have k2_1_1 := hc2 (w.heap.size + 1) 1 (by first | omega | (simp; done) | (simp; omega)); (try simp [go_sem, *, -hc2, -hf2] at k2_1_1)
    have f2_1_1 := hf2 (w.heap.size + 1) 1 (by first | omega | (simp; done) | (simp; omega)); (try simp [go_sem, *, -hc2, -hf2] at f2_1_1)
    have hz2_2 : w1.heap.size < w2.heap.size := (by omega)
    have k2_2_0 := hc2 (w1.heap.size) 0 (by first | omega | (simp; done) | (simp; omega)); (try simp [go_sem, *, -hc2, -hf2] at k2_2_0)
    have f2_2_0 := hf2 (w1.heap.size) 0 (by first | omega | (simp; done) | (simp; omega)); (try simp [go_sem, *, -hc2, -hf2] at f2_2_0)
    have k2_2_1 := hc2 (w1.heap.size) 1 (by first | omega | (simp; done) | (simp; omega)); (try simp [go_sem, *, -hc2, -hf2] at k2_2_1)
    have f2_2_1 := hf2 (w1.heap.size) 1 (by first | omega | (simp; done) | (simp; omega)); (try simp [go_sem, *, -hc2, -hf2] at f2_2_1)
    clear hc2 hf2
    clear k1_0_0 f1_0_0 k1_0_1 f1_0_1 k1_1_0 f1_1_0 k1_1_1 f1_1_1
    go_wp2_with fail
    refine (binary_any _ _ _ _ _ _).mono ?_; rintro e w3 ⟨rfl, hb3⟩; obtain ⟨hc3, hf3⟩ := bcell hb3
    have hq3 := hb3.size; (try simp at hq3)
    have hz3_0 : w.heap.size < w3.heap.size := (by omega)
    have k3_0_0 := hc3 (w.heap.size) 0 (by first | omega | (simp; done) | (simp; omega)); (try simp [go_sem, *, -hc3, -hf3] at k3_0_0)
    have f3_0_0 := hf3 (w.heap.size) 0 (by first | omega | (simp; done) | (simp; omega)); (try simp [go_sem, *, -hc3, -hf3] at f3_0_0)
    have k3_0_1 := hc3 (w.heap.size) 1 (by first | omega | (simp; done) | (simp; omega)); (try simp [go_sem, *, -hc3, -hf3] at k3_0_1)
    have f3_0_1 := hf3 (w.heap.size) 1 (by first | omega | (simp; done) | (simp; omega)); (try simp [go_sem, *, -hc3, -hf3] at f3_0_1)
    have hz3_1 : w.heap.size + 1 < w3.heap.size := (by omega)
    have k3_1_0 := hc3 (w.heap.size + 1) 0 (by first | omega | (simp; done) | (simp; omega)); (try simp [go_sem, *, -hc3, -hf3] at k3_1_0)
    have f3_1_0 := hf3 (w.heap.size + 1) 0 (by first | omega | (simp; done) | (simp; omega)); (try simp [go_sem, *, -hc3, -hf3] at f3_1_0)
    have k3_1_1 := hc3 (w.heap.size + 1) 1 (by first | omega | (simp; done) | (simp; omega)); (try simp [go_sem, *, -hc3, -hf3] at k3_1_1)
    have f3_1_1 := hf3 (w.heap.size + 1) 1 (by first | omega | (simp; done) | (simp; omega)); (try simp [go_sem, *, -hc3, -hf3] at f3_1_1)
    have hz3_2 : w1.heap.size < w3.heap.size := (by omega)
    have k3_2_0 := hc3 (w1.heap.size) 0 (by first | omega | (simp; done) | (simp; omega)); (try simp [go_sem, *, -hc3, -hf3] at k3_2_0)
    have f3_2_0 := hf3 (w1.heap.size) 0 (by first | omega | (simp; done) | (simp; omega)); (try simp [go_sem, *, -hc3, -hf3] at f3_2_0)
    have k3_2_1 := hc3 (w1.heap.size) 1 (by first | omega | (simp; done) | (simp; omega)); (try simp [go_sem, *, -hc3, -hf3] at k3_2_1)
    have f3_2_1 := hf3 (w1.heap.size) 1 (by first | omega | (simp; done) | (simp; omega)); (try simp [go_sem, *, -hc3, -hf3] at f3_2_1)
    have hz3_3 : w2.heap.size < w3.heap.size := (by omega)
    have k3_3_0 := hc3 (w2.heap.size) 0 (by first | omega | (simp; done) | (simp; omega)); (try simp [go_sem, *, -hc3, -hf3] at k3_3_0)
    have f3_3_0 := hf3 (w2.heap.size) 0 (by first | omega | (simp; done) | (simp; omega)); (try simp [go_sem, *, -hc3, -hf3] at f3_3_0)
    have k3_3_1 := hc3 (w2.heap.size) 1 (by first | omega | (simp; done) | (simp; omega)); (try simp [go_sem, *, -hc3, -hf3] at k3_3_1)
    have f3_3_1 := hf3 (w2.heap.size) 1 (by first | omega | (simp; done) | (simp; omega)); (try simp [go_sem, *, -hc3, -hf3] at f3_3_1)
    clear hc3 hf3
    clear k2_0_0 f2_0_0 k2_0_1 f2_0_1 k2_1_0 f2_1_0 k2_1_1 f2_1_1 k2_2_0 f2_2_0 k2_2_1 f2_2_1
    go_wp2_with fail
    refine (binary_any _ _ _ _ _ _).mono ?_; rintro e w4 ⟨rfl, hb4⟩; obtain ⟨hc4, hf4⟩ := bcell hb4
    have hq4 := hb4.size; (try simp at hq4)
    have hz4_0 : w.heap.size < w4.heap.size := (by omega)
    have k4_0_0 := hc4 (w.heap.size) 0 (by first | omega | (simp; done) | (simp; omega)); (try simp [go_sem, *, -hc4, -hf4] at k4_0_0)
    have f4_0_0 := hf4 (w.heap.size) 0 (by first | omega | (simp; done) | (simp; omega)); (try simp [go_sem, *, -hc4, -hf4] at f4_0_0)
    have k4_0_1 := hc4 (w.heap.size) 1 (by first | omega | (simp; done) | (simp; omega)); (try simp [go_sem, *, -hc4, -hf4] at k4_0_1)
    have f4_0_1 := hf4 (w.heap.size) 1 (by first | omega | (simp; done) | (simp; omega)); (try simp [go_sem, *, -hc4, -hf4] at f4_0_1)
    have hz4_2 : w1.heap.size < w4.heap.size := (by omega)
    have k4_2_0 := hc4 (w1.heap.size) 0 (by first | omega | (simp; done) | (simp; omega)); (try simp [go_sem, *, -hc4, -hf4] at k4_2_0)
    have f4_2_0 := hf4 (w1.heap.size) 0 (by first | omega | (simp; done) | (simp; omega)); (try simp [go_sem, *, -hc4, -hf4] at f4_2_0)
    have k4_2_1 := hc4 (w1.heap.size) 1 (by first | omega | (simp; done) | (simp; omega)); (try simp [go_sem, *, -hc4, -hf4] at k4_2_1)
    have f4_2_1 := hf4 (w1.heap.size) 1 (by first | omega | (simp; done) | (simp; omega)); (try simp [go_sem, *, -hc4, -hf4] at f4_2_1)
    have hz4_3 : w2.heap.size < w4.heap.size := (by omega)
    have k4_3_0 := hc4 (w2.heap.size) 0 (by first | omega | (simp; done) | (simp; omega)); (try simp [go_sem, *, -hc4, -hf4] at k4_3_0)
    have f4_3_0 := hf4 (w2.heap.size) 0 (by first | omega | (simp; done) | (simp; omega)); (try simp [go_sem, *, -hc4, -hf4] at f4_3_0)
    have k4_3_1 := hc4 (w2.heap.size) 1 (by first | omega | (simp; done) | (simp; omega)); (try simp [go_sem, *, -hc4, -hf4] at k4_3_1)
    have f4_3_1 := hf4 (w2.heap.size) 1 (by first | omega | (simp; done) | (simp; omega)); (try simp [go_sem, *, -hc4, -hf4] at f4_3_1)
    have hz4_4 : w3.heap.size < w4.heap.size := (by omega)
    have k4_4_0 := hc4 (w3.heap.size) 0 (by first | omega | (simp; done) | (simp; omega)); (try simp [go_sem, *, -hc4, -hf4] at k4_4_0)
    have f4_4_0 := hf4 (w3.heap.size) 0 (by first | omega | (simp; done) | (simp; omega)); (try simp [go_sem, *, -hc4, -hf4] at f4_4_0)
    have k4_4_1 := hc4 (w3.heap.size) 1 (by first | omega | (simp; done) | (simp; omega)); (try simp [go_sem, *, -hc4, -hf4] at k4_4_1)
    have f4_4_1 := hf4 (w3.heap.size) 1 (by first | omega | (simp; done) | (simp; omega)); (try simp [go_sem, *, -hc4, -hf4] at f4_4_1)
    clear hc4 hf4
    clear k3_0_0 f3_0_0 k3_0_1 f3_0_1 k3_1_0 f3_1_0 k3_1_1 f3_1_1 k3_2_0 f3_2_0 k3_2_1 f3_2_1 k3_3_0 f3_3_0 k3_3_1 f3_3_1
    go_wp2_with fail
    refine (opsLives_any _).mono ?_; rintro e w5 ⟨rfl, hb5⟩; obtain ⟨hc5, hf5⟩ := bcell hb5
    have hq5 := hb5.size; (try simp at hq5)
    have hz5_0 : w.heap.size < w5.heap.size := (by omega)
    have k5_0_0 := hc5 (w.heap.size) 0 (by first | omega | (simp; done) | (simp; omega)); (try simp [go_sem, *, -hc5, -hf5] at k5_0_0)
    have f5_0_0 := hf5 (w.heap.size) 0 (by first | omega | (simp; done) | (simp; omega)); (try simp [go_sem, *, -hc5, -hf5] at f5_0_0)
    have k5_0_1 := hc5 (w.heap.size) 1 (by first | omega | (simp; done) | (simp; omega)); (try simp [go_sem, *, -hc5, -hf5] at k5_0_1)
    have f5_0_1 := hf5 (w.heap.size) 1 (by first | omega | (simp; done) | (simp; omega)); (try simp [go_sem, *, -hc5, -hf5] at f5_0_1)
    have hz5_2 : w1.heap.size < w5.heap.size := (by omega)
    have k5_2_0 := hc5 (w1.heap.size) 0 (by first | omega | (simp; done) | (simp; omega)); (try simp [go_sem, *, -hc5, -hf5] at k5_2_0)
    have f5_2_0 := hf5 (w1.heap.size) 0 (by first | omega | (simp; done) | (simp; omega)); (try simp [go_sem, *, -hc5, -hf5] at f5_2_0)
    have k5_2_1 := hc5 (w1.heap.size) 1 (by first | omega | (simp; done) | (simp; omega)); (try simp [go_sem, *, -hc5, -hf5] at k5_2_1)
    have f5_2_1 := hf5 (w1.heap.size) 1 (by first | omega | (simp; done) | (simp; omega)); (try simp [go_sem, *, -hc5, -hf5] at f5_2_1)
    have hz5_3 : w2.heap.size < w5.heap.size := (by omega)
    have k5_3_0 := hc5 (w2.heap.size) 0 (by first | omega | (simp; done) | (simp; omega)); (try simp [go_sem, *, -hc5, -hf5] at k5_3_0)
    have f5_3_0 := hf5 (w2.heap.size) 0 (by first | omega | (simp; done) | (simp; omega)); (try simp [go_sem, *, -hc5, -hf5] at f5_3_0)
    have k5_3_1 := hc5 (w2.heap.size) 1 (by first | omega | (simp; done) | (simp; omega)); (try simp [go_sem, *, -hc5, -hf5] at k5_3_1)
    have f5_3_1 := hf5 (w2.heap.size) 1 (by first | omega | (simp; done) | (simp; omega)); (try simp [go_sem, *, -hc5, -hf5] at f5_3_1)
    have hz5_4 : w3.heap.size < w5.heap.size := (by omega)
    have k5_4_0 := hc5 (w3.heap.size) 0 (by first | omega | (simp; done) | (simp; omega)); (try simp [go_sem, *, -hc5, -hf5] at k5_4_0)
    have f5_4_0 := hf5 (w3.heap.size) 0 (by first | omega | (simp; done) | (simp; omega)); (try simp [go_sem, *, -hc5, -hf5] at f5_4_0)
    have k5_4_1 := hc5 (w3.heap.size) 1 (by first | omega | (simp; done) | (simp; omega)); (try simp [go_sem, *, -hc5, -hf5] at k5_4_1)
    have f5_4_1 := hf5 (w3.heap.size) 1 (by first | omega | (simp; done) | (simp; omega)); (try simp [go_sem, *, -hc5, -hf5] at f5_4_1)
    have hz5_5 : w4.heap.size < w5.heap.size := (by omega)
    have k5_5_0 := hc5 (w4.heap.size) 0 (by first | omega | (simp; done) | (simp; omega)); (try simp [go_sem, *, -hc5, -hf5] at k5_5_0)
    have f5_5_0 := hf5 (w4.heap.size) 0 (by first | omega | (simp; done) | (simp; omega)); (try simp [go_sem, *, -hc5, -hf5] at f5_5_0)
    have k5_5_1 := hc5 (w4.heap.size) 1 (by first | omega | (simp; done) | (simp; omega)); (try simp [go_sem, *, -hc5, -hf5] at k5_5_1)
    have f5_5_1 := hf5 (w4.heap.size) 1 (by first | omega | (simp; done) | (simp; omega)); (try simp [go_sem, *, -hc5, -hf5] at f5_5_1)
    clear hc5 hf5
    clear k4_0_0 f4_0_0 k4_0_1 f4_0_1 k4_2_0 f4_2_0 k4_2_1 f4_2_1 k4_3_0 f4_3_0 k4_3_1 f4_3_1 k4_4_0 f4_4_0 k4_4_1 f4_4_1
    go_wp2_with fail
    refine wp_loop_rounds 12 ?_
    rw [rounds_succ]
    go_wp2_with fail
    refine (truthV_any _ _ _).mono ?_; rintro e w6 ⟨rfl, hb6⟩; obtain ⟨hc6, hf6⟩ := bcell hb6
    have hq6 := hb6.size; (try simp at hq6)
    have hz6_0 : w.heap.size < w6.heap.size := (by omega)
    have k6_0_0 := hc6 (w.heap.size) 0 (by first | omega | (simp; done) | (simp; omega)); (try simp [go_sem, *, -hc6, -hf6] at k6_0_0)
    have f6_0_0 := hf6 (w.heap.size) 0 (by first | omega | (simp; done) | (simp; omega)); (try simp [go_sem, *, -hc6, -hf6] at f6_0_0)
    have k6_0_1 := hc6 (w.heap.size) 1 (by first | omega | (simp; done) | (simp; omega)); (try simp [go_sem, *, -hc6, -hf6] at k6_0_1)
    have f6_0_1 := hf6 (w.heap.size) 1 (by first | omega | (simp; done) | (simp; omega)); (try simp [go_sem, *, -hc6, -hf6] at f6_0_1)
    have hz6_2 : w1.heap.size < w6.heap.size := (by omega)
    have k6_2_0 := hc6 (w1.heap.size) 0 (by first | omega | (simp; done) | (simp; omega)); (try simp [go_sem, *, -hc6, -hf6] at k6_2_0)
    have f6_2_0 := hf6 (w1.heap.size) 0 (by first | omega | (simp; done) | (simp; omega)); (try simp [go_sem, *, -hc6, -hf6] at f6_2_0)
    have k6_2_1 := hc6 (w1.heap.size) 1 (by first | omega | (simp; done) | (simp; omega)); (try simp [go_sem, *, -hc6, -hf6] at k6_2_1)
    have f6_2_1 := hf6 (w1.heap.size) 1 (by first | omega | (simp; done) | (simp; omega)); (try simp [go_sem, *, -hc6, -hf6] at f6_2_1)
    have hz6_4 : w3.heap.size < w6.heap.size := (by omega)
    have k6_4_0 := hc6 (w3.heap.size) 0 (by first | omega | (simp; done) | (simp; omega)); (try simp [go_sem, *, -hc6, -hf6] at k6_4_0)
    have f6_4_0 := hf6 (w3.heap.size) 0 (by first | omega | (simp; done) | (simp; omega)); (try simp [go_sem, *, -hc6, -hf6] at f6_4_0)
    have k6_4_1 := hc6 (w3.heap.size) 1 (by first | omega | (simp; done) | (simp; omega)); (try simp [go_sem, *, -hc6, -hf6] at k6_4_1)
    have f6_4_1 := hf6 (w3.heap.size) 1 (by first | omega | (simp; done) | (simp; omega)); (try simp [go_sem, *, -hc6, -hf6] at f6_4_1)
    have hz6_5 : w4.heap.size < w6.heap.size := (by omega)
    have k6_5_0 := hc6 (w4.heap.size) 0 (by first | omega | (simp; done) | (simp; omega)); (try simp [go_sem, *, -hc6, -hf6] at k6_5_0)
    have f6_5_0 := hf6 (w4.heap.size) 0 (by first | omega | (simp; done) | (simp; omega)); (try simp [go_sem, *, -hc6, -hf6] at f6_5_0)
    have k6_5_1 := hc6 (w4.heap.size) 1 (by first | omega | (simp; done) | (simp; omega)); (try simp [go_sem, *, -hc6, -hf6] at k6_5_1)
    have f6_5_1 := hf6 (w4.heap.size) 1 (by first | omega | (simp; done) | (simp; omega)); (try simp [go_sem, *, -hc6, -hf6] at f6_5_1)
    have hz6_6 : w5.heap.size < w6.heap.size := (by omega)
    have k6_6_0 := hc6 (w5.heap.size) 0 (by first | omega | (simp; done) | (simp; omega)); (try simp [go_sem, *, -hc6, -hf6] at k6_6_0)
    have f6_6_0 := hf6 (w5.heap.size) 0 (by first | omega | (simp; done) | (simp; omega)); (try simp [go_sem, *, -hc6, -hf6] at f6_6_0)
    have k6_6_1 := hc6 (w5.heap.size) 1 (by first | omega | (simp; done) | (simp; omega)); (try simp [go_sem, *, -hc6, -hf6] at k6_6_1)
    have f6_6_1 := hf6 (w5.heap.size) 1 (by first | omega | (simp; done) | (simp; omega)); (try simp [go_sem, *, -hc6, -hf6] at f6_6_1)
    clear hc6 hf6
    clear k5_0_0 f5_0_0 k5_0_1 f5_0_1 k5_2_0 f5_2_0 k5_2_1 f5_2_1 k5_3_0 f5_3_0 k5_3_1 f5_3_1 k5_4_0 f5_4_0 k5_4_1 f5_4_1 k5_5_0 f5_5_0 k5_5_1 f5_5_1
    go_wp2_with fail
    rw [rounds_succ]
    go_wp2_with fail
    refine (truthV_any _ _ _).mono ?_; rintro e w7 ⟨rfl, hb7⟩; obtain ⟨hc7, hf7⟩ := bcell hb7
    have hq7 := hb7.size; (try simp at hq7)
    have hz7_0 : w.heap.size < w7.heap.size := (by omega)
    have k7_0_0 := hc7 (w.heap.size) 0 (by first | omega | (simp; done) | (simp; omega)); (try simp [go_sem, *, -hc7, -hf7] at k7_0_0)
    have f7_0_0 := hf7 (w.heap.size) 0 (by first | omega | (simp; done) | (simp; omega)); (try simp [go_sem, *, -hc7, -hf7] at f7_0_0)
    have k7_0_1 := hc7 (w.heap.size) 1 (by first | omega | (simp; done) | (simp; omega)); (try simp [go_sem, *, -hc7, -hf7] at k7_0_1)
    have f7_0_1 := hf7 (w.heap.size) 1 (by first | omega | (simp; done) | (simp; omega)); (try simp [go_sem, *, -hc7, -hf7] at f7_0_1)
    have hz7_2 : w1.heap.size < w7.heap.size := (by omega)
    have k7_2_0 := hc7 (w1.heap.size) 0 (by first | omega | (simp; done) | (simp; omega)); (try simp [go_sem, *, -hc7, -hf7] at k7_2_0)
    have f7_2_0 := hf7 (w1.heap.size) 0 (by first | omega | (simp; done) | (simp; omega)); (try simp [go_sem, *, -hc7, -hf7] at f7_2_0)
    have k7_2_1 := hc7 (w1.heap.size) 1 (by first | omega | (simp; done) | (simp; omega)); (try simp [go_sem, *, -hc7, -hf7] at k7_2_1)
    have f7_2_1 := hf7 (w1.heap.size) 1 (by first | omega | (simp; done) | (simp; omega)); (try simp [go_sem, *, -hc7, -hf7] at f7_2_1)
    have hz7_4 : w3.heap.size < w7.heap.size := (by omega)
    have k7_4_0 := hc7 (w3.heap.size) 0 (by first | omega | (simp; done) | (simp; omega)); (try simp [go_sem, *, -hc7, -hf7] at k7_4_0)
    have f7_4_0 := hf7 (w3.heap.size) 0 (by first | omega | (simp; done) | (simp; omega)); (try simp [go_sem, *, -hc7, -hf7] at f7_4_0)
    have k7_4_1 := hc7 (w3.heap.size) 1 (by first | omega | (simp; done) | (simp; omega)); (try simp [go_sem, *, -hc7, -hf7] at k7_4_1)
    have f7_4_1 := hf7 (w3.heap.size) 1 (by first | omega | (simp; done) | (simp; omega)); (try simp [go_sem, *, -hc7, -hf7] at f7_4_1)
    have hz7_5 : w4.heap.size < w7.heap.size := (by omega)
    have k7_5_0 := hc7 (w4.heap.size) 0 (by first | omega | (simp; done) | (simp; omega)); (try simp [go_sem, *, -hc7, -hf7] at k7_5_0)
    have f7_5_0 := hf7 (w4.heap.size) 0 (by first | omega | (simp; done) | (simp; omega)); (try simp [go_sem, *, -hc7, -hf7] at f7_5_0)
    have k7_5_1 := hc7 (w4.heap.size) 1 (by first | omega | (simp; done) | (simp; omega)); (try simp [go_sem, *, -hc7, -hf7] at k7_5_1)
    have f7_5_1 := hf7 (w4.heap.size) 1 (by first | omega | (simp; done) | (simp; omega)); (try simp [go_sem, *, -hc7, -hf7] at f7_5_1)
    have hz7_6 : w5.heap.size < w7.heap.size := (by omega)
    have k7_6_0 := hc7 (w5.heap.size) 0 (by first | omega | (simp; done) | (simp; omega)); (try simp [go_sem, *, -hc7, -hf7] at k7_6_0)
    have f7_6_0 := hf7 (w5.heap.size) 0 (by first | omega | (simp; done) | (simp; omega)); (try simp [go_sem, *, -hc7, -hf7] at f7_6_0)
    have k7_6_1 := hc7 (w5.heap.size) 1 (by first | omega | (simp; done) | (simp; omega)); (try simp [go_sem, *, -hc7, -hf7] at k7_6_1)
    have f7_6_1 := hf7 (w5.heap.size) 1 (by first | omega | (simp; done) | (simp; omega)); (try simp [go_sem, *, -hc7, -hf7] at f7_6_1)
    have hz7_7 : w6.heap.size < w7.heap.size := (by omega)
    have k7_7_0 := hc7 (w6.heap.size) 0 (by first | omega | (simp; done) | (simp; omega)); (try simp [go_sem, *, -hc7, -hf7] at k7_7_0)
    have f7_7_0 := hf7 (w6.heap.size) 0 (by first | omega | (simp; done) | (simp; omega)); (try simp [go_sem, *, -hc7, -hf7] at f7_7_0)
    have k7_7_1 := hc7 (w6.heap.size) 1 (by first | omega | (simp; done) | (simp; omega)); (try simp [go_sem, *, -hc7, -hf7] at k7_7_1)
    have f7_7_1 := hf7 (w6.heap.size) 1 (by first | omega | (simp; done) | (simp; omega)); (try simp [go_sem, *, -hc7, -hf7] at f7_7_1)
    clear hc7 hf7
    clear k6_0_0 f6_0_0 k6_0_1 f6_0_1 k6_2_0 f6_2_0 k6_2_1 f6_2_1 k6_4_0 f6_4_0 k6_4_1 f6_4_1 k6_5_0 f6_5_0 k6_5_1 f6_5_1 k6_6_0 f6_6_0 k6_6_1 f6_6_1
    go_wp2_with fail
    rw [rounds_succ]
    go_wp2_with fail
    refine (truthV_any _ _ _).mono ?_; rintro e w8 ⟨rfl, hb8⟩; obtain ⟨hc8, hf8⟩ := bcell hb8
    have hq8 := hb8.size; (try simp at hq8)
    have hz8_0 : w.heap.size < w8.heap.size := (by omega)
    have k8_0_0 := hc8 (w.heap.size) 0 (by first | omega | (simp; done) | (simp; omega)); (try simp [go_sem, *, -hc8, -hf8] at k8_0_0)
    have f8_0_0 := hf8 (w.heap.size) 0 (by first | omega | (simp; done) | (simp; omega)); (try simp [go_sem, *, -hc8, -hf8] at f8_0_0)
    have k8_0_1 := hc8 (w.heap.size) 1 (by first | omega | (simp; done) | (simp; omega)); (try simp [go_sem, *, -hc8, -hf8] at k8_0_1)
    have f8_0_1 := hf8 (w.heap.size) 1 (by first | omega | (simp; done) | (simp; omega)); (try simp [go_sem, *, -hc8, -hf8] at f8_0_1)
    have hz8_2 : w1.heap.size < w8.heap.size := (by omega)
    have k8_2_0 := hc8 (w1.heap.size) 0 (by first | omega | (simp; done) | (simp; omega)); (try simp [go_sem, *, -hc8, -hf8] at k8_2_0)
    have f8_2_0 := hf8 (w1.heap.size) 0 (by first | omega | (simp; done) | (simp; omega)); (try simp [go_sem, *, -hc8, -hf8] at f8_2_0)
    have k8_2_1 := hc8 (w1.heap.size) 1 (by first | omega | (simp; done) | (simp; omega)); (try simp [go_sem, *, -hc8, -hf8] at k8_2_1)
    have f8_2_1 := hf8 (w1.heap.size) 1 (by first | omega | (simp; done) | (simp; omega)); (try simp [go_sem, *, -hc8, -hf8] at f8_2_1)
    have hz8_4 : w3.heap.size < w8.heap.size := (by omega)
    have k8_4_0 := hc8 (w3.heap.size) 0 (by first | omega | (simp; done) | (simp; omega)); (try simp [go_sem, *, -hc8, -hf8] at k8_4_0)
    have f8_4_0 := hf8 (w3.heap.size) 0 (by first | omega | (simp; done) | (simp; omega)); (try simp [go_sem, *, -hc8, -hf8] at f8_4_0)
    have k8_4_1 := hc8 (w3.heap.size) 1 (by first | omega | (simp; done) | (simp; omega)); (try simp [go_sem, *, -hc8, -hf8] at k8_4_1)
    have f8_4_1 := hf8 (w3.heap.size) 1 (by first | omega | (simp; done) | (simp; omega)); (try simp [go_sem, *, -hc8, -hf8] at f8_4_1)
    have hz8_5 : w4.heap.size < w8.heap.size := (by omega)
    have k8_5_0 := hc8 (w4.heap.size) 0 (by first | omega | (simp; done) | (simp; omega)); (try simp [go_sem, *, -hc8, -hf8] at k8_5_0)
    have f8_5_0 := hf8 (w4.heap.size) 0 (by first | omega | (simp; done) | (simp; omega)); (try simp [go_sem, *, -hc8, -hf8] at f8_5_0)
    have k8_5_1 := hc8 (w4.heap.size) 1 (by first | omega | (simp; done) | (simp; omega)); (try simp [go_sem, *, -hc8, -hf8] at k8_5_1)
    have f8_5_1 := hf8 (w4.heap.size) 1 (by first | omega | (simp; done) | (simp; omega)); (try simp [go_sem, *, -hc8, -hf8] at f8_5_1)
    have hz8_6 : w5.heap.size < w8.heap.size := (by omega)
    have k8_6_0 := hc8 (w5.heap.size) 0 (by first | omega | (simp; done) | (simp; omega)); (try simp [go_sem, *, -hc8, -hf8] at k8_6_0)
    have f8_6_0 := hf8 (w5.heap.size) 0 (by first | omega | (simp; done) | (simp; omega)); (try simp [go_sem, *, -hc8, -hf8] at f8_6_0)
    have k8_6_1 := hc8 (w5.heap.size) 1 (by first | omega | (simp; done) | (simp; omega)); (try simp [go_sem, *, -hc8, -hf8] at k8_6_1)
    have f8_6_1 := hf8 (w5.heap.size) 1 (by first | omega | (simp; done) | (simp; omega)); (try simp [go_sem, *, -hc8, -hf8] at f8_6_1)
    have hz8_7 : w6.heap.size < w8.heap.size := (by omega)
    have k8_7_0 := hc8 (w6.heap.size) 0 (by first | omega | (simp; done) | (simp; omega)); (try simp [go_sem, *, -hc8, -hf8] at k8_7_0)
    have f8_7_0 := hf8 (w6.heap.size) 0 (by first | omega | (simp; done) | (simp; omega)); (try simp [go_sem, *, -hc8, -hf8] at f8_7_0)
    have k8_7_1 := hc8 (w6.heap.size) 1 (by first | omega | (simp; done) | (simp; omega)); (try simp [go_sem, *, -hc8, -hf8] at k8_7_1)
    have f8_7_1 := hf8 (w6.heap.size) 1 (by first | omega | (simp; done) | (simp; omega)); (try simp [go_sem, *, -hc8, -hf8] at f8_7_1)
    have hz8_8 : w7.heap.size < w8.heap.size := (by omega)
    have k8_8_0 := hc8 (w7.heap.size) 0 (by first | omega | (simp; done) | (simp; omega)); (try simp [go_sem, *, -hc8, -hf8] at k8_8_0)
    have f8_8_0 := hf8 (w7.heap.size) 0 (by first | omega | (simp; done) | (simp; omega)); (try simp [go_sem, *, -hc8, -hf8] at f8_8_0)
    have k8_8_1 := hc8 (w7.heap.size) 1 (by first | omega | (simp; done) | (simp; omega)); (try simp [go_sem, *, -hc8, -hf8] at k8_8_1)
    have f8_8_1 := hf8 (w7.heap.size) 1 (by first | omega | (simp; done) | (simp; omega)); (try simp [go_sem, *, -hc8, -hf8] at f8_8_1)
    clear hc8 hf8
    clear k7_0_0 f7_0_0 k7_0_1 f7_0_1 k7_2_0 f7_2_0 k7_2_1 f7_2_1 k7_4_0 f7_4_0 k7_4_1 f7_4_1 k7_5_0 f7_5_0 k7_5_1 f7_5_1 k7_6_0 f7_6_0 k7_6_1 f7_6_1 k7_7_0 f7_7_0 k7_7_1 f7_7_1
    go_wp2_with fail
    rw [rounds_succ]
    go_wp2_with fail
    refine wp_region_plan [0, 1, 3, 7, 15, 31, 63, 127, 255, 511, 1023, 2047, 4095, 8191, 16383, 32767, 65535, 131071, 262143, 524287, 1048575, 524287, 4194303, 8388607, 16777215, 33554431, 67108863, 134217727, 268435455, 536870911] (.seg 0 (.seg 1 (.seg 2 (.seg 3 (.seg 4 (.seg 5 (.seg 6 (.seg 7 (.seg 8 (.seg 9 (.seg 10 (.seg 11 (.seg 12 (.seg 13 (.seg 14 (.seg 15 (.seg 16 (.seg 17 (.seg 18 (.seg 19 (.seg 21 (.eff 20 [21] (.eff 22 [] (.seg 23 (.seg 24 (.eff 25 [] (.seg 26 (.seg 27 (.seg 28 (.seg 29 .last)))))))))))))))))))))))))))))) rfl (by kernel_rfl) rfl ?_
    iterate 21 (refine plan_seg rfl (fun _ _ => ?_); go_wp2_with fail)
    refine plan_eff rfl (fun _ hQ => ?_)
    go_wp2_with fail
    refine (truthV_any _ _ _).mono ?_; rintro e w9 ⟨rfl, hb9⟩; obtain ⟨hc9, hf9⟩ := bcell hb9
    have hq9 := hb9.size; (try simp at hq9)
    have hz9_2 : w1.heap.size < w9.heap.size := (by omega)
    have k9_2_0 := hc9 (w1.heap.size) 0 (by first | omega | (simp; done) | (simp; omega)); (try simp [go_sem, *, -hc9, -hf9] at k9_2_0)
    have f9_2_0 := hf9 (w1.heap.size) 0 (by first | omega | (simp; done) | (simp; omega)); (try simp [go_sem, *, -hc9, -hf9] at f9_2_0)
    have k9_2_1 := hc9 (w1.heap.size) 1 (by first | omega | (simp; done) | (simp; omega)); (try simp [go_sem, *, -hc9, -hf9] at k9_2_1)
    have f9_2_1 := hf9 (w1.heap.size) 1 (by first | omega | (simp; done) | (simp; omega)); (try simp [go_sem, *, -hc9, -hf9] at f9_2_1)
    have hz9_4 : w3.heap.size < w9.heap.size := (by omega)
    have k9_4_0 := hc9 (w3.heap.size) 0 (by first | omega | (simp; done) | (simp; omega)); (try simp [go_sem, *, -hc9, -hf9] at k9_4_0)
    have f9_4_0 := hf9 (w3.heap.size) 0 (by first | omega | (simp; done) | (simp; omega)); (try simp [go_sem, *, -hc9, -hf9] at f9_4_0)
    have k9_4_1 := hc9 (w3.heap.size) 1 (by first | omega | (simp; done) | (simp; omega)); (try simp [go_sem, *, -hc9, -hf9] at k9_4_1)
    have f9_4_1 := hf9 (w3.heap.size) 1 (by first | omega | (simp; done) | (simp; omega)); (try simp [go_sem, *, -hc9, -hf9] at f9_4_1)
    clear hc9 hf9
    clear k8_0_0 f8_0_0 k8_0_1 f8_0_1 k8_2_0 f8_2_0 k8_2_1 f8_2_1 k8_4_0 f8_4_0 k8_4_1 f8_4_1 k8_5_0 f8_5_0 k8_5_1 f8_5_1 k8_6_0 f8_6_0 k8_6_1 f8_6_1 k8_7_0 f8_7_0 k8_7_1 f8_7_1 k8_8_0 f8_8_0 k8_8_1 f8_8_1
    go_wp2_with fail
    refine hQ _ _ (pend_cons rfl rfl (by go_simp; rfl) <|  pend_nil) ?_
    refine plan_eff0 rfl (fun _ _ => ?_)
    go_wp2_with fail
    refine (truthV_any _ _ _).mono ?_; rintro e w10 ⟨rfl, hb10⟩; obtain ⟨hc10, hf10⟩ := bcell hb10
    have hq10 := hb10.size; (try simp at hq10)
    have hz10_4 : w3.heap.size < w10.heap.size := (by omega)
    have k10_4_0 := hc10 (w3.heap.size) 0 (by first | omega | (simp; done) | (simp; omega)); (try simp [go_sem, *, -hc10, -hf10] at k10_4_0)
    have f10_4_0 := hf10 (w3.heap.size) 0 (by first | omega | (simp; done) | (simp; omega)); (try simp [go_sem, *, -hc10, -hf10] at f10_4_0)
    have k10_4_1 := hc10 (w3.heap.size) 1 (by first | omega | (simp; done) | (simp; omega)); (try simp [go_sem, *, -hc10, -hf10] at k10_4_1)
    have f10_4_1 := hf10 (w3.heap.size) 1 (by first | omega | (simp; done) | (simp; omega)); (try simp [go_sem, *, -hc10, -hf10] at f10_4_1)
    clear hc10 hf10
    clear k9_2_0 f9_2_0 k9_2_1 f9_2_1 k9_4_0 f9_4_0 k9_4_1 f9_4_1
    go_wp2_with fail
    iterate 2 (refine plan_seg rfl (fun _ _ => ?_); go_wp2_with fail)
    refine plan_eff0 rfl (fun _ _ => ?_)
    go_wp2_with fail
    iterate 4 (refine plan_seg rfl (fun _ _ => ?_); go_wp2_with fail)
    refine plan_last ?_
    go_wp2_with fail
    go_ret
    exact ⟨rfl, (by repeat' (first | exact Below.refl _ _ | (refine Below.via ?_ (by assumption) ?_) | refine Below.setCell ?_ ?_ _ | refine Below.alloc ?_ ?_ _ | refine Below.drew ?_ | omega | (simp; omega) | (simp; done)))⟩
set_option maxHeartbeats 1000000 in
theorem opsOrder_m (ak an bk bn : Int) (w : World) (wh : Bool) (hk : (ak == 2) = wh) (hw : (wh && false) = false)
    (h1 : binaryS 9 ak an bk bn = (1, bit false, -1)) (h2 : binaryS 9 bk bn ak an = (1, bit true, -1)) (h3 : binaryS 8 ak an bk bn = (1, bit false, -1)) (h4 : binaryS 10 ak an bk bn = (1, bit (false || false), -1)) :
    Calls Try.prog 9 #[.agg #[.int .i64 ak, .int .i64 an], .agg #[.int .i64 bk, .int .i64 bn]] w fun e w' => e = .returned (.bool true) ∧ Below w.heap.size w w' := by
  have tt : truthB 1 (bit true) = true := truth_bit true
  have tf : truthB 1 (bit false) = false := truth_bit false
  have i0 : ∀ (a b c d e f : Int) (w : World), (Instr.index 50 (.agg #[.int .i64 a, .int .i64 b, .int .i64 c, .int .i64 d, .int .i64 e, .int .i64 f]) (.int .i64 0)).run Try.prog w = .ok (.agg #[.int .i64 a, .int .i64 b]) w := fun _ _ _ _ _ _ _ => by kernel_rfl
  have i1 : ∀ (a b c d e f : Int) (w : World), (Instr.index 50 (.agg #[.int .i64 a, .int .i64 b, .int .i64 c, .int .i64 d, .int .i64 e, .int .i64 f]) (.int .i64 1)).run Try.prog w = .ok (.agg #[.int .i64 c, .int .i64 d]) w := fun _ _ _ _ _ _ _ => by kernel_rfl
  have i2 : ∀ (a b c d e f : Int) (w : World), (Instr.index 50 (.agg #[.int .i64 a, .int .i64 b, .int .i64 c, .int .i64 d, .int .i64 e, .int .i64 f]) (.int .i64 2)).run Try.prog w = .ok (.agg #[.int .i64 e, .int .i64 f]) w := fun _ _ _ _ _ _ _ => by kernel_rfl
  cases wh <;> simp only [Bool.true_and, Bool.false_and, Bool.and_true, Bool.and_false] at hw <;> first | (cases hw; done) | skip
  all_goals
    try clear hw
    go_enter Try.func9, Try.ntmps9
    go_wp2_with fail
    refine (binary_any _ _ _ _ _ _).mono ?_; rintro e w1 ⟨rfl, hb1⟩; obtain ⟨hc1, hf1⟩ := bcell hb1
    have hq1 := hb1.size; (try simp at hq1)
    have hz1_0 : w.heap.size < w1.heap.size := (by omega)
    have k1_0_0 := hc1 (w.heap.size) 0 (by first | omega | (simp; done) | (simp; omega)); (try simp [go_sem, *, -hc1, -hf1] at k1_0_0)
    have f1_0_0 := hf1 (w.heap.size) 0 (by first | omega | (simp; done) | (simp; omega)); (try simp [go_sem, *, -hc1, -hf1] at f1_0_0)
    have k1_0_1 := hc1 (w.heap.size) 1 (by first | omega | (simp; done) | (simp; omega)); (try simp [go_sem, *, -hc1, -hf1] at k1_0_1)
    have f1_0_1 := hf1 (w.heap.size) 1 (by first | omega | (simp; done) | (simp; omega)); (try simp [go_sem, *, -hc1, -hf1] at f1_0_1)
    have hz1_1 : w.heap.size + 1 < w1.heap.size := (by omega)
    have k1_1_0 := hc1 (w.heap.size + 1) 0 (by first | omega | (simp; done) | (simp; omega)); (try simp [go_sem, *, -hc1, -hf1] at k1_1_0)
    have f1_1_0 := hf1 (w.heap.size + 1) 0 (by first | omega | (simp; done) | (simp; omega)); (try simp [go_sem, *, -hc1, -hf1] at f1_1_0)
    have k1_1_1 := hc1 (w.heap.size + 1) 1 (by first | omega | (simp; done) | (simp; omega)); (try simp [go_sem, *, -hc1, -hf1] at k1_1_1)
    have f1_1_1 := hf1 (w.heap.size + 1) 1 (by first | omega | (simp; done) | (simp; omega)); (try simp [go_sem, *, -hc1, -hf1] at f1_1_1)
    clear hc1 hf1
    go_wp2_with fail
    refine (binary_any _ _ _ _ _ _).mono ?_; rintro e w2 ⟨rfl, hb2⟩; obtain ⟨hc2, hf2⟩ := bcell hb2
    have hq2 := hb2.size; (try simp at hq2)
    have hz2_0 : w.heap.size < w2.heap.size := (by omega)
    have k2_0_0 := hc2 (w.heap.size) 0 (by first | omega | (simp; done) | (simp; omega)); (try simp [go_sem, *, -hc2, -hf2] at k2_0_0)
    have f2_0_0 := hf2 (w.heap.size) 0 (by first | omega | (simp; done) | (simp; omega)); (try simp [go_sem, *, -hc2, -hf2] at f2_0_0)
    have k2_0_1 := hc2 (w.heap.size) 1 (by first | omega | (simp; done) | (simp; omega)); (try simp [go_sem, *, -hc2, -hf2] at k2_0_1)
    have f2_0_1 := hf2 (w.heap.size) 1 (by first | omega | (simp; done) | (simp; omega)); (try simp [go_sem, *, -hc2, -hf2] at f2_0_1)
    have hz2_1 : w.heap.size + 1 < w2.heap.size := (by omega)
    have k2_1_0 := hc2 (w.heap.size + 1) 0 (by first | omega | (simp; done) | (simp; omega)); (try simp [go_sem, *, -hc2, -hf2] at k2_1_0)
    have f2_1_0 := hf2 (w.heap.size + 1) 0 (by first | omega | (simp; done) | (simp; omega)); (try simp [go_sem, *, -hc2, -hf2] at f2_1_0)
    have k2_1_1 := hc2 (w.heap.size + 1) 1 (by first | omega | (simp; done) | (simp; omega)); (try simp [go_sem, *, -hc2, -hf2] at k2_1_1)
    have f2_1_1 := hf2 (w.heap.size + 1) 1 (by first | omega | (simp; done) | (simp; omega)); (try simp [go_sem, *, -hc2, -hf2] at f2_1_1)
    have hz2_2 : w1.heap.size < w2.heap.size := (by omega)
    have k2_2_0 := hc2 (w1.heap.size) 0 (by first | omega | (simp; done) | (simp; omega)); (try simp [go_sem, *, -hc2, -hf2] at k2_2_0)
    have f2_2_0 := hf2 (w1.heap.size) 0 (by first | omega | (simp; done) | (simp; omega)); (try simp [go_sem, *, -hc2, -hf2] at f2_2_0)
    have k2_2_1 := hc2 (w1.heap.size) 1 (by first | omega | (simp; done) | (simp; omega)); (try simp [go_sem, *, -hc2, -hf2] at k2_2_1)
    have f2_2_1 := hf2 (w1.heap.size) 1 (by first | omega | (simp; done) | (simp; omega)); (try simp [go_sem, *, -hc2, -hf2] at f2_2_1)
    clear hc2 hf2
    clear k1_0_0 f1_0_0 k1_0_1 f1_0_1 k1_1_0 f1_1_0 k1_1_1 f1_1_1
    go_wp2_with fail
    refine (binary_any _ _ _ _ _ _).mono ?_; rintro e w3 ⟨rfl, hb3⟩; obtain ⟨hc3, hf3⟩ := bcell hb3
    have hq3 := hb3.size; (try simp at hq3)
    have hz3_0 : w.heap.size < w3.heap.size := (by omega)
    have k3_0_0 := hc3 (w.heap.size) 0 (by first | omega | (simp; done) | (simp; omega)); (try simp [go_sem, *, -hc3, -hf3] at k3_0_0)
    have f3_0_0 := hf3 (w.heap.size) 0 (by first | omega | (simp; done) | (simp; omega)); (try simp [go_sem, *, -hc3, -hf3] at f3_0_0)
    have k3_0_1 := hc3 (w.heap.size) 1 (by first | omega | (simp; done) | (simp; omega)); (try simp [go_sem, *, -hc3, -hf3] at k3_0_1)
    have f3_0_1 := hf3 (w.heap.size) 1 (by first | omega | (simp; done) | (simp; omega)); (try simp [go_sem, *, -hc3, -hf3] at f3_0_1)
    have hz3_1 : w.heap.size + 1 < w3.heap.size := (by omega)
    have k3_1_0 := hc3 (w.heap.size + 1) 0 (by first | omega | (simp; done) | (simp; omega)); (try simp [go_sem, *, -hc3, -hf3] at k3_1_0)
    have f3_1_0 := hf3 (w.heap.size + 1) 0 (by first | omega | (simp; done) | (simp; omega)); (try simp [go_sem, *, -hc3, -hf3] at f3_1_0)
    have k3_1_1 := hc3 (w.heap.size + 1) 1 (by first | omega | (simp; done) | (simp; omega)); (try simp [go_sem, *, -hc3, -hf3] at k3_1_1)
    have f3_1_1 := hf3 (w.heap.size + 1) 1 (by first | omega | (simp; done) | (simp; omega)); (try simp [go_sem, *, -hc3, -hf3] at f3_1_1)
    have hz3_2 : w1.heap.size < w3.heap.size := (by omega)
    have k3_2_0 := hc3 (w1.heap.size) 0 (by first | omega | (simp; done) | (simp; omega)); (try simp [go_sem, *, -hc3, -hf3] at k3_2_0)
    have f3_2_0 := hf3 (w1.heap.size) 0 (by first | omega | (simp; done) | (simp; omega)); (try simp [go_sem, *, -hc3, -hf3] at f3_2_0)
    have k3_2_1 := hc3 (w1.heap.size) 1 (by first | omega | (simp; done) | (simp; omega)); (try simp [go_sem, *, -hc3, -hf3] at k3_2_1)
    have f3_2_1 := hf3 (w1.heap.size) 1 (by first | omega | (simp; done) | (simp; omega)); (try simp [go_sem, *, -hc3, -hf3] at f3_2_1)
    have hz3_3 : w2.heap.size < w3.heap.size := (by omega)
    have k3_3_0 := hc3 (w2.heap.size) 0 (by first | omega | (simp; done) | (simp; omega)); (try simp [go_sem, *, -hc3, -hf3] at k3_3_0)
    have f3_3_0 := hf3 (w2.heap.size) 0 (by first | omega | (simp; done) | (simp; omega)); (try simp [go_sem, *, -hc3, -hf3] at f3_3_0)
    have k3_3_1 := hc3 (w2.heap.size) 1 (by first | omega | (simp; done) | (simp; omega)); (try simp [go_sem, *, -hc3, -hf3] at k3_3_1)
    have f3_3_1 := hf3 (w2.heap.size) 1 (by first | omega | (simp; done) | (simp; omega)); (try simp [go_sem, *, -hc3, -hf3] at f3_3_1)
    clear hc3 hf3
    clear k2_0_0 f2_0_0 k2_0_1 f2_0_1 k2_1_0 f2_1_0 k2_1_1 f2_1_1 k2_2_0 f2_2_0 k2_2_1 f2_2_1
    go_wp2_with fail
    refine (binary_any _ _ _ _ _ _).mono ?_; rintro e w4 ⟨rfl, hb4⟩; obtain ⟨hc4, hf4⟩ := bcell hb4
    have hq4 := hb4.size; (try simp at hq4)
    have hz4_0 : w.heap.size < w4.heap.size := (by omega)
    have k4_0_0 := hc4 (w.heap.size) 0 (by first | omega | (simp; done) | (simp; omega)); (try simp [go_sem, *, -hc4, -hf4] at k4_0_0)
    have f4_0_0 := hf4 (w.heap.size) 0 (by first | omega | (simp; done) | (simp; omega)); (try simp [go_sem, *, -hc4, -hf4] at f4_0_0)
    have k4_0_1 := hc4 (w.heap.size) 1 (by first | omega | (simp; done) | (simp; omega)); (try simp [go_sem, *, -hc4, -hf4] at k4_0_1)
    have f4_0_1 := hf4 (w.heap.size) 1 (by first | omega | (simp; done) | (simp; omega)); (try simp [go_sem, *, -hc4, -hf4] at f4_0_1)
    have hz4_2 : w1.heap.size < w4.heap.size := (by omega)
    have k4_2_0 := hc4 (w1.heap.size) 0 (by first | omega | (simp; done) | (simp; omega)); (try simp [go_sem, *, -hc4, -hf4] at k4_2_0)
    have f4_2_0 := hf4 (w1.heap.size) 0 (by first | omega | (simp; done) | (simp; omega)); (try simp [go_sem, *, -hc4, -hf4] at f4_2_0)
    have k4_2_1 := hc4 (w1.heap.size) 1 (by first | omega | (simp; done) | (simp; omega)); (try simp [go_sem, *, -hc4, -hf4] at k4_2_1)
    have f4_2_1 := hf4 (w1.heap.size) 1 (by first | omega | (simp; done) | (simp; omega)); (try simp [go_sem, *, -hc4, -hf4] at f4_2_1)
    have hz4_3 : w2.heap.size < w4.heap.size := (by omega)
    have k4_3_0 := hc4 (w2.heap.size) 0 (by first | omega | (simp; done) | (simp; omega)); (try simp [go_sem, *, -hc4, -hf4] at k4_3_0)
    have f4_3_0 := hf4 (w2.heap.size) 0 (by first | omega | (simp; done) | (simp; omega)); (try simp [go_sem, *, -hc4, -hf4] at f4_3_0)
    have k4_3_1 := hc4 (w2.heap.size) 1 (by first | omega | (simp; done) | (simp; omega)); (try simp [go_sem, *, -hc4, -hf4] at k4_3_1)
    have f4_3_1 := hf4 (w2.heap.size) 1 (by first | omega | (simp; done) | (simp; omega)); (try simp [go_sem, *, -hc4, -hf4] at f4_3_1)
    have hz4_4 : w3.heap.size < w4.heap.size := (by omega)
    have k4_4_0 := hc4 (w3.heap.size) 0 (by first | omega | (simp; done) | (simp; omega)); (try simp [go_sem, *, -hc4, -hf4] at k4_4_0)
    have f4_4_0 := hf4 (w3.heap.size) 0 (by first | omega | (simp; done) | (simp; omega)); (try simp [go_sem, *, -hc4, -hf4] at f4_4_0)
    have k4_4_1 := hc4 (w3.heap.size) 1 (by first | omega | (simp; done) | (simp; omega)); (try simp [go_sem, *, -hc4, -hf4] at k4_4_1)
    have f4_4_1 := hf4 (w3.heap.size) 1 (by first | omega | (simp; done) | (simp; omega)); (try simp [go_sem, *, -hc4, -hf4] at f4_4_1)
    clear hc4 hf4
    clear k3_0_0 f3_0_0 k3_0_1 f3_0_1 k3_1_0 f3_1_0 k3_1_1 f3_1_1 k3_2_0 f3_2_0 k3_2_1 f3_2_1 k3_3_0 f3_3_0 k3_3_1 f3_3_1
    go_wp2_with fail
    refine (opsLives_any _).mono ?_; rintro e w5 ⟨rfl, hb5⟩; obtain ⟨hc5, hf5⟩ := bcell hb5
    have hq5 := hb5.size; (try simp at hq5)
    have hz5_0 : w.heap.size < w5.heap.size := (by omega)
    have k5_0_0 := hc5 (w.heap.size) 0 (by first | omega | (simp; done) | (simp; omega)); (try simp [go_sem, *, -hc5, -hf5] at k5_0_0)
    have f5_0_0 := hf5 (w.heap.size) 0 (by first | omega | (simp; done) | (simp; omega)); (try simp [go_sem, *, -hc5, -hf5] at f5_0_0)
    have k5_0_1 := hc5 (w.heap.size) 1 (by first | omega | (simp; done) | (simp; omega)); (try simp [go_sem, *, -hc5, -hf5] at k5_0_1)
    have f5_0_1 := hf5 (w.heap.size) 1 (by first | omega | (simp; done) | (simp; omega)); (try simp [go_sem, *, -hc5, -hf5] at f5_0_1)
    have hz5_2 : w1.heap.size < w5.heap.size := (by omega)
    have k5_2_0 := hc5 (w1.heap.size) 0 (by first | omega | (simp; done) | (simp; omega)); (try simp [go_sem, *, -hc5, -hf5] at k5_2_0)
    have f5_2_0 := hf5 (w1.heap.size) 0 (by first | omega | (simp; done) | (simp; omega)); (try simp [go_sem, *, -hc5, -hf5] at f5_2_0)
    have k5_2_1 := hc5 (w1.heap.size) 1 (by first | omega | (simp; done) | (simp; omega)); (try simp [go_sem, *, -hc5, -hf5] at k5_2_1)
    have f5_2_1 := hf5 (w1.heap.size) 1 (by first | omega | (simp; done) | (simp; omega)); (try simp [go_sem, *, -hc5, -hf5] at f5_2_1)
    have hz5_3 : w2.heap.size < w5.heap.size := (by omega)
    have k5_3_0 := hc5 (w2.heap.size) 0 (by first | omega | (simp; done) | (simp; omega)); (try simp [go_sem, *, -hc5, -hf5] at k5_3_0)
    have f5_3_0 := hf5 (w2.heap.size) 0 (by first | omega | (simp; done) | (simp; omega)); (try simp [go_sem, *, -hc5, -hf5] at f5_3_0)
    have k5_3_1 := hc5 (w2.heap.size) 1 (by first | omega | (simp; done) | (simp; omega)); (try simp [go_sem, *, -hc5, -hf5] at k5_3_1)
    have f5_3_1 := hf5 (w2.heap.size) 1 (by first | omega | (simp; done) | (simp; omega)); (try simp [go_sem, *, -hc5, -hf5] at f5_3_1)
    have hz5_4 : w3.heap.size < w5.heap.size := (by omega)
    have k5_4_0 := hc5 (w3.heap.size) 0 (by first | omega | (simp; done) | (simp; omega)); (try simp [go_sem, *, -hc5, -hf5] at k5_4_0)
    have f5_4_0 := hf5 (w3.heap.size) 0 (by first | omega | (simp; done) | (simp; omega)); (try simp [go_sem, *, -hc5, -hf5] at f5_4_0)
    have k5_4_1 := hc5 (w3.heap.size) 1 (by first | omega | (simp; done) | (simp; omega)); (try simp [go_sem, *, -hc5, -hf5] at k5_4_1)
    have f5_4_1 := hf5 (w3.heap.size) 1 (by first | omega | (simp; done) | (simp; omega)); (try simp [go_sem, *, -hc5, -hf5] at f5_4_1)
    have hz5_5 : w4.heap.size < w5.heap.size := (by omega)
    have k5_5_0 := hc5 (w4.heap.size) 0 (by first | omega | (simp; done) | (simp; omega)); (try simp [go_sem, *, -hc5, -hf5] at k5_5_0)
    have f5_5_0 := hf5 (w4.heap.size) 0 (by first | omega | (simp; done) | (simp; omega)); (try simp [go_sem, *, -hc5, -hf5] at f5_5_0)
    have k5_5_1 := hc5 (w4.heap.size) 1 (by first | omega | (simp; done) | (simp; omega)); (try simp [go_sem, *, -hc5, -hf5] at k5_5_1)
    have f5_5_1 := hf5 (w4.heap.size) 1 (by first | omega | (simp; done) | (simp; omega)); (try simp [go_sem, *, -hc5, -hf5] at f5_5_1)
    clear hc5 hf5
    clear k4_0_0 f4_0_0 k4_0_1 f4_0_1 k4_2_0 f4_2_0 k4_2_1 f4_2_1 k4_3_0 f4_3_0 k4_3_1 f4_3_1 k4_4_0 f4_4_0 k4_4_1 f4_4_1
    go_wp2_with fail
    refine wp_loop_rounds 12 ?_
    rw [rounds_succ]
    go_wp2_with fail
    refine (truthV_any _ _ _).mono ?_; rintro e w6 ⟨rfl, hb6⟩; obtain ⟨hc6, hf6⟩ := bcell hb6
    have hq6 := hb6.size; (try simp at hq6)
    have hz6_0 : w.heap.size < w6.heap.size := (by omega)
    have k6_0_0 := hc6 (w.heap.size) 0 (by first | omega | (simp; done) | (simp; omega)); (try simp [go_sem, *, -hc6, -hf6] at k6_0_0)
    have f6_0_0 := hf6 (w.heap.size) 0 (by first | omega | (simp; done) | (simp; omega)); (try simp [go_sem, *, -hc6, -hf6] at f6_0_0)
    have k6_0_1 := hc6 (w.heap.size) 1 (by first | omega | (simp; done) | (simp; omega)); (try simp [go_sem, *, -hc6, -hf6] at k6_0_1)
    have f6_0_1 := hf6 (w.heap.size) 1 (by first | omega | (simp; done) | (simp; omega)); (try simp [go_sem, *, -hc6, -hf6] at f6_0_1)
    have hz6_2 : w1.heap.size < w6.heap.size := (by omega)
    have k6_2_0 := hc6 (w1.heap.size) 0 (by first | omega | (simp; done) | (simp; omega)); (try simp [go_sem, *, -hc6, -hf6] at k6_2_0)
    have f6_2_0 := hf6 (w1.heap.size) 0 (by first | omega | (simp; done) | (simp; omega)); (try simp [go_sem, *, -hc6, -hf6] at f6_2_0)
    have k6_2_1 := hc6 (w1.heap.size) 1 (by first | omega | (simp; done) | (simp; omega)); (try simp [go_sem, *, -hc6, -hf6] at k6_2_1)
    have f6_2_1 := hf6 (w1.heap.size) 1 (by first | omega | (simp; done) | (simp; omega)); (try simp [go_sem, *, -hc6, -hf6] at f6_2_1)
    have hz6_4 : w3.heap.size < w6.heap.size := (by omega)
    have k6_4_0 := hc6 (w3.heap.size) 0 (by first | omega | (simp; done) | (simp; omega)); (try simp [go_sem, *, -hc6, -hf6] at k6_4_0)
    have f6_4_0 := hf6 (w3.heap.size) 0 (by first | omega | (simp; done) | (simp; omega)); (try simp [go_sem, *, -hc6, -hf6] at f6_4_0)
    have k6_4_1 := hc6 (w3.heap.size) 1 (by first | omega | (simp; done) | (simp; omega)); (try simp [go_sem, *, -hc6, -hf6] at k6_4_1)
    have f6_4_1 := hf6 (w3.heap.size) 1 (by first | omega | (simp; done) | (simp; omega)); (try simp [go_sem, *, -hc6, -hf6] at f6_4_1)
    have hz6_5 : w4.heap.size < w6.heap.size := (by omega)
    have k6_5_0 := hc6 (w4.heap.size) 0 (by first | omega | (simp; done) | (simp; omega)); (try simp [go_sem, *, -hc6, -hf6] at k6_5_0)
    have f6_5_0 := hf6 (w4.heap.size) 0 (by first | omega | (simp; done) | (simp; omega)); (try simp [go_sem, *, -hc6, -hf6] at f6_5_0)
    have k6_5_1 := hc6 (w4.heap.size) 1 (by first | omega | (simp; done) | (simp; omega)); (try simp [go_sem, *, -hc6, -hf6] at k6_5_1)
    have f6_5_1 := hf6 (w4.heap.size) 1 (by first | omega | (simp; done) | (simp; omega)); (try simp [go_sem, *, -hc6, -hf6] at f6_5_1)
    have hz6_6 : w5.heap.size < w6.heap.size := (by omega)
    have k6_6_0 := hc6 (w5.heap.size) 0 (by first | omega | (simp; done) | (simp; omega)); (try simp [go_sem, *, -hc6, -hf6] at k6_6_0)
    have f6_6_0 := hf6 (w5.heap.size) 0 (by first | omega | (simp; done) | (simp; omega)); (try simp [go_sem, *, -hc6, -hf6] at f6_6_0)
    have k6_6_1 := hc6 (w5.heap.size) 1 (by first | omega | (simp; done) | (simp; omega)); (try simp [go_sem, *, -hc6, -hf6] at k6_6_1)
    have f6_6_1 := hf6 (w5.heap.size) 1 (by first | omega | (simp; done) | (simp; omega)); (try simp [go_sem, *, -hc6, -hf6] at f6_6_1)
    clear hc6 hf6
    clear k5_0_0 f5_0_0 k5_0_1 f5_0_1 k5_2_0 f5_2_0 k5_2_1 f5_2_1 k5_3_0 f5_3_0 k5_3_1 f5_3_1 k5_4_0 f5_4_0 k5_4_1 f5_4_1 k5_5_0 f5_5_0 k5_5_1 f5_5_1
    go_wp2_with fail
    rw [rounds_succ]
    go_wp2_with fail
    refine (truthV_any _ _ _).mono ?_; rintro e w7 ⟨rfl, hb7⟩; obtain ⟨hc7, hf7⟩ := bcell hb7
    have hq7 := hb7.size; (try simp at hq7)
    have hz7_0 : w.heap.size < w7.heap.size := (by omega)
    have k7_0_0 := hc7 (w.heap.size) 0 (by first | omega | (simp; done) | (simp; omega)); (try simp [go_sem, *, -hc7, -hf7] at k7_0_0)
    have f7_0_0 := hf7 (w.heap.size) 0 (by first | omega | (simp; done) | (simp; omega)); (try simp [go_sem, *, -hc7, -hf7] at f7_0_0)
    have k7_0_1 := hc7 (w.heap.size) 1 (by first | omega | (simp; done) | (simp; omega)); (try simp [go_sem, *, -hc7, -hf7] at k7_0_1)
    have f7_0_1 := hf7 (w.heap.size) 1 (by first | omega | (simp; done) | (simp; omega)); (try simp [go_sem, *, -hc7, -hf7] at f7_0_1)
    have hz7_2 : w1.heap.size < w7.heap.size := (by omega)
    have k7_2_0 := hc7 (w1.heap.size) 0 (by first | omega | (simp; done) | (simp; omega)); (try simp [go_sem, *, -hc7, -hf7] at k7_2_0)
    have f7_2_0 := hf7 (w1.heap.size) 0 (by first | omega | (simp; done) | (simp; omega)); (try simp [go_sem, *, -hc7, -hf7] at f7_2_0)
    have k7_2_1 := hc7 (w1.heap.size) 1 (by first | omega | (simp; done) | (simp; omega)); (try simp [go_sem, *, -hc7, -hf7] at k7_2_1)
    have f7_2_1 := hf7 (w1.heap.size) 1 (by first | omega | (simp; done) | (simp; omega)); (try simp [go_sem, *, -hc7, -hf7] at f7_2_1)
    have hz7_4 : w3.heap.size < w7.heap.size := (by omega)
    have k7_4_0 := hc7 (w3.heap.size) 0 (by first | omega | (simp; done) | (simp; omega)); (try simp [go_sem, *, -hc7, -hf7] at k7_4_0)
    have f7_4_0 := hf7 (w3.heap.size) 0 (by first | omega | (simp; done) | (simp; omega)); (try simp [go_sem, *, -hc7, -hf7] at f7_4_0)
    have k7_4_1 := hc7 (w3.heap.size) 1 (by first | omega | (simp; done) | (simp; omega)); (try simp [go_sem, *, -hc7, -hf7] at k7_4_1)
    have f7_4_1 := hf7 (w3.heap.size) 1 (by first | omega | (simp; done) | (simp; omega)); (try simp [go_sem, *, -hc7, -hf7] at f7_4_1)
    have hz7_5 : w4.heap.size < w7.heap.size := (by omega)
    have k7_5_0 := hc7 (w4.heap.size) 0 (by first | omega | (simp; done) | (simp; omega)); (try simp [go_sem, *, -hc7, -hf7] at k7_5_0)
    have f7_5_0 := hf7 (w4.heap.size) 0 (by first | omega | (simp; done) | (simp; omega)); (try simp [go_sem, *, -hc7, -hf7] at f7_5_0)
    have k7_5_1 := hc7 (w4.heap.size) 1 (by first | omega | (simp; done) | (simp; omega)); (try simp [go_sem, *, -hc7, -hf7] at k7_5_1)
    have f7_5_1 := hf7 (w4.heap.size) 1 (by first | omega | (simp; done) | (simp; omega)); (try simp [go_sem, *, -hc7, -hf7] at f7_5_1)
    have hz7_6 : w5.heap.size < w7.heap.size := (by omega)
    have k7_6_0 := hc7 (w5.heap.size) 0 (by first | omega | (simp; done) | (simp; omega)); (try simp [go_sem, *, -hc7, -hf7] at k7_6_0)
    have f7_6_0 := hf7 (w5.heap.size) 0 (by first | omega | (simp; done) | (simp; omega)); (try simp [go_sem, *, -hc7, -hf7] at f7_6_0)
    have k7_6_1 := hc7 (w5.heap.size) 1 (by first | omega | (simp; done) | (simp; omega)); (try simp [go_sem, *, -hc7, -hf7] at k7_6_1)
    have f7_6_1 := hf7 (w5.heap.size) 1 (by first | omega | (simp; done) | (simp; omega)); (try simp [go_sem, *, -hc7, -hf7] at f7_6_1)
    have hz7_7 : w6.heap.size < w7.heap.size := (by omega)
    have k7_7_0 := hc7 (w6.heap.size) 0 (by first | omega | (simp; done) | (simp; omega)); (try simp [go_sem, *, -hc7, -hf7] at k7_7_0)
    have f7_7_0 := hf7 (w6.heap.size) 0 (by first | omega | (simp; done) | (simp; omega)); (try simp [go_sem, *, -hc7, -hf7] at f7_7_0)
    have k7_7_1 := hc7 (w6.heap.size) 1 (by first | omega | (simp; done) | (simp; omega)); (try simp [go_sem, *, -hc7, -hf7] at k7_7_1)
    have f7_7_1 := hf7 (w6.heap.size) 1 (by first | omega | (simp; done) | (simp; omega)); (try simp [go_sem, *, -hc7, -hf7] at f7_7_1)
    clear hc7 hf7
    clear k6_0_0 f6_0_0 k6_0_1 f6_0_1 k6_2_0 f6_2_0 k6_2_1 f6_2_1 k6_4_0 f6_4_0 k6_4_1 f6_4_1 k6_5_0 f6_5_0 k6_5_1 f6_5_1 k6_6_0 f6_6_0 k6_6_1 f6_6_1
    go_wp2_with fail
    rw [rounds_succ]
    go_wp2_with fail
    refine (truthV_any _ _ _).mono ?_; rintro e w8 ⟨rfl, hb8⟩; obtain ⟨hc8, hf8⟩ := bcell hb8
    have hq8 := hb8.size; (try simp at hq8)
    have hz8_0 : w.heap.size < w8.heap.size := (by omega)
    have k8_0_0 := hc8 (w.heap.size) 0 (by first | omega | (simp; done) | (simp; omega)); (try simp [go_sem, *, -hc8, -hf8] at k8_0_0)
    have f8_0_0 := hf8 (w.heap.size) 0 (by first | omega | (simp; done) | (simp; omega)); (try simp [go_sem, *, -hc8, -hf8] at f8_0_0)
    have k8_0_1 := hc8 (w.heap.size) 1 (by first | omega | (simp; done) | (simp; omega)); (try simp [go_sem, *, -hc8, -hf8] at k8_0_1)
    have f8_0_1 := hf8 (w.heap.size) 1 (by first | omega | (simp; done) | (simp; omega)); (try simp [go_sem, *, -hc8, -hf8] at f8_0_1)
    have hz8_2 : w1.heap.size < w8.heap.size := (by omega)
    have k8_2_0 := hc8 (w1.heap.size) 0 (by first | omega | (simp; done) | (simp; omega)); (try simp [go_sem, *, -hc8, -hf8] at k8_2_0)
    have f8_2_0 := hf8 (w1.heap.size) 0 (by first | omega | (simp; done) | (simp; omega)); (try simp [go_sem, *, -hc8, -hf8] at f8_2_0)
    have k8_2_1 := hc8 (w1.heap.size) 1 (by first | omega | (simp; done) | (simp; omega)); (try simp [go_sem, *, -hc8, -hf8] at k8_2_1)
    have f8_2_1 := hf8 (w1.heap.size) 1 (by first | omega | (simp; done) | (simp; omega)); (try simp [go_sem, *, -hc8, -hf8] at f8_2_1)
    have hz8_4 : w3.heap.size < w8.heap.size := (by omega)
    have k8_4_0 := hc8 (w3.heap.size) 0 (by first | omega | (simp; done) | (simp; omega)); (try simp [go_sem, *, -hc8, -hf8] at k8_4_0)
    have f8_4_0 := hf8 (w3.heap.size) 0 (by first | omega | (simp; done) | (simp; omega)); (try simp [go_sem, *, -hc8, -hf8] at f8_4_0)
    have k8_4_1 := hc8 (w3.heap.size) 1 (by first | omega | (simp; done) | (simp; omega)); (try simp [go_sem, *, -hc8, -hf8] at k8_4_1)
    have f8_4_1 := hf8 (w3.heap.size) 1 (by first | omega | (simp; done) | (simp; omega)); (try simp [go_sem, *, -hc8, -hf8] at f8_4_1)
    have hz8_5 : w4.heap.size < w8.heap.size := (by omega)
    have k8_5_0 := hc8 (w4.heap.size) 0 (by first | omega | (simp; done) | (simp; omega)); (try simp [go_sem, *, -hc8, -hf8] at k8_5_0)
    have f8_5_0 := hf8 (w4.heap.size) 0 (by first | omega | (simp; done) | (simp; omega)); (try simp [go_sem, *, -hc8, -hf8] at f8_5_0)
    have k8_5_1 := hc8 (w4.heap.size) 1 (by first | omega | (simp; done) | (simp; omega)); (try simp [go_sem, *, -hc8, -hf8] at k8_5_1)
    have f8_5_1 := hf8 (w4.heap.size) 1 (by first | omega | (simp; done) | (simp; omega)); (try simp [go_sem, *, -hc8, -hf8] at f8_5_1)
    have hz8_6 : w5.heap.size < w8.heap.size := (by omega)
    have k8_6_0 := hc8 (w5.heap.size) 0 (by first | omega | (simp; done) | (simp; omega)); (try simp [go_sem, *, -hc8, -hf8] at k8_6_0)
    have f8_6_0 := hf8 (w5.heap.size) 0 (by first | omega | (simp; done) | (simp; omega)); (try simp [go_sem, *, -hc8, -hf8] at f8_6_0)
    have k8_6_1 := hc8 (w5.heap.size) 1 (by first | omega | (simp; done) | (simp; omega)); (try simp [go_sem, *, -hc8, -hf8] at k8_6_1)
    have f8_6_1 := hf8 (w5.heap.size) 1 (by first | omega | (simp; done) | (simp; omega)); (try simp [go_sem, *, -hc8, -hf8] at f8_6_1)
    have hz8_7 : w6.heap.size < w8.heap.size := (by omega)
    have k8_7_0 := hc8 (w6.heap.size) 0 (by first | omega | (simp; done) | (simp; omega)); (try simp [go_sem, *, -hc8, -hf8] at k8_7_0)
    have f8_7_0 := hf8 (w6.heap.size) 0 (by first | omega | (simp; done) | (simp; omega)); (try simp [go_sem, *, -hc8, -hf8] at f8_7_0)
    have k8_7_1 := hc8 (w6.heap.size) 1 (by first | omega | (simp; done) | (simp; omega)); (try simp [go_sem, *, -hc8, -hf8] at k8_7_1)
    have f8_7_1 := hf8 (w6.heap.size) 1 (by first | omega | (simp; done) | (simp; omega)); (try simp [go_sem, *, -hc8, -hf8] at f8_7_1)
    have hz8_8 : w7.heap.size < w8.heap.size := (by omega)
    have k8_8_0 := hc8 (w7.heap.size) 0 (by first | omega | (simp; done) | (simp; omega)); (try simp [go_sem, *, -hc8, -hf8] at k8_8_0)
    have f8_8_0 := hf8 (w7.heap.size) 0 (by first | omega | (simp; done) | (simp; omega)); (try simp [go_sem, *, -hc8, -hf8] at f8_8_0)
    have k8_8_1 := hc8 (w7.heap.size) 1 (by first | omega | (simp; done) | (simp; omega)); (try simp [go_sem, *, -hc8, -hf8] at k8_8_1)
    have f8_8_1 := hf8 (w7.heap.size) 1 (by first | omega | (simp; done) | (simp; omega)); (try simp [go_sem, *, -hc8, -hf8] at f8_8_1)
    clear hc8 hf8
    clear k7_0_0 f7_0_0 k7_0_1 f7_0_1 k7_2_0 f7_2_0 k7_2_1 f7_2_1 k7_4_0 f7_4_0 k7_4_1 f7_4_1 k7_5_0 f7_5_0 k7_5_1 f7_5_1 k7_6_0 f7_6_0 k7_6_1 f7_6_1 k7_7_0 f7_7_0 k7_7_1 f7_7_1
    go_wp2_with fail
    rw [rounds_succ]
    go_wp2_with fail
    refine wp_region_plan [0, 1, 3, 7, 15, 31, 63, 127, 255, 511, 1023, 2047, 4095, 8191, 16383, 32767, 65535, 131071, 262143, 524287, 1048575, 524287, 4194303, 8388607, 16777215, 33554431, 67108863, 134217727, 268435455, 536870911] (.seg 0 (.seg 1 (.seg 2 (.seg 3 (.seg 4 (.seg 5 (.seg 6 (.seg 7 (.seg 8 (.seg 9 (.seg 10 (.seg 11 (.seg 12 (.seg 13 (.seg 14 (.seg 15 (.seg 16 (.seg 17 (.seg 18 (.seg 19 (.seg 21 (.eff 20 [21] (.eff 22 [] (.seg 23 (.seg 24 (.eff 25 [] (.seg 26 (.seg 27 (.seg 28 (.seg 29 .last)))))))))))))))))))))))))))))) rfl (by kernel_rfl) rfl ?_
    iterate 21 (refine plan_seg rfl (fun _ _ => ?_); go_wp2_with fail)
    refine plan_eff rfl (fun _ hQ => ?_)
    go_wp2_with fail
    refine (truthV_any _ _ _).mono ?_; rintro e w9 ⟨rfl, hb9⟩; obtain ⟨hc9, hf9⟩ := bcell hb9
    have hq9 := hb9.size; (try simp at hq9)
    have hz9_2 : w1.heap.size < w9.heap.size := (by omega)
    have k9_2_0 := hc9 (w1.heap.size) 0 (by first | omega | (simp; done) | (simp; omega)); (try simp [go_sem, *, -hc9, -hf9] at k9_2_0)
    have f9_2_0 := hf9 (w1.heap.size) 0 (by first | omega | (simp; done) | (simp; omega)); (try simp [go_sem, *, -hc9, -hf9] at f9_2_0)
    have k9_2_1 := hc9 (w1.heap.size) 1 (by first | omega | (simp; done) | (simp; omega)); (try simp [go_sem, *, -hc9, -hf9] at k9_2_1)
    have f9_2_1 := hf9 (w1.heap.size) 1 (by first | omega | (simp; done) | (simp; omega)); (try simp [go_sem, *, -hc9, -hf9] at f9_2_1)
    have hz9_4 : w3.heap.size < w9.heap.size := (by omega)
    have k9_4_0 := hc9 (w3.heap.size) 0 (by first | omega | (simp; done) | (simp; omega)); (try simp [go_sem, *, -hc9, -hf9] at k9_4_0)
    have f9_4_0 := hf9 (w3.heap.size) 0 (by first | omega | (simp; done) | (simp; omega)); (try simp [go_sem, *, -hc9, -hf9] at f9_4_0)
    have k9_4_1 := hc9 (w3.heap.size) 1 (by first | omega | (simp; done) | (simp; omega)); (try simp [go_sem, *, -hc9, -hf9] at k9_4_1)
    have f9_4_1 := hf9 (w3.heap.size) 1 (by first | omega | (simp; done) | (simp; omega)); (try simp [go_sem, *, -hc9, -hf9] at f9_4_1)
    clear hc9 hf9
    clear k8_0_0 f8_0_0 k8_0_1 f8_0_1 k8_2_0 f8_2_0 k8_2_1 f8_2_1 k8_4_0 f8_4_0 k8_4_1 f8_4_1 k8_5_0 f8_5_0 k8_5_1 f8_5_1 k8_6_0 f8_6_0 k8_6_1 f8_6_1 k8_7_0 f8_7_0 k8_7_1 f8_7_1 k8_8_0 f8_8_0 k8_8_1 f8_8_1
    go_wp2_with fail
    refine hQ _ _ (pend_cons rfl rfl (by go_simp; rfl) <|  pend_nil) ?_
    refine plan_eff0 rfl (fun _ _ => ?_)
    go_wp2_with fail
    refine (truthV_any _ _ _).mono ?_; rintro e w10 ⟨rfl, hb10⟩; obtain ⟨hc10, hf10⟩ := bcell hb10
    have hq10 := hb10.size; (try simp at hq10)
    have hz10_4 : w3.heap.size < w10.heap.size := (by omega)
    have k10_4_0 := hc10 (w3.heap.size) 0 (by first | omega | (simp; done) | (simp; omega)); (try simp [go_sem, *, -hc10, -hf10] at k10_4_0)
    have f10_4_0 := hf10 (w3.heap.size) 0 (by first | omega | (simp; done) | (simp; omega)); (try simp [go_sem, *, -hc10, -hf10] at f10_4_0)
    have k10_4_1 := hc10 (w3.heap.size) 1 (by first | omega | (simp; done) | (simp; omega)); (try simp [go_sem, *, -hc10, -hf10] at k10_4_1)
    have f10_4_1 := hf10 (w3.heap.size) 1 (by first | omega | (simp; done) | (simp; omega)); (try simp [go_sem, *, -hc10, -hf10] at f10_4_1)
    clear hc10 hf10
    clear k9_2_0 f9_2_0 k9_2_1 f9_2_1 k9_4_0 f9_4_0 k9_4_1 f9_4_1
    go_wp2_with fail
    iterate 2 (refine plan_seg rfl (fun _ _ => ?_); go_wp2_with fail)
    refine plan_eff0 rfl (fun _ _ => ?_)
    go_wp2_with fail
    refine (truthV_any _ _ _).mono ?_; rintro e w11 ⟨rfl, hb11⟩; obtain ⟨hc11, hf11⟩ := bcell hb11
    have hq11 := hb11.size; (try simp at hq11)
    clear hc11 hf11
    clear k10_4_0 f10_4_0 k10_4_1 f10_4_1
    go_wp2_with fail
    iterate 4 (refine plan_seg rfl (fun _ _ => ?_); go_wp2_with fail)
    refine plan_last ?_
    go_wp2_with fail
    go_ret
    exact ⟨rfl, (by repeat' (first | exact Below.refl _ _ | (refine Below.via ?_ (by assumption) ?_) | refine Below.setCell ?_ ?_ _ | refine Below.alloc ?_ ?_ _ | refine Below.drew ?_ | omega | (simp; omega) | (simp; done)))⟩
set_option maxHeartbeats 1000000 in
theorem opsOrder_s (ak an bk bn : Int) (w : World) (wh : Bool) (hk : (ak == 2) = wh) (hw : (wh && false) = false)
    (h1 : binaryS 9 ak an bk bn = (1, bit false, -1)) (h2 : binaryS 9 bk bn ak an = (1, bit false, -1)) (h3 : binaryS 8 ak an bk bn = (1, bit true, -1)) (h4 : binaryS 10 ak an bk bn = (1, bit (false || true), -1)) :
    Calls Try.prog 9 #[.agg #[.int .i64 ak, .int .i64 an], .agg #[.int .i64 bk, .int .i64 bn]] w fun e w' => e = .returned (.bool true) ∧ Below w.heap.size w w' := by
  have tt : truthB 1 (bit true) = true := truth_bit true
  have tf : truthB 1 (bit false) = false := truth_bit false
  have i0 : ∀ (a b c d e f : Int) (w : World), (Instr.index 50 (.agg #[.int .i64 a, .int .i64 b, .int .i64 c, .int .i64 d, .int .i64 e, .int .i64 f]) (.int .i64 0)).run Try.prog w = .ok (.agg #[.int .i64 a, .int .i64 b]) w := fun _ _ _ _ _ _ _ => by kernel_rfl
  have i1 : ∀ (a b c d e f : Int) (w : World), (Instr.index 50 (.agg #[.int .i64 a, .int .i64 b, .int .i64 c, .int .i64 d, .int .i64 e, .int .i64 f]) (.int .i64 1)).run Try.prog w = .ok (.agg #[.int .i64 c, .int .i64 d]) w := fun _ _ _ _ _ _ _ => by kernel_rfl
  have i2 : ∀ (a b c d e f : Int) (w : World), (Instr.index 50 (.agg #[.int .i64 a, .int .i64 b, .int .i64 c, .int .i64 d, .int .i64 e, .int .i64 f]) (.int .i64 2)).run Try.prog w = .ok (.agg #[.int .i64 e, .int .i64 f]) w := fun _ _ _ _ _ _ _ => by kernel_rfl
  cases wh <;> simp only [Bool.true_and, Bool.false_and, Bool.and_true, Bool.and_false] at hw <;> first | (cases hw; done) | skip
  all_goals
    try clear hw
    go_enter Try.func9, Try.ntmps9
    go_wp2_with fail
    refine (binary_any _ _ _ _ _ _).mono ?_; rintro e w1 ⟨rfl, hb1⟩; obtain ⟨hc1, hf1⟩ := bcell hb1
    have hq1 := hb1.size; (try simp at hq1)
    have hz1_0 : w.heap.size < w1.heap.size := (by omega)
    have k1_0_0 := hc1 (w.heap.size) 0 (by first | omega | (simp; done) | (simp; omega)); (try simp [go_sem, *, -hc1, -hf1] at k1_0_0)
    have f1_0_0 := hf1 (w.heap.size) 0 (by first | omega | (simp; done) | (simp; omega)); (try simp [go_sem, *, -hc1, -hf1] at f1_0_0)
    have k1_0_1 := hc1 (w.heap.size) 1 (by first | omega | (simp; done) | (simp; omega)); (try simp [go_sem, *, -hc1, -hf1] at k1_0_1)
    have f1_0_1 := hf1 (w.heap.size) 1 (by first | omega | (simp; done) | (simp; omega)); (try simp [go_sem, *, -hc1, -hf1] at f1_0_1)
    have hz1_1 : w.heap.size + 1 < w1.heap.size := (by omega)
    have k1_1_0 := hc1 (w.heap.size + 1) 0 (by first | omega | (simp; done) | (simp; omega)); (try simp [go_sem, *, -hc1, -hf1] at k1_1_0)
    have f1_1_0 := hf1 (w.heap.size + 1) 0 (by first | omega | (simp; done) | (simp; omega)); (try simp [go_sem, *, -hc1, -hf1] at f1_1_0)
    have k1_1_1 := hc1 (w.heap.size + 1) 1 (by first | omega | (simp; done) | (simp; omega)); (try simp [go_sem, *, -hc1, -hf1] at k1_1_1)
    have f1_1_1 := hf1 (w.heap.size + 1) 1 (by first | omega | (simp; done) | (simp; omega)); (try simp [go_sem, *, -hc1, -hf1] at f1_1_1)
    clear hc1 hf1
    go_wp2_with fail
    refine (binary_any _ _ _ _ _ _).mono ?_; rintro e w2 ⟨rfl, hb2⟩; obtain ⟨hc2, hf2⟩ := bcell hb2
    have hq2 := hb2.size; (try simp at hq2)
    have hz2_0 : w.heap.size < w2.heap.size := (by omega)
    have k2_0_0 := hc2 (w.heap.size) 0 (by first | omega | (simp; done) | (simp; omega)); (try simp [go_sem, *, -hc2, -hf2] at k2_0_0)
    have f2_0_0 := hf2 (w.heap.size) 0 (by first | omega | (simp; done) | (simp; omega)); (try simp [go_sem, *, -hc2, -hf2] at f2_0_0)
    have k2_0_1 := hc2 (w.heap.size) 1 (by first | omega | (simp; done) | (simp; omega)); (try simp [go_sem, *, -hc2, -hf2] at k2_0_1)
    have f2_0_1 := hf2 (w.heap.size) 1 (by first | omega | (simp; done) | (simp; omega)); (try simp [go_sem, *, -hc2, -hf2] at f2_0_1)
    have hz2_1 : w.heap.size + 1 < w2.heap.size := (by omega)
    have k2_1_0 := hc2 (w.heap.size + 1) 0 (by first | omega | (simp; done) | (simp; omega)); (try simp [go_sem, *, -hc2, -hf2] at k2_1_0)
    have f2_1_0 := hf2 (w.heap.size + 1) 0 (by first | omega | (simp; done) | (simp; omega)); (try simp [go_sem, *, -hc2, -hf2] at f2_1_0)
    have k2_1_1 := hc2 (w.heap.size + 1) 1 (by first | omega | (simp; done) | (simp; omega)); (try simp [go_sem, *, -hc2, -hf2] at k2_1_1)
    have f2_1_1 := hf2 (w.heap.size + 1) 1 (by first | omega | (simp; done) | (simp; omega)); (try simp [go_sem, *, -hc2, -hf2] at f2_1_1)
    have hz2_2 : w1.heap.size < w2.heap.size := (by omega)
    have k2_2_0 := hc2 (w1.heap.size) 0 (by first | omega | (simp; done) | (simp; omega)); (try simp [go_sem, *, -hc2, -hf2] at k2_2_0)
    have f2_2_0 := hf2 (w1.heap.size) 0 (by first | omega | (simp; done) | (simp; omega)); (try simp [go_sem, *, -hc2, -hf2] at f2_2_0)
    have k2_2_1 := hc2 (w1.heap.size) 1 (by first | omega | (simp; done) | (simp; omega)); (try simp [go_sem, *, -hc2, -hf2] at k2_2_1)
    have f2_2_1 := hf2 (w1.heap.size) 1 (by first | omega | (simp; done) | (simp; omega)); (try simp [go_sem, *, -hc2, -hf2] at f2_2_1)
    clear hc2 hf2
    clear k1_0_0 f1_0_0 k1_0_1 f1_0_1 k1_1_0 f1_1_0 k1_1_1 f1_1_1
    go_wp2_with fail
    refine (binary_any _ _ _ _ _ _).mono ?_; rintro e w3 ⟨rfl, hb3⟩; obtain ⟨hc3, hf3⟩ := bcell hb3
    have hq3 := hb3.size; (try simp at hq3)
    have hz3_0 : w.heap.size < w3.heap.size := (by omega)
    have k3_0_0 := hc3 (w.heap.size) 0 (by first | omega | (simp; done) | (simp; omega)); (try simp [go_sem, *, -hc3, -hf3] at k3_0_0)
    have f3_0_0 := hf3 (w.heap.size) 0 (by first | omega | (simp; done) | (simp; omega)); (try simp [go_sem, *, -hc3, -hf3] at f3_0_0)
    have k3_0_1 := hc3 (w.heap.size) 1 (by first | omega | (simp; done) | (simp; omega)); (try simp [go_sem, *, -hc3, -hf3] at k3_0_1)
    have f3_0_1 := hf3 (w.heap.size) 1 (by first | omega | (simp; done) | (simp; omega)); (try simp [go_sem, *, -hc3, -hf3] at f3_0_1)
    have hz3_1 : w.heap.size + 1 < w3.heap.size := (by omega)
    have k3_1_0 := hc3 (w.heap.size + 1) 0 (by first | omega | (simp; done) | (simp; omega)); (try simp [go_sem, *, -hc3, -hf3] at k3_1_0)
    have f3_1_0 := hf3 (w.heap.size + 1) 0 (by first | omega | (simp; done) | (simp; omega)); (try simp [go_sem, *, -hc3, -hf3] at f3_1_0)
    have k3_1_1 := hc3 (w.heap.size + 1) 1 (by first | omega | (simp; done) | (simp; omega)); (try simp [go_sem, *, -hc3, -hf3] at k3_1_1)
    have f3_1_1 := hf3 (w.heap.size + 1) 1 (by first | omega | (simp; done) | (simp; omega)); (try simp [go_sem, *, -hc3, -hf3] at f3_1_1)
    have hz3_2 : w1.heap.size < w3.heap.size := (by omega)
    have k3_2_0 := hc3 (w1.heap.size) 0 (by first | omega | (simp; done) | (simp; omega)); (try simp [go_sem, *, -hc3, -hf3] at k3_2_0)
    have f3_2_0 := hf3 (w1.heap.size) 0 (by first | omega | (simp; done) | (simp; omega)); (try simp [go_sem, *, -hc3, -hf3] at f3_2_0)
    have k3_2_1 := hc3 (w1.heap.size) 1 (by first | omega | (simp; done) | (simp; omega)); (try simp [go_sem, *, -hc3, -hf3] at k3_2_1)
    have f3_2_1 := hf3 (w1.heap.size) 1 (by first | omega | (simp; done) | (simp; omega)); (try simp [go_sem, *, -hc3, -hf3] at f3_2_1)
    have hz3_3 : w2.heap.size < w3.heap.size := (by omega)
    have k3_3_0 := hc3 (w2.heap.size) 0 (by first | omega | (simp; done) | (simp; omega)); (try simp [go_sem, *, -hc3, -hf3] at k3_3_0)
    have f3_3_0 := hf3 (w2.heap.size) 0 (by first | omega | (simp; done) | (simp; omega)); (try simp [go_sem, *, -hc3, -hf3] at f3_3_0)
    have k3_3_1 := hc3 (w2.heap.size) 1 (by first | omega | (simp; done) | (simp; omega)); (try simp [go_sem, *, -hc3, -hf3] at k3_3_1)
    have f3_3_1 := hf3 (w2.heap.size) 1 (by first | omega | (simp; done) | (simp; omega)); (try simp [go_sem, *, -hc3, -hf3] at f3_3_1)
    clear hc3 hf3
    clear k2_0_0 f2_0_0 k2_0_1 f2_0_1 k2_1_0 f2_1_0 k2_1_1 f2_1_1 k2_2_0 f2_2_0 k2_2_1 f2_2_1
    go_wp2_with fail
    refine (binary_any _ _ _ _ _ _).mono ?_; rintro e w4 ⟨rfl, hb4⟩; obtain ⟨hc4, hf4⟩ := bcell hb4
    have hq4 := hb4.size; (try simp at hq4)
    have hz4_0 : w.heap.size < w4.heap.size := (by omega)
    have k4_0_0 := hc4 (w.heap.size) 0 (by first | omega | (simp; done) | (simp; omega)); (try simp [go_sem, *, -hc4, -hf4] at k4_0_0)
    have f4_0_0 := hf4 (w.heap.size) 0 (by first | omega | (simp; done) | (simp; omega)); (try simp [go_sem, *, -hc4, -hf4] at f4_0_0)
    have k4_0_1 := hc4 (w.heap.size) 1 (by first | omega | (simp; done) | (simp; omega)); (try simp [go_sem, *, -hc4, -hf4] at k4_0_1)
    have f4_0_1 := hf4 (w.heap.size) 1 (by first | omega | (simp; done) | (simp; omega)); (try simp [go_sem, *, -hc4, -hf4] at f4_0_1)
    have hz4_2 : w1.heap.size < w4.heap.size := (by omega)
    have k4_2_0 := hc4 (w1.heap.size) 0 (by first | omega | (simp; done) | (simp; omega)); (try simp [go_sem, *, -hc4, -hf4] at k4_2_0)
    have f4_2_0 := hf4 (w1.heap.size) 0 (by first | omega | (simp; done) | (simp; omega)); (try simp [go_sem, *, -hc4, -hf4] at f4_2_0)
    have k4_2_1 := hc4 (w1.heap.size) 1 (by first | omega | (simp; done) | (simp; omega)); (try simp [go_sem, *, -hc4, -hf4] at k4_2_1)
    have f4_2_1 := hf4 (w1.heap.size) 1 (by first | omega | (simp; done) | (simp; omega)); (try simp [go_sem, *, -hc4, -hf4] at f4_2_1)
    have hz4_3 : w2.heap.size < w4.heap.size := (by omega)
    have k4_3_0 := hc4 (w2.heap.size) 0 (by first | omega | (simp; done) | (simp; omega)); (try simp [go_sem, *, -hc4, -hf4] at k4_3_0)
    have f4_3_0 := hf4 (w2.heap.size) 0 (by first | omega | (simp; done) | (simp; omega)); (try simp [go_sem, *, -hc4, -hf4] at f4_3_0)
    have k4_3_1 := hc4 (w2.heap.size) 1 (by first | omega | (simp; done) | (simp; omega)); (try simp [go_sem, *, -hc4, -hf4] at k4_3_1)
    have f4_3_1 := hf4 (w2.heap.size) 1 (by first | omega | (simp; done) | (simp; omega)); (try simp [go_sem, *, -hc4, -hf4] at f4_3_1)
    have hz4_4 : w3.heap.size < w4.heap.size := (by omega)
    have k4_4_0 := hc4 (w3.heap.size) 0 (by first | omega | (simp; done) | (simp; omega)); (try simp [go_sem, *, -hc4, -hf4] at k4_4_0)
    have f4_4_0 := hf4 (w3.heap.size) 0 (by first | omega | (simp; done) | (simp; omega)); (try simp [go_sem, *, -hc4, -hf4] at f4_4_0)
    have k4_4_1 := hc4 (w3.heap.size) 1 (by first | omega | (simp; done) | (simp; omega)); (try simp [go_sem, *, -hc4, -hf4] at k4_4_1)
    have f4_4_1 := hf4 (w3.heap.size) 1 (by first | omega | (simp; done) | (simp; omega)); (try simp [go_sem, *, -hc4, -hf4] at f4_4_1)
    clear hc4 hf4
    clear k3_0_0 f3_0_0 k3_0_1 f3_0_1 k3_1_0 f3_1_0 k3_1_1 f3_1_1 k3_2_0 f3_2_0 k3_2_1 f3_2_1 k3_3_0 f3_3_0 k3_3_1 f3_3_1
    go_wp2_with fail
    refine (opsLives_any _).mono ?_; rintro e w5 ⟨rfl, hb5⟩; obtain ⟨hc5, hf5⟩ := bcell hb5
    have hq5 := hb5.size; (try simp at hq5)
    have hz5_0 : w.heap.size < w5.heap.size := (by omega)
    have k5_0_0 := hc5 (w.heap.size) 0 (by first | omega | (simp; done) | (simp; omega)); (try simp [go_sem, *, -hc5, -hf5] at k5_0_0)
    have f5_0_0 := hf5 (w.heap.size) 0 (by first | omega | (simp; done) | (simp; omega)); (try simp [go_sem, *, -hc5, -hf5] at f5_0_0)
    have k5_0_1 := hc5 (w.heap.size) 1 (by first | omega | (simp; done) | (simp; omega)); (try simp [go_sem, *, -hc5, -hf5] at k5_0_1)
    have f5_0_1 := hf5 (w.heap.size) 1 (by first | omega | (simp; done) | (simp; omega)); (try simp [go_sem, *, -hc5, -hf5] at f5_0_1)
    have hz5_2 : w1.heap.size < w5.heap.size := (by omega)
    have k5_2_0 := hc5 (w1.heap.size) 0 (by first | omega | (simp; done) | (simp; omega)); (try simp [go_sem, *, -hc5, -hf5] at k5_2_0)
    have f5_2_0 := hf5 (w1.heap.size) 0 (by first | omega | (simp; done) | (simp; omega)); (try simp [go_sem, *, -hc5, -hf5] at f5_2_0)
    have k5_2_1 := hc5 (w1.heap.size) 1 (by first | omega | (simp; done) | (simp; omega)); (try simp [go_sem, *, -hc5, -hf5] at k5_2_1)
    have f5_2_1 := hf5 (w1.heap.size) 1 (by first | omega | (simp; done) | (simp; omega)); (try simp [go_sem, *, -hc5, -hf5] at f5_2_1)
    have hz5_3 : w2.heap.size < w5.heap.size := (by omega)
    have k5_3_0 := hc5 (w2.heap.size) 0 (by first | omega | (simp; done) | (simp; omega)); (try simp [go_sem, *, -hc5, -hf5] at k5_3_0)
    have f5_3_0 := hf5 (w2.heap.size) 0 (by first | omega | (simp; done) | (simp; omega)); (try simp [go_sem, *, -hc5, -hf5] at f5_3_0)
    have k5_3_1 := hc5 (w2.heap.size) 1 (by first | omega | (simp; done) | (simp; omega)); (try simp [go_sem, *, -hc5, -hf5] at k5_3_1)
    have f5_3_1 := hf5 (w2.heap.size) 1 (by first | omega | (simp; done) | (simp; omega)); (try simp [go_sem, *, -hc5, -hf5] at f5_3_1)
    have hz5_4 : w3.heap.size < w5.heap.size := (by omega)
    have k5_4_0 := hc5 (w3.heap.size) 0 (by first | omega | (simp; done) | (simp; omega)); (try simp [go_sem, *, -hc5, -hf5] at k5_4_0)
    have f5_4_0 := hf5 (w3.heap.size) 0 (by first | omega | (simp; done) | (simp; omega)); (try simp [go_sem, *, -hc5, -hf5] at f5_4_0)
    have k5_4_1 := hc5 (w3.heap.size) 1 (by first | omega | (simp; done) | (simp; omega)); (try simp [go_sem, *, -hc5, -hf5] at k5_4_1)
    have f5_4_1 := hf5 (w3.heap.size) 1 (by first | omega | (simp; done) | (simp; omega)); (try simp [go_sem, *, -hc5, -hf5] at f5_4_1)
    have hz5_5 : w4.heap.size < w5.heap.size := (by omega)
    have k5_5_0 := hc5 (w4.heap.size) 0 (by first | omega | (simp; done) | (simp; omega)); (try simp [go_sem, *, -hc5, -hf5] at k5_5_0)
    have f5_5_0 := hf5 (w4.heap.size) 0 (by first | omega | (simp; done) | (simp; omega)); (try simp [go_sem, *, -hc5, -hf5] at f5_5_0)
    have k5_5_1 := hc5 (w4.heap.size) 1 (by first | omega | (simp; done) | (simp; omega)); (try simp [go_sem, *, -hc5, -hf5] at k5_5_1)
    have f5_5_1 := hf5 (w4.heap.size) 1 (by first | omega | (simp; done) | (simp; omega)); (try simp [go_sem, *, -hc5, -hf5] at f5_5_1)
    clear hc5 hf5
    clear k4_0_0 f4_0_0 k4_0_1 f4_0_1 k4_2_0 f4_2_0 k4_2_1 f4_2_1 k4_3_0 f4_3_0 k4_3_1 f4_3_1 k4_4_0 f4_4_0 k4_4_1 f4_4_1
    go_wp2_with fail
    refine wp_loop_rounds 12 ?_
    rw [rounds_succ]
    go_wp2_with fail
    refine (truthV_any _ _ _).mono ?_; rintro e w6 ⟨rfl, hb6⟩; obtain ⟨hc6, hf6⟩ := bcell hb6
    have hq6 := hb6.size; (try simp at hq6)
    have hz6_0 : w.heap.size < w6.heap.size := (by omega)
    have k6_0_0 := hc6 (w.heap.size) 0 (by first | omega | (simp; done) | (simp; omega)); (try simp [go_sem, *, -hc6, -hf6] at k6_0_0)
    have f6_0_0 := hf6 (w.heap.size) 0 (by first | omega | (simp; done) | (simp; omega)); (try simp [go_sem, *, -hc6, -hf6] at f6_0_0)
    have k6_0_1 := hc6 (w.heap.size) 1 (by first | omega | (simp; done) | (simp; omega)); (try simp [go_sem, *, -hc6, -hf6] at k6_0_1)
    have f6_0_1 := hf6 (w.heap.size) 1 (by first | omega | (simp; done) | (simp; omega)); (try simp [go_sem, *, -hc6, -hf6] at f6_0_1)
    have hz6_2 : w1.heap.size < w6.heap.size := (by omega)
    have k6_2_0 := hc6 (w1.heap.size) 0 (by first | omega | (simp; done) | (simp; omega)); (try simp [go_sem, *, -hc6, -hf6] at k6_2_0)
    have f6_2_0 := hf6 (w1.heap.size) 0 (by first | omega | (simp; done) | (simp; omega)); (try simp [go_sem, *, -hc6, -hf6] at f6_2_0)
    have k6_2_1 := hc6 (w1.heap.size) 1 (by first | omega | (simp; done) | (simp; omega)); (try simp [go_sem, *, -hc6, -hf6] at k6_2_1)
    have f6_2_1 := hf6 (w1.heap.size) 1 (by first | omega | (simp; done) | (simp; omega)); (try simp [go_sem, *, -hc6, -hf6] at f6_2_1)
    have hz6_4 : w3.heap.size < w6.heap.size := (by omega)
    have k6_4_0 := hc6 (w3.heap.size) 0 (by first | omega | (simp; done) | (simp; omega)); (try simp [go_sem, *, -hc6, -hf6] at k6_4_0)
    have f6_4_0 := hf6 (w3.heap.size) 0 (by first | omega | (simp; done) | (simp; omega)); (try simp [go_sem, *, -hc6, -hf6] at f6_4_0)
    have k6_4_1 := hc6 (w3.heap.size) 1 (by first | omega | (simp; done) | (simp; omega)); (try simp [go_sem, *, -hc6, -hf6] at k6_4_1)
    have f6_4_1 := hf6 (w3.heap.size) 1 (by first | omega | (simp; done) | (simp; omega)); (try simp [go_sem, *, -hc6, -hf6] at f6_4_1)
    have hz6_5 : w4.heap.size < w6.heap.size := (by omega)
    have k6_5_0 := hc6 (w4.heap.size) 0 (by first | omega | (simp; done) | (simp; omega)); (try simp [go_sem, *, -hc6, -hf6] at k6_5_0)
    have f6_5_0 := hf6 (w4.heap.size) 0 (by first | omega | (simp; done) | (simp; omega)); (try simp [go_sem, *, -hc6, -hf6] at f6_5_0)
    have k6_5_1 := hc6 (w4.heap.size) 1 (by first | omega | (simp; done) | (simp; omega)); (try simp [go_sem, *, -hc6, -hf6] at k6_5_1)
    have f6_5_1 := hf6 (w4.heap.size) 1 (by first | omega | (simp; done) | (simp; omega)); (try simp [go_sem, *, -hc6, -hf6] at f6_5_1)
    have hz6_6 : w5.heap.size < w6.heap.size := (by omega)
    have k6_6_0 := hc6 (w5.heap.size) 0 (by first | omega | (simp; done) | (simp; omega)); (try simp [go_sem, *, -hc6, -hf6] at k6_6_0)
    have f6_6_0 := hf6 (w5.heap.size) 0 (by first | omega | (simp; done) | (simp; omega)); (try simp [go_sem, *, -hc6, -hf6] at f6_6_0)
    have k6_6_1 := hc6 (w5.heap.size) 1 (by first | omega | (simp; done) | (simp; omega)); (try simp [go_sem, *, -hc6, -hf6] at k6_6_1)
    have f6_6_1 := hf6 (w5.heap.size) 1 (by first | omega | (simp; done) | (simp; omega)); (try simp [go_sem, *, -hc6, -hf6] at f6_6_1)
    clear hc6 hf6
    clear k5_0_0 f5_0_0 k5_0_1 f5_0_1 k5_2_0 f5_2_0 k5_2_1 f5_2_1 k5_3_0 f5_3_0 k5_3_1 f5_3_1 k5_4_0 f5_4_0 k5_4_1 f5_4_1 k5_5_0 f5_5_0 k5_5_1 f5_5_1
    go_wp2_with fail
    rw [rounds_succ]
    go_wp2_with fail
    refine (truthV_any _ _ _).mono ?_; rintro e w7 ⟨rfl, hb7⟩; obtain ⟨hc7, hf7⟩ := bcell hb7
    have hq7 := hb7.size; (try simp at hq7)
    have hz7_0 : w.heap.size < w7.heap.size := (by omega)
    have k7_0_0 := hc7 (w.heap.size) 0 (by first | omega | (simp; done) | (simp; omega)); (try simp [go_sem, *, -hc7, -hf7] at k7_0_0)
    have f7_0_0 := hf7 (w.heap.size) 0 (by first | omega | (simp; done) | (simp; omega)); (try simp [go_sem, *, -hc7, -hf7] at f7_0_0)
    have k7_0_1 := hc7 (w.heap.size) 1 (by first | omega | (simp; done) | (simp; omega)); (try simp [go_sem, *, -hc7, -hf7] at k7_0_1)
    have f7_0_1 := hf7 (w.heap.size) 1 (by first | omega | (simp; done) | (simp; omega)); (try simp [go_sem, *, -hc7, -hf7] at f7_0_1)
    have hz7_2 : w1.heap.size < w7.heap.size := (by omega)
    have k7_2_0 := hc7 (w1.heap.size) 0 (by first | omega | (simp; done) | (simp; omega)); (try simp [go_sem, *, -hc7, -hf7] at k7_2_0)
    have f7_2_0 := hf7 (w1.heap.size) 0 (by first | omega | (simp; done) | (simp; omega)); (try simp [go_sem, *, -hc7, -hf7] at f7_2_0)
    have k7_2_1 := hc7 (w1.heap.size) 1 (by first | omega | (simp; done) | (simp; omega)); (try simp [go_sem, *, -hc7, -hf7] at k7_2_1)
    have f7_2_1 := hf7 (w1.heap.size) 1 (by first | omega | (simp; done) | (simp; omega)); (try simp [go_sem, *, -hc7, -hf7] at f7_2_1)
    have hz7_4 : w3.heap.size < w7.heap.size := (by omega)
    have k7_4_0 := hc7 (w3.heap.size) 0 (by first | omega | (simp; done) | (simp; omega)); (try simp [go_sem, *, -hc7, -hf7] at k7_4_0)
    have f7_4_0 := hf7 (w3.heap.size) 0 (by first | omega | (simp; done) | (simp; omega)); (try simp [go_sem, *, -hc7, -hf7] at f7_4_0)
    have k7_4_1 := hc7 (w3.heap.size) 1 (by first | omega | (simp; done) | (simp; omega)); (try simp [go_sem, *, -hc7, -hf7] at k7_4_1)
    have f7_4_1 := hf7 (w3.heap.size) 1 (by first | omega | (simp; done) | (simp; omega)); (try simp [go_sem, *, -hc7, -hf7] at f7_4_1)
    have hz7_5 : w4.heap.size < w7.heap.size := (by omega)
    have k7_5_0 := hc7 (w4.heap.size) 0 (by first | omega | (simp; done) | (simp; omega)); (try simp [go_sem, *, -hc7, -hf7] at k7_5_0)
    have f7_5_0 := hf7 (w4.heap.size) 0 (by first | omega | (simp; done) | (simp; omega)); (try simp [go_sem, *, -hc7, -hf7] at f7_5_0)
    have k7_5_1 := hc7 (w4.heap.size) 1 (by first | omega | (simp; done) | (simp; omega)); (try simp [go_sem, *, -hc7, -hf7] at k7_5_1)
    have f7_5_1 := hf7 (w4.heap.size) 1 (by first | omega | (simp; done) | (simp; omega)); (try simp [go_sem, *, -hc7, -hf7] at f7_5_1)
    have hz7_6 : w5.heap.size < w7.heap.size := (by omega)
    have k7_6_0 := hc7 (w5.heap.size) 0 (by first | omega | (simp; done) | (simp; omega)); (try simp [go_sem, *, -hc7, -hf7] at k7_6_0)
    have f7_6_0 := hf7 (w5.heap.size) 0 (by first | omega | (simp; done) | (simp; omega)); (try simp [go_sem, *, -hc7, -hf7] at f7_6_0)
    have k7_6_1 := hc7 (w5.heap.size) 1 (by first | omega | (simp; done) | (simp; omega)); (try simp [go_sem, *, -hc7, -hf7] at k7_6_1)
    have f7_6_1 := hf7 (w5.heap.size) 1 (by first | omega | (simp; done) | (simp; omega)); (try simp [go_sem, *, -hc7, -hf7] at f7_6_1)
    have hz7_7 : w6.heap.size < w7.heap.size := (by omega)
    have k7_7_0 := hc7 (w6.heap.size) 0 (by first | omega | (simp; done) | (simp; omega)); (try simp [go_sem, *, -hc7, -hf7] at k7_7_0)
    have f7_7_0 := hf7 (w6.heap.size) 0 (by first | omega | (simp; done) | (simp; omega)); (try simp [go_sem, *, -hc7, -hf7] at f7_7_0)
    have k7_7_1 := hc7 (w6.heap.size) 1 (by first | omega | (simp; done) | (simp; omega)); (try simp [go_sem, *, -hc7, -hf7] at k7_7_1)
    have f7_7_1 := hf7 (w6.heap.size) 1 (by first | omega | (simp; done) | (simp; omega)); (try simp [go_sem, *, -hc7, -hf7] at f7_7_1)
    clear hc7 hf7
    clear k6_0_0 f6_0_0 k6_0_1 f6_0_1 k6_2_0 f6_2_0 k6_2_1 f6_2_1 k6_4_0 f6_4_0 k6_4_1 f6_4_1 k6_5_0 f6_5_0 k6_5_1 f6_5_1 k6_6_0 f6_6_0 k6_6_1 f6_6_1
    go_wp2_with fail
    rw [rounds_succ]
    go_wp2_with fail
    refine (truthV_any _ _ _).mono ?_; rintro e w8 ⟨rfl, hb8⟩; obtain ⟨hc8, hf8⟩ := bcell hb8
    have hq8 := hb8.size; (try simp at hq8)
    have hz8_0 : w.heap.size < w8.heap.size := (by omega)
    have k8_0_0 := hc8 (w.heap.size) 0 (by first | omega | (simp; done) | (simp; omega)); (try simp [go_sem, *, -hc8, -hf8] at k8_0_0)
    have f8_0_0 := hf8 (w.heap.size) 0 (by first | omega | (simp; done) | (simp; omega)); (try simp [go_sem, *, -hc8, -hf8] at f8_0_0)
    have k8_0_1 := hc8 (w.heap.size) 1 (by first | omega | (simp; done) | (simp; omega)); (try simp [go_sem, *, -hc8, -hf8] at k8_0_1)
    have f8_0_1 := hf8 (w.heap.size) 1 (by first | omega | (simp; done) | (simp; omega)); (try simp [go_sem, *, -hc8, -hf8] at f8_0_1)
    have hz8_2 : w1.heap.size < w8.heap.size := (by omega)
    have k8_2_0 := hc8 (w1.heap.size) 0 (by first | omega | (simp; done) | (simp; omega)); (try simp [go_sem, *, -hc8, -hf8] at k8_2_0)
    have f8_2_0 := hf8 (w1.heap.size) 0 (by first | omega | (simp; done) | (simp; omega)); (try simp [go_sem, *, -hc8, -hf8] at f8_2_0)
    have k8_2_1 := hc8 (w1.heap.size) 1 (by first | omega | (simp; done) | (simp; omega)); (try simp [go_sem, *, -hc8, -hf8] at k8_2_1)
    have f8_2_1 := hf8 (w1.heap.size) 1 (by first | omega | (simp; done) | (simp; omega)); (try simp [go_sem, *, -hc8, -hf8] at f8_2_1)
    have hz8_4 : w3.heap.size < w8.heap.size := (by omega)
    have k8_4_0 := hc8 (w3.heap.size) 0 (by first | omega | (simp; done) | (simp; omega)); (try simp [go_sem, *, -hc8, -hf8] at k8_4_0)
    have f8_4_0 := hf8 (w3.heap.size) 0 (by first | omega | (simp; done) | (simp; omega)); (try simp [go_sem, *, -hc8, -hf8] at f8_4_0)
    have k8_4_1 := hc8 (w3.heap.size) 1 (by first | omega | (simp; done) | (simp; omega)); (try simp [go_sem, *, -hc8, -hf8] at k8_4_1)
    have f8_4_1 := hf8 (w3.heap.size) 1 (by first | omega | (simp; done) | (simp; omega)); (try simp [go_sem, *, -hc8, -hf8] at f8_4_1)
    have hz8_5 : w4.heap.size < w8.heap.size := (by omega)
    have k8_5_0 := hc8 (w4.heap.size) 0 (by first | omega | (simp; done) | (simp; omega)); (try simp [go_sem, *, -hc8, -hf8] at k8_5_0)
    have f8_5_0 := hf8 (w4.heap.size) 0 (by first | omega | (simp; done) | (simp; omega)); (try simp [go_sem, *, -hc8, -hf8] at f8_5_0)
    have k8_5_1 := hc8 (w4.heap.size) 1 (by first | omega | (simp; done) | (simp; omega)); (try simp [go_sem, *, -hc8, -hf8] at k8_5_1)
    have f8_5_1 := hf8 (w4.heap.size) 1 (by first | omega | (simp; done) | (simp; omega)); (try simp [go_sem, *, -hc8, -hf8] at f8_5_1)
    have hz8_6 : w5.heap.size < w8.heap.size := (by omega)
    have k8_6_0 := hc8 (w5.heap.size) 0 (by first | omega | (simp; done) | (simp; omega)); (try simp [go_sem, *, -hc8, -hf8] at k8_6_0)
    have f8_6_0 := hf8 (w5.heap.size) 0 (by first | omega | (simp; done) | (simp; omega)); (try simp [go_sem, *, -hc8, -hf8] at f8_6_0)
    have k8_6_1 := hc8 (w5.heap.size) 1 (by first | omega | (simp; done) | (simp; omega)); (try simp [go_sem, *, -hc8, -hf8] at k8_6_1)
    have f8_6_1 := hf8 (w5.heap.size) 1 (by first | omega | (simp; done) | (simp; omega)); (try simp [go_sem, *, -hc8, -hf8] at f8_6_1)
    have hz8_7 : w6.heap.size < w8.heap.size := (by omega)
    have k8_7_0 := hc8 (w6.heap.size) 0 (by first | omega | (simp; done) | (simp; omega)); (try simp [go_sem, *, -hc8, -hf8] at k8_7_0)
    have f8_7_0 := hf8 (w6.heap.size) 0 (by first | omega | (simp; done) | (simp; omega)); (try simp [go_sem, *, -hc8, -hf8] at f8_7_0)
    have k8_7_1 := hc8 (w6.heap.size) 1 (by first | omega | (simp; done) | (simp; omega)); (try simp [go_sem, *, -hc8, -hf8] at k8_7_1)
    have f8_7_1 := hf8 (w6.heap.size) 1 (by first | omega | (simp; done) | (simp; omega)); (try simp [go_sem, *, -hc8, -hf8] at f8_7_1)
    have hz8_8 : w7.heap.size < w8.heap.size := (by omega)
    have k8_8_0 := hc8 (w7.heap.size) 0 (by first | omega | (simp; done) | (simp; omega)); (try simp [go_sem, *, -hc8, -hf8] at k8_8_0)
    have f8_8_0 := hf8 (w7.heap.size) 0 (by first | omega | (simp; done) | (simp; omega)); (try simp [go_sem, *, -hc8, -hf8] at f8_8_0)
    have k8_8_1 := hc8 (w7.heap.size) 1 (by first | omega | (simp; done) | (simp; omega)); (try simp [go_sem, *, -hc8, -hf8] at k8_8_1)
    have f8_8_1 := hf8 (w7.heap.size) 1 (by first | omega | (simp; done) | (simp; omega)); (try simp [go_sem, *, -hc8, -hf8] at f8_8_1)
    clear hc8 hf8
    clear k7_0_0 f7_0_0 k7_0_1 f7_0_1 k7_2_0 f7_2_0 k7_2_1 f7_2_1 k7_4_0 f7_4_0 k7_4_1 f7_4_1 k7_5_0 f7_5_0 k7_5_1 f7_5_1 k7_6_0 f7_6_0 k7_6_1 f7_6_1 k7_7_0 f7_7_0 k7_7_1 f7_7_1
    go_wp2_with fail
    rw [rounds_succ]
    go_wp2_with fail
    refine wp_region_plan [0, 1, 3, 7, 15, 31, 63, 127, 255, 511, 1023, 2047, 4095, 8191, 16383, 32767, 65535, 131071, 262143, 524287, 1048575, 524287, 4194303, 8388607, 16777215, 33554431, 67108863, 134217727, 268435455, 536870911] (.seg 0 (.seg 1 (.seg 2 (.seg 3 (.seg 4 (.seg 5 (.seg 6 (.seg 7 (.seg 8 (.seg 9 (.seg 10 (.seg 11 (.seg 12 (.seg 13 (.seg 14 (.seg 15 (.seg 16 (.seg 17 (.seg 18 (.seg 19 (.seg 21 (.eff 20 [21] (.eff 22 [] (.seg 23 (.seg 24 (.eff 25 [] (.seg 26 (.seg 27 (.seg 28 (.seg 29 .last)))))))))))))))))))))))))))))) rfl (by kernel_rfl) rfl ?_
    iterate 21 (refine plan_seg rfl (fun _ _ => ?_); go_wp2_with fail)
    refine plan_eff rfl (fun _ hQ => ?_)
    go_wp2_with fail
    refine (truthV_any _ _ _).mono ?_; rintro e w9 ⟨rfl, hb9⟩; obtain ⟨hc9, hf9⟩ := bcell hb9
    have hq9 := hb9.size; (try simp at hq9)
    have hz9_2 : w1.heap.size < w9.heap.size := (by omega)
    have k9_2_0 := hc9 (w1.heap.size) 0 (by first | omega | (simp; done) | (simp; omega)); (try simp [go_sem, *, -hc9, -hf9] at k9_2_0)
    have f9_2_0 := hf9 (w1.heap.size) 0 (by first | omega | (simp; done) | (simp; omega)); (try simp [go_sem, *, -hc9, -hf9] at f9_2_0)
    have k9_2_1 := hc9 (w1.heap.size) 1 (by first | omega | (simp; done) | (simp; omega)); (try simp [go_sem, *, -hc9, -hf9] at k9_2_1)
    have f9_2_1 := hf9 (w1.heap.size) 1 (by first | omega | (simp; done) | (simp; omega)); (try simp [go_sem, *, -hc9, -hf9] at f9_2_1)
    have hz9_4 : w3.heap.size < w9.heap.size := (by omega)
    have k9_4_0 := hc9 (w3.heap.size) 0 (by first | omega | (simp; done) | (simp; omega)); (try simp [go_sem, *, -hc9, -hf9] at k9_4_0)
    have f9_4_0 := hf9 (w3.heap.size) 0 (by first | omega | (simp; done) | (simp; omega)); (try simp [go_sem, *, -hc9, -hf9] at f9_4_0)
    have k9_4_1 := hc9 (w3.heap.size) 1 (by first | omega | (simp; done) | (simp; omega)); (try simp [go_sem, *, -hc9, -hf9] at k9_4_1)
    have f9_4_1 := hf9 (w3.heap.size) 1 (by first | omega | (simp; done) | (simp; omega)); (try simp [go_sem, *, -hc9, -hf9] at f9_4_1)
    clear hc9 hf9
    clear k8_0_0 f8_0_0 k8_0_1 f8_0_1 k8_2_0 f8_2_0 k8_2_1 f8_2_1 k8_4_0 f8_4_0 k8_4_1 f8_4_1 k8_5_0 f8_5_0 k8_5_1 f8_5_1 k8_6_0 f8_6_0 k8_6_1 f8_6_1 k8_7_0 f8_7_0 k8_7_1 f8_7_1 k8_8_0 f8_8_0 k8_8_1 f8_8_1
    go_wp2_with fail
    refine hQ _ _ (pend_cons rfl rfl (by go_simp; rfl) <|  pend_nil) ?_
    refine plan_eff0 rfl (fun _ _ => ?_)
    go_wp2_with fail
    refine (truthV_any _ _ _).mono ?_; rintro e w10 ⟨rfl, hb10⟩; obtain ⟨hc10, hf10⟩ := bcell hb10
    have hq10 := hb10.size; (try simp at hq10)
    have hz10_4 : w3.heap.size < w10.heap.size := (by omega)
    have k10_4_0 := hc10 (w3.heap.size) 0 (by first | omega | (simp; done) | (simp; omega)); (try simp [go_sem, *, -hc10, -hf10] at k10_4_0)
    have f10_4_0 := hf10 (w3.heap.size) 0 (by first | omega | (simp; done) | (simp; omega)); (try simp [go_sem, *, -hc10, -hf10] at f10_4_0)
    have k10_4_1 := hc10 (w3.heap.size) 1 (by first | omega | (simp; done) | (simp; omega)); (try simp [go_sem, *, -hc10, -hf10] at k10_4_1)
    have f10_4_1 := hf10 (w3.heap.size) 1 (by first | omega | (simp; done) | (simp; omega)); (try simp [go_sem, *, -hc10, -hf10] at f10_4_1)
    clear hc10 hf10
    clear k9_2_0 f9_2_0 k9_2_1 f9_2_1 k9_4_0 f9_4_0 k9_4_1 f9_4_1
    go_wp2_with fail
    iterate 2 (refine plan_seg rfl (fun _ _ => ?_); go_wp2_with fail)
    refine plan_eff0 rfl (fun _ _ => ?_)
    go_wp2_with fail
    refine (truthV_any _ _ _).mono ?_; rintro e w11 ⟨rfl, hb11⟩; obtain ⟨hc11, hf11⟩ := bcell hb11
    have hq11 := hb11.size; (try simp at hq11)
    clear hc11 hf11
    clear k10_4_0 f10_4_0 k10_4_1 f10_4_1
    go_wp2_with fail
    iterate 4 (refine plan_seg rfl (fun _ _ => ?_); go_wp2_with fail)
    refine plan_last ?_
    go_wp2_with fail
    go_ret
    exact ⟨rfl, (by repeat' (first | exact Below.refl _ _ | (refine Below.via ?_ (by assumption) ?_) | refine Below.setCell ?_ ?_ _ | refine Below.alloc ?_ ?_ _ | refine Below.drew ?_ | omega | (simp; omega) | (simp; done)))⟩
set_option maxHeartbeats 400000 in
theorem opsOrder_no (ak an bk bn : Int) (w : World) (h1 : ((binaryS 9 ak an bk bn).2.2 != -1) = true) (h2 : (binaryS 9 bk bn ak an).2.2 = (binaryS 9 ak an bk bn).2.2) (h3 : (binaryS 10 ak an bk bn).2.2 = (binaryS 9 ak an bk bn).2.2) :
    Calls Try.prog 9 #[.agg #[.int .i64 ak, .int .i64 an], .agg #[.int .i64 bk, .int .i64 bn]] w fun e w' => e = .returned (.bool true) ∧ Below w.heap.size w w' := by
  go_enter Try.func9, Try.ntmps9
  go_wp2_with fail
  refine (binary_any _ _ _ _ _ _).mono ?_; rintro e w1 ⟨rfl, hb1⟩; obtain ⟨hc1, hf1⟩ := bcell hb1
  have hq1 := hb1.size; (try simp at hq1)
  have hz1_0 : w.heap.size < w1.heap.size := (by omega)
  have k1_0_0 := hc1 (w.heap.size) 0 (by first | omega | (simp; done) | (simp; omega)); (try simp [go_sem, *, -hc1, -hf1] at k1_0_0)
  have f1_0_0 := hf1 (w.heap.size) 0 (by first | omega | (simp; done) | (simp; omega)); (try simp [go_sem, *, -hc1, -hf1] at f1_0_0)
  have k1_0_1 := hc1 (w.heap.size) 1 (by first | omega | (simp; done) | (simp; omega)); (try simp [go_sem, *, -hc1, -hf1] at k1_0_1)
  have f1_0_1 := hf1 (w.heap.size) 1 (by first | omega | (simp; done) | (simp; omega)); (try simp [go_sem, *, -hc1, -hf1] at f1_0_1)
  have hz1_1 : w.heap.size + 1 < w1.heap.size := (by omega)
  have k1_1_0 := hc1 (w.heap.size + 1) 0 (by first | omega | (simp; done) | (simp; omega)); (try simp [go_sem, *, -hc1, -hf1] at k1_1_0)
  have f1_1_0 := hf1 (w.heap.size + 1) 0 (by first | omega | (simp; done) | (simp; omega)); (try simp [go_sem, *, -hc1, -hf1] at f1_1_0)
  have k1_1_1 := hc1 (w.heap.size + 1) 1 (by first | omega | (simp; done) | (simp; omega)); (try simp [go_sem, *, -hc1, -hf1] at k1_1_1)
  have f1_1_1 := hf1 (w.heap.size + 1) 1 (by first | omega | (simp; done) | (simp; omega)); (try simp [go_sem, *, -hc1, -hf1] at f1_1_1)
  clear hc1 hf1
  go_wp2_with fail
  refine (binary_any _ _ _ _ _ _).mono ?_; rintro e w2 ⟨rfl, hb2⟩; obtain ⟨hc2, hf2⟩ := bcell hb2
  have hq2 := hb2.size; (try simp at hq2)
  have hz2_0 : w.heap.size < w2.heap.size := (by omega)
  have k2_0_0 := hc2 (w.heap.size) 0 (by first | omega | (simp; done) | (simp; omega)); (try simp [go_sem, *, -hc2, -hf2] at k2_0_0)
  have f2_0_0 := hf2 (w.heap.size) 0 (by first | omega | (simp; done) | (simp; omega)); (try simp [go_sem, *, -hc2, -hf2] at f2_0_0)
  have k2_0_1 := hc2 (w.heap.size) 1 (by first | omega | (simp; done) | (simp; omega)); (try simp [go_sem, *, -hc2, -hf2] at k2_0_1)
  have f2_0_1 := hf2 (w.heap.size) 1 (by first | omega | (simp; done) | (simp; omega)); (try simp [go_sem, *, -hc2, -hf2] at f2_0_1)
  have hz2_1 : w.heap.size + 1 < w2.heap.size := (by omega)
  have k2_1_0 := hc2 (w.heap.size + 1) 0 (by first | omega | (simp; done) | (simp; omega)); (try simp [go_sem, *, -hc2, -hf2] at k2_1_0)
  have f2_1_0 := hf2 (w.heap.size + 1) 0 (by first | omega | (simp; done) | (simp; omega)); (try simp [go_sem, *, -hc2, -hf2] at f2_1_0)
  have k2_1_1 := hc2 (w.heap.size + 1) 1 (by first | omega | (simp; done) | (simp; omega)); (try simp [go_sem, *, -hc2, -hf2] at k2_1_1)
  have f2_1_1 := hf2 (w.heap.size + 1) 1 (by first | omega | (simp; done) | (simp; omega)); (try simp [go_sem, *, -hc2, -hf2] at f2_1_1)
  have hz2_2 : w1.heap.size < w2.heap.size := (by omega)
  have k2_2_0 := hc2 (w1.heap.size) 0 (by first | omega | (simp; done) | (simp; omega)); (try simp [go_sem, *, -hc2, -hf2] at k2_2_0)
  have f2_2_0 := hf2 (w1.heap.size) 0 (by first | omega | (simp; done) | (simp; omega)); (try simp [go_sem, *, -hc2, -hf2] at f2_2_0)
  have k2_2_1 := hc2 (w1.heap.size) 1 (by first | omega | (simp; done) | (simp; omega)); (try simp [go_sem, *, -hc2, -hf2] at k2_2_1)
  have f2_2_1 := hf2 (w1.heap.size) 1 (by first | omega | (simp; done) | (simp; omega)); (try simp [go_sem, *, -hc2, -hf2] at f2_2_1)
  clear hc2 hf2
  clear k1_0_0 f1_0_0 k1_0_1 f1_0_1 k1_1_0 f1_1_0 k1_1_1 f1_1_1
  go_wp2_with fail
  refine (binary_any _ _ _ _ _ _).mono ?_; rintro e w3 ⟨rfl, hb3⟩; obtain ⟨hc3, hf3⟩ := bcell hb3
  have hq3 := hb3.size; (try simp at hq3)
  have hz3_0 : w.heap.size < w3.heap.size := (by omega)
  have k3_0_0 := hc3 (w.heap.size) 0 (by first | omega | (simp; done) | (simp; omega)); (try simp [go_sem, *, -hc3, -hf3] at k3_0_0)
  have f3_0_0 := hf3 (w.heap.size) 0 (by first | omega | (simp; done) | (simp; omega)); (try simp [go_sem, *, -hc3, -hf3] at f3_0_0)
  have k3_0_1 := hc3 (w.heap.size) 1 (by first | omega | (simp; done) | (simp; omega)); (try simp [go_sem, *, -hc3, -hf3] at k3_0_1)
  have f3_0_1 := hf3 (w.heap.size) 1 (by first | omega | (simp; done) | (simp; omega)); (try simp [go_sem, *, -hc3, -hf3] at f3_0_1)
  have hz3_1 : w.heap.size + 1 < w3.heap.size := (by omega)
  have k3_1_0 := hc3 (w.heap.size + 1) 0 (by first | omega | (simp; done) | (simp; omega)); (try simp [go_sem, *, -hc3, -hf3] at k3_1_0)
  have f3_1_0 := hf3 (w.heap.size + 1) 0 (by first | omega | (simp; done) | (simp; omega)); (try simp [go_sem, *, -hc3, -hf3] at f3_1_0)
  have k3_1_1 := hc3 (w.heap.size + 1) 1 (by first | omega | (simp; done) | (simp; omega)); (try simp [go_sem, *, -hc3, -hf3] at k3_1_1)
  have f3_1_1 := hf3 (w.heap.size + 1) 1 (by first | omega | (simp; done) | (simp; omega)); (try simp [go_sem, *, -hc3, -hf3] at f3_1_1)
  have hz3_2 : w1.heap.size < w3.heap.size := (by omega)
  have k3_2_0 := hc3 (w1.heap.size) 0 (by first | omega | (simp; done) | (simp; omega)); (try simp [go_sem, *, -hc3, -hf3] at k3_2_0)
  have f3_2_0 := hf3 (w1.heap.size) 0 (by first | omega | (simp; done) | (simp; omega)); (try simp [go_sem, *, -hc3, -hf3] at f3_2_0)
  have k3_2_1 := hc3 (w1.heap.size) 1 (by first | omega | (simp; done) | (simp; omega)); (try simp [go_sem, *, -hc3, -hf3] at k3_2_1)
  have f3_2_1 := hf3 (w1.heap.size) 1 (by first | omega | (simp; done) | (simp; omega)); (try simp [go_sem, *, -hc3, -hf3] at f3_2_1)
  have hz3_3 : w2.heap.size < w3.heap.size := (by omega)
  have k3_3_0 := hc3 (w2.heap.size) 0 (by first | omega | (simp; done) | (simp; omega)); (try simp [go_sem, *, -hc3, -hf3] at k3_3_0)
  have f3_3_0 := hf3 (w2.heap.size) 0 (by first | omega | (simp; done) | (simp; omega)); (try simp [go_sem, *, -hc3, -hf3] at f3_3_0)
  have k3_3_1 := hc3 (w2.heap.size) 1 (by first | omega | (simp; done) | (simp; omega)); (try simp [go_sem, *, -hc3, -hf3] at k3_3_1)
  have f3_3_1 := hf3 (w2.heap.size) 1 (by first | omega | (simp; done) | (simp; omega)); (try simp [go_sem, *, -hc3, -hf3] at f3_3_1)
  clear hc3 hf3
  clear k2_0_0 f2_0_0 k2_0_1 f2_0_1 k2_1_0 f2_1_0 k2_1_1 f2_1_1 k2_2_0 f2_2_0 k2_2_1 f2_2_1
  go_wp2_with fail
  refine (binary_any _ _ _ _ _ _).mono ?_; rintro e w4 ⟨rfl, hb4⟩; obtain ⟨hc4, hf4⟩ := bcell hb4
  have hq4 := hb4.size; (try simp at hq4)
  have hz4_0 : w.heap.size < w4.heap.size := (by omega)
  have k4_0_0 := hc4 (w.heap.size) 0 (by first | omega | (simp; done) | (simp; omega)); (try simp [go_sem, *, -hc4, -hf4] at k4_0_0)
  have f4_0_0 := hf4 (w.heap.size) 0 (by first | omega | (simp; done) | (simp; omega)); (try simp [go_sem, *, -hc4, -hf4] at f4_0_0)
  have k4_0_1 := hc4 (w.heap.size) 1 (by first | omega | (simp; done) | (simp; omega)); (try simp [go_sem, *, -hc4, -hf4] at k4_0_1)
  have f4_0_1 := hf4 (w.heap.size) 1 (by first | omega | (simp; done) | (simp; omega)); (try simp [go_sem, *, -hc4, -hf4] at f4_0_1)
  have hz4_2 : w1.heap.size < w4.heap.size := (by omega)
  have k4_2_0 := hc4 (w1.heap.size) 0 (by first | omega | (simp; done) | (simp; omega)); (try simp [go_sem, *, -hc4, -hf4] at k4_2_0)
  have f4_2_0 := hf4 (w1.heap.size) 0 (by first | omega | (simp; done) | (simp; omega)); (try simp [go_sem, *, -hc4, -hf4] at f4_2_0)
  have k4_2_1 := hc4 (w1.heap.size) 1 (by first | omega | (simp; done) | (simp; omega)); (try simp [go_sem, *, -hc4, -hf4] at k4_2_1)
  have f4_2_1 := hf4 (w1.heap.size) 1 (by first | omega | (simp; done) | (simp; omega)); (try simp [go_sem, *, -hc4, -hf4] at f4_2_1)
  have hz4_3 : w2.heap.size < w4.heap.size := (by omega)
  have k4_3_0 := hc4 (w2.heap.size) 0 (by first | omega | (simp; done) | (simp; omega)); (try simp [go_sem, *, -hc4, -hf4] at k4_3_0)
  have f4_3_0 := hf4 (w2.heap.size) 0 (by first | omega | (simp; done) | (simp; omega)); (try simp [go_sem, *, -hc4, -hf4] at f4_3_0)
  have k4_3_1 := hc4 (w2.heap.size) 1 (by first | omega | (simp; done) | (simp; omega)); (try simp [go_sem, *, -hc4, -hf4] at k4_3_1)
  have f4_3_1 := hf4 (w2.heap.size) 1 (by first | omega | (simp; done) | (simp; omega)); (try simp [go_sem, *, -hc4, -hf4] at f4_3_1)
  have hz4_4 : w3.heap.size < w4.heap.size := (by omega)
  have k4_4_0 := hc4 (w3.heap.size) 0 (by first | omega | (simp; done) | (simp; omega)); (try simp [go_sem, *, -hc4, -hf4] at k4_4_0)
  have f4_4_0 := hf4 (w3.heap.size) 0 (by first | omega | (simp; done) | (simp; omega)); (try simp [go_sem, *, -hc4, -hf4] at f4_4_0)
  have k4_4_1 := hc4 (w3.heap.size) 1 (by first | omega | (simp; done) | (simp; omega)); (try simp [go_sem, *, -hc4, -hf4] at k4_4_1)
  have f4_4_1 := hf4 (w3.heap.size) 1 (by first | omega | (simp; done) | (simp; omega)); (try simp [go_sem, *, -hc4, -hf4] at f4_4_1)
  clear hc4 hf4
  clear k3_0_0 f3_0_0 k3_0_1 f3_0_1 k3_1_0 f3_1_0 k3_1_1 f3_1_1 k3_2_0 f3_2_0 k3_2_1 f3_2_1 k3_3_0 f3_3_0 k3_3_1 f3_3_1
  go_wp2_with fail
  refine (opsLives_any _).mono ?_; rintro e w5 ⟨rfl, hb5⟩; obtain ⟨hc5, hf5⟩ := bcell hb5
  have hq5 := hb5.size; (try simp at hq5)
  have hz5_0 : w.heap.size < w5.heap.size := (by omega)
  have k5_0_0 := hc5 (w.heap.size) 0 (by first | omega | (simp; done) | (simp; omega)); (try simp [go_sem, *, -hc5, -hf5] at k5_0_0)
  have f5_0_0 := hf5 (w.heap.size) 0 (by first | omega | (simp; done) | (simp; omega)); (try simp [go_sem, *, -hc5, -hf5] at f5_0_0)
  have k5_0_1 := hc5 (w.heap.size) 1 (by first | omega | (simp; done) | (simp; omega)); (try simp [go_sem, *, -hc5, -hf5] at k5_0_1)
  have f5_0_1 := hf5 (w.heap.size) 1 (by first | omega | (simp; done) | (simp; omega)); (try simp [go_sem, *, -hc5, -hf5] at f5_0_1)
  have hz5_2 : w1.heap.size < w5.heap.size := (by omega)
  have k5_2_0 := hc5 (w1.heap.size) 0 (by first | omega | (simp; done) | (simp; omega)); (try simp [go_sem, *, -hc5, -hf5] at k5_2_0)
  have f5_2_0 := hf5 (w1.heap.size) 0 (by first | omega | (simp; done) | (simp; omega)); (try simp [go_sem, *, -hc5, -hf5] at f5_2_0)
  have k5_2_1 := hc5 (w1.heap.size) 1 (by first | omega | (simp; done) | (simp; omega)); (try simp [go_sem, *, -hc5, -hf5] at k5_2_1)
  have f5_2_1 := hf5 (w1.heap.size) 1 (by first | omega | (simp; done) | (simp; omega)); (try simp [go_sem, *, -hc5, -hf5] at f5_2_1)
  have hz5_3 : w2.heap.size < w5.heap.size := (by omega)
  have k5_3_0 := hc5 (w2.heap.size) 0 (by first | omega | (simp; done) | (simp; omega)); (try simp [go_sem, *, -hc5, -hf5] at k5_3_0)
  have f5_3_0 := hf5 (w2.heap.size) 0 (by first | omega | (simp; done) | (simp; omega)); (try simp [go_sem, *, -hc5, -hf5] at f5_3_0)
  have k5_3_1 := hc5 (w2.heap.size) 1 (by first | omega | (simp; done) | (simp; omega)); (try simp [go_sem, *, -hc5, -hf5] at k5_3_1)
  have f5_3_1 := hf5 (w2.heap.size) 1 (by first | omega | (simp; done) | (simp; omega)); (try simp [go_sem, *, -hc5, -hf5] at f5_3_1)
  have hz5_4 : w3.heap.size < w5.heap.size := (by omega)
  have k5_4_0 := hc5 (w3.heap.size) 0 (by first | omega | (simp; done) | (simp; omega)); (try simp [go_sem, *, -hc5, -hf5] at k5_4_0)
  have f5_4_0 := hf5 (w3.heap.size) 0 (by first | omega | (simp; done) | (simp; omega)); (try simp [go_sem, *, -hc5, -hf5] at f5_4_0)
  have k5_4_1 := hc5 (w3.heap.size) 1 (by first | omega | (simp; done) | (simp; omega)); (try simp [go_sem, *, -hc5, -hf5] at k5_4_1)
  have f5_4_1 := hf5 (w3.heap.size) 1 (by first | omega | (simp; done) | (simp; omega)); (try simp [go_sem, *, -hc5, -hf5] at f5_4_1)
  have hz5_5 : w4.heap.size < w5.heap.size := (by omega)
  have k5_5_0 := hc5 (w4.heap.size) 0 (by first | omega | (simp; done) | (simp; omega)); (try simp [go_sem, *, -hc5, -hf5] at k5_5_0)
  have f5_5_0 := hf5 (w4.heap.size) 0 (by first | omega | (simp; done) | (simp; omega)); (try simp [go_sem, *, -hc5, -hf5] at f5_5_0)
  have k5_5_1 := hc5 (w4.heap.size) 1 (by first | omega | (simp; done) | (simp; omega)); (try simp [go_sem, *, -hc5, -hf5] at k5_5_1)
  have f5_5_1 := hf5 (w4.heap.size) 1 (by first | omega | (simp; done) | (simp; omega)); (try simp [go_sem, *, -hc5, -hf5] at f5_5_1)
  clear hc5 hf5
  clear k4_0_0 f4_0_0 k4_0_1 f4_0_1 k4_2_0 f4_2_0 k4_2_1 f4_2_1 k4_3_0 f4_3_0 k4_3_1 f4_3_1 k4_4_0 f4_4_0 k4_4_1 f4_4_1
  go_wp2_with fail
  refine (opsLives_any _).mono ?_; rintro e w6 ⟨rfl, hb6⟩; obtain ⟨hc6, hf6⟩ := bcell hb6
  have hq6 := hb6.size; (try simp at hq6)
  have hz6_0 : w.heap.size < w6.heap.size := (by omega)
  have k6_0_0 := hc6 (w.heap.size) 0 (by first | omega | (simp; done) | (simp; omega)); (try simp [go_sem, *, -hc6, -hf6] at k6_0_0)
  have f6_0_0 := hf6 (w.heap.size) 0 (by first | omega | (simp; done) | (simp; omega)); (try simp [go_sem, *, -hc6, -hf6] at f6_0_0)
  have k6_0_1 := hc6 (w.heap.size) 1 (by first | omega | (simp; done) | (simp; omega)); (try simp [go_sem, *, -hc6, -hf6] at k6_0_1)
  have f6_0_1 := hf6 (w.heap.size) 1 (by first | omega | (simp; done) | (simp; omega)); (try simp [go_sem, *, -hc6, -hf6] at f6_0_1)
  have hz6_2 : w1.heap.size < w6.heap.size := (by omega)
  have k6_2_0 := hc6 (w1.heap.size) 0 (by first | omega | (simp; done) | (simp; omega)); (try simp [go_sem, *, -hc6, -hf6] at k6_2_0)
  have f6_2_0 := hf6 (w1.heap.size) 0 (by first | omega | (simp; done) | (simp; omega)); (try simp [go_sem, *, -hc6, -hf6] at f6_2_0)
  have k6_2_1 := hc6 (w1.heap.size) 1 (by first | omega | (simp; done) | (simp; omega)); (try simp [go_sem, *, -hc6, -hf6] at k6_2_1)
  have f6_2_1 := hf6 (w1.heap.size) 1 (by first | omega | (simp; done) | (simp; omega)); (try simp [go_sem, *, -hc6, -hf6] at f6_2_1)
  have hz6_3 : w2.heap.size < w6.heap.size := (by omega)
  have k6_3_0 := hc6 (w2.heap.size) 0 (by first | omega | (simp; done) | (simp; omega)); (try simp [go_sem, *, -hc6, -hf6] at k6_3_0)
  have f6_3_0 := hf6 (w2.heap.size) 0 (by first | omega | (simp; done) | (simp; omega)); (try simp [go_sem, *, -hc6, -hf6] at f6_3_0)
  have k6_3_1 := hc6 (w2.heap.size) 1 (by first | omega | (simp; done) | (simp; omega)); (try simp [go_sem, *, -hc6, -hf6] at k6_3_1)
  have f6_3_1 := hf6 (w2.heap.size) 1 (by first | omega | (simp; done) | (simp; omega)); (try simp [go_sem, *, -hc6, -hf6] at f6_3_1)
  have hz6_4 : w3.heap.size < w6.heap.size := (by omega)
  have k6_4_0 := hc6 (w3.heap.size) 0 (by first | omega | (simp; done) | (simp; omega)); (try simp [go_sem, *, -hc6, -hf6] at k6_4_0)
  have f6_4_0 := hf6 (w3.heap.size) 0 (by first | omega | (simp; done) | (simp; omega)); (try simp [go_sem, *, -hc6, -hf6] at f6_4_0)
  have k6_4_1 := hc6 (w3.heap.size) 1 (by first | omega | (simp; done) | (simp; omega)); (try simp [go_sem, *, -hc6, -hf6] at k6_4_1)
  have f6_4_1 := hf6 (w3.heap.size) 1 (by first | omega | (simp; done) | (simp; omega)); (try simp [go_sem, *, -hc6, -hf6] at f6_4_1)
  have hz6_5 : w4.heap.size < w6.heap.size := (by omega)
  have k6_5_0 := hc6 (w4.heap.size) 0 (by first | omega | (simp; done) | (simp; omega)); (try simp [go_sem, *, -hc6, -hf6] at k6_5_0)
  have f6_5_0 := hf6 (w4.heap.size) 0 (by first | omega | (simp; done) | (simp; omega)); (try simp [go_sem, *, -hc6, -hf6] at f6_5_0)
  have k6_5_1 := hc6 (w4.heap.size) 1 (by first | omega | (simp; done) | (simp; omega)); (try simp [go_sem, *, -hc6, -hf6] at k6_5_1)
  have f6_5_1 := hf6 (w4.heap.size) 1 (by first | omega | (simp; done) | (simp; omega)); (try simp [go_sem, *, -hc6, -hf6] at f6_5_1)
  clear hc6 hf6
  clear k5_0_0 f5_0_0 k5_0_1 f5_0_1 k5_2_0 f5_2_0 k5_2_1 f5_2_1 k5_3_0 f5_3_0 k5_3_1 f5_3_1 k5_4_0 f5_4_0 k5_4_1 f5_4_1 k5_5_0 f5_5_0 k5_5_1 f5_5_1
  go_wp2_with fail
  go_ret
  exact ⟨rfl, (by repeat' (first | exact Below.refl _ _ | (refine Below.via ?_ (by assumption) ?_) | refine Below.setCell ?_ ?_ _ | refine Below.alloc ?_ ?_ _ | refine Below.drew ?_ | omega | (simp; omega) | (simp; done)))⟩
theorem tak_self {k n : Int} (h : takK k n ≠ 0) : takK k n = k ∧ takN k n = n := by
  unfold takK takN at *
  cases hr : rightB k n <;> simp [hr] at h ⊢
theorem order_law (ak an bk bn : Int) :
    ((binaryS 9 ak an bk bn).2.2 ≠ -1 ∧ (binaryS 9 bk bn ak an).2.2 = (binaryS 9 ak an bk bn).2.2 ∧ (binaryS 10 ak an bk bn).2.2 = (binaryS 9 ak an bk bn).2.2) ∨
    ∃ l m s : Bool, binaryS 9 ak an bk bn = (1, bit l, -1) ∧ binaryS 9 bk bn ak an = (1, bit m, -1) ∧ binaryS 8 ak an bk bn = (1, bit s, -1) ∧ binaryS 10 ak an bk bn = (1, bit (l || s), -1) ∧
      (bit l + bit m + bit s ≤ 1) ∧ (ak = 2 → bit l + bit m + bit s = 1) := by
  by_cases hf : takK ak an = 3 ∧ takK bk bn = 3
  · right
    refine ⟨less (flt (takN ak an)) (flt (takN bk bn)), less (flt (takN bk bn)) (flt (takN ak an)), same (flt (takN ak an)) (flt (takN bk bn)), ?_, ?_, ?_, ?_, one_of _ _, ?_⟩
    · simp [binaryS, binaryT, hf, floatsS, orderedF]
    · simp [binaryS, binaryT, hf, floatsS, orderedF]
    · simp [binaryS, binaryT, hf, floatsS]
    · simp [binaryS, binaryT, hf, floatsS, orderedF]
    · intro hk
      have := (tak_self (k := ak) (n := an) (by omega)).1
      omega
  · have hf' : ¬ (takK bk bn = 3 ∧ takK ak an = 3) := fun h => hf ⟨h.2, h.1⟩
    by_cases hi : takK ak an = 2 ∧ takK bk bn = 2
    · right
      refine ⟨decide (takN ak an < takN bk bn), decide (takN bk bn < takN ak an), decide (takN ak an = takN bk bn), ?_, ?_, ?_, ?_, ?_, ?_⟩
      · simp [binaryS, binaryT, hi, wholesS, orderedI]
      · simp [binaryS, binaryT, hi, wholesS, orderedI]
      · simp [binaryS, binaryT, hi]
      · simp only [binaryS, binaryT, hi, wholesS, orderedI]
        simp
        congr 1
        rw [Bool.eq_iff_iff]
        simp
        omega
      · unfold bit
        repeat' split
        all_goals (simp at *; try omega)
      · intro _
        unfold bit
        repeat' split
        all_goals (simp at *; try omega)
    · have hi' : ¬ (takK bk bn = 2 ∧ takK ak an = 2) := fun h => hi ⟨h.2, h.1⟩
      left
      simp [binaryS, binaryT, hf, hf', hi, hi']
theorem opsOrder_walk (ak an bk bn : Int) (w : World) :
    Calls Try.prog 9 #[.agg #[.int .i64 ak, .int .i64 an], .agg #[.int .i64 bk, .int .i64 bn]] w fun e w' => e = .returned (.bool true) ∧ Below w.heap.size w w' := by
  rcases order_law ak an bk bn with ⟨h1, h2, h3⟩ | ⟨l, m, s, h1, h2, h3, h4, h5, h6⟩
  · exact opsOrder_no ak an bk bn w (by simp [h1]) h2 h3
  · have hwh : (ak == 2) = true → bit l + bit m + bit s = 1 := fun h => h6 (by simpa using h)
    cases l <;> cases m <;> cases s
    · exact opsOrder_n ak an bk bn w _ rfl (by cases hh : (ak == 2) <;> simp; have := hwh hh; simp [bit] at this) h1 h2 h3 h4
    · exact opsOrder_s ak an bk bn w _ rfl (by simp) h1 h2 h3 h4
    · exact opsOrder_m ak an bk bn w _ rfl (by simp) h1 h2 h3 h4
    · simp [bit] at h5
    · exact opsOrder_l ak an bk bn w _ rfl (by simp) h1 h2 h3 h4
    · simp [bit] at h5
    · simp [bit] at h5
    · simp [bit] at h5
/-! ### THE ROW: OpsOrder (after the kit's skeleton) -/
namespace opsOrder
open Go.ChangeShapes Go.WideShapes Go.ChangeAt Go.RowKit Go.Joins
theorem own : ownKnob Try.prog.godebug = none := by kernel_rfl
theorem laidOut : laidOutB Try.prog = true := by kernel_rfl
set_option maxRecDepth 100000 in
theorem lifted (os : Os) (started : os.Started) (H : Type) (enc : TypeId × Value → H) :
    ReturnsInHanded {} Try.checked os 9 .any (Rows.opsOrderSpec.pre6 enc Try.prog Try.f9 Rows.opsOrderRow.domain false) (Rows.opsOrderSpec.post enc Try.prog Try.f9 false true false false) := by
  refine returnsInHanded_of_change (C := Try.checked) own started (by kernel_rfl) Try.func9
    (ChangeSpec.witness6 (enc := enc) (C := Try.checked) false ⟨#[], #[.agg #[.int .i64 0, .int .i64 0], .agg #[.int .i64 0, .int .i64 0]], []⟩ 8 (by kernel_rfl) (by kernel_rfl) (by kernel_rfl) (by kernel_rfl)) ?_
  intro W base args ds gs before hval0 hW hcnd _
  have hval : ∀ (j : Nat) t v, Try.f9.params[j]? = some t → args[j]? = some v → Value.okWide Try.prog W .any base t v := hval0
  have hW' := hW
  obtain ⟨p, q, hA0, hV, rfl, hfz, hnd⟩ := hW
  have hA : DataW.TrodAll enc Try.prog W 0 (fun _ => true) true Try.f9.params.toList args.toList ds p := hA0
  rw [Try.params9] at hA hval
  obtain ⟨v0, vs0, d0, ds0, p0, q0, hargs, rfl, rfl, h0, r0⟩ := trodAll_cons hA
  obtain ⟨v1, vs1, d1, ds1, p1, q1, rfl, rfl, rfl, h1, r1⟩ := trodAll_cons r0
  obtain ⟨rfl, rfl, rfl⟩ := trodAll_nil r1
  obtain rfl : args = #[v0, v1] := by cases args; simp_all
  obtain ⟨rfl, rfl⟩ := trodVars_none hV
  have kk0 := h0
  have lt0 : ∀ x ∈ p0, x.block < W.heap.size := by obtain ⟨m, hm⟩ := kk0; exact DataW.trod_lt m _ _ _ hm
  have kk1 := h1
  have lt1 : ∀ x ∈ p1, x.block < W.heap.size := by obtain ⟨m, hm⟩ := kk1; exact DataW.trod_lt m _ _ _ hm
  obtain ⟨c0a, c0b, y0a, y0b, m0, rfl, rfl, rfl, hy0a, hy0b⟩ := open_agg2 Try.underlying43 (by kernel_rfl) (by kernel_rfl) (hval 0 43 v0 rfl rfl) h0
  obtain ⟨k0, ea0, rfl, wk0⟩ := DataW.trod_int Try.underlying3 hy0a
  obtain ⟨n0, eb0, rfl, wn0⟩ := DataW.trod_int Try.underlying3 hy0b
  simp at ea0 eb0
  subst ea0 eb0
  obtain ⟨c1a, c1b, y1a, y1b, m1, rfl, rfl, rfl, hy1a, hy1b⟩ := open_agg2 Try.underlying43 (by kernel_rfl) (by kernel_rfl) (hval 1 43 v1 rfl rfl) h1
  obtain ⟨k1, ea1, rfl, wk1⟩ := DataW.trod_int Try.underlying3 hy1a
  obtain ⟨n1, eb1, rfl, wn1⟩ := DataW.trod_int Try.underlying3 hy1b
  simp at ea1 eb1
  subst ea1 eb1
  clear hA0 hval0
  refine (opsOrder_walk k0 n0 k1 n1 W).mono fun e W' ⟨he, bel⟩ => ?_
  subst he
  exact ⟨_, rfl, _, _, _, [], _, [], hW', trodAll_mk1 (shut_bool Try.underlying4 _), (trodAll_cons_mk (Below.trod laidOut (by kernel_rfl) (of_decide_eq_true (by kernel_rfl)) kk0 bel lt0) (trodAll_cons_mk (Below.trod laidOut (by kernel_rfl) (of_decide_eq_true (by kernel_rfl)) kk1 bel lt1) trodAll_mk0)), rfl, bel.frame _, fun h => by cases h⟩
theorem over : Rows.opsOrderRow.holds Try.pinned (OpenSpec.ofChange Rows.opsOrderSpec) :=
  OpenClaim.holds_of_wide 9 Try.f9 rfl rfl rfl rfl rfl rfl rfl ⟨rfl, rfl, rfl, rfl, rfl⟩ rfl rfl rfl rfl rfl (by kernel_rfl) Try.func9 (by kernel_rfl)
    (of_decide_eq_true (by kernel_rfl)) (by unfold Func.isWrapper; first | (rw [if_pos (by decide +kernel)]; kernel_rfl) | (rw [if_neg (by decide +kernel)]; exact ⟨rfl, rfl⟩))
    (fun os started H enc _ => lifted os started H enc)
end opsOrder
theorem opsOrder_holds : Rows.OpsOrderSaid := opsOrder.over
#print axioms opsOrder_holds
end Go.Proofs.Ytalippdhfkpbmaa
