/- The operators' small functions: the walks. -/
import Derived.Test.YtalippdhfkpbmaaDoorRows
import Derived.Test.YtalippdhfkpbmaaDoorBase
import Derived.Test.YtalippdhfkpbmaaDoorOpsP
namespace Go.Proofs.YtalippdhfkpbmaaDoor
open Go.RowKit
theorem within_any (n lo hi : Int) (w : World) :
    Calls Tryd.prog 46 #[.int .i64 n, .int .i64 lo, .int .i64 hi] w fun e w' => e = .returned (.bool (decide (lo ≤ n) && decide (n ≤ hi))) ∧ w' = w := by
  by_cases h : lo ≤ n
  · go_enter Tryd.func46, Tryd.ntmps46
    go_wp2
    go_ret
    exact ⟨by simp [h], rfl⟩
  · go_enter Tryd.func46, Tryd.ntmps46
    go_wp2
    go_ret
    exact ⟨by simp [show ¬ lo ≤ n by omega], rfl⟩
theorem fail_any (n : Int) (w : World) :
    Calls Tryd.prog 38 #[.int .i64 n] w fun e w' => e = .returned (.tuple #[.agg #[.int .i64 0, .int .i64 0], .int .i64 n]) ∧ Below w.heap.size w w' := by
  go_enter Tryd.func38, Tryd.ntmps38
  go_wp2
  refine bodyPost_ret (v := .tuple #[.agg #[.int .i64 0, .int .i64 0], .int .i64 n]) (by simp [results, Tryd.results38, go_sem, *] <;> rfl) rfl ?_
  exact ⟨rfl, (by repeat' (first | exact Below.refl _ _ | (refine Below.via ?_ (by assumption) ?_) | refine Below.setCell ?_ ?_ _ | refine Below.alloc ?_ ?_ _ | refine Below.drew ?_ | omega | (simp; omega) | (simp; done)))⟩
theorem truth_any (b : Bool) (w : World) :
    Calls Tryd.prog 34 #[.bool b] w fun e w' => e = .returned (.agg #[.int .i64 1, .int .i64 (bit b)]) ∧ Below w.heap.size w w' := by
  cases b
  · go_enter Tryd.func34, Tryd.ntmps34
    go_wp2
    refine bodyPost_ret (v := .agg #[.int .i64 1, .int .i64 0]) (by simp [results, Tryd.results34, go_sem, *] <;> rfl) rfl ?_
    exact ⟨rfl, (by repeat' (first | exact Below.refl _ _ | (refine Below.via ?_ (by assumption) ?_) | refine Below.setCell ?_ ?_ _ | refine Below.alloc ?_ ?_ _ | refine Below.drew ?_ | omega | (simp; omega) | (simp; done)))⟩
  · go_enter Tryd.func34, Tryd.ntmps34
    go_wp2
    refine bodyPost_ret (v := .agg #[.int .i64 1, .int .i64 1]) (by simp [results, Tryd.results34, go_sem, *] <;> rfl) rfl ?_
    exact ⟨rfl, (by repeat' (first | exact Below.refl _ _ | (refine Below.via ?_ (by assumption) ?_) | refine Below.setCell ?_ ?_ _ | refine Below.alloc ?_ ?_ _ | refine Below.drew ?_ | omega | (simp; omega) | (simp; done)))⟩
theorem frombits_run (n : Int) (w : World) : (callFunc 61 #[.int .u64 n]).run Tryd.prog w = .ok (.value (.float .f64 n.toNat)) w := by
  rw [run_callFunc_extern (e := Extern.MathFloatBits.float64frombits) Tryd.func61 (by kernel_rfl) (by kernel_rfl) (by kernel_rfl) (by kernel_rfl)]
  rfl
theorem bits_run (n : Nat) (w : World) : (callFunc 60 #[.float .f64 n]).run Tryd.prog w = .ok (.value (.int .u64 n)) w := by
  rw [run_callFunc_extern (e := Extern.MathFloatBits.float64bits) Tryd.func60 (by kernel_rfl) (by kernel_rfl) (by kernel_rfl) (by kernel_rfl)]
  rfl
theorem float_any (k n : Int) (w : World) :
    Calls Tryd.prog 37 #[.agg #[.int .i64 k, .int .i64 n]] w fun e w' => e = .returned (.float .f64 (flt n)) ∧ Below w.heap.size w w' := by
  have hfb := frombits_run
  go_enter Tryd.func37, Tryd.ntmps37
  go_wp2_with fail
  go_ret
  exact ⟨rfl, (by repeat' (first | exact Below.refl _ _ | (refine Below.via ?_ (by assumption) ?_) | refine Below.setCell ?_ ?_ _ | refine Below.alloc ?_ ?_ _ | refine Below.drew ?_ | omega | (simp; omega) | (simp; done)))⟩
theorem whole_any (n : Int) (w : World) :
    Calls Tryd.prog 35 #[.int .i64 n] w fun e w' => e = .returned (.tuple #[.agg #[.int .i64 (wholeS n).1, .int .i64 (wholeS n).2.1], .int .i64 (wholeS n).2.2]) ∧ Below w.heap.size w w' := by
  by_cases h : -2147483648 ≤ n ∧ n ≤ 2147483647
  · have h1 : (decide (-2147483648 ≤ n) && decide (n ≤ 2147483647)) = true := by simp [h]
    go_enter Tryd.func35, Tryd.ntmps35
    go_wp2_with (go_at_call 46; refine (within_any _ _ _ _).mono ?_; rintro e w1 ⟨rfl, rfl⟩)
    refine bodyPost_ret (v := .tuple #[.agg #[.int .i64 2, .int .i64 n], .int .i64 (-1)]) (by simp [results, Tryd.results35, go_sem, *] <;> rfl) rfl ?_
    exact ⟨by simp [wholeS, h], (by repeat' (first | exact Below.refl _ _ | (refine Below.via ?_ (by assumption) ?_) | refine Below.setCell ?_ ?_ _ | refine Below.alloc ?_ ?_ _ | refine Below.drew ?_ | omega | (simp; omega) | (simp; done)))⟩
  · have h1 : (decide (-2147483648 ≤ n) && decide (n ≤ 2147483647)) = false := by simp; omega
    go_enter Tryd.func35, Tryd.ntmps35
    go_wp2_with (first | (go_at_call 46; refine (within_any _ _ _ _).mono ?_; rintro e w1 ⟨rfl, rfl⟩) | (go_at_call 38; refine (fail_any _ _).mono ?_; rintro e w1 ⟨rfl, hb1⟩; obtain ⟨hc1, hf1⟩ := bcell hb1))
    refine bodyPost_ret (v := .tuple #[.agg #[.int .i64 0, .int .i64 0], .int .i64 1]) (by simp [results, Tryd.results35, go_sem, *] <;> rfl) rfl ?_
    exact ⟨by simp [wholeS, h], (by repeat' (first | exact Below.refl _ _ | (refine Below.via ?_ (by assumption) ?_) | refine Below.setCell ?_ ?_ _ | refine Below.alloc ?_ ?_ _ | refine Below.drew ?_ | omega | (simp; omega) | (simp; done)))⟩
end Go.Proofs.YtalippdhfkpbmaaDoor
