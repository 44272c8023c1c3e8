/- The operators: the walks, on. -/
import Derived.Test.YtalippdhfkpbmaaDoorOpsE
import Derived.Lib.Hide
import Derived.Test.YtalippdhfkpbmaaDoorVal
namespace Go.Proofs.YtalippdhfkpbmaaDoor
open Go.RowKit
theorem truthV_any (k n : Int) (w : World) :
    Calls Tryd.prog 14 #[.agg #[.int .i64 k, .int .i64 n]] w fun e w' => e = .returned (.bool (truthB k n)) ∧ Below w.heap.size w w' := by
  by_cases h0 : takK k n = 0
  · have e0 : (takK k n != 0) = false := by simp [h0]
    have H0 := Lib.hid h0
    clear h0
    go_enter Tryd.func14, Tryd.ntmps14
    go_wp2_with (go_at_call 33; go_must (refine (taken_any _ _ _).mono ?_; rintro e w1 ⟨rfl, hb1⟩; obtain ⟨hc1, hf1⟩ := bcell hb1; have hz1_0 : w.heap.size < w1.heap.size := (by have hq := hb1.size; (try simp at hq); omega); have k1_0_0 := hc1 (w.heap.size) 0 (by first | omega | (simp; done) | (simp; omega)); (try simp [go_sem, *, -hc1, -hf1] at k1_0_0); have f1_0_0 := hf1 (w.heap.size) 0 (by first | omega | (simp; done) | (simp; omega)); (try simp [go_sem, *, -hc1, -hf1] at f1_0_0); have k1_0_1 := hc1 (w.heap.size) 1 (by first | omega | (simp; done) | (simp; omega)); (try simp [go_sem, *, -hc1, -hf1] at k1_0_1); have f1_0_1 := hf1 (w.heap.size) 1 (by first | omega | (simp; done) | (simp; omega)); (try simp [go_sem, *, -hc1, -hf1] at f1_0_1); clear hc1 hf1))
    refine wp_region_plan [0, 1, 3, 7, 15, 15, 63, 127, 255] (.seg 0 (.seg 1 (.seg 2 (.seg 3 (.seg 4 (.eff 5 [4] (.seg 6 (.seg 7 (.seg 8 .last))))))))) rfl (by kernel_rfl) rfl ?_
    iterate 5 (refine plan_seg rfl (fun _ _ => ?_); go_wp2_with fail)
    refine plan_eff rfl (fun _ hQ => ?_)
    go_wp2_with fail
    refine hQ _ _ (pend_unwanted rfl rfl pend_nil) ?_
    iterate 3 (refine plan_seg rfl (fun _ _ => ?_); go_wp2_with fail)
    refine plan_last ?_
    go_wp2
    go_ret
    exact ⟨by simp [truthB, H0.out], (by repeat' (first | exact Below.refl _ _ | (refine Below.via ?_ (by assumption) ?_) | refine Below.setCell ?_ ?_ _ | refine Below.alloc ?_ ?_ _ | refine Below.drew ?_ | omega | (simp; omega) | (simp; done)))⟩
  · have e0 : (takK k n != 0) = true := by simp [h0]
    have H0 := Lib.hid h0
    clear h0
    go_enter Tryd.func14, Tryd.ntmps14
    go_wp2_with (go_at_call 33; go_must (refine (taken_any _ _ _).mono ?_; rintro e w1 ⟨rfl, hb1⟩; obtain ⟨hc1, hf1⟩ := bcell hb1; have hz1_0 : w.heap.size < w1.heap.size := (by have hq := hb1.size; (try simp at hq); omega); have k1_0_0 := hc1 (w.heap.size) 0 (by first | omega | (simp; done) | (simp; omega)); (try simp [go_sem, *, -hc1, -hf1] at k1_0_0); have f1_0_0 := hf1 (w.heap.size) 0 (by first | omega | (simp; done) | (simp; omega)); (try simp [go_sem, *, -hc1, -hf1] at f1_0_0); have k1_0_1 := hc1 (w.heap.size) 1 (by first | omega | (simp; done) | (simp; omega)); (try simp [go_sem, *, -hc1, -hf1] at k1_0_1); have f1_0_1 := hf1 (w.heap.size) 1 (by first | omega | (simp; done) | (simp; omega)); (try simp [go_sem, *, -hc1, -hf1] at f1_0_1); clear hc1 hf1))
    refine wp_region_plan [0, 1, 3, 7, 15, 15, 63, 127, 255] (.seg 0 (.seg 1 (.seg 2 (.seg 3 (.seg 4 (.eff 5 [4] (.seg 6 (.seg 7 (.seg 8 .last))))))))) rfl (by kernel_rfl) rfl ?_
    iterate 5 (refine plan_seg rfl (fun _ _ => ?_); go_wp2_with fail)
    refine plan_eff rfl (fun _ hQ => ?_)
    go_wp2_with (go_at_call 34; refine (truth_any _ _).mono ?_; rintro e w2 ⟨rfl, hb2⟩; obtain ⟨hc2, hf2⟩ := bcell hb2; simp only [World.size_setCell, World.size_drew] at hc2 hf2)
    refine hQ _ _ (pend_cons rfl rfl (by go_simp; rfl) <| pend_nil) ?_
    iterate 1 (refine plan_seg rfl (fun _ _ => ?_); go_wp2_with fail)
    iterate 2 (refine plan_seg rfl (fun _ _ => ?_); go_wp2_with fail)
    refine plan_last ?_
    go_wp2
    go_ret
    exact ⟨by simp [truthB, H0.out, bit], (by repeat' (first | exact Below.refl _ _ | (refine Below.via ?_ (by assumption) ?_) | refine Below.setCell ?_ ?_ _ | refine Below.alloc ?_ ?_ _ | refine Below.drew ?_ | omega | (simp; omega) | (simp; done)))⟩
end Go.Proofs.YtalippdhfkpbmaaDoor
