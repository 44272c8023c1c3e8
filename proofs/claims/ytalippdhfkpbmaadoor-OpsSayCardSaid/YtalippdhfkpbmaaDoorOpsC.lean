/- Floats and values: the walks. -/
import Derived.Test.YtalippdhfkpbmaaDoorOpsA
namespace Go.Proofs.YtalippdhfkpbmaaDoor
open Go.RowKit
theorem neq_of_same {x y : Nat} {b : Bool} (h : same x y = b) : (FloatKind.f64.format.order x y != some .eq) = !b := by
  subst h; rfl
theorem eql_of_same {x y : Nat} {b : Bool} (h : same x y = b) : (FloatKind.f64.format.order x y == some .eq) = b := h
theorem of_any (b : Nat) (w : World) :
    Calls Tryd.prog 36 #[.float .f64 b] w fun e w' => e = .returned (.agg #[.int .i64 3, .int .i64 (ofN b)]) ∧ Below w.heap.size w w' := by
  have hfb := bits_run
  cases hs : same b b
  · have hn := neq_of_same hs
    go_enter Tryd.func36, Tryd.ntmps36
    go_wp2_with fail
    refine bodyPost_ret (v := .agg #[.int .i64 3, .int .i64 9221120237041090561]) (by simp [results, Tryd.results36, go_sem, *] <;> rfl) rfl ?_
    exact ⟨by simp [ofN, hs, theNaN], (by repeat' (first | exact Below.refl _ _ | (refine Below.via ?_ (by assumption) ?_) | refine Below.setCell ?_ ?_ _ | refine Below.alloc ?_ ?_ _ | refine Below.drew ?_ | omega | (simp; omega) | (simp; done)))⟩
  · have hn := neq_of_same hs
    go_enter Tryd.func36, Tryd.ntmps36
    go_wp2_with fail
    refine bodyPost_ret (v := .agg #[.int .i64 3, .int .i64 (wrap64 b)]) (by simp [results, Tryd.results36, go_sem, *] <;> rfl) rfl ?_
    exact ⟨by simp [ofN, hs], (by repeat' (first | exact Below.refl _ _ | (refine Below.via ?_ (by assumption) ?_) | refine Below.setCell ?_ ?_ _ | refine Below.alloc ?_ ?_ _ | refine Below.drew ?_ | omega | (simp; omega) | (simp; done)))⟩
theorem right_f (n : Int) (w : World) (c : Bool) (hc : (n == 9221120237041090561) = c) :
    Calls Tryd.prog 12 #[.agg #[.int .i64 3, .int .i64 n]] w fun e w' => e = .returned (.bool (same (flt n) (flt n) || c)) ∧ Below w.heap.size w w' := by
  cases hs : same (flt n) (flt n)
  · have hn := eql_of_same hs
    go_enter Tryd.func12, Tryd.ntmps12
    go_wp2_with fail
    refine wp_region_plan [0, 1, 0, 7, 15, 31, 63, 127, 255, 511, 1023] (.seg 0 (.seg 2 (.eff 1 [2] (.eff 3 [] (.seg 4 (.seg 5 (.seg 6 (.seg 7 (.seg 8 (.seg 9 (.seg 10 .last))))))))))) rfl (by kernel_rfl) rfl ?_
    iterate 2 (refine plan_seg rfl (fun _ _ => ?_); go_wp2_with fail)
    refine plan_eff rfl (fun _ hQ1 => ?_)
    go_wp2_with (go_at_call 37; refine (float_any _ _ _).mono ?_; rintro e w1 ⟨rfl, hb1⟩; obtain ⟨hc1, hf1⟩ := bcell hb1)
    refine hQ1 _ _ (pend_cons rfl rfl (by go_simp; rfl) <| pend_nil) ?_
    have hz1 : w.heap.size < w1.heap.size := by have := hb1.size; simp at this; omega
    refine plan_eff0 rfl (fun _ _ => ?_)
    go_wp2_with (go_at_call 37; refine (float_any _ _ _).mono ?_; rintro e w2 ⟨rfl, hb2⟩; obtain ⟨hc2, hf2⟩ := bcell hb2)
    iterate 7 (refine plan_seg rfl (fun _ _ => ?_); go_wp2_with fail)
    refine plan_last ?_
    go_wp2
    go_ret
    exact ⟨rfl, (by repeat' (first | exact Below.refl _ _ | (refine Below.via ?_ (by assumption) ?_) | refine Below.setCell ?_ ?_ _ | refine Below.alloc ?_ ?_ _ | refine Below.drew ?_ | omega | (simp; omega) | (simp; done)))⟩
  · have hn := eql_of_same hs
    go_enter Tryd.func12, Tryd.ntmps12
    go_wp2_with fail
    refine wp_region_plan [0, 1, 0, 7, 15, 31, 63, 127, 255, 511, 1023] (.seg 0 (.seg 2 (.eff 1 [2] (.eff 3 [] (.seg 4 (.seg 5 (.seg 6 (.seg 7 (.seg 8 (.seg 9 (.seg 10 .last))))))))))) rfl (by kernel_rfl) rfl ?_
    iterate 2 (refine plan_seg rfl (fun _ _ => ?_); go_wp2_with fail)
    refine plan_eff rfl (fun _ hQ1 => ?_)
    go_wp2_with (go_at_call 37; refine (float_any _ _ _).mono ?_; rintro e w1 ⟨rfl, hb1⟩; obtain ⟨hc1, hf1⟩ := bcell hb1)
    refine hQ1 _ _ (pend_cons rfl rfl (by go_simp; rfl) <| pend_nil) ?_
    have hz1 : w.heap.size < w1.heap.size := by have := hb1.size; simp at this; omega
    refine plan_eff0 rfl (fun _ _ => ?_)
    go_wp2_with (go_at_call 37; refine (float_any _ _ _).mono ?_; rintro e w2 ⟨rfl, hb2⟩; obtain ⟨hc2, hf2⟩ := bcell hb2)
    iterate 7 (refine plan_seg rfl (fun _ _ => ?_); go_wp2_with fail)
    refine plan_last ?_
    go_wp2
    go_ret
    exact ⟨rfl, (by repeat' (first | exact Below.refl _ _ | (refine Below.via ?_ (by assumption) ?_) | refine Below.setCell ?_ ?_ _ | refine Below.alloc ?_ ?_ _ | refine Below.drew ?_ | omega | (simp; omega) | (simp; done)))⟩
theorem right_any (k n : Int) (w : World) :
    Calls Tryd.prog 12 #[.agg #[.int .i64 k, .int .i64 n]] w fun e w' => e = .returned (.bool (rightB k n)) ∧ Below w.heap.size w w' := by
  rcases (by omega : k = 0 ∨ k = 1 ∨ k = 2 ∨ k = 3 ∨ k = 4 ∨ k = 5 ∨ k = 6 ∨ (k < 0 ∨ 6 < k)) with rfl | rfl | rfl | rfl | rfl | rfl | rfl | h
  · go_enter Tryd.func12, Tryd.ntmps12
    go_wp2_with fail
    go_ret
    exact ⟨by simp [rightB], (by repeat' (first | exact Below.refl _ _ | (refine Below.via ?_ (by assumption) ?_) | refine Below.setCell ?_ ?_ _ | refine Below.alloc ?_ ?_ _ | refine Below.drew ?_ | omega | (simp; omega) | (simp; done)))⟩
  · go_enter Tryd.func12, Tryd.ntmps12
    go_wp2_with (go_at_call 46; refine (within_any _ _ _ _).mono ?_; rintro e w1 ⟨rfl, rfl⟩)
    go_ret
    exact ⟨by simp [rightB], (by repeat' (first | exact Below.refl _ _ | (refine Below.via ?_ (by assumption) ?_) | refine Below.setCell ?_ ?_ _ | refine Below.alloc ?_ ?_ _ | refine Below.drew ?_ | omega | (simp; omega) | (simp; done)))⟩
  · go_enter Tryd.func12, Tryd.ntmps12
    go_wp2_with (go_at_call 46; refine (within_any _ _ _ _).mono ?_; rintro e w1 ⟨rfl, rfl⟩)
    go_ret
    exact ⟨by simp [rightB], (by repeat' (first | exact Below.refl _ _ | (refine Below.via ?_ (by assumption) ?_) | refine Below.setCell ?_ ?_ _ | refine Below.alloc ?_ ?_ _ | refine Below.drew ?_ | omega | (simp; omega) | (simp; done)))⟩
  · refine (right_f n w _ rfl).mono fun e w' ⟨he, hb⟩ => ⟨by rw [he]; simp [rightB, theNaN], hb⟩
  · go_enter Tryd.func12, Tryd.ntmps12
    go_wp2_with fail
    go_ret
    exact ⟨by simp [rightB], (by repeat' (first | exact Below.refl _ _ | (refine Below.via ?_ (by assumption) ?_) | refine Below.setCell ?_ ?_ _ | refine Below.alloc ?_ ?_ _ | refine Below.drew ?_ | omega | (simp; omega) | (simp; done)))⟩
  · go_enter Tryd.func12, Tryd.ntmps12
    go_wp2_with fail
    go_ret
    exact ⟨by simp [rightB], (by repeat' (first | exact Below.refl _ _ | (refine Below.via ?_ (by assumption) ?_) | refine Below.setCell ?_ ?_ _ | refine Below.alloc ?_ ?_ _ | refine Below.drew ?_ | omega | (simp; omega) | (simp; done)))⟩
  · go_enter Tryd.func12, Tryd.ntmps12
    go_wp2_with (go_at_call 46; refine (within_any _ _ _ _).mono ?_; rintro e w1 ⟨rfl, rfl⟩)
    go_ret
    exact ⟨by simp [rightB], (by repeat' (first | exact Below.refl _ _ | (refine Below.via ?_ (by assumption) ?_) | refine Below.setCell ?_ ?_ _ | refine Below.alloc ?_ ?_ _ | refine Below.drew ?_ | omega | (simp; omega) | (simp; done)))⟩
  · have e0 : (k == 0) = false := by simp; omega
    have e1 : (k == 1) = false := by simp; omega
    have e2 : (k == 2) = false := by simp; omega
    have e3 : (k == 3) = false := by simp; omega
    have e4 : (k == 4) = false := by simp; omega
    have e5 : (k == 5) = false := by simp; omega
    have e6 : (k == 6) = false := by simp; omega
    go_enter Tryd.func12, Tryd.ntmps12
    go_wp2_with fail
    go_ret
    exact ⟨by simp at e0 e1 e2 e3 e4 e5 e6; simp [rightB, *], (by repeat' (first | exact Below.refl _ _ | (refine Below.via ?_ (by assumption) ?_) | refine Below.setCell ?_ ?_ _ | refine Below.alloc ?_ ?_ _ | refine Below.drew ?_ | omega | (simp; omega) | (simp; done)))⟩
end Go.Proofs.YtalippdhfkpbmaaDoor
