/- ShapeNames: what it answers, if each Up stands ahead. -/
import Derived.Test.YtalippdhfkpbmaaApp
import Derived.Test.YtalippdhfkpbmaaShpP
import Derived.Lib.Hide
namespace Go.Proofs.Ytalippdhfkpbmaa
open Go.RowKit
set_option maxHeartbeats 1000000 in
theorem shapeNames_any (v : Value) (L : List Shp) (hbig : L.length ≤ 1000000) : ∀ (s : Nat) (w : World), Duos w v L → s < L.length → Ahead L s →
    Calls Try.prog 17 #[v, .int .i64 s] w fun e w' => ∃ r, e = .returned r ∧ OwnInts w' w.heap.size r (namesP L s) ∧ Below w.heap.size w w' := by
  intro s
  induction s using Nat.strongRecOn with
  | _ s ih =>
    intro w h hs ha
    by_cases h0 : s = 0
    · subst h0
      go_enter Try.func17, Try.ntmps17
      go_wp2
      go_ret
      exact ⟨_, rfl, OwnInts.nil _ _, Below.refl _ _⟩
    · have hlen := namesP_len ha
      have hu := ha s (by omega) (Nat.le_refl _)
      obtain ⟨A, cap, rfl, hcap, hmx, hA0, hA⟩ := h.open
      simp only [maxLen] at hmx
      obtain ⟨b, o, rfl, hbl, hc⟩ := hA (by omega)
      have c0 := (hc s hs).1
      have c1 := (hc s hs).2
      clear hA hA0 hc
      have hst := namesP_step ha (by omega)
      have hsz : (namesP L (fstD L s).toNat).length ≤ 1000000 := Nat.le_trans (namesP_len (ha.to (by omega))) (by omega)
      generalize hx : fstD L s = x at *
      obtain ⟨t, rfl⟩ : ∃ t : Nat, x = t := ⟨x.toNat, by omega⟩
      simp only [Int.toNat_natCast] at hst hsz
      have hst := Lib.hid hst
      go_enter Try.func17, Try.ntmps17
      go_wp2_with fail
      refine wp_region_plan [0, 0, 0, 6, 14, 30, 63, 0, 0, 384, 896, 1920, 3968, 8191, 16383] (.seg 0 (.seg 1 (.seg 2 (.seg 3 (.seg 4 (.seg 5 (.seg 7 (.seg 8 (.seg 9 (.seg 10 (.seg 11 (.fork 6 [9, 10, 11] (.eff 12 [3, 4, 5] (.eff 13 [] (.seg 14 .last))) (.eff 12 [3, 4, 5] (.eff 6 [9, 10, 11] (.eff 13 [] (.seg 14 .last)))))))))))))))) rfl (by kernel_rfl) rfl ?_
      iterate 11 (refine plan_seg rfl (fun _ _ => ?_); go_wp2_with fail)
      refine plan_fork ?fk1 ?fk2
      case' fk2 =>
        refine plan_eff rfl (fun _ hQ => ?_)
        go_wp2_with fail
        refine hQ _ _ (pend_cons rfl rfl (by go_simp; rfl) <| pend_cons rfl rfl (by go_simp; rfl) <| pend_cons rfl rfl (by go_simp; rfl) <|  pend_nil) ?_; clear hQ
        refine plan_eff rfl (fun _ hQ => ?_)
        go_wp2_with fail
        refine (ih t (by omega) _ (h.keep (by repeat' (first | exact Below.refl _ _ | (refine Below.via ?_ (by assumption) ?_) | refine Below.setCell ?_ ?_ _ | refine Below.alloc ?_ ?_ _ | refine Below.drew ?_ | omega | (simp; omega) | (simp; done))) (Nat.le_refl _)) (by omega) (ha.to (by omega))).mono ?_; rintro e w1 ⟨v1, rfl, ho1, hb1⟩; obtain ⟨hc1, hf1⟩ := bcell hb1
        have hq1 := hb1.size; (try simp at hq1)
        have hz1_0 : w.heap.size < w1.heap.size := (by omega)
        have k1_0_0 := hc1 (w.heap.size) 0 (by first | omega | (simp; done) | (simp; omega)); (try simp [go_sem, *, -hc1, -hf1] at k1_0_0)
        have f1_0_0 := hf1 (w.heap.size) 0 (by first | omega | (simp; done) | (simp; omega)); (try simp [go_sem, *, -hc1, -hf1] at f1_0_0)
        have hzc1_0 : b < w1.heap.size := (by omega)
        have kc1_0 := hc1 (b) (o + s * 2) (by first | omega | (simp; done) | (simp; omega)); (try simp [go_sem, *, -hc1, -hf1] at kc1_0)
        have kc1_1 := hc1 (b) (o + s * 2 + 1) (by first | omega | (simp; done) | (simp; omega)); (try simp [go_sem, *, -hc1, -hf1] at kc1_1)
        clear hc1 hf1
        go_wp2_with fail
        refine hQ _ _ (pend_cons rfl rfl (by go_simp; rfl) <| pend_cons rfl rfl (by go_simp; rfl) <| pend_cons rfl rfl (by go_simp; rfl) <|  pend_nil) ?_; clear hQ
        refine plan_eff0 rfl (fun _ _ => ?_)
        go_wp2_with (at_builtin; refine Stay.out ?_)
        refine Stay.mk (wpList_app_ints rfl _ _ rfl rfl ((by first | exact ho1 | exact ho1.alloc _)) rfl ((by first | exact (OwnInts.lit _ (Nat.le_refl _) _).lies | exact (OwnInts.lit _ (Nat.le_refl _) _).lies.drew.keep hb1 (Nat.le_refl _))) (by first | (simp; done) | (simp; omega) | omega) (by first | (simp; done) | (simp; omega) | omega) ?_); intro v2 w2 ho2 hb2 hg2; obtain ⟨hc2, hf2⟩ := bcell hb2
        have hq2 := hb2.size; (try simp at hq2)
        have hzc2_0 : b < w2.heap.size := (by omega)
        have kc2_0 := hc2 (b) (o + s * 2) (by first | omega | (simp; done) | (simp; omega)); (try simp [go_sem, *, -hc2, -hf2] at kc2_0)
        have kc2_1 := hc2 (b) (o + s * 2 + 1) (by first | omega | (simp; done) | (simp; omega)); (try simp [go_sem, *, -hc2, -hf2] at kc2_1)
        clear hc2 hf2
        clear k1_0_0 f1_0_0 kc1_0 kc1_1
        clear hg2
        go_wp2_with fail
        iterate 1 (refine plan_seg rfl (fun _ _ => ?_); go_wp2_with fail)
        refine plan_last ?_
        go_wp2_with fail
      case' fk1 =>
        refine plan_eff rfl (fun _ hQ => ?_)
        go_wp2_with fail
        refine (ih t (by omega) _ (h.keep (by repeat' (first | exact Below.refl _ _ | (refine Below.via ?_ (by assumption) ?_) | refine Below.setCell ?_ ?_ _ | refine Below.alloc ?_ ?_ _ | refine Below.drew ?_ | omega | (simp; omega) | (simp; done))) (Nat.le_refl _)) (by omega) (ha.to (by omega))).mono ?_; rintro e w1 ⟨v1, rfl, ho1, hb1⟩; obtain ⟨hc1, hf1⟩ := bcell hb1
        have hq1 := hb1.size; (try simp at hq1)
        have hzc1_0 : b < w1.heap.size := (by omega)
        have kc1_0 := hc1 (b) (o + s * 2) (by first | omega | (simp; done) | (simp; omega)); (try simp [go_sem, *, -hc1, -hf1] at kc1_0)
        have kc1_1 := hc1 (b) (o + s * 2 + 1) (by first | omega | (simp; done) | (simp; omega)); (try simp [go_sem, *, -hc1, -hf1] at kc1_1)
        clear hc1 hf1
        go_wp2_with fail
        refine hQ _ _ (pend_cons rfl rfl (by go_simp; rfl) <| pend_cons rfl rfl (by go_simp; rfl) <| pend_cons rfl rfl (by go_simp; rfl) <|  pend_nil) ?_; clear hQ
        refine plan_eff rfl (fun _ hQ => ?_)
        go_wp2_with fail
        refine hQ _ _ (pend_cons rfl rfl (by go_simp; rfl) <| pend_cons rfl rfl (by go_simp; rfl) <| pend_cons rfl rfl (by go_simp; rfl) <|  pend_nil) ?_; clear hQ
        refine plan_eff0 rfl (fun _ _ => ?_)
        go_wp2_with (at_builtin; refine Stay.out ?_)
        refine Stay.mk (wpList_app_ints rfl _ _ rfl rfl ((by first | exact ho1 | exact ho1.alloc _)) rfl ((by first | exact (OwnInts.lit _ (Nat.le_refl _) _).lies | exact (OwnInts.lit _ (Nat.le_refl _) _).lies.drew.keep hb1 (Nat.le_refl _))) (by first | (simp; done) | (simp; omega) | omega) (by first | (simp; done) | (simp; omega) | omega) ?_); intro v2 w2 ho2 hb2 hg2; obtain ⟨hc2, hf2⟩ := bcell hb2
        have hq2 := hb2.size; (try simp at hq2)
        have hzc2_0 : b < w2.heap.size := (by omega)
        have kc2_0 := hc2 (b) (o + s * 2) (by first | omega | (simp; done) | (simp; omega)); (try simp [go_sem, *, -hc2, -hf2] at kc2_0)
        have kc2_1 := hc2 (b) (o + s * 2 + 1) (by first | omega | (simp; done) | (simp; omega)); (try simp [go_sem, *, -hc2, -hf2] at kc2_1)
        clear hc2 hf2
        clear kc1_0 kc1_1
        clear hg2
        go_wp2_with fail
        iterate 1 (refine plan_seg rfl (fun _ _ => ?_); go_wp2_with fail)
        refine plan_last ?_
        go_wp2_with fail
      all_goals
        go_ret
        refine ⟨_, rfl, ?_, (by repeat' (first | exact Below.refl _ _ | (refine Below.via ?_ (by assumption) ?_) | refine Below.setCell ?_ ?_ _ | refine Below.alloc ?_ ?_ _ | refine Below.drew ?_ | omega | (simp; omega) | (simp; done)))⟩
        rw [hst.out]
        exact ho2.down (by first | omega | (simp; done) | (simp; omega))
end Go.Proofs.Ytalippdhfkpbmaa
