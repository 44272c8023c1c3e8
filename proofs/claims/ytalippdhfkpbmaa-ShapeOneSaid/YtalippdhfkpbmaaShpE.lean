/- Check: what it answers. -/
import Derived.Test.YtalippdhfkpbmaaMapS
import Derived.Test.YtalippdhfkpbmaaShpA
import Derived.Test.YtalippdhfkpbmaaShpC
namespace Go.Proofs.Ytalippdhfkpbmaa
open Go.RowKit
set_option maxHeartbeats 2000000 in
theorem check_loop
(w : World) (b o cap : Nat) (L : List Shp) (hcap : L.length ≤ cap) (hmx : cap ≤ 2 ^ 63 - 1) (hbl : b < w.heap.size) (hin : ∀ p ∈ L, InS p) (h0 : 0 < L.length) (h100 : L.length ≤ 100)
    (hd : Duos w (.slice (some ⟨b, o, none⟩) L.length cap) L) (r0 : fstD L 0 = -1) (r1 : sndD L 0 = -1)
    (hc : ∀ i, i < L.length → w.cell? ⟨b, o + i * 2, none⟩ = some (.int .i64 (fstD L i)) ∧ w.cell? ⟨b, o + i * 2 + 1, none⟩ = some (.int .i64 (sndD L i))) :
    Calls Try.prog 14 #[.slice (some ⟨b, o, none⟩) L.length cap] w fun e w' => e = .returned (.int .i64 (faultP L)) ∧ Below w.heap.size w w' := by
  have c0 := (hc 0 h0).1
  have c1 := (hc 0 h0).2
  simp only [r0, r1, Nat.zero_mul, Nat.add_zero] at c0 c1
  have hmm := @run_makeMap Try.prog
  have hL : ¬ (100 : Int) < (L.length : Int) := by omega
  have hne : ¬ L = [] := by rintro rfl; simp at h0
  by_cases hcap1 : cap = 1
  · subst hcap1
    have hl1 : L.length = 1 := by omega
    rw [hl1]
    go_enter Try.func14, Try.ntmps14
    go_wp2_with fail
    -- STOP: a loop
    refine wp_loop_rounds 1 ?_
    rw [rounds_succ]
    go_wp2
    go_ret
    exact ⟨by rw [fault_ok h100 ⟨h0, Prod.ext r0 r1, fun j h1 h2 => by omega⟩]; rfl, (by repeat' (first | exact Below.refl _ _ | (refine Below.via ?_ (by assumption) ?_) | refine Below.setCell ?_ ?_ _ | refine Below.alloc ?_ ?_ _ | refine Below.drew ?_ | omega | (simp; omega) | (simp; done)))⟩
  · go_enter Try.func14, Try.ntmps14
    go_wp2_with fail
    -- STOP: a loop
    clear c0 c1
    go_loopw [23] (fun i wr => ∃ k : Nat, k ≤ L.length - 1 ∧ i = .int .i64 k ∧ okTo L (k + 1) ∧ SeenAt wr w.heap.size ((L.drop 1).take k) ∧ Below w.heap.size w wr) (fun i _ => L.length - (intOf i).toNat)
    case atStart => exact ⟨0, by omega, rfl, fun j h1 h2 => by omega, SeenAt.made w, (by repeat' (first | exact Below.refl _ _ | (refine Below.via ?_ (by assumption) ?_) | refine Below.setCell ?_ ?_ _ | refine Below.alloc ?_ ?_ _ | refine Below.drew ?_ | omega | (simp; omega) | (simp; done)))⟩
    case round =>
      obtain ⟨k, hk, rfl, hok, hS, hb⟩ := hrel
      have hq := hb.size
      have hSl := hS.lt
      by_cases hlt : k < L.length - 1
      · have cu := (hb.cell (p := ⟨b, o + 2 + k * 2, none⟩) hbl).trans (by rw [show o + 2 + k * 2 = o + (k + 1) * 2 by omega]; exact (hc (k + 1) (by omega)).1 : w.cell? ⟨b, o + 2 + k * 2, none⟩ = some (.int .i64 (fstD L (k + 1))))
        have cn := (hb.cell (p := ⟨b, o + 2 + k * 2 + 1, none⟩) hbl).trans (by rw [show o + 2 + k * 2 + 1 = o + (k + 1) * 2 + 1 by omega]; exact (hc (k + 1) (by omega)).2 : w.cell? ⟨b, o + 2 + k * 2 + 1, none⟩ = some (.int .i64 (sndD L (k + 1))))
        have hpj : InS (fstD L (k + 1), sndD L (k + 1)) := hin _ (mem_getD (0, 0) (by omega))
        have hst : (L.drop 1).take k ++ [(fstD L (k + 1), sndD L (k + 1))] = (L.drop 1).take (k + 1) := seen_take (by omega)
        have hmk := @fits_mk L k h0 r0
        have hbad := fun h => fault_fit h100 (j := k + 1) (by omega) (by omega) h
        have hfs := @fits_seen L k h0
        have hSl : ((L.drop 1).take k).length ≤ 100 := by simp; omega
        generalize (L.drop 1).take k = S at hS hst hmk hfs hSl
        by_cases a1 : fstD L (k + 1) < 0
        · clear hst hmk
          go_wp2_with fail
          refine wp_region_plan [0, 1, 3, 7, 15, 31, 15, 127, 255, 511, 1023, 2047, 4095, 8191, 16383, 32767, 32767, 131071, 262143, 524287, 1048575, 2097151, 2097151, 6291455, 16777215, 2097151, 35651583, 134217727, 268435455] (.seg 0 (.seg 1 (.seg 2 (.seg 3 (.seg 4 (.seg 5 (.seg 6 (.seg 7 (.seg 8 (.seg 9 (.seg 10 (.seg 11 (.seg 12 (.seg 13 (.seg 14 (.seg 15 (.seg 16 (.seg 17 (.seg 18 (.seg 19 (.seg 20 (.seg 21 (.seg 22 (.seg 23 (.seg 25 (.seg 26 (.eff 24 [25, 26] (.eff 27 [] (.seg 28 .last))))))))))))))))))))))))))))) rfl (by kernel_rfl) rfl ?_
          iterate 26 (refine plan_seg rfl (fun _ _ => ?_); go_wp2_with fail)
          refine plan_eff rfl (fun _ hQ => ?_)
          go_wp2_with fail
          refine hQ _ _ (pend_unwanted rfl rfl <| pend_unwanted rfl rfl <|  pend_nil) ?_; clear hQ
          refine plan_eff0 rfl (fun _ _ => ?_)
          go_wp2_with fail
          iterate 1 (refine plan_seg rfl (fun _ _ => ?_); go_wp2_with fail)
          refine plan_last ?_
          go_wp2_with fail
          go_ret
          exact ⟨by rw [hbad (fun h => by have := h.1; omega)]; rfl, (by repeat' (first | exact Below.refl _ _ | (refine Below.via ?_ (by assumption) ?_) | refine Below.setCell ?_ ?_ _ | refine Below.alloc ?_ ?_ _ | refine Below.drew ?_ | omega | (simp; omega) | (simp; done)))⟩
        · obtain ⟨t, ht⟩ : ∃ t : Nat, fstD L (k + 1) = t := ⟨(fstD L (k + 1)).toNat, by omega⟩
          have hff : fits L (k + 1) → (0 : Int) ≤ t ∧ (t : Int) ≤ k ∧ 0 ≤ sndD L (k + 1) ∧ sndD L (k + 1) ∉ namesP L t ∧ ((t : Int), sndD L (k + 1)) ∉ S := fun h => by
            have h1 := h.1; have h2 := h.2.1; have h3 := h.2.2.2.1; have h4 := hfs h
            rw [ht] at h1 h2 h3 h4
            exact ⟨h1, by omega, h.2.2.1, h3, h4⟩
          rw [ht] at cu hpj hst a1
          have hm2 : (t : Int) ≤ k → 0 ≤ sndD L (k + 1) → ((t : Int), sndD L (k + 1)) ∉ S → sndD L (k + 1) ∉ namesP L t → fits L (k + 1) := fun h2 h3 h4 h5 => hmk (by omega) (by omega) h3 (by rw [ht]; exact h4) (by rw [ht]; exact h5)
          clear hmk hfs ht a1
          generalize sndD L (k + 1) = nm at cn hpj hst hff hm2
          have d1 : decide ((t : Int) < 0) = false := by simp
          by_cases a2 : (k : Int) < t
          · clear hst hm2
            go_wp2_with fail
            refine wp_region_plan [0, 1, 3, 7, 15, 31, 15, 127, 255, 511, 1023, 2047, 4095, 8191, 16383, 32767, 32767, 131071, 262143, 524287, 1048575, 2097151, 2097151, 6291455, 16777215, 2097151, 35651583, 134217727, 268435455] (.seg 0 (.seg 1 (.seg 2 (.seg 3 (.seg 4 (.seg 5 (.seg 6 (.seg 7 (.seg 8 (.seg 9 (.seg 10 (.seg 11 (.seg 12 (.seg 13 (.seg 14 (.seg 15 (.seg 16 (.seg 17 (.seg 18 (.seg 19 (.seg 20 (.seg 21 (.seg 22 (.seg 23 (.seg 25 (.seg 26 (.eff 24 [25, 26] (.eff 27 [] (.seg 28 .last))))))))))))))))))))))))))))) rfl (by kernel_rfl) rfl ?_
            iterate 26 (refine plan_seg rfl (fun _ _ => ?_); go_wp2_with fail)
            refine plan_eff rfl (fun _ hQ => ?_)
            go_wp2_with fail
            refine hQ _ _ (pend_unwanted rfl rfl <| pend_unwanted rfl rfl <|  pend_nil) ?_; clear hQ
            refine plan_eff0 rfl (fun _ _ => ?_)
            go_wp2_with fail
            iterate 1 (refine plan_seg rfl (fun _ _ => ?_); go_wp2_with fail)
            refine plan_last ?_
            go_wp2_with fail
            go_ret
            exact ⟨by rw [hbad (fun h => by have := (hff h).2.1; omega)]; rfl, (by repeat' (first | exact Below.refl _ _ | (refine Below.via ?_ (by assumption) ?_) | refine Below.setCell ?_ ?_ _ | refine Below.alloc ?_ ?_ _ | refine Below.drew ?_ | omega | (simp; omega) | (simp; done)))⟩
          · have d2 : decide (k < t) = false := by simp; omega
            by_cases a3 : nm < 0
            · clear hst hm2
              go_wp2_with fail
              refine wp_region_plan [0, 1, 3, 7, 15, 31, 15, 127, 255, 511, 1023, 2047, 4095, 8191, 16383, 32767, 32767, 131071, 262143, 524287, 1048575, 2097151, 2097151, 6291455, 16777215, 2097151, 35651583, 134217727, 268435455] (.seg 0 (.seg 1 (.seg 2 (.seg 3 (.seg 4 (.seg 5 (.seg 6 (.seg 7 (.seg 8 (.seg 9 (.seg 10 (.seg 11 (.seg 12 (.seg 13 (.seg 14 (.seg 15 (.seg 16 (.seg 17 (.seg 18 (.seg 19 (.seg 20 (.seg 21 (.seg 22 (.seg 23 (.seg 25 (.seg 26 (.eff 24 [25, 26] (.eff 27 [] (.seg 28 .last))))))))))))))))))))))))))))) rfl (by kernel_rfl) rfl ?_
              iterate 26 (refine plan_seg rfl (fun _ _ => ?_); go_wp2_with fail)
              refine plan_eff rfl (fun _ hQ => ?_)
              go_wp2_with fail
              refine hQ _ _ (pend_unwanted rfl rfl <| pend_unwanted rfl rfl <|  pend_nil) ?_; clear hQ
              refine plan_eff0 rfl (fun _ _ => ?_)
              go_wp2_with fail
              iterate 1 (refine plan_seg rfl (fun _ _ => ?_); go_wp2_with fail)
              refine plan_last ?_
              go_wp2_with fail
              go_ret
              exact ⟨by rw [hbad (fun h => by have := (hff h).2.2.1; omega)]; rfl, (by repeat' (first | exact Below.refl _ _ | (refine Below.via ?_ (by assumption) ?_) | refine Below.setCell ?_ ?_ _ | refine Below.alloc ?_ ?_ _ | refine Below.drew ?_ | omega | (simp; omega) | (simp; done)))⟩
            · have d3 : decide (nm < 0) = false := by simp; omega
              have hm3 := Lib.hid hm2
              have hst3 := Lib.hid hst
              have hff3 := Lib.hid hff
              clear hst hm2 hff
              by_cases a4 : ((t : Int), nm) ∈ S
              · go_wp2_with (at_lookup; go_loud (refine wpList_look_seen rfl _ _ rfl rfl (hS.keep (by repeat' (first | exact Below.refl _ _ | (refine Below.via ?_ (by assumption) ?_) | refine Below.setCell ?_ ?_ _ | refine Below.alloc ?_ ?_ _ | refine Below.drew ?_ | omega | (simp; omega) | (simp; done)))) (p := ((t : Int), nm)) rfl hpj ?_))
                refine wp_region_plan [0, 1, 3, 7, 15, 31, 15, 127, 255, 511, 1023, 2047, 4095, 8191, 16383, 32767, 32767, 131071, 262143, 524287, 1048575, 2097151, 2097151, 6291455, 16777215, 2097151, 35651583, 134217727, 268435455] (.seg 0 (.seg 1 (.seg 2 (.seg 3 (.seg 4 (.seg 5 (.seg 6 (.seg 7 (.seg 8 (.seg 9 (.seg 10 (.seg 11 (.seg 12 (.seg 13 (.seg 14 (.seg 15 (.seg 16 (.seg 17 (.seg 18 (.seg 19 (.seg 20 (.seg 21 (.seg 22 (.seg 23 (.seg 25 (.seg 26 (.eff 24 [25, 26] (.eff 27 [] (.seg 28 .last))))))))))))))))))))))))))))) rfl (by kernel_rfl) rfl ?_
                iterate 26 (refine plan_seg rfl (fun _ _ => ?_); go_wp2_with (at_lookup; go_loud (refine wpList_look_seen rfl _ _ rfl rfl (hS.keep (by repeat' (first | exact Below.refl _ _ | (refine Below.via ?_ (by assumption) ?_) | refine Below.setCell ?_ ?_ _ | refine Below.alloc ?_ ?_ _ | refine Below.drew ?_ | omega | (simp; omega) | (simp; done)))) (p := ((t : Int), nm)) rfl hpj ?_)))
                refine plan_eff rfl (fun _ hQ => ?_)
                go_wp2_with (at_lookup; go_loud (refine wpList_look_seen rfl _ _ rfl rfl (hS.keep (by repeat' (first | exact Below.refl _ _ | (refine Below.via ?_ (by assumption) ?_) | refine Below.setCell ?_ ?_ _ | refine Below.alloc ?_ ?_ _ | refine Below.drew ?_ | omega | (simp; omega) | (simp; done)))) (p := ((t : Int), nm)) rfl hpj ?_))
                refine hQ _ _ (pend_unwanted rfl rfl <| pend_unwanted rfl rfl <|  pend_nil) ?_; clear hQ
                refine plan_eff0 rfl (fun _ _ => ?_)
                go_wp2_with (at_lookup; go_loud (refine wpList_look_seen rfl _ _ rfl rfl (hS.keep (by repeat' (first | exact Below.refl _ _ | (refine Below.via ?_ (by assumption) ?_) | refine Below.setCell ?_ ?_ _ | refine Below.alloc ?_ ?_ _ | refine Below.drew ?_ | omega | (simp; omega) | (simp; done)))) (p := ((t : Int), nm)) rfl hpj ?_))
                iterate 1 (refine plan_seg rfl (fun _ _ => ?_); go_wp2_with (at_lookup; go_loud (refine wpList_look_seen rfl _ _ rfl rfl (hS.keep (by repeat' (first | exact Below.refl _ _ | (refine Below.via ?_ (by assumption) ?_) | refine Below.setCell ?_ ?_ _ | refine Below.alloc ?_ ?_ _ | refine Below.drew ?_ | omega | (simp; omega) | (simp; done)))) (p := ((t : Int), nm)) rfl hpj ?_)))
                refine plan_last ?_
                go_wp2_with (at_lookup; go_loud (refine wpList_look_seen rfl _ _ rfl rfl (hS.keep (by repeat' (first | exact Below.refl _ _ | (refine Below.via ?_ (by assumption) ?_) | refine Below.setCell ?_ ?_ _ | refine Below.alloc ?_ ?_ _ | refine Below.drew ?_ | omega | (simp; omega) | (simp; done)))) (p := ((t : Int), nm)) rfl hpj ?_))
                go_ret
                exact ⟨by rw [hbad (fun h => (hff3.out h).2.2.2.2 a4)]; rfl, (by repeat' (first | exact Below.refl _ _ | (refine Below.via ?_ (by assumption) ?_) | refine Below.setCell ?_ ?_ _ | refine Below.alloc ?_ ?_ _ | refine Below.drew ?_ | omega | (simp; omega) | (simp; done)))⟩
              · by_cases a5 : nm ∈ namesP L t
                · go_wp2_with (at_lookup; go_loud (refine wpList_look_seen rfl _ _ rfl rfl (hS.keep (by repeat' (first | exact Below.refl _ _ | (refine Below.via ?_ (by assumption) ?_) | refine Below.setCell ?_ ?_ _ | refine Below.alloc ?_ ?_ _ | refine Below.drew ?_ | omega | (simp; omega) | (simp; done)))) (p := ((t : Int), nm)) rfl hpj ?_))
                  refine wp_region_plan [0, 1, 3, 7, 15, 31, 15, 127, 255, 511, 1023, 2047, 4095, 8191, 16383, 32767, 32767, 131071, 262143, 524287, 1048575, 2097151, 2097151, 6291455, 16777215, 2097151, 35651583, 134217727, 268435455] (.seg 0 (.seg 1 (.seg 2 (.seg 3 (.seg 4 (.seg 5 (.seg 6 (.seg 7 (.seg 8 (.seg 9 (.seg 10 (.seg 11 (.seg 12 (.seg 13 (.seg 14 (.seg 15 (.seg 16 (.seg 17 (.seg 18 (.seg 19 (.seg 20 (.seg 21 (.seg 22 (.seg 23 (.seg 25 (.seg 26 (.eff 24 [25, 26] (.eff 27 [] (.seg 28 .last))))))))))))))))))))))))))))) rfl (by kernel_rfl) rfl ?_
                  iterate 26 (refine plan_seg rfl (fun _ _ => ?_); go_wp2_with (at_lookup; go_loud (refine wpList_look_seen rfl _ _ rfl rfl (hS.keep (by repeat' (first | exact Below.refl _ _ | (refine Below.via ?_ (by assumption) ?_) | refine Below.setCell ?_ ?_ _ | refine Below.alloc ?_ ?_ _ | refine Below.drew ?_ | omega | (simp; omega) | (simp; done)))) (p := ((t : Int), nm)) rfl hpj ?_)))
                  refine plan_eff rfl (fun _ hQ => ?_)
                  go_wp2_with (at_lookup; go_loud (refine wpList_look_seen rfl _ _ rfl rfl (hS.keep (by repeat' (first | exact Below.refl _ _ | (refine Below.via ?_ (by assumption) ?_) | refine Below.setCell ?_ ?_ _ | refine Below.alloc ?_ ?_ _ | refine Below.drew ?_ | omega | (simp; omega) | (simp; done)))) (p := ((t : Int), nm)) rfl hpj ?_))
                  refine (names_any _ _ L t (hd.keep (by repeat' (first | exact Below.refl _ _ | (refine Below.via ?_ (by assumption) ?_) | refine Below.setCell ?_ ?_ _ | refine Below.alloc ?_ ?_ _ | refine Below.drew ?_ | omega | (simp; omega) | (simp; done))) (Nat.le_refl _)) (by omega) (hok.ahead (by omega)) (by omega)).mono ?_; rintro e w1 ⟨v1, rfl, ho1, hb1⟩; obtain ⟨hc1, hf1⟩ := bcell hb1
                  have hq1 := hb1.size; (try simp at hq1)
                  have hz1_0 : wr.heap.size < w1.heap.size := (by omega)
                  have k1_0_0 := hc1 (wr.heap.size) 0 (by first | omega | (simp; done) | (simp; omega)); (try simp [go_sem, *, -hc1, -hf1] at k1_0_0)
                  have k1_0_1 := hc1 (wr.heap.size) 1 (by first | omega | (simp; done) | (simp; omega)); (try simp [go_sem, *, -hc1, -hf1] at k1_0_1)
                  clear hc1 hf1
                  go_wp2_with (at_lookup; go_loud (refine wpList_look_seen rfl _ _ rfl rfl (hS.keep (by repeat' (first | exact Below.refl _ _ | (refine Below.via ?_ (by assumption) ?_) | refine Below.setCell ?_ ?_ _ | refine Below.alloc ?_ ?_ _ | refine Below.drew ?_ | omega | (simp; omega) | (simp; done)))) (p := ((t : Int), nm)) rfl hpj ?_))
                  refine hQ _ _ (pend_cons rfl rfl (by go_simp; rfl) <| pend_cons rfl rfl (by go_simp; rfl) <|  pend_nil) ?_; clear hQ
                  refine plan_eff0 rfl (fun _ _ => ?_)
                  go_wp2_with (at_lookup; go_loud (refine wpList_look_seen rfl _ _ rfl rfl (hS.keep (by repeat' (first | exact Below.refl _ _ | (refine Below.via ?_ (by assumption) ?_) | refine Below.setCell ?_ ?_ _ | refine Below.alloc ?_ ?_ _ | refine Below.drew ?_ | omega | (simp; omega) | (simp; done)))) (p := ((t : Int), nm)) rfl hpj ?_))
                  refine (containsI_any _ _ (namesP L t) nm ho1.lies).mono ?_; rintro e w2 ⟨rfl, hb2⟩; obtain ⟨hc2, hf2⟩ := bcell hb2
                  have hq2 := hb2.size; (try simp at hq2)
                  have hz2_0 : wr.heap.size < w2.heap.size := (by omega)
                  have k2_0_0 := hc2 (wr.heap.size) 0 (by first | omega | (simp; done) | (simp; omega)); (try simp [go_sem, *, -hc2, -hf2] at k2_0_0)
                  have k2_0_1 := hc2 (wr.heap.size) 1 (by first | omega | (simp; done) | (simp; omega)); (try simp [go_sem, *, -hc2, -hf2] at k2_0_1)
                  clear hc2 hf2
                  clear k1_0_0 k1_0_1
                  go_wp2_with (at_lookup; go_loud (refine wpList_look_seen rfl _ _ rfl rfl (hS.keep (by repeat' (first | exact Below.refl _ _ | (refine Below.via ?_ (by assumption) ?_) | refine Below.setCell ?_ ?_ _ | refine Below.alloc ?_ ?_ _ | refine Below.drew ?_ | omega | (simp; omega) | (simp; done)))) (p := ((t : Int), nm)) rfl hpj ?_))
                  iterate 1 (refine plan_seg rfl (fun _ _ => ?_); go_wp2_with (at_lookup; go_loud (refine wpList_look_seen rfl _ _ rfl rfl (hS.keep (by repeat' (first | exact Below.refl _ _ | (refine Below.via ?_ (by assumption) ?_) | refine Below.setCell ?_ ?_ _ | refine Below.alloc ?_ ?_ _ | refine Below.drew ?_ | omega | (simp; omega) | (simp; done)))) (p := ((t : Int), nm)) rfl hpj ?_)))
                  refine plan_last ?_
                  go_wp2_with (at_lookup; go_loud (refine wpList_look_seen rfl _ _ rfl rfl (hS.keep (by repeat' (first | exact Below.refl _ _ | (refine Below.via ?_ (by assumption) ?_) | refine Below.setCell ?_ ?_ _ | refine Below.alloc ?_ ?_ _ | refine Below.drew ?_ | omega | (simp; omega) | (simp; done)))) (p := ((t : Int), nm)) rfl hpj ?_))
                  go_ret
                  exact ⟨by rw [hbad (fun h => (hff3.out h).2.2.2.1 a5)]; rfl, (by repeat' (first | exact Below.refl _ _ | (refine Below.via ?_ (by assumption) ?_) | refine Below.setCell ?_ ?_ _ | refine Below.alloc ?_ ?_ _ | refine Below.drew ?_ | omega | (simp; omega) | (simp; done)))⟩
                · go_wp2_with (at_lookup; go_loud (refine wpList_look_seen rfl _ _ rfl rfl (hS.keep (by repeat' (first | exact Below.refl _ _ | (refine Below.via ?_ (by assumption) ?_) | refine Below.setCell ?_ ?_ _ | refine Below.alloc ?_ ?_ _ | refine Below.drew ?_ | omega | (simp; omega) | (simp; done)))) (p := ((t : Int), nm)) rfl hpj ?_))
                  refine wp_region_plan [0, 1, 3, 7, 15, 31, 15, 127, 255, 511, 1023, 2047, 4095, 8191, 16383, 32767, 32767, 131071, 262143, 524287, 1048575, 2097151, 2097151, 6291455, 16777215, 2097151, 35651583, 134217727, 268435455] (.seg 0 (.seg 1 (.seg 2 (.seg 3 (.seg 4 (.seg 5 (.seg 6 (.seg 7 (.seg 8 (.seg 9 (.seg 10 (.seg 11 (.seg 12 (.seg 13 (.seg 14 (.seg 15 (.seg 16 (.seg 17 (.seg 18 (.seg 19 (.seg 20 (.seg 21 (.seg 22 (.seg 23 (.seg 25 (.seg 26 (.eff 24 [25, 26] (.eff 27 [] (.seg 28 .last))))))))))))))))))))))))))))) rfl (by kernel_rfl) rfl ?_
                  iterate 26 (refine plan_seg rfl (fun _ _ => ?_); go_wp2_with (at_lookup; go_loud (refine wpList_look_seen rfl _ _ rfl rfl (hS.keep (by repeat' (first | exact Below.refl _ _ | (refine Below.via ?_ (by assumption) ?_) | refine Below.setCell ?_ ?_ _ | refine Below.alloc ?_ ?_ _ | refine Below.drew ?_ | omega | (simp; omega) | (simp; done)))) (p := ((t : Int), nm)) rfl hpj ?_)))
                  refine plan_eff rfl (fun _ hQ => ?_)
                  go_wp2_with (at_lookup; go_loud (refine wpList_look_seen rfl _ _ rfl rfl (hS.keep (by repeat' (first | exact Below.refl _ _ | (refine Below.via ?_ (by assumption) ?_) | refine Below.setCell ?_ ?_ _ | refine Below.alloc ?_ ?_ _ | refine Below.drew ?_ | omega | (simp; omega) | (simp; done)))) (p := ((t : Int), nm)) rfl hpj ?_))
                  refine (names_any _ _ L t (hd.keep (by repeat' (first | exact Below.refl _ _ | (refine Below.via ?_ (by assumption) ?_) | refine Below.setCell ?_ ?_ _ | refine Below.alloc ?_ ?_ _ | refine Below.drew ?_ | omega | (simp; omega) | (simp; done))) (Nat.le_refl _)) (by omega) (hok.ahead (by omega)) (by omega)).mono ?_; rintro e w1 ⟨v1, rfl, ho1, hb1⟩; obtain ⟨hc1, hf1⟩ := bcell hb1
                  have hq1 := hb1.size; (try simp at hq1)
                  have hz1_0 : wr.heap.size < w1.heap.size := (by omega)
                  have k1_0_0 := hc1 (wr.heap.size) 0 (by first | omega | (simp; done) | (simp; omega)); (try simp [go_sem, *, -hc1, -hf1] at k1_0_0)
                  have k1_0_1 := hc1 (wr.heap.size) 1 (by first | omega | (simp; done) | (simp; omega)); (try simp [go_sem, *, -hc1, -hf1] at k1_0_1)
                  clear hc1 hf1
                  go_wp2_with (at_lookup; go_loud (refine wpList_look_seen rfl _ _ rfl rfl (hS.keep (by repeat' (first | exact Below.refl _ _ | (refine Below.via ?_ (by assumption) ?_) | refine Below.setCell ?_ ?_ _ | refine Below.alloc ?_ ?_ _ | refine Below.drew ?_ | omega | (simp; omega) | (simp; done)))) (p := ((t : Int), nm)) rfl hpj ?_))
                  refine hQ _ _ (pend_cons rfl rfl (by go_simp; rfl) <| pend_cons rfl rfl (by go_simp; rfl) <|  pend_nil) ?_; clear hQ
                  refine plan_eff0 rfl (fun _ _ => ?_)
                  go_wp2_with (at_lookup; go_loud (refine wpList_look_seen rfl _ _ rfl rfl (hS.keep (by repeat' (first | exact Below.refl _ _ | (refine Below.via ?_ (by assumption) ?_) | refine Below.setCell ?_ ?_ _ | refine Below.alloc ?_ ?_ _ | refine Below.drew ?_ | omega | (simp; omega) | (simp; done)))) (p := ((t : Int), nm)) rfl hpj ?_))
                  refine (containsI_any _ _ (namesP L t) nm ho1.lies).mono ?_; rintro e w2 ⟨rfl, hb2⟩; obtain ⟨hc2, hf2⟩ := bcell hb2
                  have hq2 := hb2.size; (try simp at hq2)
                  have hz2_0 : wr.heap.size < w2.heap.size := (by omega)
                  have k2_0_0 := hc2 (wr.heap.size) 0 (by first | omega | (simp; done) | (simp; omega)); (try simp [go_sem, *, -hc2, -hf2] at k2_0_0)
                  have k2_0_1 := hc2 (wr.heap.size) 1 (by first | omega | (simp; done) | (simp; omega)); (try simp [go_sem, *, -hc2, -hf2] at k2_0_1)
                  clear hc2 hf2
                  clear k1_0_0 k1_0_1
                  go_wp2_with (at_lookup; go_loud (refine wpList_look_seen rfl _ _ rfl rfl (hS.keep (by repeat' (first | exact Below.refl _ _ | (refine Below.via ?_ (by assumption) ?_) | refine Below.setCell ?_ ?_ _ | refine Below.alloc ?_ ?_ _ | refine Below.drew ?_ | omega | (simp; omega) | (simp; done)))) (p := ((t : Int), nm)) rfl hpj ?_))
                  iterate 1 (refine plan_seg rfl (fun _ _ => ?_); go_wp2_with (at_lookup; go_loud (refine wpList_look_seen rfl _ _ rfl rfl (hS.keep (by repeat' (first | exact Below.refl _ _ | (refine Below.via ?_ (by assumption) ?_) | refine Below.setCell ?_ ?_ _ | refine Below.alloc ?_ ?_ _ | refine Below.drew ?_ | omega | (simp; omega) | (simp; done)))) (p := ((t : Int), nm)) rfl hpj ?_)))
                  refine plan_last ?_
                  go_wp2_with (at_mapUpdate; refine Stay.out ?_)
                  refine Stay.mk (wpList_put_seen rfl _ _ _ rfl rfl (hS.keep (by repeat' (first | exact Below.refl _ _ | (refine Below.via ?_ (by assumption) ?_) | refine Below.setCell ?_ ?_ _ | refine Below.alloc ?_ ?_ _ | refine Below.drew ?_ | omega | (simp; omega) | (simp; done)))) (p := ((t : Int), nm)) rfl rfl hpj (by omega) ?_); intro w3 hS3 hb3; obtain ⟨hc3, hf3⟩ := bcell hb3
                  have hq3 := hb3.size; (try simp at hq3)
                  clear hc3 hf3
                  clear k2_0_0 k2_0_1
                  go_wp2_with (at_lookup; go_loud (refine wpList_look_seen rfl _ _ rfl rfl (hS.keep (by repeat' (first | exact Below.refl _ _ | (refine Below.via ?_ (by assumption) ?_) | refine Below.setCell ?_ ?_ _ | refine Below.alloc ?_ ?_ _ | refine Below.drew ?_ | omega | (simp; omega) | (simp; done)))) (p := ((t : Int), nm)) rfl hpj ?_))
                  -- end of the round
                  go_roundw
                  case rel => exact ⟨k + 1, by omega, by go_num, hok.step (hm3.out (by omega) (by omega) a4 a5), hst3.out ▸ hS3, (by repeat' (first | exact Below.refl _ _ | (refine Below.via ?_ (by assumption) ?_) | refine Below.setCell ?_ ?_ _ | refine Below.alloc ?_ ?_ _ | refine Below.drew ?_ | omega | (simp; omega) | (simp; done)))⟩
                  case measure => simp [intOf]; omega
      · go_wp2_with fail
        go_ret
        exact ⟨by rw [fault_ok h100 ⟨h0, Prod.ext r0 r1, fun j h1 h2 => hok j h1 (by omega)⟩]; rfl, hb⟩
theorem check_any (w : World) (v : Value) (L : List Shp) (hd : Duos w v L) (hin : ∀ p ∈ L, InS p) :
    Calls Try.prog 14 #[v] w fun e w' => e = .returned (.int .i64 (faultP L)) ∧ Below w.heap.size w w' := by
  obtain ⟨A, cap, rfl, hcap, hmx, hA0, hA⟩ := hd.open
  simp only [maxLen] at hmx
  by_cases h100 : 100 < L.length
  · have hf : faultP L = 2 := by unfold faultP; rw [if_pos h100]
    rw [hf]
    clear hA hA0 hin hd hf
    go_enter Try.func14, Try.ntmps14
    go_wp2_with fail
    go_ret
    exact ⟨rfl, (by repeat' (first | exact Below.refl _ _ | (refine Below.via ?_ (by assumption) ?_) | refine Below.setCell ?_ ?_ _ | refine Below.alloc ?_ ?_ _ | refine Below.drew ?_ | omega | (simp; omega) | (simp; done)))⟩
  · by_cases h0 : 0 < L.length
    · obtain ⟨b, o, rfl, hbl, hc⟩ := hA h0
      by_cases hr : fstD L 0 = -1 ∧ sndD L 0 = -1
      · exact check_loop w b o cap L hcap hmx hbl hin h0 (by omega) hd hr.1 hr.2 hc
      · have hf : faultP L = 3 := fault_bad (by omega) fun h => hr ⟨congrArg Prod.fst h.2.1, congrArg Prod.snd h.2.1⟩
        have c0 := (hc 0 h0).1
        have c1 := (hc 0 h0).2
        simp only [Nat.zero_mul, Nat.add_zero] at c0 c1
        have hne : ¬ L = [] := by rintro rfl; simp at h0
        have hL : ¬ (100 : Int) < (L.length : Int) := by omega
        rw [hf]
        clear hA0 hA hin hd hf hc
        generalize fstD L 0 = x at *
        generalize sndD L 0 = y at *
        go_enter Try.func14, Try.ntmps14
        go_wp2_with fail
        -- STOP: path is used up at a test of t18
        all_goals
          go_ret
          exact ⟨rfl, (by repeat' (first | exact Below.refl _ _ | (refine Below.via ?_ (by assumption) ?_) | refine Below.setCell ?_ ?_ _ | refine Below.alloc ?_ ?_ _ | refine Below.drew ?_ | omega | (simp; omega) | (simp; done)))⟩
    · obtain rfl : L = [] := List.eq_nil_of_length_eq_zero (by omega)
      have hf : faultP [] = 3 := fault_bad (by simp) fun h => by simpa using h.1
      rw [hf]
      clear hA0 hA hin hd hf
      go_enter Try.func14, Try.ntmps14
      go_wp2_with fail
      go_ret
      exact ⟨rfl, (by repeat' (first | exact Below.refl _ _ | (refine Below.via ?_ (by assumption) ?_) | refine Below.setCell ?_ ?_ _ | refine Below.alloc ?_ ?_ _ | refine Below.drew ?_ | omega | (simp; omega) | (simp; done)))⟩
end Go.Proofs.Ytalippdhfkpbmaa
