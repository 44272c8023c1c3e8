/- ShapesFault: what it answers. -/
import Derived.Test.YtalippdhfkpbmaaShpF
import Derived.Test.YtalippdhfkpbmaaShpD
namespace Go.Proofs.Ytalippdhfkpbmaa
open Go.RowKit
set_option maxHeartbeats 2000000 in
theorem shapesFault_loop (w : World) (b o cap : Nat) (L : List Shp) (hcap : L.length ≤ cap) (hmx : cap ≤ 2 ^ 63 - 1) (hbl : b < w.heap.size) (h0 : 0 < L.length) (h100 : L.length ≤ 100)
    (hd : Duos w (.slice (some ⟨b, o, none⟩) L.length cap) L)
    (hc : ∀ i, i < L.length → w.cell? ⟨b, o + i * 2, none⟩ = some (.int .i64 (fstD L i)) ∧ w.cell? ⟨b, o + i * 2 + 1, none⟩ = some (.int .i64 (sndD L i))) :
    Calls Try.prog 13 #[.slice (some ⟨b, o, none⟩) L.length cap] w fun e w' => e = .returned (.int .i64 (faultP L)) ∧ Below w.heap.size w w' := by
  have hL : ¬ (100 : Int) < (L.length : Int) := by omega
  have hne : ¬ L = [] := by rintro rfl; simp at h0
  go_enter Try.func13, Try.ntmps13
  go_wp2_with fail
  -- STOP: a loop
  go_loopw [12] (fun i wr => ∃ k : Nat, k ≤ L.length ∧ i = .int .i64 k ∧ okTo L k ∧ (0 < k → fstD L 0 = -1 ∧ sndD L 0 = -1) ∧ Below w.heap.size w wr) (fun i _ => L.length - (intOf i).toNat)
  case atStart => exact ⟨0, by omega, rfl, fun j h1 h2 => by omega, by omega, Below.refl _ _⟩
  case round =>
    obtain ⟨k, hk, rfl, hok, hr, hb⟩ := hrel
    have hq := hb.size
    have hcs := hc
    by_cases hlt : k < L.length
    · have cu := (hb.cell (p := ⟨b, o + k * 2, none⟩) hbl).trans (hc k hlt).1
      have cn := (hb.cell (p := ⟨b, o + k * 2 + 1, none⟩) hbl).trans (hc k hlt).2
      by_cases hk0 : k = 0
      · subst hk0
        simp only [Nat.zero_mul, Nat.add_zero] at cu cn
        by_cases r0 : fstD L 0 = -1
        · by_cases r1 : sndD L 0 = -1
          · go_wp2_with fail
            -- end of the round
            go_roundw
            case rel => exact ⟨1, by omega, by go_num, fun j h1 h2 => by omega, fun _ => ⟨r0, r1⟩, (by repeat' (first | exact Below.refl _ _ | (refine Below.via ?_ (by assumption) ?_) | refine Below.setCell ?_ ?_ _ | refine Below.alloc ?_ ?_ _ | refine Below.drew ?_ | omega | (simp; omega) | (simp; done)))⟩
            case measure => simp [intOf]; omega
          · have hf : faultP L = 3 := fault_bad h100 fun h => r1 (congrArg Prod.snd h.2.1)
            go_wp2_with fail
            go_ret
            exact ⟨by rw [hf]; rfl, (by repeat' (first | exact Below.refl _ _ | (refine Below.via ?_ (by assumption) ?_) | refine Below.setCell ?_ ?_ _ | refine Below.alloc ?_ ?_ _ | refine Below.drew ?_ | omega | (simp; omega) | (simp; done)))⟩
        · have hf : faultP L = 3 := fault_bad h100 fun h => r0 (congrArg Prod.fst h.2.1)
          go_wp2_with fail
          go_ret
          exact ⟨by rw [hf]; rfl, (by repeat' (first | exact Below.refl _ _ | (refine Below.via ?_ (by assumption) ?_) | refine Below.setCell ?_ ?_ _ | refine Below.alloc ?_ ?_ _ | refine Below.drew ?_ | omega | (simp; omega) | (simp; done)))⟩
      · have hkn : decide ((k : Int) = 0) = false := by simp; omega
        have hbad := fun h => fault_fit h100 (j := k) (by omega) hlt h
        have hmk : 0 ≤ fstD L k → fstD L k < k → 0 ≤ sndD L k → sndD L k ∉ namesP L (fstD L k).toNat → (fstD L k, sndD L k) ∉ L.take k → fits L k := fun a b c d e => ⟨a, b, c, d, e⟩
        have hfs : fits L k → (fstD L k, sndD L k) ∉ L.take k := fun h => h.2.2.2.2
        have hf2 : fits L k → sndD L k ∉ namesP L (fstD L k).toNat := fun h => h.2.2.2.1
        have hf3 : fits L k → 0 ≤ fstD L k ∧ fstD L k < k ∧ 0 ≤ sndD L k := fun h => ⟨h.1, h.2.1, h.2.2.1⟩
        have hmk' := Lib.hid hmk
        have hfs' := Lib.hid hfs
        have hf2' := Lib.hid hf2
        have hf3' := Lib.hid hf3
        clear hmk hfs hf2 hf3
        by_cases a1 : 0 ≤ fstD L k ∧ fstD L k < k
        · obtain ⟨t, ht⟩ : ∃ t : Nat, fstD L k = t := ⟨(fstD L k).toNat, by omega⟩
          rw [ht] at cu a1
          have ht' := Lib.hid ht
          clear ht
          have d0 : decide ((t : Int) ≤ (k : Int) - 1) = true := by simp; omega
          by_cases a2 : 0 ≤ sndD L k
          · have d1 : decide (sndD L k < 0) = false := by simp; omega
            by_cases a3 : sndD L k ∈ namesP L t
            · have hf : faultP L = 3 := hbad fun h => (hf2'.out h) (by rw [ht'.out]; simpa using a3)
              go_wp2_with fail
              refine wp_region_plan [0, 1, 0, 4, 15, 31, 63, 127, 255, 511, 1023, 2047, 4095, 4095, 12287, 32767, 4095, 69631, 262143, 524287] (.seg 0 (.seg 1 (.seg 2 (.seg 3 (.eff 4 [] (.seg 5 (.seg 6 (.seg 7 (.seg 8 (.seg 9 (.seg 10 (.seg 11 (.seg 12 (.seg 13 (.seg 14 (.seg 16 (.seg 17 (.eff 15 [16, 17] (.eff 18 [] (.seg 19 .last)))))))))))))))))))) rfl (by kernel_rfl) rfl ?_
              iterate 4 (refine plan_seg rfl (fun _ _ => ?_); go_wp2_with fail)
              refine plan_eff0 rfl (fun _ _ => ?_)
              go_wp2_with fail
              refine (between_any _ _ _ _).mono ?_; rintro e w0 ⟨rfl, rfl⟩
              go_wp2_with fail
              iterate 12 (refine plan_seg rfl (fun _ _ => ?_); go_wp2_with fail)
              refine plan_eff rfl (fun _ hQ => ?_)
              go_wp2_with fail
              refine (shapeNames_any _ L (by omega) t _ (hd.keep (by repeat' (first | exact Below.refl _ _ | (refine Below.via ?_ (by assumption) ?_) | refine Below.setCell ?_ ?_ _ | refine Below.alloc ?_ ?_ _ | refine Below.drew ?_ | omega | (simp; omega) | (simp; done))) (Nat.le_refl _)) (by omega) (hok.ahead (by omega))).mono ?_; rintro e w1 ⟨v1, rfl, ho1, hb1⟩; obtain ⟨hc1, hf1⟩ := bcell hb1
              have hq1 := hb1.size; (try simp at hq1)
              have hz1_0 : wr.heap.size < w1.heap.size := (by omega)
              have k1_0_0 := hc1 (wr.heap.size) 0 (by first | omega | (simp; done) | (simp; omega)); (try simp [go_sem, *, -hc1, -hf1] at k1_0_0)
              have k1_0_1 := hc1 (wr.heap.size) 1 (by first | omega | (simp; done) | (simp; omega)); (try simp [go_sem, *, -hc1, -hf1] at k1_0_1)
              clear hc1 hf1
              go_wp2_with fail
              refine hQ _ _ (pend_cons rfl rfl (by go_simp; rfl) <| pend_cons rfl rfl (by go_simp; rfl) <|  pend_nil) ?_; clear hQ
              refine plan_eff0 rfl (fun _ _ => ?_)
              go_wp2_with fail
              refine (hasInt_any _ _ (namesP L t) _ ho1.lies).mono ?_; rintro e w2 ⟨rfl, hb2⟩; obtain ⟨hc2, hf2⟩ := bcell hb2
              have hq2 := hb2.size; (try simp at hq2)
              have hz2_0 : wr.heap.size < w2.heap.size := (by omega)
              have k2_0_0 := hc2 (wr.heap.size) 0 (by first | omega | (simp; done) | (simp; omega)); (try simp [go_sem, *, -hc2, -hf2] at k2_0_0)
              have k2_0_1 := hc2 (wr.heap.size) 1 (by first | omega | (simp; done) | (simp; omega)); (try simp [go_sem, *, -hc2, -hf2] at k2_0_1)
              clear hc2 hf2
              clear k1_0_0 k1_0_1
              go_wp2_with fail
              iterate 1 (refine plan_seg rfl (fun _ _ => ?_); go_wp2_with fail)
              refine plan_last ?_
              go_wp2_with fail
              go_ret
              exact ⟨by rw [hf]; rfl, (by repeat' (first | exact Below.refl _ _ | (refine Below.via ?_ (by assumption) ?_) | refine Below.setCell ?_ ?_ _ | refine Below.alloc ?_ ?_ _ | refine Below.drew ?_ | omega | (simp; omega) | (simp; done)))⟩
            · go_wp2_with fail
              refine wp_region_plan [0, 1, 0, 4, 15, 31, 63, 127, 255, 511, 1023, 2047, 4095, 4095, 12287, 32767, 4095, 69631, 262143, 524287] (.seg 0 (.seg 1 (.seg 2 (.seg 3 (.eff 4 [] (.seg 5 (.seg 6 (.seg 7 (.seg 8 (.seg 9 (.seg 10 (.seg 11 (.seg 12 (.seg 13 (.seg 14 (.seg 16 (.seg 17 (.eff 15 [16, 17] (.eff 18 [] (.seg 19 .last)))))))))))))))))))) rfl (by kernel_rfl) rfl ?_
              iterate 4 (refine plan_seg rfl (fun _ _ => ?_); go_wp2_with fail)
              refine plan_eff0 rfl (fun _ _ => ?_)
              go_wp2_with fail
              refine (between_any _ _ _ _).mono ?_; rintro e w0 ⟨rfl, rfl⟩
              go_wp2_with fail
              iterate 12 (refine plan_seg rfl (fun _ _ => ?_); go_wp2_with fail)
              refine plan_eff rfl (fun _ hQ => ?_)
              go_wp2_with fail
              refine (shapeNames_any _ L (by omega) t _ (hd.keep (by repeat' (first | exact Below.refl _ _ | (refine Below.via ?_ (by assumption) ?_) | refine Below.setCell ?_ ?_ _ | refine Below.alloc ?_ ?_ _ | refine Below.drew ?_ | omega | (simp; omega) | (simp; done))) (Nat.le_refl _)) (by omega) (hok.ahead (by omega))).mono ?_; rintro e w1 ⟨v1, rfl, ho1, hb1⟩; obtain ⟨hc1, hf1⟩ := bcell hb1
              have hq1 := hb1.size; (try simp at hq1)
              have hz1_0 : wr.heap.size < w1.heap.size := (by omega)
              have k1_0_0 := hc1 (wr.heap.size) 0 (by first | omega | (simp; done) | (simp; omega)); (try simp [go_sem, *, -hc1, -hf1] at k1_0_0)
              have k1_0_1 := hc1 (wr.heap.size) 1 (by first | omega | (simp; done) | (simp; omega)); (try simp [go_sem, *, -hc1, -hf1] at k1_0_1)
              clear hc1 hf1
              go_wp2_with fail
              refine hQ _ _ (pend_cons rfl rfl (by go_simp; rfl) <| pend_cons rfl rfl (by go_simp; rfl) <|  pend_nil) ?_; clear hQ
              refine plan_eff0 rfl (fun _ _ => ?_)
              go_wp2_with fail
              refine (hasInt_any _ _ (namesP L t) _ ho1.lies).mono ?_; rintro e w2 ⟨rfl, hb2⟩; obtain ⟨hc2, hf2⟩ := bcell hb2
              have hq2 := hb2.size; (try simp at hq2)
              have hz2_0 : wr.heap.size < w2.heap.size := (by omega)
              have k2_0_0 := hc2 (wr.heap.size) 0 (by first | omega | (simp; done) | (simp; omega)); (try simp [go_sem, *, -hc2, -hf2] at k2_0_0)
              have k2_0_1 := hc2 (wr.heap.size) 1 (by first | omega | (simp; done) | (simp; omega)); (try simp [go_sem, *, -hc2, -hf2] at k2_0_1)
              clear hc2 hf2
              clear k1_0_0 k1_0_1
              go_wp2_with fail
              iterate 1 (refine plan_seg rfl (fun _ _ => ?_); go_wp2_with fail)
              refine plan_last ?_
              go_wp2_with fail
              -- STOP: a loop
              clear hc hd
              go_loopw [51] (fun i wi => ∃ n : Nat, n ≤ k ∧ i = .int .i64 n ∧ ((t : Int), sndD L k) ∉ L.take n ∧ Below w.heap.size w wi ∧ wr.heap.size < wi.heap.size ∧ wi.cell? ⟨wr.heap.size, 0, none⟩ = some (.int .i64 t) ∧ wi.cell? ⟨wr.heap.size, 1, none⟩ = some (.int .i64 (sndD L k))) (fun i _ => k - (intOf i).toNat)
              case atStart => exact ⟨0, by omega, rfl, by simp, (by repeat' (first | exact Below.refl _ _ | (refine Below.via ?_ (by assumption) ?_) | refine Below.setCell ?_ ?_ _ | refine Below.alloc ?_ ?_ _ | refine Below.drew ?_ | omega | (simp; omega) | (simp; done))), by omega, by assumption, by assumption⟩
              case round =>
                obtain ⟨n, hn, rfl, hnot, hbi, hzi, e0, e1⟩ := hrel
                have hqi := hbi.size
                by_cases hnk : n < k
                · have ci := (hbi.cell (p := ⟨b, o + n * 2, none⟩) hbl).trans (hcs n (by omega)).1
                  have di := (hbi.cell (p := ⟨b, o + n * 2 + 1, none⟩) hbl).trans (hcs n (by omega)).2
                  by_cases ee : fstD L n = t ∧ sndD L n = sndD L k
                  · have hf : faultP L = 3 := hbad fun h => (hfs'.out h) (by
                      have hm : L.getD n (0, 0) ∈ L.take k := List.mem_take_iff_getElem.2 ⟨n, by omega, by simp [List.getD, List.getElem?_eq_getElem (show n < L.length by omega)]⟩
                      have hp : (fstD L k, sndD L k) = L.getD n (0, 0) := Prod.ext (ht'.out.trans ee.1.symm) ee.2.symm
                      rw [hp]; exact hm)
                    go_wp2_with fail
                    go_ret
                    exact ⟨by rw [hf]; rfl, (by repeat' (first | exact Below.refl _ _ | (refine Below.via ?_ (by assumption) ?_) | refine Below.setCell ?_ ?_ _ | refine Below.alloc ?_ ?_ _ | refine Below.drew ?_ | omega | (simp; omega) | (simp; done)))⟩
                  · have hx2 : L.getD n (0, 0) ≠ ((t : Int), sndD L k) := fun e => by
                      have e1 := congrArg Prod.fst e
                      have e2 := congrArg Prod.snd e
                      exact ee ⟨e1, e2⟩
                    go_wp2_with fail
                    -- end of the round
                    go_roundw
                    case rel => exact ⟨n + 1, by omega, by go_num, take_more (0, 0) (by omega) hnot hx2, (by repeat' (first | exact Below.refl _ _ | (refine Below.via ?_ (by assumption) ?_) | refine Below.setCell ?_ ?_ _ | refine Below.alloc ?_ ?_ _ | refine Below.drew ?_ | omega | (simp; omega) | (simp; done))), by simp; omega, by simp [go_sem, *], by simp [go_sem, *]⟩
                    case measure => simp [intOf]; omega
                · obtain rfl : n = k := by omega
                  go_wp2_with fail
                  -- end of the round
                  go_roundw
                  case rel =>
                    have htt := ht'.out
                    exact ⟨n + 1, by omega, by go_num, hok.step (hmk'.out (by omega) (by omega) (by omega) (by rw [htt]; simpa using a3) (by rw [htt]; exact hnot)), fun _ => hr (by omega), (by repeat' (first | exact Below.refl _ _ | (refine Below.via ?_ (by assumption) ?_) | refine Below.setCell ?_ ?_ _ | refine Below.alloc ?_ ?_ _ | refine Below.drew ?_ | omega | (simp; omega) | (simp; done)))⟩
                  case measure => simp [intOf]; omega
          · have hf : faultP L = 3 := hbad fun h => a2 (hf3'.out h).2.2
            go_wp2_with fail
            refine wp_region_plan [0, 1, 0, 4, 15, 31, 63, 127, 255, 511, 1023, 2047, 4095, 4095, 12287, 32767, 4095, 69631, 262143, 524287] (.seg 0 (.seg 1 (.seg 2 (.seg 3 (.eff 4 [] (.seg 5 (.seg 6 (.seg 7 (.seg 8 (.seg 9 (.seg 10 (.seg 11 (.seg 12 (.seg 13 (.seg 14 (.seg 16 (.seg 17 (.eff 15 [16, 17] (.eff 18 [] (.seg 19 .last)))))))))))))))))))) rfl (by kernel_rfl) rfl ?_
            iterate 4 (refine plan_seg rfl (fun _ _ => ?_); go_wp2_with fail)
            refine plan_eff0 rfl (fun _ _ => ?_)
            go_wp2_with fail
            refine (between_any _ _ _ _).mono ?_; rintro e w0 ⟨rfl, rfl⟩
            go_wp2_with fail
            iterate 12 (refine plan_seg rfl (fun _ _ => ?_); go_wp2_with fail)
            refine plan_eff rfl (fun _ hQ => ?_)
            go_wp2_with fail
            refine hQ _ _ (pend_unwanted rfl rfl <| pend_unwanted rfl rfl <|  pend_nil) ?_; clear hQ
            refine plan_eff0 rfl (fun _ _ => ?_)
            go_wp2_with fail
            iterate 1 (refine plan_seg rfl (fun _ _ => ?_); go_wp2_with fail)
            refine plan_last ?_
            go_wp2_with fail
            go_ret
            exact ⟨by rw [hf]; rfl, (by repeat' (first | exact Below.refl _ _ | (refine Below.via ?_ (by assumption) ?_) | refine Below.setCell ?_ ?_ _ | refine Below.alloc ?_ ?_ _ | refine Below.drew ?_ | omega | (simp; omega) | (simp; done)))⟩
        · have hf : faultP L = 3 := hbad fun h => a1 ⟨(hf3'.out h).1, (hf3'.out h).2.1⟩
          have d0 : (decide (0 ≤ fstD L k) && decide (fstD L k ≤ (k : Int) - 1)) = false := by simp; omega
          go_wp2_with fail
          refine wp_region_plan [0, 1, 0, 4, 15, 31, 63, 127, 255, 511, 1023, 2047, 4095, 4095, 12287, 32767, 4095, 69631, 262143, 524287] (.seg 0 (.seg 1 (.seg 2 (.seg 3 (.eff 4 [] (.seg 5 (.seg 6 (.seg 7 (.seg 8 (.seg 9 (.seg 10 (.seg 11 (.seg 12 (.seg 13 (.seg 14 (.seg 16 (.seg 17 (.eff 15 [16, 17] (.eff 18 [] (.seg 19 .last)))))))))))))))))))) rfl (by kernel_rfl) rfl ?_
          iterate 4 (refine plan_seg rfl (fun _ _ => ?_); go_wp2_with fail)
          refine plan_eff0 rfl (fun _ _ => ?_)
          go_wp2_with fail
          refine (between_any _ _ _ _).mono ?_; rintro e w0 ⟨rfl, rfl⟩
          go_wp2_with fail
          iterate 12 (refine plan_seg rfl (fun _ _ => ?_); go_wp2_with fail)
          refine plan_eff rfl (fun _ hQ => ?_)
          go_wp2_with fail
          refine hQ _ _ (pend_unwanted rfl rfl <| pend_unwanted rfl rfl <|  pend_nil) ?_; clear hQ
          refine plan_eff0 rfl (fun _ _ => ?_)
          go_wp2_with fail
          iterate 1 (refine plan_seg rfl (fun _ _ => ?_); go_wp2_with fail)
          refine plan_last ?_
          go_wp2_with fail
          go_ret
          exact ⟨by rw [hf]; rfl, (by repeat' (first | exact Below.refl _ _ | (refine Below.via ?_ (by assumption) ?_) | refine Below.setCell ?_ ?_ _ | refine Below.alloc ?_ ?_ _ | refine Below.drew ?_ | omega | (simp; omega) | (simp; done)))⟩
    · go_wp2_with fail
      go_ret
      exact ⟨by rw [fault_ok h100 ⟨h0, Prod.ext (hr (by omega)).1 (hr (by omega)).2, fun j h1 h2 => hok j h1 (by omega)⟩]; rfl, hb⟩
theorem shapesFault_any (w : World) (v : Value) (L : List Shp) (hd : Duos w v L) :
    Calls Try.prog 13 #[v] w fun e w' => e = .returned (.int .i64 (faultP L)) ∧ Below w.heap.size w w' := by
  obtain ⟨A, cap, rfl, hcap, hmx, hA0, hA⟩ := hd.open
  simp only [maxLen] at hmx
  by_cases h100 : 100 < L.length
  · have hf : faultP L = 2 := by unfold faultP; rw [if_pos h100]
    rw [hf]
    clear hA hA0 hd hf
    go_enter Try.func13, Try.ntmps13
    go_wp2_with fail
    go_ret
    exact ⟨rfl, (by repeat' (first | exact Below.refl _ _ | (refine Below.via ?_ (by assumption) ?_) | refine Below.setCell ?_ ?_ _ | refine Below.alloc ?_ ?_ _ | refine Below.drew ?_ | omega | (simp; omega) | (simp; done)))⟩
  · by_cases h0 : 0 < L.length
    · obtain ⟨b, o, rfl, hbl, hc⟩ := hA h0
      exact shapesFault_loop w b o cap L hcap hmx hbl h0 (by omega) hd hc
    · obtain rfl : L = [] := List.eq_nil_of_length_eq_zero (by omega)
      have hf : faultP [] = 3 := fault_bad (by simp) fun h => by simpa using h.1
      rw [hf]
      clear hA0 hA hd hf
      go_enter Try.func13, Try.ntmps13
      go_wp2
      refine wp_loop_rounds 1 ?_
      rw [rounds_succ]
      go_wp2
      go_ret
      exact ⟨rfl, (by repeat' (first | exact Below.refl _ _ | (refine Below.via ?_ (by assumption) ?_) | refine Below.setCell ?_ ?_ _ | refine Below.alloc ?_ ?_ _ | refine Below.drew ?_ | omega | (simp; omega) | (simp; done)))⟩
end Go.Proofs.Ytalippdhfkpbmaa
