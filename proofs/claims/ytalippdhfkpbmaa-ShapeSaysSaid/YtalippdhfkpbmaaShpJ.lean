/- ShapeWith: what it answers. -/
import Derived.Test.YtalippdhfkpbmaaShpG
namespace Go.Proofs.Ytalippdhfkpbmaa
open Go.RowKit
set_option maxHeartbeats 2000000 in
theorem shapeWith_any (w : World) (v : Value) (L : List Shp) (a n : Int) (hd : Duos w v L) :
    Calls Try.prog 12 #[v, .int .i64 a, .int .i64 n] w fun e w' => ∃ r, e = .returned (.tuple #[r, .int .i64 (withP L a n).2.1, .int .i64 (withP L a n).2.2]) ∧ Duos w' r (withP L a n).1 ∧ Below w.heap.size w w' := by
  obtain ⟨A, cap, rfl, hcap, hmx, -, hA⟩ := hd.open
  simp only [maxLen] at hmx
  by_cases hf : faultP L = 0
  · obtain ⟨h100, hok⟩ := faultP_ok hf
    by_cases h1 : a < 0 ∨ (L.length : Int) ≤ a
    · have hr : withP L a n = ([], 0, 1) := by unfold withP; rw [if_neg (by simp [hf]), if_pos (by omega)]
      rw [hr]
      have d0 : (decide (0 ≤ a) && decide (a ≤ (L.length : Int) - 1)) = false := by simp; omega
      go_enter Try.func12, Try.ntmps12
      go_wp2_with fail
      refine (shapesFault_any _ _ L hd).mono ?_; rintro e w1 ⟨rfl, hb1⟩; obtain ⟨hc1, hf1⟩ := bcell hb1
      have hq1 := hb1.size; (try simp at hq1)
      clear hc1 hf1
      go_wp2_with fail
      refine (between_any _ _ _ _).mono ?_; rintro e w0 ⟨rfl, rfl⟩
      go_wp2_with fail
      refine bodyPost_ret (v := .tuple #[.slice none 0 0, .int .i64 0, .int .i64 1]) (by simp [results, Try.results12, go_sem, *] <;> rfl) rfl ?_
      exact ⟨_, rfl, Duos.nil _, (by repeat' (first | exact Below.refl _ _ | (refine Below.via ?_ (by assumption) ?_) | refine Below.setCell ?_ ?_ _ | refine Below.alloc ?_ ?_ _ | refine Below.drew ?_ | omega | (simp; omega) | (simp; done)))⟩
    · obtain ⟨t, rfl⟩ : ∃ t : Nat, a = t := ⟨a.toNat, by omega⟩
      have d0 : decide ((t : Int) ≤ (L.length : Int) - 1) = true := by simp; omega
      by_cases h3 : n < 0
      · have hr : withP L t n = ([], 0, 1) := by unfold withP; rw [if_neg (by simp [hf]), if_pos (.inr (.inr h3))]
        rw [hr]
        go_enter Try.func12, Try.ntmps12
        go_wp2_with fail
        refine (shapesFault_any _ _ L hd).mono ?_; rintro e w1 ⟨rfl, hb1⟩; obtain ⟨hc1, hf1⟩ := bcell hb1
        have hq1 := hb1.size; (try simp at hq1)
        clear hc1 hf1
        go_wp2_with fail
        refine (between_any _ _ _ _).mono ?_; rintro e w0 ⟨rfl, rfl⟩
        go_wp2_with fail
        refine bodyPost_ret (v := .tuple #[.slice none 0 0, .int .i64 0, .int .i64 1]) (by simp [results, Try.results12, go_sem, *] <;> rfl) rfl ?_
        exact ⟨_, rfl, Duos.nil _, (by repeat' (first | exact Below.refl _ _ | (refine Below.via ?_ (by assumption) ?_) | refine Below.setCell ?_ ?_ _ | refine Below.alloc ?_ ?_ _ | refine Below.drew ?_ | omega | (simp; omega) | (simp; done)))⟩
      · have d3 : decide (n < 0) = false := by simp; omega
        by_cases h4 : n ∈ namesP L t
        · have hr : withP L t n = ([], 0, 6) := by unfold withP; rw [if_neg (by simp [hf]), if_neg (by omega), if_pos (by simpa using h4)]
          rw [hr]
          go_enter Try.func12, Try.ntmps12
          go_wp2_with fail
          refine (shapesFault_any _ _ L hd).mono ?_; rintro e w1 ⟨rfl, hb1⟩; obtain ⟨hc1, hf1⟩ := bcell hb1
          have hq1 := hb1.size; (try simp at hq1)
          clear hc1 hf1
          go_wp2_with fail
          refine (between_any _ _ _ _).mono ?_; rintro e w0 ⟨rfl, rfl⟩
          go_wp2_with fail
          refine (shapeNames_any _ L (by omega) t _ (hd.keep (by repeat' (first | exact Below.refl _ _ | (refine Below.via ?_ (by assumption) ?_) | refine Below.setCell ?_ ?_ _ | refine Below.alloc ?_ ?_ _ | refine Below.drew ?_ | omega | (simp; omega) | (simp; done))) (Nat.le_refl _)) (by omega) (hok.2.2.ahead (by omega))).mono ?_; rintro e w2 ⟨v2, rfl, ho2, hb2⟩; obtain ⟨hc2, hf2⟩ := bcell hb2
          have hq2 := hb2.size; (try simp at hq2)
          clear hc2 hf2
          go_wp2_with fail
          refine (hasInt_any _ _ (namesP L t) n ho2.lies).mono ?_; rintro e w3 ⟨rfl, hb3⟩; obtain ⟨hc3, hf3⟩ := bcell hb3
          have hq3 := hb3.size; (try simp at hq3)
          clear hc3 hf3
          go_wp2_with fail
          refine bodyPost_ret (v := .tuple #[.slice none 0 0, .int .i64 0, .int .i64 6]) (by simp [results, Try.results12, go_sem, *] <;> rfl) rfl ?_
          exact ⟨_, rfl, Duos.nil _, (by repeat' (first | exact Below.refl _ _ | (refine Below.via ?_ (by assumption) ?_) | refine Below.setCell ?_ ?_ _ | refine Below.alloc ?_ ?_ _ | refine Below.drew ?_ | omega | (simp; omega) | (simp; done)))⟩
        · obtain ⟨b, o, rfl, hbl, hc⟩ := hA (by omega)
          have hW : ∀ k, k < L.length → ((t : Int), n) ∉ L.take k → L.getD k (0, 0) = ((t : Int), n) → withP L t n = (L, (k : Int), 0) := fun k hk hn hx => by
            unfold withP; rw [if_neg (by simp [hf]), if_neg (by omega), if_neg (by simpa using h4), if_pos (hx ▸ mem_getD (0, 0) hk), idx_at (0, 0) hk hn hx]
          have hX : ((t : Int), n) ∉ L → withP L t n = if L.length = 100 then ([], 0, 2) else (L ++ [((t : Int), n)], (L.length : Int), 0) := fun hn => by
            unfold withP; rw [if_neg (by simp [hf]), if_neg (by omega), if_neg (by simpa using h4), if_neg hn]
          generalize withP L t n = R at *
          clear hA
          go_enter Try.func12, Try.ntmps12
          go_wp2_with fail
          refine (shapesFault_any _ _ L hd).mono ?_; rintro e w1 ⟨rfl, hb1⟩; obtain ⟨hc1, hf1⟩ := bcell hb1
          have hq1 := hb1.size; (try simp at hq1)
          clear hc1 hf1
          go_wp2_with fail
          refine (between_any _ _ _ _).mono ?_; rintro e w0 ⟨rfl, rfl⟩
          go_wp2_with fail
          refine (shapeNames_any _ L (by omega) t _ (hd.keep (by repeat' (first | exact Below.refl _ _ | (refine Below.via ?_ (by assumption) ?_) | refine Below.setCell ?_ ?_ _ | refine Below.alloc ?_ ?_ _ | refine Below.drew ?_ | omega | (simp; omega) | (simp; done))) (Nat.le_refl _)) (by omega) (hok.2.2.ahead (by omega))).mono ?_; rintro e w2 ⟨v2, rfl, ho2, hb2⟩; obtain ⟨hc2, hf2⟩ := bcell hb2
          have hq2 := hb2.size; (try simp at hq2)
          clear hc2 hf2
          go_wp2_with fail
          refine (hasInt_any _ _ (namesP L t) n ho2.lies).mono ?_; rintro e w3 ⟨rfl, hb3⟩; obtain ⟨hc3, hf3⟩ := bcell hb3
          have hq3 := hb3.size; (try simp at hq3)
          clear hc3 hf3
          go_wp2_with fail
          -- STOP: a loop
          go_loopw [39] (fun i wr => ∃ k : Nat, k ≤ L.length ∧ i = .int .i64 k ∧ ((t : Int), n) ∉ L.take k ∧ Below w.heap.size w wr) (fun i _ => L.length - (intOf i).toNat)
          case atStart => exact ⟨0, by omega, rfl, by simp, (by repeat' (first | exact Below.refl _ _ | (refine Below.via ?_ (by assumption) ?_) | refine Below.setCell ?_ ?_ _ | refine Below.alloc ?_ ?_ _ | refine Below.drew ?_ | omega | (simp; omega) | (simp; done)))⟩
          case round =>
            obtain ⟨k, hk, rfl, hn, hb⟩ := hrel
            have hq := hb.size
            by_cases hlt : k < L.length
            · have c0 := (hb.cell (p := ⟨b, o + k * 2, none⟩) hbl).trans (hc k hlt).1
              have c1 := (hb.cell (p := ⟨b, o + k * 2 + 1, none⟩) hbl).trans (hc k hlt).2
              clear hc hX
              have hy : Hid ((fstD L k, sndD L k) = L.getD k (0, 0)) := rfl
              generalize fstD L k = f at *
              generalize sndD L k = g at *
              by_cases hx : f = t ∧ g = n
              · obtain ⟨rfl, rfl⟩ := hx
                have hr := hW k hlt hn hy.out.symm
                go_wp2_with fail
                refine bodyPost_ret (v := .tuple #[.slice (some ⟨b, o, none⟩) L.length cap, .int .i64 k, .int .i64 0]) (by simp [results, Try.results12, go_sem, *] <;> rfl) rfl ?_
                rw [hr]
                exact ⟨_, rfl, hd.keep (B := w.heap.size) (by repeat' (first | exact Below.refl _ _ | (refine Below.via ?_ (by assumption) ?_) | refine Below.setCell ?_ ?_ _ | refine Below.alloc ?_ ?_ _ | refine Below.drew ?_ | omega | (simp; omega) | (simp; done))) (Nat.le_refl _), (by repeat' (first | exact Below.refl _ _ | (refine Below.via ?_ (by assumption) ?_) | refine Below.setCell ?_ ?_ _ | refine Below.alloc ?_ ?_ _ | refine Below.drew ?_ | omega | (simp; omega) | (simp; done)))⟩
              · have hx2 : (f, g) ≠ ((t : Int), n) := fun e => by
                  have e1 := congrArg Prod.fst e
                  have e2 := congrArg Prod.snd e
                  exact hx ⟨e1, e2⟩
                by_cases hx1 : f = t
                · have hx3 : ¬ g = n := fun e => hx ⟨hx1, e⟩
                  subst hx1
                  go_wp2_with fail
                  -- end of the round
                  go_roundw
                  case rel => exact ⟨k + 1, by omega, by go_num, take_more (0, 0) hlt hn (hy.out ▸ hx2), (by repeat' (first | exact Below.refl _ _ | (refine Below.via ?_ (by assumption) ?_) | refine Below.setCell ?_ ?_ _ | refine Below.alloc ?_ ?_ _ | refine Below.drew ?_ | omega | (simp; omega) | (simp; done)))⟩
                  case measure => simp [intOf]; omega
                · go_wp2_with fail
                  -- end of the round
                  go_roundw
                  case rel => exact ⟨k + 1, by omega, by go_num, take_more (0, 0) hlt hn (hy.out ▸ hx2), (by repeat' (first | exact Below.refl _ _ | (refine Below.via ?_ (by assumption) ?_) | refine Below.setCell ?_ ?_ _ | refine Below.alloc ?_ ?_ _ | refine Below.drew ?_ | omega | (simp; omega) | (simp; done)))⟩
                  case measure => simp [intOf]; omega
            · have hke : k = L.length := by omega
              subst hke
              rw [List.take_length] at hn
              have hr := hX hn
              clear hX hW hc
              by_cases h6 : L.length = 100
              · rw [if_pos h6] at hr
                have d4 : ((L.length : Int) == 100) = true := by simp; omega
                clear h6
                go_wp2_with fail
                refine bodyPost_ret (v := .tuple #[.slice none 0 0, .int .i64 0, .int .i64 2]) (by simp [results, Try.results12, go_sem, *] <;> rfl) rfl ?_
                rw [hr]
                exact ⟨_, rfl, Duos.nil _, (by repeat' (first | exact Below.refl _ _ | (refine Below.via ?_ (by assumption) ?_) | refine Below.setCell ?_ ?_ _ | refine Below.alloc ?_ ?_ _ | refine Below.drew ?_ | omega | (simp; omega) | (simp; done)))⟩
              · rw [if_neg h6] at hr
                have d4 : ((L.length : Int) == 100) = false := by simp; omega
                clear h6
                go_wp2_with (at_builtin; refine Stay.out ?_)
                refine Stay.mk (wpList_app_duos rfl _ _ rfl rfl (OwnDuos.lit0 _ (Nat.le_refl _)) rfl (hd.keep (B := w.heap.size) (by repeat' (first | exact Below.refl _ _ | (refine Below.via ?_ (by assumption) ?_) | refine Below.setCell ?_ ?_ _ | refine Below.alloc ?_ ?_ _ | refine Below.drew ?_ | omega | (simp; omega) | (simp; done))) (Nat.le_refl _)) (by first | (simp; done) | (simp; omega) | omega) (by first | (simp; done) | (simp; omega) | omega) ?_); intro v21 w21 ho21 hb21 hg21; obtain ⟨hc21, hf21⟩ := bcell hb21
                have hq21 := hb21.size; (try simp at hq21)
                clear hc21 hf21
                clear hg21
                go_wp2_with (at_builtin; refine Stay.out ?_)
                refine Stay.mk (wpList_app_duos rfl _ _ rfl rfl ((by first | exact ho21.alloc _)) rfl ((OwnDuos.lit _ (Nat.le_refl _) _ _).lies) (by first | (simp; done) | (simp; omega) | omega) (by first | (simp; done) | (simp; omega) | omega) ?_); intro v22 w22 ho22 hb22 hg22; obtain ⟨hc22, hf22⟩ := bcell hb22
                have hq22 := hb22.size; (try simp at hq22)
                clear hc22 hf22
                clear hg22
                go_wp2_with fail
                refine bodyPost_ret (v := .tuple #[v22, .int .i64 L.length, .int .i64 0]) (by simp [results, Try.results12, go_sem, *] <;> rfl) rfl ?_
                rw [hr]
                exact ⟨_, rfl, by simpa using ho22.lies, (by repeat' (first | exact Below.refl _ _ | (refine Below.via ?_ (by assumption) ?_) | refine Below.setCell ?_ ?_ _ | refine Below.alloc ?_ ?_ _ | refine Below.drew ?_ | omega | (simp; omega) | (simp; done)))⟩
  · have hr : withP L a n = ([], 0, faultP L) := by unfold withP; rw [if_pos hf]
    rw [hr]
    have hc := shapesFault_any w (.slice A L.length cap) L hd
    generalize faultP L = f at *
    go_enter Try.func12, Try.ntmps12
    go_wp2_with fail
    refine (hc).mono ?_; rintro e w1 ⟨rfl, hb1⟩; obtain ⟨hc1, hf1⟩ := bcell hb1
    have hq1 := hb1.size; (try simp at hq1)
    clear hc1 hf1
    go_wp2_with fail
    refine bodyPost_ret (v := .tuple #[.slice none 0 0, .int .i64 0, .int .i64 f]) (by simp [results, Try.results12, go_sem, *] <;> rfl) rfl ?_
    exact ⟨_, rfl, Duos.nil _, (by repeat' (first | exact Below.refl _ _ | (refine Below.via ?_ (by assumption) ?_) | refine Below.setCell ?_ ?_ _ | refine Below.alloc ?_ ?_ _ | refine Below.drew ?_ | omega | (simp; omega) | (simp; done)))⟩
end Go.Proofs.Ytalippdhfkpbmaa
