/- ShapeOne: two that get the same names, in the same order, have one shape: the law answers true. No condition. -/
import Derived.Test.YtalippdhfkpbmaaRows
import Derived.Test.YtalippdhfkpbmaaShpS
import Derived.Test.YtalippdhfkpbmaaShpT
import Derived.Test.YtalippdhfkpbmaaShpO
import Derived.OpenShut
import Derived.ChangeOld
import Derived.Lib.SmallJoins
namespace Go.Proofs.Ytalippdhfkpbmaa
open Go.RowKit
theorem Ints.take {w : World} {A : Option Addr} {n cap m : Nat} {L : List Int} (h : Ints w (.slice A n cap) L) (hm : m ≤ L.length) : Ints w (.slice A m cap) (L.take m) := by
  obtain ⟨A', cap', e, h1, h2, h3, hA⟩ := h.open
  simp only [Value.slice.injEq] at e
  obtain ⟨rfl, -, rfl⟩ := e
  have hl : (L.take m).length = m := by simp; omega
  refine ⟨A, cap, by rw [hl], by omega, h2, by rw [ints_len]; omega, fun e => ⟨by rw [hl]; have := (h3 e).1; omega, (h3 e).2⟩, fun h0 => ?_⟩
  obtain ⟨b, o, ha, hb, hc⟩ := hA (by omega)
  refine ⟨b, o, ha, hb, fun i x hx => ?_⟩
  have hi := (List.getElem?_eq_some_iff.1 hx).1
  rw [ints_len, hl] at hi
  rw [ints_get (by rw [hl]; exact hi)] at hx
  rw [hc i (by omega), ← hx]
  congr 2
  simp [List.getD, List.getElem?_take, hi]
theorem take_getD {N : List Int} {j m : Nat} (hj : j < m) : (N.take m).getD j 0 = N.getD j 0 := by simp [List.getD, List.getElem?_take, hj]
theorem take_next {N : List Int} {j : Nat} (hj : j < N.length) : N.take (j + 1) = N.take j ++ [N.getD j 0] := by
  rw [List.take_succ_eq_append_getElem hj]
  simp [List.getD, List.getElem?_eq_getElem hj]
theorem inI_small {n : Int} (h0 : 0 ≤ n) (h1 : n ≤ 100) : InI n := ⟨by omega, by omega⟩
set_option maxHeartbeats 2000000 in
theorem shapeOne_walk (v : Value) (L : List Shp) (u : Value) (N0 : List Int) (w : World) (hd : Duos w v L) (hin : ∀ p ∈ L, InS p) (hu : Ints w u N0) (hun : ∀ x ∈ N0, InI x) :
    Calls Try.prog 5 #[v, u] w fun e w' => e = .returned (.bool true) ∧ Below w.heap.size w w' := by
  have hC := fun (w : World) (h : Duos w v L) => check_any w v L h hin
  by_cases hf : faultP L = 0
  · obtain ⟨AL, cL, rfl⟩ := hd.form
    obtain ⟨AU, cU, rfl⟩ : ∃ A c, u = .slice A N0.length c := by
      obtain ⟨A, c, h, -⟩ := hu.open
      exact ⟨A, c, h⟩
    obtain ⟨_, _, e0, hcu, hmu, -, -⟩ := hu.open
    simp only [Value.slice.injEq, true_and] at e0
    obtain ⟨rfl, rfl⟩ := e0
    simp only [maxLen] at hmu
    obtain ⟨m, hm, hml⟩ : ∃ m : Nat, min (N0.length : Int) 6 = m ∧ m ≤ N0.length := ⟨min N0.length 6, by omega, by omega⟩
    have hN : Ints w (.slice AU m cU) (N0.take m) := hu.take hml
    have hNl : (N0.take m).length = m := by simp; omega
    have hNn : ∀ j, j < m → InI ((N0.take m).getD j 0) := fun j hj => hun _ (List.mem_of_mem_take (mem_getD 0 (by omega)))
    have hnm : ∀ x ∈ N0.take m, InI x := fun x hx => hun x (List.mem_of_mem_take hx)
    rw [hf] at hC
    have hml' : m ≤ cU := by omega
    have hl0 : 0 < L.length := (faultP_ok hf).2.1
    have hq0 : namesQ L 0 = [] := namesQ_in (s := 0) hf hl0
    generalize N0.take m = N at *
    clear hu hun
    subst hNl
    have hpl : ∀ M : List Shp, path M N 0 = 0 := fun _ => rfl
    by_cases h6 : 6 < N0.length
    · have hl6 : N.length = 6 := by omega
      have h6' : (6 : Int) < (N0.length : Int) := by omega
      have h6c : (6 : Int) ≤ (cU : Int) := by omega
      clear hm
      have Hl := Lib.hid hl6
      rw [hl6] at hN hNn
      clear hl6
      go_enter Try.func5, Try.ntmps5
      go_wp2_with fail
      refine (shapeLives_any _).mono ?_; rintro e w1 ⟨rfl, hb1⟩; obtain ⟨hc1, hf1⟩ := bcell hb1
      have hq1 := hb1.size; (try simp at hq1)
      clear hc1 hf1
      go_wp2_with fail
      refine (hC _ (hd.keep (B := w.heap.size) (by repeat' (first | exact Below.refl _ _ | (refine Below.via ?_ (by assumption) ?_) | refine Below.setCell ?_ ?_ _ | refine Below.alloc ?_ ?_ _ | refine Below.drew ?_ | omega | (simp; omega) | (simp; done))) (Nat.le_refl _))).mono ?_; rintro e w2 ⟨rfl, hb2⟩; obtain ⟨hc2, hf2⟩ := bcell hb2
      have hq2 := hb2.size; (try simp at hq2)
      clear hc2 hf2
      go_wp2_with fail
      -- STOP: a loop
      clear hC
      go_loopw [5, 6, 33] (fun a v i wr => ∃ (k : Nat) (M : List Shp), k ≤ 6 ∧ i = .int .i64 k ∧ a = .int .i64 (path M N k) ∧ Duos wr v M ∧ (∀ p ∈ M, InS p) ∧ faultP M = 0 ∧ namesQ M (path M N k) = N.take k ∧ Goes M N k ∧ 0 ≤ path M N k ∧ path M N k ≤ 100 ∧ Below w.heap.size w wr) (fun _ _ i _ => 6 - (intOf i).toNat)
      case atStart => exact ⟨0, L, by omega, rfl, rfl, hd.keep (B := w.heap.size) (by repeat' (first | exact Below.refl _ _ | (refine Below.via ?_ (by assumption) ?_) | refine Below.setCell ?_ ?_ _ | refine Below.alloc ?_ ?_ _ | refine Below.drew ?_ | omega | (simp; omega) | (simp; done))) (Nat.le_refl _), hin, hf, by rw [hpl, hq0]; rfl, fun j hj => absurd hj (Nat.not_lt_zero j), by rw [hpl]; omega, by rw [hpl]; omega, (by repeat' (first | exact Below.refl _ _ | (refine Below.via ?_ (by assumption) ?_) | refine Below.setCell ?_ ?_ _ | refine Below.alloc ?_ ?_ _ | refine Below.drew ?_ | omega | (simp; omega) | (simp; done)))⟩
      case round =>
        obtain ⟨k, M, hk, rfl, rfl, hdM, hinM, hfM, hnM, hgM, hp0, hp1, hb⟩ := hrel
        obtain ⟨AM, cM, rfl⟩ := hdM.form
        have hq := hb.size
        by_cases hlt : k < 6
        · obtain ⟨b, o, rfl, hbl, hc⟩ := hN.at (by rw [Hl.out]; omega)
          have c0 := (hb.cell (p := ⟨b, o + k, none⟩) hbl).trans (hc k (by rw [Hl.out]; omega))
          clear hc
          have hWk := fun (w : World) (v : Value) (h : Duos w v M) => with_any w v M (path M N k) (N.getD k 0) h hinM (hNn k (by omega))
          have hst : ∀ M' k', withP M (path M N k) (N.getD k 0) = (M', k', 0) → (∀ p ∈ M', InS p) ∧ faultP M' = 0 ∧ namesQ M' (path M' N (k + 1)) = N.take (k + 1) ∧ Goes M' N (k + 1) ∧ path M' N (k + 1) = k' ∧ 0 ≤ k' ∧ k' ≤ 100 := fun M' k' h => by
            obtain ⟨g1, g2, g3, g4, g5, g6, g7, g8, g9, g10⟩ := with_grows h
            obtain ⟨s1, s2⟩ := goes_step hgM h
            exact ⟨with_in h hinM (inI_small hp0 hp1) (hNn k (by omega)), g1, by rw [s2, g3, hnM, take_next (by rw [Hl.out]; omega)], s1, s2, g6, by omega⟩
          clear hgM hnM
          generalize withP M (path M N k) (N.getD k 0) = R at hWk hst
          obtain ⟨M', k', e⟩ := R
          simp only at hWk
          have Hst := Lib.hid (hst M' k')
          clear hst
          generalize path M N k = q at *
          generalize N.getD k 0 = x at *
          by_cases he : e = 0
          · subst he
            obtain ⟨r1, r2, r3, r4, r5, r6, r7⟩ := Hst.out rfl
            have R3 := Lib.hid r3
            have R5 := Lib.hid r5
            have R2 := Lib.hid r2
            clear r3 r5 r2
            go_wp2_with fail
            refine (hWk _ _ hdM).mono ?_; rintro e w21 ⟨v21, rfl, hd21, hb21⟩; obtain ⟨hc21, hf21⟩ := bcell hb21
            have hq21 := hb21.size; (try simp at hq21)
            clear hc21 hf21
            go_wp2_with fail
            -- end of the round
            go_roundw
            case rel => exact ⟨k + 1, M', by omega, by go_num, by rw [R5.out], hd21.keep (B := w21.heap.size) (by repeat' (first | exact Below.refl _ _ | (refine Below.via ?_ (by assumption) ?_) | refine Below.setCell ?_ ?_ _ | refine Below.alloc ?_ ?_ _ | refine Below.drew ?_ | omega | (simp; omega) | (simp; done))) (Nat.le_refl _), r1, R2.out, R3.out, r4, by rw [R5.out]; exact r6, by rw [R5.out]; exact r7, (by repeat' (first | exact Below.refl _ _ | (refine Below.via ?_ (by assumption) ?_) | refine Below.setCell ?_ ?_ _ | refine Below.alloc ?_ ?_ _ | refine Below.drew ?_ | omega | (simp; omega) | (simp; done)))⟩
            case measure => simp [intOf]; omega
          · have d0 : decide (e = 0) = false := by simp [he]
            go_wp2_with fail
            refine (hWk _ _ hdM).mono ?_; rintro e w21 ⟨v21, rfl, hd21, hb21⟩; obtain ⟨hc21, hf21⟩ := bcell hb21
            have hq21 := hb21.size; (try simp at hq21)
            clear hc21 hf21
            go_wp2_with fail
            go_ret
            exact ⟨rfl, (by repeat' (first | exact Below.refl _ _ | (refine Below.via ?_ (by assumption) ?_) | refine Below.setCell ?_ ?_ _ | refine Below.alloc ?_ ?_ _ | refine Below.drew ?_ | omega | (simp; omega) | (simp; done)))⟩
        · obtain rfl : k = 6 := by omega
          have hnM' : namesQ M (path M N (6)) = N := by rw [hnM, ← Hl.out, List.take_length]
          clear hnM hlt hk
          have hNm := fun (w : World) (v : Value) (h : Duos w v M) => names_all w v M (path M N (6)) h hinM
          rw [hnM'] at hNm
          clear hnM'
          have Hgo : Hid (Goes M N (6)) := Lib.hid hgM
          have Hp : Hid (path M N (6) = path M N (6)) := Lib.hid rfl
          have hfin : ∀ j, j = 6 → path M N j = path M N (6) := fun j e => by rw [e]
          have hrange : ∀ j, j ≤ 6 → InI (path M N j) := fun j hj => by
            rcases Nat.eq_zero_or_pos j with e | e
            · subst e; rw [hpl]; exact inI_small (Int.le_refl 0) (by omega)
            · obtain ⟨i, rfl⟩ : ∃ i, j = i + 1 := ⟨j - 1, by omega⟩
              obtain ⟨g1, g2, g3, g4, g5, g6, g7, g8, g9, g10⟩ := with_grows (hgM i (by omega))
              exact inI_small g6 (by omega)
          generalize hP : path M N (6) = P at hNm hp0 hp1 hfin
          have HP := Lib.hid hP
          clear hP hgM
          obtain ⟨wo, rfl⟩ : ∃ wo : World, wo = wr := ⟨_, rfl⟩
          go_wp2_with fail
          -- STOP: a loop
          go_loopw [12, 56] (fun a i wr2 => ∃ j : Nat, j ≤ 6 ∧ i = .int .i64 j ∧ a = .int .i64 (path M N j) ∧ Below wo.heap.size wo wr2) (fun _ i _ => 6 - (intOf i).toNat)
          case atStart => exact ⟨0, by omega, rfl, rfl, Below.refl _ _⟩
          case round =>
            obtain ⟨j, hj, rfl, rfl, hb2⟩ := hrel
            have hq2 := hb2.size
            by_cases hjt : j < 6
            · obtain ⟨b, o, rfl, hbl, hc⟩ := hN.at (by rw [Hl.out]; omega)
              have c0 := ((hb2.cell (p := ⟨b, o + j, none⟩) (by show b < _; omega)).trans ((hb.cell (p := ⟨b, o + j, none⟩) hbl).trans (hc j (by rw [Hl.out]; omega))))
              clear hc
              have hWj := fun (w : World) (v : Value) (h : Duos w v M) => with_any w v M (path M N j) (N.getD j 0) h hinM (hNn j (by omega))
              rw [Hgo.out j hjt] at hWj
              simp only at hWj
              have hml : M.length ≤ 1000 := by have := (faultP_ok hfM).1; omega
              generalize hQ2 : path M N (j + 1) = q2 at *
              have HQ2 := Lib.hid hQ2
              clear hQ2
              generalize path M N j = q at *
              generalize N.getD j 0 = x at *
              go_wp2_with fail
              refine (hWj _ _ (hdM.keep (B := wo.heap.size) (by repeat' (first | exact Below.refl _ _ | (refine Below.via ?_ (by assumption) ?_) | refine Below.setCell ?_ ?_ _ | refine Below.alloc ?_ ?_ _ | refine Below.drew ?_ | omega | (simp; omega) | (simp; done))) (Nat.le_refl _))).mono ?_; rintro e w31 ⟨v31, rfl, hd31, hb31 ⟩; obtain ⟨hc31, hf31⟩ := bcell hb31
              obtain ⟨A31, c31, rfl⟩ := hd31.form
              have hq31 := hb31.size; (try simp at hq31)
              clear hc31 hf31
              go_wp2_with fail
              -- end of the round
              go_roundw
              case rel => exact ⟨j + 1, by omega, by go_num, by rw [HQ2.out], (by repeat' (first | exact Below.refl _ _ | (refine Below.via ?_ (by assumption) ?_) | refine Below.setCell ?_ ?_ _ | refine Below.alloc ?_ ?_ _ | refine Below.drew ?_ | omega | (simp; omega) | (simp; done)))⟩
              case measure => simp [intOf]; omega
            · have hje : j = 6 := by omega
              rw [hfin j hje]
              go_wp2_with fail
              refine wp_region_plan [0, 0, 3, 7, 15, 15, 63, 15, 15, 271, 783, 1935, 4095, 8191, 16383] (.seg 0 (.seg 1 (.seg 2 (.seg 3 (.seg 4 (.seg 5 (.seg 7 (.seg 8 (.seg 9 (.seg 10 (.seg 11 (.eff 6 [9, 10, 11] (.eff 12 [] (.seg 13 (.seg 14 .last))))))))))))))) rfl (by kernel_rfl) rfl ?_
              iterate 11 (refine plan_seg rfl (fun _ _ => ?_); go_wp2_with fail)
              refine plan_eff rfl (fun _ hQ => ?_)
              go_wp2_with fail
              refine (hNm _ _ (hdM.keep (B := wo.heap.size) (by repeat' (first | exact Below.refl _ _ | (refine Below.via ?_ (by assumption) ?_) | refine Below.setCell ?_ ?_ _ | refine Below.alloc ?_ ?_ _ | refine Below.drew ?_ | omega | (simp; omega) | (simp; done))) (Nat.le_refl _))).mono ?_; rintro e w31 ⟨v31, rfl, ho31, hb31⟩; obtain ⟨hc31, hf31⟩ := bcell hb31
              have hq31 := hb31.size; (try simp at hq31)
              clear hc31 hf31
              go_wp2_with fail
              refine hQ _ _ (pend_cons rfl rfl (by go_simp; rfl) <| pend_cons rfl rfl (by go_simp; rfl) <| pend_cons rfl rfl (by go_simp; rfl) <|  pend_nil) ?_; clear hQ
              refine plan_eff0 rfl (fun _ _ => ?_)
              go_wp2_with fail
              refine (equalI_any _ _ _ N N ho31.lies (hN.keep (B := w.heap.size) (by repeat' (first | exact Below.refl _ _ | (refine Below.via ?_ (by assumption) ?_) | refine Below.setCell ?_ ?_ _ | refine Below.alloc ?_ ?_ _ | refine Below.drew ?_ | omega | (simp; omega) | (simp; done))) (Nat.le_refl _))).mono ?_; rintro e w32 ⟨rfl, hb32⟩; obtain ⟨hc32, hf32⟩ := bcell hb32
              have hq32 := hb32.size; (try simp at hq32)
              clear hc32 hf32
              go_wp2_with fail
              iterate 2 (refine plan_seg rfl (fun _ _ => ?_); go_wp2_with fail)
              refine plan_last ?_
              go_wp2_with fail
              go_ret
              exact ⟨by simp, (by repeat' (first | exact Below.refl _ _ | (refine Below.via ?_ (by assumption) ?_) | refine Below.setCell ?_ ?_ _ | refine Below.alloc ?_ ?_ _ | refine Below.drew ?_ | omega | (simp; omega) | (simp; done)))⟩
    · have hl6 : N.length = N0.length := by omega
      have h6' : ((6 : Int) < (N0.length : Int)) = False := by simp; omega
      have h6d : ¬ (6 : Int) < (N0.length : Int) := by omega
      clear hm
      have Hl := Lib.hid hl6
      rw [hl6] at hN hNn
      clear hl6
      go_enter Try.func5, Try.ntmps5
      go_wp2_with fail
      refine (shapeLives_any _).mono ?_; rintro e w1 ⟨rfl, hb1⟩; obtain ⟨hc1, hf1⟩ := bcell hb1
      have hq1 := hb1.size; (try simp at hq1)
      clear hc1 hf1
      go_wp2_with fail
      refine (hC _ (hd.keep (B := w.heap.size) (by repeat' (first | exact Below.refl _ _ | (refine Below.via ?_ (by assumption) ?_) | refine Below.setCell ?_ ?_ _ | refine Below.alloc ?_ ?_ _ | refine Below.drew ?_ | omega | (simp; omega) | (simp; done))) (Nat.le_refl _))).mono ?_; rintro e w2 ⟨rfl, hb2⟩; obtain ⟨hc2, hf2⟩ := bcell hb2
      have hq2 := hb2.size; (try simp at hq2)
      clear hc2 hf2
      go_wp2_with fail
      -- STOP: a loop
      clear hC
      go_loopw [5, 6, 33] (fun a v i wr => ∃ (k : Nat) (M : List Shp), k ≤ N0.length ∧ i = .int .i64 k ∧ a = .int .i64 (path M N k) ∧ Duos wr v M ∧ (∀ p ∈ M, InS p) ∧ faultP M = 0 ∧ namesQ M (path M N k) = N.take k ∧ Goes M N k ∧ 0 ≤ path M N k ∧ path M N k ≤ 100 ∧ Below w.heap.size w wr) (fun _ _ i _ => N0.length - (intOf i).toNat)
      case atStart => exact ⟨0, L, by omega, rfl, rfl, hd.keep (B := w.heap.size) (by repeat' (first | exact Below.refl _ _ | (refine Below.via ?_ (by assumption) ?_) | refine Below.setCell ?_ ?_ _ | refine Below.alloc ?_ ?_ _ | refine Below.drew ?_ | omega | (simp; omega) | (simp; done))) (Nat.le_refl _), hin, hf, by rw [hpl, hq0]; rfl, fun j hj => absurd hj (Nat.not_lt_zero j), by rw [hpl]; omega, by rw [hpl]; omega, (by repeat' (first | exact Below.refl _ _ | (refine Below.via ?_ (by assumption) ?_) | refine Below.setCell ?_ ?_ _ | refine Below.alloc ?_ ?_ _ | refine Below.drew ?_ | omega | (simp; omega) | (simp; done)))⟩
      case round =>
        obtain ⟨k, M, hk, rfl, rfl, hdM, hinM, hfM, hnM, hgM, hp0, hp1, hb⟩ := hrel
        obtain ⟨AM, cM, rfl⟩ := hdM.form
        have hq := hb.size
        by_cases hlt : k < N0.length
        · obtain ⟨b, o, rfl, hbl, hc⟩ := hN.at (by rw [Hl.out]; omega)
          have c0 := (hb.cell (p := ⟨b, o + k, none⟩) hbl).trans (hc k (by rw [Hl.out]; omega))
          clear hc
          have hWk := fun (w : World) (v : Value) (h : Duos w v M) => with_any w v M (path M N k) (N.getD k 0) h hinM (hNn k (by omega))
          have hst : ∀ M' k', withP M (path M N k) (N.getD k 0) = (M', k', 0) → (∀ p ∈ M', InS p) ∧ faultP M' = 0 ∧ namesQ M' (path M' N (k + 1)) = N.take (k + 1) ∧ Goes M' N (k + 1) ∧ path M' N (k + 1) = k' ∧ 0 ≤ k' ∧ k' ≤ 100 := fun M' k' h => by
            obtain ⟨g1, g2, g3, g4, g5, g6, g7, g8, g9, g10⟩ := with_grows h
            obtain ⟨s1, s2⟩ := goes_step hgM h
            exact ⟨with_in h hinM (inI_small hp0 hp1) (hNn k (by omega)), g1, by rw [s2, g3, hnM, take_next (by rw [Hl.out]; omega)], s1, s2, g6, by omega⟩
          clear hgM hnM
          generalize withP M (path M N k) (N.getD k 0) = R at hWk hst
          obtain ⟨M', k', e⟩ := R
          simp only at hWk
          have Hst := Lib.hid (hst M' k')
          clear hst
          generalize path M N k = q at *
          generalize N.getD k 0 = x at *
          by_cases he : e = 0
          · subst he
            obtain ⟨r1, r2, r3, r4, r5, r6, r7⟩ := Hst.out rfl
            have R3 := Lib.hid r3
            have R5 := Lib.hid r5
            have R2 := Lib.hid r2
            clear r3 r5 r2
            go_wp2_with fail
            refine (hWk _ _ hdM).mono ?_; rintro e w21 ⟨v21, rfl, hd21, hb21⟩; obtain ⟨hc21, hf21⟩ := bcell hb21
            have hq21 := hb21.size; (try simp at hq21)
            clear hc21 hf21
            go_wp2_with fail
            -- end of the round
            go_roundw
            case rel => exact ⟨k + 1, M', by omega, by go_num, by rw [R5.out], hd21.keep (B := w21.heap.size) (by repeat' (first | exact Below.refl _ _ | (refine Below.via ?_ (by assumption) ?_) | refine Below.setCell ?_ ?_ _ | refine Below.alloc ?_ ?_ _ | refine Below.drew ?_ | omega | (simp; omega) | (simp; done))) (Nat.le_refl _), r1, R2.out, R3.out, r4, by rw [R5.out]; exact r6, by rw [R5.out]; exact r7, (by repeat' (first | exact Below.refl _ _ | (refine Below.via ?_ (by assumption) ?_) | refine Below.setCell ?_ ?_ _ | refine Below.alloc ?_ ?_ _ | refine Below.drew ?_ | omega | (simp; omega) | (simp; done)))⟩
            case measure => simp [intOf]; omega
          · have d0 : decide (e = 0) = false := by simp [he]
            go_wp2_with fail
            refine (hWk _ _ hdM).mono ?_; rintro e w21 ⟨v21, rfl, hd21, hb21⟩; obtain ⟨hc21, hf21⟩ := bcell hb21
            have hq21 := hb21.size; (try simp at hq21)
            clear hc21 hf21
            go_wp2_with fail
            go_ret
            exact ⟨rfl, (by repeat' (first | exact Below.refl _ _ | (refine Below.via ?_ (by assumption) ?_) | refine Below.setCell ?_ ?_ _ | refine Below.alloc ?_ ?_ _ | refine Below.drew ?_ | omega | (simp; omega) | (simp; done)))⟩
        · obtain rfl : k = N0.length := by omega
          have hnM' : namesQ M (path M N (N0.length)) = N := by rw [hnM, ← Hl.out, List.take_length]
          clear hnM hlt hk
          have hNm := fun (w : World) (v : Value) (h : Duos w v M) => names_all w v M (path M N (N0.length)) h hinM
          rw [hnM'] at hNm
          clear hnM'
          have Hgo : Hid (Goes M N (N0.length)) := Lib.hid hgM
          have Hp : Hid (path M N (N0.length) = path M N (N0.length)) := Lib.hid rfl
          have hfin : ∀ j, j = N0.length → path M N j = path M N (N0.length) := fun j e => by rw [e]
          have hrange : ∀ j, j ≤ N0.length → InI (path M N j) := fun j hj => by
            rcases Nat.eq_zero_or_pos j with e | e
            · subst e; rw [hpl]; exact inI_small (Int.le_refl 0) (by omega)
            · obtain ⟨i, rfl⟩ : ∃ i, j = i + 1 := ⟨j - 1, by omega⟩
              obtain ⟨g1, g2, g3, g4, g5, g6, g7, g8, g9, g10⟩ := with_grows (hgM i (by omega))
              exact inI_small g6 (by omega)
          generalize hP : path M N (N0.length) = P at hNm hp0 hp1 hfin
          have HP := Lib.hid hP
          clear hP hgM
          obtain ⟨wo, rfl⟩ : ∃ wo : World, wo = wr := ⟨_, rfl⟩
          go_wp2_with fail
          -- STOP: a loop
          go_loopw [12, 56] (fun a i wr2 => ∃ j : Nat, j ≤ N0.length ∧ i = .int .i64 j ∧ a = .int .i64 (path M N j) ∧ Below wo.heap.size wo wr2) (fun _ i _ => N0.length - (intOf i).toNat)
          case atStart => exact ⟨0, by omega, rfl, rfl, Below.refl _ _⟩
          case round =>
            obtain ⟨j, hj, rfl, rfl, hb2⟩ := hrel
            have hq2 := hb2.size
            by_cases hjt : j < N0.length
            · obtain ⟨b, o, rfl, hbl, hc⟩ := hN.at (by rw [Hl.out]; omega)
              have c0 := ((hb2.cell (p := ⟨b, o + j, none⟩) (by show b < _; omega)).trans ((hb.cell (p := ⟨b, o + j, none⟩) hbl).trans (hc j (by rw [Hl.out]; omega))))
              clear hc
              have hWj := fun (w : World) (v : Value) (h : Duos w v M) => with_any w v M (path M N j) (N.getD j 0) h hinM (hNn j (by omega))
              rw [Hgo.out j hjt] at hWj
              simp only at hWj
              have hml : M.length ≤ 1000 := by have := (faultP_ok hfM).1; omega
              generalize hQ2 : path M N (j + 1) = q2 at *
              have HQ2 := Lib.hid hQ2
              clear hQ2
              generalize path M N j = q at *
              generalize N.getD j 0 = x at *
              go_wp2_with fail
              refine (hWj _ _ (hdM.keep (B := wo.heap.size) (by repeat' (first | exact Below.refl _ _ | (refine Below.via ?_ (by assumption) ?_) | refine Below.setCell ?_ ?_ _ | refine Below.alloc ?_ ?_ _ | refine Below.drew ?_ | omega | (simp; omega) | (simp; done))) (Nat.le_refl _))).mono ?_; rintro e w31 ⟨v31, rfl, hd31, hb31 ⟩; obtain ⟨hc31, hf31⟩ := bcell hb31
              obtain ⟨A31, c31, rfl⟩ := hd31.form
              have hq31 := hb31.size; (try simp at hq31)
              clear hc31 hf31
              go_wp2_with fail
              -- end of the round
              go_roundw
              case rel => exact ⟨j + 1, by omega, by go_num, by rw [HQ2.out], (by repeat' (first | exact Below.refl _ _ | (refine Below.via ?_ (by assumption) ?_) | refine Below.setCell ?_ ?_ _ | refine Below.alloc ?_ ?_ _ | refine Below.drew ?_ | omega | (simp; omega) | (simp; done)))⟩
              case measure => simp [intOf]; omega
            · have hje : j = N0.length := by omega
              rw [hfin j hje]
              go_wp2_with fail
              refine wp_region_plan [0, 0, 3, 7, 15, 15, 63, 15, 15, 271, 783, 1935, 4095, 8191, 16383] (.seg 0 (.seg 1 (.seg 2 (.seg 3 (.seg 4 (.seg 5 (.seg 7 (.seg 8 (.seg 9 (.seg 10 (.seg 11 (.eff 6 [9, 10, 11] (.eff 12 [] (.seg 13 (.seg 14 .last))))))))))))))) rfl (by kernel_rfl) rfl ?_
              iterate 11 (refine plan_seg rfl (fun _ _ => ?_); go_wp2_with fail)
              refine plan_eff rfl (fun _ hQ => ?_)
              go_wp2_with fail
              refine (hNm _ _ (hdM.keep (B := wo.heap.size) (by repeat' (first | exact Below.refl _ _ | (refine Below.via ?_ (by assumption) ?_) | refine Below.setCell ?_ ?_ _ | refine Below.alloc ?_ ?_ _ | refine Below.drew ?_ | omega | (simp; omega) | (simp; done))) (Nat.le_refl _))).mono ?_; rintro e w31 ⟨v31, rfl, ho31, hb31⟩; obtain ⟨hc31, hf31⟩ := bcell hb31
              have hq31 := hb31.size; (try simp at hq31)
              clear hc31 hf31
              go_wp2_with fail
              refine hQ _ _ (pend_cons rfl rfl (by go_simp; rfl) <| pend_cons rfl rfl (by go_simp; rfl) <| pend_cons rfl rfl (by go_simp; rfl) <|  pend_nil) ?_; clear hQ
              refine plan_eff0 rfl (fun _ _ => ?_)
              go_wp2_with fail
              refine (equalI_any _ _ _ N N ho31.lies (hN.keep (B := w.heap.size) (by repeat' (first | exact Below.refl _ _ | (refine Below.via ?_ (by assumption) ?_) | refine Below.setCell ?_ ?_ _ | refine Below.alloc ?_ ?_ _ | refine Below.drew ?_ | omega | (simp; omega) | (simp; done))) (Nat.le_refl _))).mono ?_; rintro e w32 ⟨rfl, hb32⟩; obtain ⟨hc32, hf32⟩ := bcell hb32
              have hq32 := hb32.size; (try simp at hq32)
              clear hc32 hf32
              go_wp2_with fail
              iterate 2 (refine plan_seg rfl (fun _ _ => ?_); go_wp2_with fail)
              refine plan_last ?_
              go_wp2_with fail
              go_ret
              exact ⟨by simp, (by repeat' (first | exact Below.refl _ _ | (refine Below.via ?_ (by assumption) ?_) | refine Below.setCell ?_ ?_ _ | refine Below.alloc ?_ ?_ _ | refine Below.drew ?_ | omega | (simp; omega) | (simp; done)))⟩
  · generalize faultP L = f at *
    have d0 : decide (f = 0) = false := by simp [hf]
    go_enter Try.func5, Try.ntmps5
    go_wp2_with fail
    refine (shapeLives_any _).mono ?_; rintro e w1 ⟨rfl, hb1⟩; obtain ⟨hc1, hf1⟩ := bcell hb1
    have hq1 := hb1.size; (try simp at hq1)
    clear hc1 hf1
    go_wp2_with fail
    refine (hC _ (hd.keep (B := w.heap.size) (by repeat' (first | exact Below.refl _ _ | (refine Below.via ?_ (by assumption) ?_) | refine Below.setCell ?_ ?_ _ | refine Below.alloc ?_ ?_ _ | refine Below.drew ?_ | omega | (simp; omega) | (simp; done))) (Nat.le_refl _))).mono ?_; rintro e w2 ⟨rfl, hb2⟩; obtain ⟨hc2, hf2⟩ := bcell hb2
    have hq2 := hb2.size; (try simp at hq2)
    clear hc2 hf2
    go_wp2_with fail
    refine (shapeLives_any _).mono ?_; rintro e w3 ⟨rfl, hb3⟩; obtain ⟨hc3, hf3⟩ := bcell hb3
    have hq3 := hb3.size; (try simp at hq3)
    clear hc3 hf3
    go_wp2_with fail
    go_ret
    exact ⟨rfl, (by repeat' (first | exact Below.refl _ _ | (refine Below.via ?_ (by assumption) ?_) | refine Below.setCell ?_ ?_ _ | refine Below.alloc ?_ ?_ _ | refine Below.drew ?_ | omega | (simp; omega) | (simp; done)))⟩
theorem shapeOne_row (w : World) (v : Value) (L : List Shp) (hd : Duos w v L) (hin : ∀ p ∈ L, InS p) (u : Value) (N0 : List Int) (hu : Ints w u N0) (hun : ∀ x ∈ N0, InI x) :
    Calls Try.prog 5 #[v, u] w fun e w' => e = .returned (.bool true) ∧ Below w.heap.size w w' := shapeOne_walk v L u N0 w hd hin hu hun
/-! ### THE ROW: ShapeOne (after the kit's skeleton) -/
namespace shapeOne
open Go.ChangeShapes Go.WideShapes Go.ChangeAt Go.RowKit Go.Joins
theorem own : ownKnob Try.prog.godebug = none := by kernel_rfl
theorem laidOut : laidOutB Try.prog = true := by kernel_rfl
set_option maxRecDepth 100000 in
theorem lifted (os : Os) (started : os.Started) (H : Type) (enc : TypeId × Value → H) :
    ReturnsInHanded {} Try.checked os 5 .any (Rows.shapeOneSpec.pre6 enc Try.prog Try.f5 Rows.shapeOneRow.domain false) (Rows.shapeOneSpec.post enc Try.prog Try.f5 false true false false) := by
  refine returnsInHanded_of_change (C := Try.checked) own started (by kernel_rfl) Try.func5
    (ChangeSpec.witness6 (enc := enc) (C := Try.checked) false ⟨#[], #[.slice none 0 0, .slice none 0 0], []⟩ 8 (by kernel_rfl) (by kernel_rfl) (by kernel_rfl) (by kernel_rfl)) ?_
  intro W base args ds gs before hval0 hW hcnd _
  have hval : ∀ (j : Nat) t v, Try.f5.params[j]? = some t → args[j]? = some v → Value.okWide Try.prog W .any base t v := hval0
  have hW' := hW
  obtain ⟨p, q, hA0, hV, rfl, hfz, hnd⟩ := hW
  have hA : DataW.TrodAll enc Try.prog W 0 (fun _ => true) true Try.f5.params.toList args.toList ds p := hA0
  rw [Try.params5] at hA hval
  obtain ⟨v0, vs0, d0, ds0, p0, q0, hargs, rfl, rfl, h0, r0⟩ := trodAll_cons hA
  obtain ⟨v1, vs1, d1, ds1, p1, q1, rfl, rfl, rfl, h1, r1⟩ := trodAll_cons r0
  obtain ⟨rfl, rfl, rfl⟩ := trodAll_nil r1
  obtain rfl : args = #[v0, v1] := by cases args; simp_all
  obtain ⟨rfl, rfl⟩ := trodVars_none hV
  have kk0 := h0
  have lt0 : ∀ x ∈ p0, x.block < W.heap.size := by obtain ⟨m, hm⟩ := kk0; exact DataW.trod_lt m _ _ _ hm
  have kk1 := h1
  have lt1 : ∀ x ∈ p1, x.block < W.heap.size := by obtain ⟨m, hm⟩ := kk1; exact DataW.trod_lt m _ _ _ hm
  obtain ⟨L0, hd0, hi0⟩ := open_duos (hval 0 22 v0 rfl rfl) h0
  obtain ⟨L1, hd1, hi1⟩ := open_intsL (hval 1 30 v1 rfl rfl) h1
  clear hA0 hval0
  refine (shapeOne_row W v0 L0 hd0 hi0 v1 L1 hd1 hi1).mono fun e W' ⟨he, bel⟩ => ?_
  subst he
  exact ⟨_, rfl, _, _, _, [], _, [], hW', trodAll_mk1 (shut_bool Try.underlying4 _), (trodAll_cons_mk (Below.trod laidOut (by kernel_rfl) (of_decide_eq_true (by kernel_rfl)) kk0 bel lt0) (trodAll_cons_mk (Below.trod laidOut (by kernel_rfl) (of_decide_eq_true (by kernel_rfl)) kk1 bel lt1) trodAll_mk0)), rfl, bel.frame _, fun h => by cases h⟩
theorem over : Rows.shapeOneRow.holds Try.pinned (OpenSpec.ofChange Rows.shapeOneSpec) :=
  OpenClaim.holds_of_wide 5 Try.f5 rfl rfl rfl rfl rfl rfl rfl ⟨rfl, rfl, rfl, rfl, rfl⟩ rfl rfl rfl rfl rfl (by kernel_rfl) Try.func5 (by kernel_rfl)
    (of_decide_eq_true (by kernel_rfl)) (by unfold Func.isWrapper; first | (rw [if_pos (by decide +kernel)]; kernel_rfl) | (rw [if_neg (by decide +kernel)]; exact ⟨rfl, rfl⟩))
    (fun os started H enc _ => lifted os started H enc)
end shapeOne
theorem shapeOne_holds : Rows.ShapeOneSaid := shapeOne.over
#print axioms shapeOne_holds
end Go.Proofs.Ytalippdhfkpbmaa
