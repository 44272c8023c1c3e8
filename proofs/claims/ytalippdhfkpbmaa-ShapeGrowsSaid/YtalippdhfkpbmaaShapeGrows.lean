/- ShapeGrows: with a name more a shape has its names, and that one behind; all others stay; asked again it is the same one: the law answers true. No condition. -/
import Derived.Test.YtalippdhfkpbmaaRows
import Derived.Test.YtalippdhfkpbmaaShpS
import Derived.Test.YtalippdhfkpbmaaShpO
import Derived.OpenShut
import Derived.ChangeOld
import Derived.Lib.SmallJoins
namespace Go.Proofs.Ytalippdhfkpbmaa
open Go.RowKit
set_option maxHeartbeats 2000000 in
theorem shapeGrows_walk (v : Value) (L : List Shp) (a n o : Int) (w : World) (hd : Duos w v L) (hin : ∀ p ∈ L, InS p) (ha : InI a) (hn : InI n) :
    Calls Try.prog 4 #[v, .int .i64 a, .int .i64 n, .int .i64 o] w fun e w' => e = .returned (.bool true) ∧ Below w.heap.size w w' := by
  have hf : ∃ A cap, v = .slice A L.length cap := by
    obtain ⟨A, cap, h, -⟩ := hd.open
    exact ⟨A, cap, h⟩
  obtain ⟨A, cap, rfl⟩ := hf
  have hW := fun (w : World) (h : Duos w (.slice A L.length cap) L) => with_any w _ L a n h hin hn
  generalize hR : withP L a n = R at *
  obtain ⟨M, k, e⟩ := R
  simp only at hW
  have hinM := with_in hR hin ha hn
  by_cases he : e = 0
  · subst he
    obtain ⟨g1, g2, g3, g4, g5, g6, g7, g8, -, -⟩ := with_grows hR
    have hW2 := fun (w : World) (v : Value) (h : Duos w v M) => with_any w v M a n h hinM hn
    have hC := fun (w : World) (v : Value) (h : Duos w v M) => check_any w v M h hinM
    have hN1 := fun (w : World) (v : Value) (h : Duos w v M) => names_all w v M k h hinM
    have hN2 := fun (w : World) (h : Duos w (.slice A L.length cap) L) => names_all w _ L a h hin
    have hN3 := fun (w : World) (v : Value) (h : Duos w v M) => names_all w v M o h hinM
    have hN4 := fun (w : World) (h : Duos w (.slice A L.length cap) L) => names_all w _ L o h hin
    have hql : (namesQ L a).length ≤ 1000000 := by
      obtain ⟨hf, h0, h1, -⟩ := with_ok hR
      obtain ⟨s, rfl⟩ : ∃ s : Nat, a = s := ⟨a.toNat, by omega⟩
      rw [namesQ_in hf (by omega)]
      exact Nat.le_trans (namesP_len ((faultP_ok hf).2.2.2.ahead (by omega))) (by have := (faultP_ok hf).1; omega)
    rw [g2] at hW2
    rw [g1] at hC
    rw [g3] at hN1
    simp only at hW2
    have g4' := g4 o
    clear hR g1 g2 g3 g4 g5 g6 g7
    generalize namesQ L a = Q at *
    by_cases o1 : o < 0
    · go_enter Try.func4, Try.ntmps4
      go_wp2_with fail
      refine (hW _ hd).mono ?_; rintro e w1 ⟨v1, rfl, hd1, hb1⟩; obtain ⟨hc1, hf1⟩ := bcell hb1
      have hq1 := hb1.size; (try simp at hq1)
      clear hc1 hf1
      go_wp2_with fail
      refine (shapeLives_any _).mono ?_; rintro e w2 ⟨rfl, hb2⟩; obtain ⟨hc2, hf2⟩ := bcell hb2
      have hq2 := hb2.size; (try simp at hq2)
      clear hc2 hf2
      go_wp2_with fail
      refine (hW2 _ _ (hd1.keep (B := w1.heap.size) (by repeat' (first | exact Below.refl _ _ | (refine Below.via ?_ (by assumption) ?_) | refine Below.setCell ?_ ?_ _ | refine Below.alloc ?_ ?_ _ | refine Below.drew ?_ | omega | (simp; omega) | (simp; done))) (Nat.le_refl _))).mono ?_; rintro e w3 ⟨v3, rfl, hd3, hb3⟩; obtain ⟨hc3, hf3⟩ := bcell hb3
      have hq3 := hb3.size; (try simp at hq3)
      clear hc3 hf3
      go_wp2_with fail
      refine (equalD_any _ _ _ M M hd3 (hd1.keep (B := w1.heap.size) (by repeat' (first | exact Below.refl _ _ | (refine Below.via ?_ (by assumption) ?_) | refine Below.setCell ?_ ?_ _ | refine Below.alloc ?_ ?_ _ | refine Below.drew ?_ | omega | (simp; omega) | (simp; done))) (Nat.le_refl _))).mono ?_; rintro e w4 ⟨rfl, hb4⟩; obtain ⟨hc4, hf4⟩ := bcell hb4
      have hq4 := hb4.size; (try simp at hq4)
      clear hc4 hf4
      go_wp2_with fail
      refine (hC _ _ (hd1.keep (B := w1.heap.size) (by repeat' (first | exact Below.refl _ _ | (refine Below.via ?_ (by assumption) ?_) | refine Below.setCell ?_ ?_ _ | refine Below.alloc ?_ ?_ _ | refine Below.drew ?_ | omega | (simp; omega) | (simp; done))) (Nat.le_refl _))).mono ?_; rintro e w5 ⟨rfl, hb5⟩; obtain ⟨hc5, hf5⟩ := bcell hb5
      have hq5 := hb5.size; (try simp at hq5)
      clear hc5 hf5
      go_wp2_with fail
      refine (hN1 _ _ (hd1.keep (B := w1.heap.size) (by repeat' (first | exact Below.refl _ _ | (refine Below.via ?_ (by assumption) ?_) | refine Below.setCell ?_ ?_ _ | refine Below.alloc ?_ ?_ _ | refine Below.drew ?_ | omega | (simp; omega) | (simp; done))) (Nat.le_refl _))).mono ?_; rintro e w6 ⟨v6, rfl, ho6, hb6⟩; obtain ⟨hc6, hf6⟩ := bcell hb6
      have hq6 := hb6.size; (try simp at hq6)
      clear hc6 hf6
      go_wp2_with fail
      refine (hN2 _ (hd.keep (B := w.heap.size) (by repeat' (first | exact Below.refl _ _ | (refine Below.via ?_ (by assumption) ?_) | refine Below.setCell ?_ ?_ _ | refine Below.alloc ?_ ?_ _ | refine Below.drew ?_ | omega | (simp; omega) | (simp; done))) (Nat.le_refl _))).mono ?_; rintro e w7 ⟨v7, rfl, ho7, hb7⟩; obtain ⟨hc7, hf7⟩ := bcell hb7
      have hq7 := hb7.size; (try simp at hq7)
      clear hc7 hf7
      go_wp2_with (at_builtin; refine Stay.out ?_)
      refine Stay.mk (wpList_app_ints rfl _ _ rfl rfl (ho7.alloc _) rfl ((OwnInts.lit _ (Nat.le_refl _) _).lies) (by first | (simp; done) | (simp; omega) | omega) (by first | (simp; done) | (simp; omega) | omega) ?_); intro v8 w8 ho8 hb8 hg8; obtain ⟨hc8, hf8⟩ := bcell hb8
      have hq8 := hb8.size; (try simp at hq8)
      clear hc8 hf8
      clear hg8
      go_wp2_with fail
      refine (equalI_any _ _ _ (Q ++ [n]) (Q ++ [n]) (ho6.lies.keep (B := w6.heap.size) (by repeat' (first | exact Below.refl _ _ | (refine Below.via ?_ (by assumption) ?_) | refine Below.setCell ?_ ?_ _ | refine Below.alloc ?_ ?_ _ | refine Below.drew ?_ | omega | (simp; omega) | (simp; done))) (Nat.le_refl _)) ho8.lies).mono ?_; rintro e w9 ⟨rfl, hb9⟩; obtain ⟨hc9, hf9⟩ := bcell hb9
      have hq9 := hb9.size; (try simp at hq9)
      clear hc9 hf9
      go_wp2_with fail
      go_ret
      exact ⟨by simp, (by repeat' (first | exact Below.refl _ _ | (refine Below.via ?_ (by assumption) ?_) | refine Below.setCell ?_ ?_ _ | refine Below.alloc ?_ ?_ _ | refine Below.drew ?_ | omega | (simp; omega) | (simp; done)))⟩
    · have d1 : decide (o < 0) = false := by simp; omega
      by_cases o2 : (L.length : Int) ≤ o
      · go_enter Try.func4, Try.ntmps4
        go_wp2_with fail
        refine (hW _ hd).mono ?_; rintro e w1 ⟨v1, rfl, hd1, hb1⟩; obtain ⟨hc1, hf1⟩ := bcell hb1
        have hq1 := hb1.size; (try simp at hq1)
        clear hc1 hf1
        go_wp2_with fail
        refine (shapeLives_any _).mono ?_; rintro e w2 ⟨rfl, hb2⟩; obtain ⟨hc2, hf2⟩ := bcell hb2
        have hq2 := hb2.size; (try simp at hq2)
        clear hc2 hf2
        go_wp2_with fail
        refine (hW2 _ _ (hd1.keep (B := w1.heap.size) (by repeat' (first | exact Below.refl _ _ | (refine Below.via ?_ (by assumption) ?_) | refine Below.setCell ?_ ?_ _ | refine Below.alloc ?_ ?_ _ | refine Below.drew ?_ | omega | (simp; omega) | (simp; done))) (Nat.le_refl _))).mono ?_; rintro e w3 ⟨v3, rfl, hd3, hb3⟩; obtain ⟨hc3, hf3⟩ := bcell hb3
        have hq3 := hb3.size; (try simp at hq3)
        clear hc3 hf3
        go_wp2_with fail
        refine (equalD_any _ _ _ M M hd3 (hd1.keep (B := w1.heap.size) (by repeat' (first | exact Below.refl _ _ | (refine Below.via ?_ (by assumption) ?_) | refine Below.setCell ?_ ?_ _ | refine Below.alloc ?_ ?_ _ | refine Below.drew ?_ | omega | (simp; omega) | (simp; done))) (Nat.le_refl _))).mono ?_; rintro e w4 ⟨rfl, hb4⟩; obtain ⟨hc4, hf4⟩ := bcell hb4
        have hq4 := hb4.size; (try simp at hq4)
        clear hc4 hf4
        go_wp2_with fail
        refine (hC _ _ (hd1.keep (B := w1.heap.size) (by repeat' (first | exact Below.refl _ _ | (refine Below.via ?_ (by assumption) ?_) | refine Below.setCell ?_ ?_ _ | refine Below.alloc ?_ ?_ _ | refine Below.drew ?_ | omega | (simp; omega) | (simp; done))) (Nat.le_refl _))).mono ?_; rintro e w5 ⟨rfl, hb5⟩; obtain ⟨hc5, hf5⟩ := bcell hb5
        have hq5 := hb5.size; (try simp at hq5)
        clear hc5 hf5
        go_wp2_with fail
        refine (hN1 _ _ (hd1.keep (B := w1.heap.size) (by repeat' (first | exact Below.refl _ _ | (refine Below.via ?_ (by assumption) ?_) | refine Below.setCell ?_ ?_ _ | refine Below.alloc ?_ ?_ _ | refine Below.drew ?_ | omega | (simp; omega) | (simp; done))) (Nat.le_refl _))).mono ?_; rintro e w6 ⟨v6, rfl, ho6, hb6⟩; obtain ⟨hc6, hf6⟩ := bcell hb6
        have hq6 := hb6.size; (try simp at hq6)
        clear hc6 hf6
        go_wp2_with fail
        refine (hN2 _ (hd.keep (B := w.heap.size) (by repeat' (first | exact Below.refl _ _ | (refine Below.via ?_ (by assumption) ?_) | refine Below.setCell ?_ ?_ _ | refine Below.alloc ?_ ?_ _ | refine Below.drew ?_ | omega | (simp; omega) | (simp; done))) (Nat.le_refl _))).mono ?_; rintro e w7 ⟨v7, rfl, ho7, hb7⟩; obtain ⟨hc7, hf7⟩ := bcell hb7
        have hq7 := hb7.size; (try simp at hq7)
        clear hc7 hf7
        go_wp2_with (at_builtin; refine Stay.out ?_)
        refine Stay.mk (wpList_app_ints rfl _ _ rfl rfl (ho7.alloc _) rfl ((OwnInts.lit _ (Nat.le_refl _) _).lies) (by first | (simp; done) | (simp; omega) | omega) (by first | (simp; done) | (simp; omega) | omega) ?_); intro v8 w8 ho8 hb8 hg8; obtain ⟨hc8, hf8⟩ := bcell hb8
        have hq8 := hb8.size; (try simp at hq8)
        clear hc8 hf8
        clear hg8
        go_wp2_with fail
        refine (equalI_any _ _ _ (Q ++ [n]) (Q ++ [n]) (ho6.lies.keep (B := w6.heap.size) (by repeat' (first | exact Below.refl _ _ | (refine Below.via ?_ (by assumption) ?_) | refine Below.setCell ?_ ?_ _ | refine Below.alloc ?_ ?_ _ | refine Below.drew ?_ | omega | (simp; omega) | (simp; done))) (Nat.le_refl _)) ho8.lies).mono ?_; rintro e w9 ⟨rfl, hb9⟩; obtain ⟨hc9, hf9⟩ := bcell hb9
        have hq9 := hb9.size; (try simp at hq9)
        clear hc9 hf9
        go_wp2_with fail
        go_ret
        exact ⟨by simp, (by repeat' (first | exact Below.refl _ _ | (refine Below.via ?_ (by assumption) ?_) | refine Below.setCell ?_ ?_ _ | refine Below.alloc ?_ ?_ _ | refine Below.drew ?_ | omega | (simp; omega) | (simp; done)))⟩
      · have d2 : decide ((L.length : Int) ≤ o) = false := by simp; omega
        have g5' := g4' (by omega) (by omega)
        rw [g5'] at hN3
        clear g4' g5'
        generalize namesQ L o = O at *
        go_enter Try.func4, Try.ntmps4
        go_wp2_with fail
        refine (hW _ hd).mono ?_; rintro e w1 ⟨v1, rfl, hd1, hb1⟩; obtain ⟨hc1, hf1⟩ := bcell hb1
        have hq1 := hb1.size; (try simp at hq1)
        clear hc1 hf1
        go_wp2_with fail
        refine (shapeLives_any _).mono ?_; rintro e w2 ⟨rfl, hb2⟩; obtain ⟨hc2, hf2⟩ := bcell hb2
        have hq2 := hb2.size; (try simp at hq2)
        clear hc2 hf2
        go_wp2_with fail
        refine (hW2 _ _ (hd1.keep (B := w1.heap.size) (by repeat' (first | exact Below.refl _ _ | (refine Below.via ?_ (by assumption) ?_) | refine Below.setCell ?_ ?_ _ | refine Below.alloc ?_ ?_ _ | refine Below.drew ?_ | omega | (simp; omega) | (simp; done))) (Nat.le_refl _))).mono ?_; rintro e w3 ⟨v3, rfl, hd3, hb3⟩; obtain ⟨hc3, hf3⟩ := bcell hb3
        have hq3 := hb3.size; (try simp at hq3)
        clear hc3 hf3
        go_wp2_with fail
        refine (equalD_any _ _ _ M M hd3 (hd1.keep (B := w1.heap.size) (by repeat' (first | exact Below.refl _ _ | (refine Below.via ?_ (by assumption) ?_) | refine Below.setCell ?_ ?_ _ | refine Below.alloc ?_ ?_ _ | refine Below.drew ?_ | omega | (simp; omega) | (simp; done))) (Nat.le_refl _))).mono ?_; rintro e w4 ⟨rfl, hb4⟩; obtain ⟨hc4, hf4⟩ := bcell hb4
        have hq4 := hb4.size; (try simp at hq4)
        clear hc4 hf4
        go_wp2_with fail
        refine (hC _ _ (hd1.keep (B := w1.heap.size) (by repeat' (first | exact Below.refl _ _ | (refine Below.via ?_ (by assumption) ?_) | refine Below.setCell ?_ ?_ _ | refine Below.alloc ?_ ?_ _ | refine Below.drew ?_ | omega | (simp; omega) | (simp; done))) (Nat.le_refl _))).mono ?_; rintro e w5 ⟨rfl, hb5⟩; obtain ⟨hc5, hf5⟩ := bcell hb5
        have hq5 := hb5.size; (try simp at hq5)
        clear hc5 hf5
        go_wp2_with fail
        refine (hN1 _ _ (hd1.keep (B := w1.heap.size) (by repeat' (first | exact Below.refl _ _ | (refine Below.via ?_ (by assumption) ?_) | refine Below.setCell ?_ ?_ _ | refine Below.alloc ?_ ?_ _ | refine Below.drew ?_ | omega | (simp; omega) | (simp; done))) (Nat.le_refl _))).mono ?_; rintro e w6 ⟨v6, rfl, ho6, hb6⟩; obtain ⟨hc6, hf6⟩ := bcell hb6
        have hq6 := hb6.size; (try simp at hq6)
        clear hc6 hf6
        go_wp2_with fail
        refine (hN2 _ (hd.keep (B := w.heap.size) (by repeat' (first | exact Below.refl _ _ | (refine Below.via ?_ (by assumption) ?_) | refine Below.setCell ?_ ?_ _ | refine Below.alloc ?_ ?_ _ | refine Below.drew ?_ | omega | (simp; omega) | (simp; done))) (Nat.le_refl _))).mono ?_; rintro e w7 ⟨v7, rfl, ho7, hb7⟩; obtain ⟨hc7, hf7⟩ := bcell hb7
        have hq7 := hb7.size; (try simp at hq7)
        clear hc7 hf7
        go_wp2_with (at_builtin; refine Stay.out ?_)
        refine Stay.mk (wpList_app_ints rfl _ _ rfl rfl (ho7.alloc _) rfl ((OwnInts.lit _ (Nat.le_refl _) _).lies) (by first | (simp; done) | (simp; omega) | omega) (by first | (simp; done) | (simp; omega) | omega) ?_); intro v8 w8 ho8 hb8 hg8; obtain ⟨hc8, hf8⟩ := bcell hb8
        have hq8 := hb8.size; (try simp at hq8)
        clear hc8 hf8
        clear hg8
        go_wp2_with fail
        refine (equalI_any _ _ _ (Q ++ [n]) (Q ++ [n]) (ho6.lies.keep (B := w6.heap.size) (by repeat' (first | exact Below.refl _ _ | (refine Below.via ?_ (by assumption) ?_) | refine Below.setCell ?_ ?_ _ | refine Below.alloc ?_ ?_ _ | refine Below.drew ?_ | omega | (simp; omega) | (simp; done))) (Nat.le_refl _)) ho8.lies).mono ?_; rintro e w9 ⟨rfl, hb9⟩; obtain ⟨hc9, hf9⟩ := bcell hb9
        have hq9 := hb9.size; (try simp at hq9)
        clear hc9 hf9
        go_wp2_with fail
        refine (hN3 _ _ (hd1.keep (B := w1.heap.size) (by repeat' (first | exact Below.refl _ _ | (refine Below.via ?_ (by assumption) ?_) | refine Below.setCell ?_ ?_ _ | refine Below.alloc ?_ ?_ _ | refine Below.drew ?_ | omega | (simp; omega) | (simp; done))) (Nat.le_refl _))).mono ?_; rintro e w10 ⟨v10, rfl, ho10, hb10⟩; obtain ⟨hc10, hf10⟩ := bcell hb10
        have hq10 := hb10.size; (try simp at hq10)
        clear hc10 hf10
        go_wp2_with fail
        refine (hN4 _ (hd.keep (B := w.heap.size) (by repeat' (first | exact Below.refl _ _ | (refine Below.via ?_ (by assumption) ?_) | refine Below.setCell ?_ ?_ _ | refine Below.alloc ?_ ?_ _ | refine Below.drew ?_ | omega | (simp; omega) | (simp; done))) (Nat.le_refl _))).mono ?_; rintro e w11 ⟨v11, rfl, ho11, hb11⟩; obtain ⟨hc11, hf11⟩ := bcell hb11
        have hq11 := hb11.size; (try simp at hq11)
        clear hc11 hf11
        go_wp2_with fail
        refine (equalI_any _ _ _ O O (ho10.lies.keep (B := w10.heap.size) (by repeat' (first | exact Below.refl _ _ | (refine Below.via ?_ (by assumption) ?_) | refine Below.setCell ?_ ?_ _ | refine Below.alloc ?_ ?_ _ | refine Below.drew ?_ | omega | (simp; omega) | (simp; done))) (Nat.le_refl _)) ho11.lies).mono ?_; rintro e w12 ⟨rfl, hb12⟩; obtain ⟨hc12, hf12⟩ := bcell hb12
        have hq12 := hb12.size; (try simp at hq12)
        clear hc12 hf12
        go_wp2_with fail
        go_ret
        exact ⟨by simp, (by repeat' (first | exact Below.refl _ _ | (refine Below.via ?_ (by assumption) ?_) | refine Below.setCell ?_ ?_ _ | refine Below.alloc ?_ ?_ _ | refine Below.drew ?_ | omega | (simp; omega) | (simp; done)))⟩
  · obtain rfl : M = [] := with_bad hR he
    have d0 : decide (e = 0) = false := by simp [he]
    clear hR
    go_enter Try.func4, Try.ntmps4
    go_wp2_with fail
    refine (hW _ hd).mono ?_; rintro e w1 ⟨v1, rfl, hd1, hb1 ⟩; obtain ⟨hc1, hf1⟩ := bcell hb1
    obtain ⟨A1, c1, rfl⟩ := hd1.form
    have hq1 := hb1.size; (try simp at hq1)
    clear hc1 hf1
    go_wp2_with fail
    refine (shapeLives_any _).mono ?_; rintro e w2 ⟨rfl, hb2⟩; obtain ⟨hc2, hf2⟩ := bcell hb2
    have hq2 := hb2.size; (try simp at hq2)
    clear hc2 hf2
    go_wp2_with fail
    refine (shapeLives_any _).mono ?_; rintro e w3 ⟨rfl, hb3⟩; obtain ⟨hc3, hf3⟩ := bcell hb3
    have hq3 := hb3.size; (try simp at hq3)
    clear hc3 hf3
    go_wp2_with fail
    go_ret
    exact ⟨by simp, (by repeat' (first | exact Below.refl _ _ | (refine Below.via ?_ (by assumption) ?_) | refine Below.setCell ?_ ?_ _ | refine Below.alloc ?_ ?_ _ | refine Below.drew ?_ | omega | (simp; omega) | (simp; done)))⟩
theorem shapeGrows_row (w : World) (v : Value) (L : List Shp) (hd : Duos w v L) (hin : ∀ p ∈ L, InS p) (a : Int) (ha : (Lit.int .i64 a).wf = true) (n : Int) (hn : (Lit.int .i64 n).wf = true) (o : Int) (_ : (Lit.int .i64 o).wf = true) :
    Calls Try.prog 4 #[v, .int .i64 a, .int .i64 n, .int .i64 o] w fun e w' => e = .returned (.bool true) ∧ Below w.heap.size w w' := shapeGrows_walk v L a n o w hd hin (inI_wf ha) (inI_wf hn)
/-! ### THE ROW: ShapeGrows (after the kit's skeleton) -/
namespace shapeGrows
open Go.ChangeShapes Go.WideShapes Go.ChangeAt Go.RowKit Go.Joins
theorem own : ownKnob Try.prog.godebug = none := by kernel_rfl
theorem laidOut : laidOutB Try.prog = true := by kernel_rfl
set_option maxRecDepth 100000 in
theorem lifted (os : Os) (started : os.Started) (H : Type) (enc : TypeId × Value → H) :
    ReturnsInHanded {} Try.checked os 4 .any (Rows.shapeGrowsSpec.pre6 enc Try.prog Try.f4 Rows.shapeGrowsRow.domain false) (Rows.shapeGrowsSpec.post enc Try.prog Try.f4 false true false false) := by
  refine returnsInHanded_of_change (C := Try.checked) own started (by kernel_rfl) Try.func4
    (ChangeSpec.witness6 (enc := enc) (C := Try.checked) false ⟨#[], #[.slice none 0 0, .int .i64 0, .int .i64 0, .int .i64 0], []⟩ 8 (by kernel_rfl) (by kernel_rfl) (by kernel_rfl) (by kernel_rfl)) ?_
  intro W base args ds gs before hval0 hW hcnd _
  have hval : ∀ (j : Nat) t v, Try.f4.params[j]? = some t → args[j]? = some v → Value.okWide Try.prog W .any base t v := hval0
  have hW' := hW
  obtain ⟨p, q, hA0, hV, rfl, hfz, hnd⟩ := hW
  have hA : DataW.TrodAll enc Try.prog W 0 (fun _ => true) true Try.f4.params.toList args.toList ds p := hA0
  rw [Try.params4] at hA hval
  obtain ⟨v0, vs0, d0, ds0, p0, q0, hargs, rfl, rfl, h0, r0⟩ := trodAll_cons hA
  obtain ⟨v1, vs1, d1, ds1, p1, q1, rfl, rfl, rfl, h1, r1⟩ := trodAll_cons r0
  obtain ⟨v2, vs2, d2, ds2, p2, q2, rfl, rfl, rfl, h2, r2⟩ := trodAll_cons r1
  obtain ⟨v3, vs3, d3, ds3, p3, q3, rfl, rfl, rfl, h3, r3⟩ := trodAll_cons r2
  obtain ⟨rfl, rfl, rfl⟩ := trodAll_nil r3
  obtain rfl : args = #[v0, v1, v2, v3] := by cases args; simp_all
  obtain ⟨rfl, rfl⟩ := trodVars_none hV
  have kk0 := h0
  have lt0 : ∀ x ∈ p0, x.block < W.heap.size := by obtain ⟨m, hm⟩ := kk0; exact DataW.trod_lt m _ _ _ hm
  have kk1 := h1
  have lt1 : ∀ x ∈ p1, x.block < W.heap.size := by obtain ⟨m, hm⟩ := kk1; exact DataW.trod_lt m _ _ _ hm
  have kk2 := h2
  have lt2 : ∀ x ∈ p2, x.block < W.heap.size := by obtain ⟨m, hm⟩ := kk2; exact DataW.trod_lt m _ _ _ hm
  have kk3 := h3
  have lt3 : ∀ x ∈ p3, x.block < W.heap.size := by obtain ⟨m, hm⟩ := kk3; exact DataW.trod_lt m _ _ _ hm
  obtain ⟨L0, hd0, hi0⟩ := open_duos (hval 0 22 v0 rfl rfl) h0
  obtain ⟨a1, rfl, rfl, rfl, g1⟩ := open_int Try.underlying3 (hval 1 3 v1 rfl rfl) h1
  obtain ⟨a2, rfl, rfl, rfl, g2⟩ := open_int Try.underlying3 (hval 2 3 v2 rfl rfl) h2
  obtain ⟨a3, rfl, rfl, rfl, g3⟩ := open_int Try.underlying3 (hval 3 3 v3 rfl rfl) h3
  clear hA0 hval0
  refine (shapeGrows_row W v0 L0 hd0 hi0 a1 g1 a2 g2 a3 g3).mono fun e W' ⟨he, bel⟩ => ?_
  subst he
  exact ⟨_, rfl, _, _, _, [], _, [], hW', trodAll_mk1 (shut_bool Try.underlying4 _), (trodAll_cons_mk (Below.trod laidOut (by kernel_rfl) (of_decide_eq_true (by kernel_rfl)) kk0 bel lt0) (trodAll_cons_mk (Below.trod laidOut (by kernel_rfl) (of_decide_eq_true (by kernel_rfl)) kk1 bel lt1) (trodAll_cons_mk (Below.trod laidOut (by kernel_rfl) (of_decide_eq_true (by kernel_rfl)) kk2 bel lt2) (trodAll_cons_mk (Below.trod laidOut (by kernel_rfl) (of_decide_eq_true (by kernel_rfl)) kk3 bel lt3) trodAll_mk0)))), rfl, bel.frame _, fun h => by cases h⟩
theorem over : Rows.shapeGrowsRow.holds Try.pinned (OpenSpec.ofChange Rows.shapeGrowsSpec) :=
  OpenClaim.holds_of_wide 4 Try.f4 rfl rfl rfl rfl rfl rfl rfl ⟨rfl, rfl, rfl, rfl, rfl⟩ rfl rfl rfl rfl rfl (by kernel_rfl) Try.func4 (by kernel_rfl)
    (of_decide_eq_true (by kernel_rfl)) (by unfold Func.isWrapper; first | (rw [if_pos (by decide +kernel)]; kernel_rfl) | (rw [if_neg (by decide +kernel)]; exact ⟨rfl, rfl⟩))
    (fun os started H enc _ => lifted os started H enc)
end shapeGrows
theorem shapeGrows_holds : Rows.ShapeGrowsSaid := shapeGrows.over
#print axioms shapeGrows_holds
end Go.Proofs.Ytalippdhfkpbmaa
