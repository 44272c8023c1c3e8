/- ShapeSlots: each name has its own slot, from 0 on; a name that is not there has none: the law answers true. No condition. -/
import Derived.Test.YtalippdhfkpbmaaRows
import Derived.Test.YtalippdhfkpbmaaShpS
import Derived.Test.YtalippdhfkpbmaaShpT
import Derived.Test.YtalippdhfkpbmaaShpO
import Derived.OpenShut
import Derived.ChangeOld
import Derived.Lib.SmallJoins
namespace Go.Proofs.Ytalippdhfkpbmaa
open Go.RowKit
set_option maxHeartbeats 2000000 in
theorem shapeSlots_walk (v : Value) (L : List Shp) (a n : Int) (w : World) (hd : Duos w v L) (hin : ∀ p ∈ L, InS p) :
    Calls Try.prog 6 #[v, .int .i64 a, .int .i64 n] w fun e w' => e = .returned (.bool true) ∧ Below w.heap.size w w' := by
  have hN := fun (w : World) (h : Duos w v L) => names_all w v L a h hin
  have hS := fun (w : World) (x : Int) (h : Duos w v L) => slot_any w v L a x h hin
  have hnd := namesQ_nodup L a
  have hql : (namesQ L a).length ≤ 100 := by
    unfold namesQ
    split
    · simp
    · rename_i h
      have hf : faultP L = 0 := by omega
      exact Nat.le_trans (namesP_len ((faultP_ok hf).2.2.2.ahead (by omega))) (by have := (faultP_ok hf).1; omega)
  generalize namesQ L a = Q at *
  have hnd' := Lib.hid hnd
  clear hnd
  go_enter Try.func6, Try.ntmps6
  go_wp2_with fail
  refine (hN _ hd).mono ?_; rintro e w1 ⟨v1, rfl, ho1, hb1⟩; obtain ⟨hc1, hf1⟩ := bcell hb1
  obtain ⟨A1, c1, rfl⟩ := ho1.form
  have hq1 := hb1.size; (try simp at hq1)
  clear hc1 hf1
  go_wp2_with fail
  -- STOP: a loop
  have hQ := ho1.lies
  go_loopw [19] (fun i wr => ∃ k : Nat, k ≤ Q.length ∧ i = .int .i64 k ∧ Below w1.heap.size w1 wr) (fun i _ => Q.length - (intOf i).toNat)
  case atStart => exact ⟨0, by omega, rfl, Below.refl _ _⟩
  case round =>
    obtain ⟨k, hk, rfl, hb⟩ := hrel
    have hq := hb.size
    by_cases hlt : k < Q.length
    · obtain ⟨b, o, rfl, hbl, hc⟩ := hQ.at (by omega)
      have c0 := (hb.cell (p := ⟨b, o + k, none⟩) hbl).trans (hc k hlt)
      have hx := idx_nodup hnd'.out hlt
      have hm := mem_getD (0 : Int) hlt
      clear hc
      have hSk := fun (w : World) (h : Duos w v L) => hS w (Q.getD k 0) h
      rw [if_pos hm, decide_eq_true hm, hx] at hSk
      clear hx hm
      generalize Q.getD k 0 = x at *
      go_wp2_with fail
      refine (hSk _ (hd.keep (B := w.heap.size) (by repeat' (first | exact Below.refl _ _ | (refine Below.via ?_ (by assumption) ?_) | refine Below.setCell ?_ ?_ _ | refine Below.alloc ?_ ?_ _ | refine Below.drew ?_ | omega | (simp; omega) | (simp; done))) (Nat.le_refl _))).mono ?_; rintro e w21 ⟨rfl, hb21⟩; obtain ⟨hc21, hf21⟩ := bcell hb21
      have hq21 := hb21.size; (try simp at hq21)
      clear hc21 hf21
      go_wp2_with fail
      -- end of the round
      go_roundw
      case rel => exact ⟨k + 1, by omega, by go_num, (by repeat' (first | exact Below.refl _ _ | (refine Below.via ?_ (by assumption) ?_) | refine Below.setCell ?_ ?_ _ | refine Below.alloc ?_ ?_ _ | refine Below.drew ?_ | omega | (simp; omega) | (simp; done)))⟩
      case measure => simp [intOf]; omega
    · have hke : k = Q.length := by omega
      by_cases hm : n ∈ Q
      · have hSn := fun (w : World) (h : Duos w v L) => hS w n h
        rw [if_pos hm, decide_eq_true hm] at hSn
        go_wp2_with fail
        refine (hSn _ (hd.keep (B := w.heap.size) (by repeat' (first | exact Below.refl _ _ | (refine Below.via ?_ (by assumption) ?_) | refine Below.setCell ?_ ?_ _ | refine Below.alloc ?_ ?_ _ | refine Below.drew ?_ | omega | (simp; omega) | (simp; done))) (Nat.le_refl _))).mono ?_; rintro e w21 ⟨rfl, hb21⟩; obtain ⟨hc21, hf21⟩ := bcell hb21
        have hq21 := hb21.size; (try simp at hq21)
        clear hc21 hf21
        go_wp2_with fail
        refine (shapeLives_any _).mono ?_; rintro e w22 ⟨rfl, hb22⟩; obtain ⟨hc22, hf22⟩ := bcell hb22
        have hq22 := hb22.size; (try simp at hq22)
        clear hc22 hf22
        go_wp2_with fail
        refine (containsI_any _ _ Q n (hQ.keep (B := w1.heap.size) (by repeat' (first | exact Below.refl _ _ | (refine Below.via ?_ (by assumption) ?_) | refine Below.setCell ?_ ?_ _ | refine Below.alloc ?_ ?_ _ | refine Below.drew ?_ | omega | (simp; omega) | (simp; done))) (Nat.le_refl _))).mono ?_; rintro e w23 ⟨rfl, hb23⟩; obtain ⟨hc23, hf23⟩ := bcell hb23
        have hq23 := hb23.size; (try simp at hq23)
        clear hc23 hf23
        go_wp2_with fail
        go_ret
        exact ⟨by simp [hm], (by repeat' (first | exact Below.refl _ _ | (refine Below.via ?_ (by assumption) ?_) | refine Below.setCell ?_ ?_ _ | refine Below.alloc ?_ ?_ _ | refine Below.drew ?_ | omega | (simp; omega) | (simp; done)))⟩
      · have hSn := fun (w : World) (h : Duos w v L) => hS w n h
        rw [if_neg hm, decide_eq_false hm] at hSn
        go_wp2_with fail
        refine (hSn _ (hd.keep (B := w.heap.size) (by repeat' (first | exact Below.refl _ _ | (refine Below.via ?_ (by assumption) ?_) | refine Below.setCell ?_ ?_ _ | refine Below.alloc ?_ ?_ _ | refine Below.drew ?_ | omega | (simp; omega) | (simp; done))) (Nat.le_refl _))).mono ?_; rintro e w21 ⟨rfl, hb21⟩; obtain ⟨hc21, hf21⟩ := bcell hb21
        have hq21 := hb21.size; (try simp at hq21)
        clear hc21 hf21
        go_wp2_with fail
        refine (shapeLives_any _).mono ?_; rintro e w22 ⟨rfl, hb22⟩; obtain ⟨hc22, hf22⟩ := bcell hb22
        have hq22 := hb22.size; (try simp at hq22)
        clear hc22 hf22
        go_wp2_with fail
        refine (containsI_any _ _ Q n (hQ.keep (B := w1.heap.size) (by repeat' (first | exact Below.refl _ _ | (refine Below.via ?_ (by assumption) ?_) | refine Below.setCell ?_ ?_ _ | refine Below.alloc ?_ ?_ _ | refine Below.drew ?_ | omega | (simp; omega) | (simp; done))) (Nat.le_refl _))).mono ?_; rintro e w23 ⟨rfl, hb23⟩; obtain ⟨hc23, hf23⟩ := bcell hb23
        have hq23 := hb23.size; (try simp at hq23)
        clear hc23 hf23
        go_wp2_with fail
        go_ret
        exact ⟨by simp [hm], (by repeat' (first | exact Below.refl _ _ | (refine Below.via ?_ (by assumption) ?_) | refine Below.setCell ?_ ?_ _ | refine Below.alloc ?_ ?_ _ | refine Below.drew ?_ | omega | (simp; omega) | (simp; done)))⟩
theorem shapeSlots_row (w : World) (v : Value) (L : List Shp) (hd : Duos w v L) (hin : ∀ p ∈ L, InS p) (a : Int) (_ : (Lit.int .i64 a).wf = true) (n : Int) (_ : (Lit.int .i64 n).wf = true) :
    Calls Try.prog 6 #[v, .int .i64 a, .int .i64 n] w fun e w' => e = .returned (.bool true) ∧ Below w.heap.size w w' := shapeSlots_walk v L a n w hd hin
/-! ### THE ROW: ShapeSlots (after the kit's skeleton) -/
namespace shapeSlots
open Go.ChangeShapes Go.WideShapes Go.ChangeAt Go.RowKit Go.Joins
theorem own : ownKnob Try.prog.godebug = none := by kernel_rfl
theorem laidOut : laidOutB Try.prog = true := by kernel_rfl
set_option maxRecDepth 100000 in
theorem lifted (os : Os) (started : os.Started) (H : Type) (enc : TypeId × Value → H) :
    ReturnsInHanded {} Try.checked os 6 .any (Rows.shapeSlotsSpec.pre6 enc Try.prog Try.f6 Rows.shapeSlotsRow.domain false) (Rows.shapeSlotsSpec.post enc Try.prog Try.f6 false true false false) := by
  refine returnsInHanded_of_change (C := Try.checked) own started (by kernel_rfl) Try.func6
    (ChangeSpec.witness6 (enc := enc) (C := Try.checked) false ⟨#[], #[.slice none 0 0, .int .i64 0, .int .i64 0], []⟩ 8 (by kernel_rfl) (by kernel_rfl) (by kernel_rfl) (by kernel_rfl)) ?_
  intro W base args ds gs before hval0 hW hcnd _
  have hval : ∀ (j : Nat) t v, Try.f6.params[j]? = some t → args[j]? = some v → Value.okWide Try.prog W .any base t v := hval0
  have hW' := hW
  obtain ⟨p, q, hA0, hV, rfl, hfz, hnd⟩ := hW
  have hA : DataW.TrodAll enc Try.prog W 0 (fun _ => true) true Try.f6.params.toList args.toList ds p := hA0
  rw [Try.params6] at hA hval
  obtain ⟨v0, vs0, d0, ds0, p0, q0, hargs, rfl, rfl, h0, r0⟩ := trodAll_cons hA
  obtain ⟨v1, vs1, d1, ds1, p1, q1, rfl, rfl, rfl, h1, r1⟩ := trodAll_cons r0
  obtain ⟨v2, vs2, d2, ds2, p2, q2, rfl, rfl, rfl, h2, r2⟩ := trodAll_cons r1
  obtain ⟨rfl, rfl, rfl⟩ := trodAll_nil r2
  obtain rfl : args = #[v0, v1, v2] := by cases args; simp_all
  obtain ⟨rfl, rfl⟩ := trodVars_none hV
  have kk0 := h0
  have lt0 : ∀ x ∈ p0, x.block < W.heap.size := by obtain ⟨m, hm⟩ := kk0; exact DataW.trod_lt m _ _ _ hm
  have kk1 := h1
  have lt1 : ∀ x ∈ p1, x.block < W.heap.size := by obtain ⟨m, hm⟩ := kk1; exact DataW.trod_lt m _ _ _ hm
  have kk2 := h2
  have lt2 : ∀ x ∈ p2, x.block < W.heap.size := by obtain ⟨m, hm⟩ := kk2; exact DataW.trod_lt m _ _ _ hm
  obtain ⟨L0, hd0, hi0⟩ := open_duos (hval 0 22 v0 rfl rfl) h0
  obtain ⟨a1, rfl, rfl, rfl, g1⟩ := open_int Try.underlying3 (hval 1 3 v1 rfl rfl) h1
  obtain ⟨a2, rfl, rfl, rfl, g2⟩ := open_int Try.underlying3 (hval 2 3 v2 rfl rfl) h2
  clear hA0 hval0
  refine (shapeSlots_row W v0 L0 hd0 hi0 a1 g1 a2 g2).mono fun e W' ⟨he, bel⟩ => ?_
  subst he
  exact ⟨_, rfl, _, _, _, [], _, [], hW', trodAll_mk1 (shut_bool Try.underlying4 _), (trodAll_cons_mk (Below.trod laidOut (by kernel_rfl) (of_decide_eq_true (by kernel_rfl)) kk0 bel lt0) (trodAll_cons_mk (Below.trod laidOut (by kernel_rfl) (of_decide_eq_true (by kernel_rfl)) kk1 bel lt1) (trodAll_cons_mk (Below.trod laidOut (by kernel_rfl) (of_decide_eq_true (by kernel_rfl)) kk2 bel lt2) trodAll_mk0))), rfl, bel.frame _, fun h => by cases h⟩
theorem over : Rows.shapeSlotsRow.holds Try.pinned (OpenSpec.ofChange Rows.shapeSlotsSpec) :=
  OpenClaim.holds_of_wide 6 Try.f6 rfl rfl rfl rfl rfl rfl rfl ⟨rfl, rfl, rfl, rfl, rfl⟩ rfl rfl rfl rfl rfl (by kernel_rfl) Try.func6 (by kernel_rfl)
    (of_decide_eq_true (by kernel_rfl)) (by unfold Func.isWrapper; first | (rw [if_pos (by decide +kernel)]; kernel_rfl) | (rw [if_neg (by decide +kernel)]; exact ⟨rfl, rfl⟩))
    (fun os started H enc _ => lifted os started H enc)
end shapeSlots
theorem shapeSlots_holds : Rows.ShapeSlotsSaid := shapeSlots.over
#print axioms shapeSlots_holds
end Go.Proofs.Ytalippdhfkpbmaa
