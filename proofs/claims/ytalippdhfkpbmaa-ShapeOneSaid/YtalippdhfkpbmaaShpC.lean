/- names: what it answers, if each Up stands ahead. -/
import Derived.Test.YtalippdhfkpbmaaApp
import Derived.Test.YtalippdhfkpbmaaShpP
import Derived.Test.YtalippdhfkpbmaaShpB
namespace Go.Proofs.Ytalippdhfkpbmaa
open Go.RowKit
set_option maxHeartbeats 1000000 in
theorem names_any (w : World) (v : Value) (L : List Shp) (s : Nat) (h : Duos w v L) (hs : s < L.length) (ha : Ahead L s) (hbig : L.length ≤ 1000000) :
    Calls Try.prog 31 #[v, .int .i64 s] w fun e w' => ∃ r, e = .returned r ∧ OwnInts w' w.heap.size r (namesP L s) ∧ Below w.heap.size w w' := by
  obtain ⟨A, cap, rfl, hcap, hmx, hA0, hA⟩ := h.open
  simp only [maxLen] at hmx
  obtain ⟨b, o, rfl, hbl, hc⟩ := hA (by omega)
  clear hA hA0 h
  go_enter Try.func31, Try.ntmps31
  go_wp2
  go_loopw [1, 5] (fun i out wr => ∃ (t : Nat) (R : List Int), t ≤ s ∧ i = .int .i64 t ∧ namesP L s = namesP L t ++ R.reverse ∧ R.length + t ≤ s ∧ OwnInts wr w.heap.size out R ∧ Below w.heap.size w wr) (fun i _ _ => (intOf i).toNat)
  case atStart => exact ⟨s, [], by omega, rfl, by simp, by simp, OwnInts.nil _ _, Below.refl _ _⟩
  case round =>
    obtain ⟨t, R, ht, rfl, hn, hR, ho, hb⟩ := hrel
    by_cases h0 : 0 < t
    · have hu := ha t h0 ht
      have hq := hb.size
      have c0 := (hb.cell (p := ⟨b, o + t * 2, none⟩) hbl).trans (hc t (by omega)).1
      have c1 := (hb.cell (p := ⟨b, o + t * 2 + 1, none⟩) hbl).trans (hc t (by omega)).2
      go_wp2_with (at_builtin; go_loud (refine wpList_app_ints rfl _ _ rfl rfl (ho.alloc _) rfl ((OwnInts.lit wr (base := w.heap.size) hb.size _).lies) (by simp; omega) (by simp; omega) ?_); intro v1 w1 ho1 hb1 hg1; (clear hg1; have hb2 := (hb.alloc hq _).trans hb1; have c2 := (hb2.cell (p := ⟨b, o + t * 2, none⟩) hbl).trans (hc t (by omega)).1))
      go_roundw
      case rel =>
        refine ⟨(fstD L t).toNat, R ++ [sndD L t], by omega, by go_num, ?_, by simp; omega, ho1, hb2⟩
        rw [hn, namesP_step (ha.to ht) h0]; simp
      case measure => simp [intOf]; omega
    · obtain rfl : t = 0 := by omega
      go_wp2_with fail
      refine (reverseI_any _ _ R w.heap.size _ ho hb.size).mono ?_; rintro e w1 ⟨rfl, ho1, hb1⟩
      go_wp2_with fail
      go_ret
      refine ⟨_, rfl, ?_, hb.trans hb1⟩
      rw [hn, namesP_zero, List.nil_append]
      unfold OwnInts
      rw [List.length_reverse]
      exact ho1
end Go.Proofs.Ytalippdhfkpbmaa
