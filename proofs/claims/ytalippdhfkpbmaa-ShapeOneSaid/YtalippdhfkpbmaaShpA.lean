/- HasInt, slices.Index, slices.Contains over whole numbers: what they answer. -/
import Derived.Test.YtalippdhfkpbmaaSl
import Derived.Test.YtalippdhfkpbmaaShpP
import Derived.Test.YtalippdhfkpbmaaChecked
import Derived.Lib.Hide
namespace Go.Proofs.Ytalippdhfkpbmaa
open Go.RowKit
set_option maxHeartbeats 1000000 in
theorem hasInt_any (w : World) (v : Value) (L : List Int) (x : Int) (h : Ints w v L) :
    Calls Try.prog 22 #[v, .int .i64 x] w fun e w' => e = .returned (.bool (decide (x ∈ L))) ∧ Below w.heap.size w w' := by
  obtain ⟨A, cap, rfl, hcap, hmx, hA0, hA⟩ := h.open
  simp only [maxLen] at hmx
  go_enter Try.func22, Try.ntmps22
  go_wp2
  go_loopw [9] (fun i wr => ∃ k : Nat, k ≤ L.length ∧ i = .int .i64 k ∧ x ∉ L.take k ∧ Below w.heap.size w wr) (fun i _ => L.length - (intOf i).toNat)
  case atStart => exact ⟨0, by omega, rfl, by simp, Below.refl _ _⟩
  case round =>
        obtain ⟨k, hk, rfl, hn, hb⟩ := hrel
        by_cases hlt : k < L.length
        · obtain ⟨b, o, rfl, hbl, hc⟩ := hA (by omega)
          have c0 := (hb.cell (p := ⟨b, o + k, none⟩) hbl).trans (hc k hlt)
          generalize hy : L.getD k 0 = y at c0
          have hy := Lib.hid hy
          clear h hA hA0 hc
          by_cases hx : y = x
          · subst hx
            go_wp2
            go_ret
            exact ⟨by rw [decide_eq_true (hy.out ▸ mem_getD 0 hlt)]; rfl, hb⟩
          · have hx' : ¬ x = y := fun e => hx e.symm
            go_wp2
            go_roundw
            case rel => exact ⟨k + 1, by omega, by go_num, take_more 0 hlt hn (hy.out ▸ hx), hb⟩
            case measure => simp [intOf]; omega
        · have hke : k = L.length := by omega
          subst hke
          rw [List.take_length] at hn
          go_wp2
          go_ret
          exact ⟨by rw [decide_eq_false hn]; rfl, hb⟩
set_option maxHeartbeats 1000000 in
theorem indexI_any (w : World) (v : Value) (L : List Int) (x : Int) (h : Ints w v L) :
    Calls Try.prog 19 #[v, .int .i64 x] w fun e w' => e = .returned (.int .i64 (idx L x)) ∧ Below w.heap.size w w' := by
  obtain ⟨A, cap, rfl, hcap, hmx, hA0, hA⟩ := h.open
  simp only [maxLen] at hmx
  go_enter Try.func19, Try.ntmps19
  go_wp2
  go_loopw [8] (fun i wr => ∃ k : Nat, k ≤ L.length ∧ i = .int .i64 k ∧ x ∉ L.take k ∧ Below w.heap.size w wr) (fun i _ => L.length - (intOf i).toNat)
  case atStart => exact ⟨0, by omega, rfl, by simp, Below.refl _ _⟩
  case round =>
        obtain ⟨k, hk, rfl, hn, hb⟩ := hrel
        by_cases hlt : k < L.length
        · obtain ⟨b, o, rfl, hbl, hc⟩ := hA (by omega)
          have c0 := (hb.cell (p := ⟨b, o + k, none⟩) hbl).trans (hc k hlt)
          generalize hy : L.getD k 0 = y at c0
          have hy := Lib.hid hy
          clear h hA hA0 hc
          by_cases hx : y = x
          · subst hx
            go_wp2
            go_ret
            exact ⟨by rw [idx_at 0 hlt hn hy.out]; rfl, hb⟩
          · have hx' : ¬ x = y := fun e => hx e.symm
            go_wp2
            go_roundw
            case rel => exact ⟨k + 1, by omega, by go_num, take_more 0 hlt hn (hy.out ▸ hx), hb⟩
            case measure => simp [intOf]; omega
        · have hke : k = L.length := by omega
          subst hke
          rw [List.take_length] at hn
          go_wp2
          go_ret
          exact ⟨by rw [idx_no hn]; rfl, hb⟩
theorem containsI_any (w : World) (v : Value) (L : List Int) (x : Int) (h : Ints w v L) :
    Calls Try.prog 24 #[v, .int .i64 x] w fun e w' => e = .returned (.bool (decide (x ∈ L))) ∧ Below w.heap.size w w' := by
  go_enter Try.func24, Try.ntmps24
  go_wp2_with fail
  refine (indexI_any _ v L x h).mono ?_; rintro e w1 ⟨rfl, hb1⟩; obtain ⟨hc1, hf1⟩ := bcell hb1
  have hq1 := hb1.size; (try simp at hq1)
  clear hc1 hf1
  go_wp2_with fail
  go_ret
  exact ⟨by rw [← idx_ge]; simp, hb1⟩
end Go.Proofs.Ytalippdhfkpbmaa
