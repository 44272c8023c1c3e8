/- Arguments that are slices of shapes or of whole numbers: what they show. -/
import Derived.Test.YtalippdhfkpbmaaRows
import Derived.Test.YtalippdhfkpbmaaMapS
import Derived.OpenShut
import Derived.ChangeSlices
import Derived.Deep.SlicePairs
import Derived.DataReads
namespace Go.Proofs.Ytalippdhfkpbmaa
open Go.ChangeShapes Go.WideShapes Go.RowKit Go.Deep
theorem inI_wf {n : Int} (h : (Lit.int .i64 n).wf = true) : InI n := by
  simp [Lit.wf, IntKind.min, IntKind.max, IntKind.signed, IntKind.bits] at h
  exact ⟨by omega, by omega⟩
theorem add_plain' {w : World} {a : Addr} {i : Nat} {v : Value} (h : w.cell? (a.add i) = some v) : (⟨a.block, a.off + i, none⟩ : Addr) = a.add i := by
  have hs := World.cell?_spot h
  obtain ⟨b, o, s⟩ := a
  unfold Addr.add at hs ⊢
  split at hs <;> simp_all
section
variable {H : Type} {enc : TypeId × Value → H} {W : World} {held : Bool}
theorem open_duos {r : Reach} {b0 : Nat} {v : Value} {d : DataW H} {ps : List MemPlace} (hval : Value.okWide Try.prog W r b0 22 v) (h : DataW.Trod enc Try.prog W 0 (fun _ => true) held 22 v d ps) :
    ∃ L : List Shp, Duos W v L ∧ ∀ p ∈ L, InS p := by
  obtain ⟨a0, l0, c0, rfl⟩ := okWide_slice Try.underlying22 hval
  obtain ⟨m, hm⟩ := h
  rcases open_slice_pairs Try.underlying22 Try.underlying29 (by kernel_rfl) rfl rfl (by kernel_rfl) (by kernel_rfl) hm with ⟨hc, _⟩ | ⟨a, len, cap, m', k, V0, V1, D0, D1, P0, P1, hc, _, hl, hm', hmm, _, hall⟩
  · simp [Value.cells] at hc
    obtain ⟨rfl, rfl, rfl⟩ := hc
    exact ⟨[], Duos.nil _, by simp⟩
  · simp [Value.cells] at hc
    obtain ⟨rfl, rfl, rfl⟩ := hc
    have hlm : l0 ≤ m' := by rw [hmm]; simp; omega
    have hv : ∀ i, i < l0 → ∃ p : Shp, InS p ∧ V0 i = .int .i64 p.1 ∧ V1 i = .int .i64 p.2 := fun i hi => by
      obtain ⟨h0, h1, h2, h3⟩ := hall i (by omega)
      obtain ⟨x, hx, _, wx⟩ := DataW.trod_int Try.underlying3 h2
      obtain ⟨y, hy, _, wy⟩ := DataW.trod_int Try.underlying3 h3
      exact ⟨(x, y), ⟨inI_wf wx, inI_wf wy⟩, by simpa using hx, by simpa using hy⟩
    obtain ⟨f, hf⟩ := choose_lt hv
    have hlen : ((List.range l0).map f).length = l0 := by simp
    have hget : ∀ i, i < l0 → ((List.range l0).map f).getD i (0, 0) = f i := fun i hi => by simp [List.getD, hi]
    refine ⟨(List.range l0).map f, ?_, ?_⟩
    · refine ⟨some a, c0, by rw [hlen], by rw [hlen]; exact hl, hm', duos_len _, fun h => by simp at h, fun h0 => ?_⟩
      rw [hlen] at h0
      obtain ⟨q0, _⟩ := hall 0 (by omega)
      have hs : a.spot = none := by
        have := World.cell?_spot q0
        unfold Addr.add at this
        split at this
        · exact this
        · simp_all
      have hbl : a.block < W.heap.size := by
        have := World.block_lt_of_cell? W _ q0
        unfold Addr.add at this
        split at this <;> exact this
      refine ⟨a.block, a.off, by obtain ⟨b, o, s⟩ := a; simp at hs; subst hs; rfl, hbl, fun i x hx => ?_⟩
      have hi := (List.getElem?_eq_some_iff.1 hx).1
      rw [duos_len, hlen] at hi
      have hd := duos_get (L := (List.range l0).map f) (i := i / 2) (by rw [hlen]; omega)
      rw [hget _ (by omega)] at hd
      obtain ⟨e0, e1, _⟩ := hall (i / 2) (by omega)
      obtain ⟨_, g0, g1⟩ := hf (i / 2) (by omega)
      rcases Nat.mod_two_eq_zero_or_one i with hp | hp
      · have ei : i / 2 * 2 = i := by omega
        rw [ei] at hd e0
        rw [add_plain' e0, e0, g0]
        rw [hd.1] at hx
        simpa using hx
      · have ei : i / 2 * 2 + 1 = i := by omega
        rw [ei] at hd e1
        rw [add_plain' e1, e1, g1]
        rw [hd.2] at hx
        simpa using hx
    · intro p hp
      obtain ⟨i, hi, rfl⟩ := List.mem_map.1 hp
      exact (hf i (List.mem_range.1 hi)).1
theorem open_intsL {r : Reach} {b0 : Nat} {v : Value} {d : DataW H} {ps : List MemPlace} (hval : Value.okWide Try.prog W r b0 30 v) (h : DataW.Trod enc Try.prog W 0 (fun _ => true) held 30 v d ps) :
    ∃ L : List Int, Ints W v L ∧ ∀ p ∈ L, InI p := by
  obtain ⟨a0, l0, c0, rfl⟩ := okWide_slice Try.underlying30 hval
  obtain ⟨m, hm⟩ := h
  rcases open_ints Try.underlying30 Try.underlying3 (by kernel_rfl) hm with ⟨hc, _⟩ | ⟨a, len, cap, zs, hc, _, hl, hm', hz, _, hall, hw⟩
  · simp [Value.cells] at hc
    obtain ⟨rfl, rfl, rfl⟩ := hc
    exact ⟨[], Ints.nil _, by simp⟩
  · simp [Value.cells] at hc
    obtain ⟨rfl, rfl, rfl⟩ := hc
    have hlm : l0 ≤ zs.length := by rw [hz]; simp; omega
    have hlen : (zs.take l0).length = l0 := by simp; omega
    refine ⟨zs.take l0, ?_, fun p hp => inI_wf (hw p (List.mem_of_mem_take hp))⟩
    refine ⟨some a, c0, by rw [hlen], by rw [hlen]; exact hl, hm', by rw [ints_len]; omega, fun h => by simp at h, fun h0 => ?_⟩
    rw [hlen] at h0
    have q0 := hall 0 (by omega)
    have hs : a.spot = none := by
      have := World.cell?_spot q0
      unfold Addr.add at this
      split at this
      · exact this
      · simp_all
    have hbl : a.block < W.heap.size := by
      have := World.block_lt_of_cell? W _ q0
      unfold Addr.add at this
      split at this <;> exact this
    refine ⟨a.block, a.off, by obtain ⟨b, o, s⟩ := a; simp at hs; subst hs; rfl, hbl, fun i x hx => ?_⟩
    have hi := (List.getElem?_eq_some_iff.1 hx).1
    rw [ints_len, hlen] at hi
    rw [ints_get (by rw [hlen]; exact hi)] at hx
    have e0 := hall i (by omega)
    rw [add_plain' e0, e0, ← hx]
    congr 2
    simp [List.getD, List.getElem?_take, hi]
end
end Go.Proofs.Ytalippdhfkpbmaa
