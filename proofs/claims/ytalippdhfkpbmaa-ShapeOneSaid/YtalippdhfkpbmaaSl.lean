/- Slices as they lie: which cells a slice value shows, and that they stay where nothing below is written. -/
import Derived.Test.YtalippdhfkpbmaaBase
import Derived.OwnWalk
import Derived.Deep.DeepAppendWide
import Derived.Laws.AppendOwnNone
namespace Go.Proofs.Ytalippdhfkpbmaa
open Go.RowKit
/-- The slice value v has n elements of k cells each; all these cells, one behind the other, are xs; they lie in w. -/
def Lies (w : World) (v : Value) (n k : Nat) (xs : List Value) : Prop :=
  ∃ A cap, v = .slice A n cap ∧ n ≤ cap ∧ cap ≤ maxLen ∧ xs.length = n * k ∧ (A = none → n = 0 ∧ cap = 0) ∧
    (0 < n → ∃ b o, A = some ⟨b, o, none⟩ ∧ b < w.heap.size ∧ ∀ i x, xs[i]? = some x → w.cell? ⟨b, o + i, none⟩ = some x)
theorem Lies.nil (w : World) (k : Nat) : Lies w (.slice none 0 0) 0 k [] := ⟨none, 0, rfl, by omega, by simp [maxLen], by simp, fun _ => ⟨rfl, rfl⟩, fun h => by omega⟩
theorem Lies.keep {w w' : World} {v : Value} {n k : Nat} {xs : List Value} {B : Nat} (h : Lies w v n k xs) (hb : Below B w w') (hB : w.heap.size ≤ B) : Lies w' v n k xs := by
  obtain ⟨A, cap, hv, h1, h2, h3, h4, h5⟩ := h
  refine ⟨A, cap, hv, h1, h2, h3, h4, fun h0 => ?_⟩
  obtain ⟨b, o, ha, hlt, hc⟩ := h5 h0
  refine ⟨b, o, ha, Nat.lt_of_lt_of_le hlt hb.size, fun i x hx => ?_⟩
  rw [hb.cell (p := ⟨b, o + i, none⟩) (by show b < B; omega)]
  exact hc i x hx
theorem Lies.owned {w : World} {base : Nat} {e : TypeId} {k : Nat} {v : Value} {n : Nat} {xs : List Value} (h : w.ownsRow base e k v n xs) : Lies w v n k xs := by
  obtain ⟨hl, h0⟩ := h
  rcases h0 with ⟨rfl, rfl⟩ | ⟨g, cap, cur, rfl, hb, hg, h1, h2, h3, h4⟩
  · refine ⟨none, 0, rfl, by omega, by simp [maxLen], hl, fun _ => ⟨rfl, rfl⟩, fun h => by omega⟩
  · refine ⟨_, cap, rfl, h1, h2, hl, fun h => by simp at h, fun _ => ⟨g, 0, rfl, (Array.getElem?_eq_some_iff.1 hg).1, fun i x hx => ?_⟩⟩
    have := World.ownsRow.cells (w := w) (base := base) (e := e) (size := k) (v := .slice (some ⟨g, 0, none⟩) n cap) (n := n) (xs := xs) ⟨hl, .inr ⟨g, cap, cur, rfl, hb, hg, h1, h2, h3, h4⟩⟩ (g := g) rfl i x hx
    rw [← this]
    congr 1
    unfold Addr.add
    split <;> simp_all
/-- A row of the call's own stays so while nothing below the present heap is written. -/
theorem owns_keep {w w' : World} {base : Nat} {e : TypeId} {k : Nat} {v : Value} {n : Nat} {xs : List Value} (h : w.ownsRow base e k v n xs) (hb : Below w.heap.size w w') : w'.ownsRow base e k v n xs := by
  refine ⟨h.1, ?_⟩
  rcases h.2 with h0 | ⟨g, cap, cur, hv, hg, hc, rest⟩
  · exact .inl h0
  · exact .inr ⟨g, cap, cur, hv, hg, (hb.block g (Array.getElem?_eq_some_iff.1 hc).1).trans hc, rest⟩
theorem owns_base {w : World} {base base' : Nat} {e : TypeId} {k : Nat} {v : Value} {n : Nat} {xs : List Value} (h : w.ownsRow base e k v n xs) (hb : base' ≤ base) : w.ownsRow base' e k v n xs := by
  refine ⟨h.1, ?_⟩
  rcases h.2 with h0 | ⟨g, cap, cur, hv, hg, rest⟩
  · exact .inl h0
  · exact .inr ⟨g, cap, cur, hv, by omega, rest⟩
/-- whole numbers as cells -/
def ints (L : List Int) : List Value := L.map (Value.int .i64)
theorem ints_get {L : List Int} {i : Nat} (h : i < L.length) : (ints L)[i]? = some (.int .i64 (L.getD i 0)) := by
  simp [ints, List.getD, List.getElem?_eq_getElem h]
theorem ints_len (L : List Int) : (ints L).length = L.length := by simp [ints]
theorem ints_app (L : List Int) (x : Int) : ints L ++ [.int .i64 x] = ints (L ++ [x]) := by simp [ints]
/-- pairs of whole numbers as cells, both of the first, both of the second .. -/
def duos : List (Int × Int) → List Value
  | [] => []
  | p :: L => .int .i64 p.1 :: .int .i64 p.2 :: duos L
theorem duos_len : ∀ L : List (Int × Int), (duos L).length = L.length * 2
  | [] => rfl
  | p :: L => by simp [duos, duos_len L]; omega
theorem duos_app : ∀ (L M : List (Int × Int)), duos L ++ duos M = duos (L ++ M)
  | [], M => rfl
  | p :: L, M => by simp [duos, duos_app L M]
theorem duos_get : ∀ {L : List (Int × Int)} {i : Nat}, i < L.length → (duos L)[i * 2]? = some (.int .i64 (L.getD i (0, 0)).1) ∧ (duos L)[i * 2 + 1]? = some (.int .i64 (L.getD i (0, 0)).2)
  | p :: L, 0, _ => by simp [duos]
  | p :: L, i + 1, h => by
    have := duos_get (L := L) (i := i) (by simpa using h)
    rw [show (i + 1) * 2 = i * 2 + 1 + 1 by omega]
    simpa [duos, List.getD] using this
/-- the first and the second number of pair i -/
def fstD (L : List (Int × Int)) (i : Nat) : Int := (L.getD i (0, 0)).1
def sndD (L : List (Int × Int)) (i : Nat) : Int := (L.getD i (0, 0)).2
/-- A slice of whole numbers. -/
def Ints (w : World) (v : Value) (L : List Int) : Prop := Lies w v L.length 1 (ints L)
/-- A slice of pairs. -/
def Duos (w : World) (v : Value) (L : List (Int × Int)) : Prop := Lies w v L.length 2 (duos L)
theorem Ints.keep {w w' : World} {v : Value} {L : List Int} {B : Nat} (h : Ints w v L) (hb : Below B w w') (hB : w.heap.size ≤ B) : Ints w' v L := Lies.keep h hb hB
theorem Duos.keep {w w' : World} {v : Value} {L : List (Int × Int)} {B : Nat} (h : Duos w v L) (hb : Below B w w') (hB : w.heap.size ≤ B) : Duos w' v L := Lies.keep h hb hB
theorem Ints.drew {w : World} {v : Value} {L : List Int} (h : Ints w v L) : Ints w.drew v L := h
theorem Duos.drew {w : World} {v : Value} {L : List (Int × Int)} (h : Duos w v L) : Duos w.drew v L := h
theorem Ints.open {w : World} {v : Value} {L : List Int} (h : Ints w v L) : ∃ A cap, v = .slice A L.length cap ∧ L.length ≤ cap ∧ cap ≤ maxLen ∧ (A = none → L.length = 0 ∧ cap = 0) ∧
    (0 < L.length → ∃ b o, A = some ⟨b, o, none⟩ ∧ b < w.heap.size ∧ ∀ i, i < L.length → w.cell? ⟨b, o + i, none⟩ = some (.int .i64 (L.getD i 0))) := by
  obtain ⟨A, cap, hv, h1, h2, h3, h4, h5⟩ := h
  refine ⟨A, cap, hv, h1, h2, h4, fun h0 => ?_⟩
  obtain ⟨b, o, ha, hlt, hc⟩ := h5 h0
  exact ⟨b, o, ha, hlt, fun i hi => hc i _ (ints_get hi)⟩
theorem Duos.open {w : World} {v : Value} {L : List (Int × Int)} (h : Duos w v L) : ∃ A cap, v = .slice A L.length cap ∧ L.length ≤ cap ∧ cap ≤ maxLen ∧ (A = none → L.length = 0 ∧ cap = 0) ∧
    (0 < L.length → ∃ b o, A = some ⟨b, o, none⟩ ∧ b < w.heap.size ∧ ∀ i, i < L.length → w.cell? ⟨b, o + i * 2, none⟩ = some (.int .i64 (fstD L i)) ∧ w.cell? ⟨b, o + i * 2 + 1, none⟩ = some (.int .i64 (sndD L i))) := by
  obtain ⟨A, cap, hv, h1, h2, h3, h4, h5⟩ := h
  refine ⟨A, cap, hv, h1, h2, h4, fun h0 => ?_⟩
  obtain ⟨b, o, ha, hlt, hc⟩ := h5 h0
  exact ⟨b, o, ha, hlt, fun i hi => ⟨hc _ _ (duos_get hi).1, by have := hc _ _ (duos_get hi).2; rwa [← Nat.add_assoc] at this⟩⟩
theorem Duos.form {w : World} {v : Value} {L : List (Int × Int)} (h : Duos w v L) : ∃ A cap, v = .slice A L.length cap := by
  obtain ⟨A, cap, hv, -⟩ := h.open
  exact ⟨A, cap, hv⟩
theorem Duos.nil (w : World) : Duos w (.slice none 0 0) [] := Lies.nil w 2
theorem Ints.nil (w : World) : Ints w (.slice none 0 0) [] := Lies.nil w 1
end Go.Proofs.Ytalippdhfkpbmaa
