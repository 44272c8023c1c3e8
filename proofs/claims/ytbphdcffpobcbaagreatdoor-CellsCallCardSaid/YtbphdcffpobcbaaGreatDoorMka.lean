/- Several texts in one. -/
import Derived.Test.YtbphdcffpobcbaaGreatDoorMa
import Derived.Test.YtbphdcffpobcbaaGreatDoorMe
import Derived.Test.YtbphdcffpobcbaaGreatDoorMf
import Derived.Test.YtbphdcffpobcbaaGreatDoorMw
set_option linter.unusedSimpArgs false
set_option linter.unusedVariables false
set_option maxRecDepth 100000
set_option maxHeartbeats 16000000
namespace Go.Proofs.YtbphdcffpobcbaaGreatDoor
open Go.RowKit
theorem getD_app {α : Type} {L X : List α} {i : Nat} (d : α) (h : i < L.length) : (L ++ X).getD i d = L.getD i d := by
  simp [List.getD, List.getElem?_append_left h]
theorem fst_app {L X : List Shp} {i : Nat} (h : i < L.length) : fstD (L ++ X) i = fstD L i := by unfold fstD; rw [getD_app _ h]
theorem Ahead.app {L X : List Shp} {s : Nat} (h : Ahead L s) (hs : s < L.length) : Ahead (L ++ X) s := fun j h0 h1 => by
  rw [fst_app (by omega)]
  exact h j h0 h1
theorem namesQ_in {L : List Shp} {s : Nat} (hf : faultP L = 0) (h : s < L.length) : namesQ L s = namesP L s := by
  unfold namesQ; rw [if_neg (by omega)]; simp
end Go.Proofs.YtbphdcffpobcbaaGreatDoor

namespace Go.Proofs.YtbphdcffpobcbaaGreatDoor
open Go.RowKit
theorem Ints.at {w : World} {A : Option Addr} {n cap : Nat} {L : List Int} (h : Ints w (.slice A n cap) L) (h0 : 0 < L.length) : ∃ b o, A = some ⟨b, o, none⟩ ∧ b < w.heap.size ∧ ∀ i, i < L.length → w.cell? ⟨b, o + i, none⟩ = some (.int .i64 (L.getD i 0)) := by
  obtain ⟨A', cap', e, -, -, -, hA⟩ := h.open
  simp only [Value.slice.injEq] at e
  obtain ⟨rfl, -, -⟩ := e
  exact hA h0
end Go.Proofs.YtbphdcffpobcbaaGreatDoor

namespace Go.Proofs.YtbphdcffpobcbaaGreatDoor
open Go.RowKit Go
def setCS (s : GState) (n : Nat) (c : GCell) (l : List Shp) : GState := ⟨s.cells.set n c, l, s.texts, s.threads, s.ends, s.said, s.asked, s.steps⟩
section
variable {s : GState}
theorem heap_cell (h : cellsQ wordsT s = 0) {n : Nat} (hn : n < s.cells.length) : cellB s s.cells[n] = true ∧ manyB s.cells[n] = false ∧ faultP s.shapes = 0 ∧ ∀ x ∈ s.shapes, x.2 < s.texts.length := by
  obtain ⟨c1, c2, c3, c4, c5, c6, c7⟩ := cellsQ_iff.1 h
  refine ⟨List.all_eq_true.1 c5 _ (List.getElem_mem hn), ?_, c2, fun x hx => by simpa using List.all_eq_true.1 c4 x hx⟩
  simp only [heapLarge, Bool.or_eq_false_iff, List.any_eq_false] at c1
  simpa using c1.2 _ (List.getElem_mem hn)
end
end Go.Proofs.YtbphdcffpobcbaaGreatDoor

namespace Go.Proofs.YtbphdcffpobcbaaGreatDoor
open Go.RowKit Go
section
variable {α : Type} [DecidableEq α] {L : List α} {u v a : α}
end
section
variable {s : GState}
theorem obj_len (h : cellsQ wordsT s = 0) {n : Nat} (hn : n < s.cells.length) (hk : s.cells[n].kind = 1) : 0 ≤ s.cells[n].num ∧ s.cells[n].num < s.shapes.length ∧ (namesQ s.shapes s.cells[n].num).length = s.cells[n].vals.length := by
  obtain ⟨d, m, fl, nm⟩ := heap_cell h hn
  obtain ⟨d1, d2, d3, d4⟩ := cellB_parts d
  unfold kindB at d1
  rw [if_neg (by omega), if_pos hk] at d1
  simp only [Bool.and_eq_true, decide_eq_true_eq, btw] at d1
  obtain ⟨d1, d5⟩ := d1
  have d6 : 0 ≤ s.cells[n].num ∧ s.cells[n].num < s.shapes.length := ⟨d1.1, by omega⟩
  refine ⟨d6.1, d6.2, ?_⟩
  obtain ⟨k, hk'⟩ : ∃ k : Nat, s.cells[n].num = k := ⟨s.cells[n].num.toNat, by omega⟩
  rw [hk', namesQ_in fl (by omega)]
  unfold shapeLen at d5
  rw [hk', Int.toNat_natCast] at d5
  omega
end
section
variable {L M : List Shp} {c : GCell} {which name v : GVal}
end
section
variable {s : GState}
end
end Go.Proofs.YtbphdcffpobcbaaGreatDoor

namespace Go.Proofs.YtbphdcffpobcbaaGreatDoor
open Go.RowKit Go
abbrev nilG : GVal := ⟨0, 0⟩
def GState.addC (s : GState) (c : GCell) : GState := ⟨s.cells ++ [c], s.shapes, s.texts, s.threads, s.ends, s.said, s.asked, s.steps⟩
def GState.withTx (s : GState) (l : List ByteArray) : GState := ⟨s.cells, s.shapes, l, s.threads, s.ends, s.said, s.asked, s.steps⟩
def GState.withEn (s : GState) (l : List GEnd) : GState := ⟨s.cells, s.shapes, s.texts, s.threads, l, s.said, s.asked, s.steps⟩
def setV (s : GState) (v : GVal) (l : List GVal) : GState := setCS s v.n.toNat ⟨(cellAt s v.n).kind, (cellAt s v.n).num, l, (cellAt s v.n).frames⟩ s.shapes
def makeW (s : GState) (c : GCell) : GState × GVal × Int := if 300 ≤ s.cells.length then (s, nilG, 4) else (s.addC c, ⟨5, s.cells.length⟩, -1)
noncomputable def internW (s : GState) (t : ByteArray) : GState × GVal × Int :=
  if 0 ≤ idxQ s.texts t then (s, ⟨4, idxQ s.texts t⟩, -1) else if 300 ≤ s.texts.length ∨ 200 < t.size then (s, nilG, 4) else (s.withTx (s.texts ++ [t]), ⟨4, s.texts.length⟩, -1)
def longW (s : GState) (v : GVal) : GState × GVal × Int :=
  if v.kind = 4 then (s, ⟨2, (s.texts.getD v.n.toNat ByteArray.empty).size⟩, -1) else if v.kind = 5 ∧ ((cellAt s v.n).kind = 2 ∨ (cellAt s v.n).kind = 1) then (s, ⟨2, (cellAt s v.n).vals.length⟩, -1) else (s, nilG, 0)
def pushW (s : GState) (a v : GVal) : GState × GVal × Int := if 100 ≤ (cellAt s a.n).vals.length then (s, nilG, 4) else (setV s a ((cellAt s a.n).vals ++ [v]), ⟨2, (cellAt s a.n).vals.length + 1⟩, -1)
def popW (s : GState) (a : GVal) : GState × GVal × Int := if (cellAt s a.n).vals.length = 0 then (s, nilG, -1) else (setV s a ((cellAt s a.n).vals.take ((cellAt s a.n).vals.length - 1)), valAt (cellAt s a.n).vals ((cellAt s a.n).vals.length - 1), -1)
noncomputable def keysW (s : GState) (a : GVal) : GState × GVal × Int := makeW s ⟨2, 0, (namesQ s.shapes (cellAt s a.n).num).map fun n => ⟨4, n⟩, []⟩
def atEndW (s : GState) (a f : GVal) : GState × GVal × Int := if 100 ≤ s.ends.length then (s, nilG, 4) else (s.withEn (s.ends ++ [⟨a.n, f⟩]), nilG, -1)
def keyAtK (l : List GVal) (key : GVal) : Nat → Int
  | 0 => -1
  | k + 1 => if valAt l (2 * k) = key then ((2 * k : Nat) : Int) else keyAtK l key k
def keyAt (l : List GVal) (key : GVal) : Int := keyAtK l key ((l.length + 1) / 2)
def keptV (l : List GVal) (key : GVal) : GVal := if keyAt l key < 0 then nilG else valAt l ((keyAt l key).toNat + 1)
def keptW (s : GState) (a key : GVal) : GState × GVal × Int := (s, keptV (cellAt s a.n).vals key, -1)
def keepL (l : List GVal) (key v : GVal) : List GVal :=
  if v = nilG then (if 0 ≤ keyAt l key then l.take (keyAt l key).toNat ++ l.drop ((keyAt l key).toNat + 2) else l) else if 0 ≤ keyAt l key then l.set ((keyAt l key).toNat + 1) v else l ++ [key, v]
def keepW (s : GState) (a key v : GVal) : GState × GVal × Int := (setV s a (keepL (cellAt s a.n).vals key v), nilG, -1)
theorem unp_take : ∀ (ps : List (GVal × GVal)) (j : Nat), (unp ps).take (2 * j) = unp (ps.take j)
  | [], j => by simp
  | q :: ps, 0 => by simp
  | q :: ps, j + 1 => by
    rw [show 2 * (j + 1) = 2 * j + 1 + 1 by omega, unp_cons, List.take_succ_cons, List.take_succ_cons, List.take_succ_cons, unp_cons, unp_take ps j]
theorem unp_drop : ∀ (ps : List (GVal × GVal)) (j : Nat), (unp ps).drop (2 * j) = unp (ps.drop j)
  | [], j => by simp
  | q :: ps, 0 => by simp
  | q :: ps, j + 1 => by
    rw [show 2 * (j + 1) = 2 * j + 1 + 1 by omega, unp_cons, List.drop_succ_cons, List.drop_succ_cons, List.drop_succ_cons, unp_drop ps j]
theorem unp_set : ∀ (ps : List (GVal × GVal)) (j : Nat) (h : j < ps.length) (v : GVal), (unp ps).set (2 * j + 1) v = unp (ps.set j (ps[j].1, v))
  | q :: ps, 0, _, v => by simp
  | q :: ps, j + 1, h, v => by
    rw [show 2 * (j + 1) + 1 = 2 * j + 1 + 1 + 1 by omega, unp_cons, List.set_cons_succ, List.set_cons_succ, List.set_cons_succ, unp_cons, unp_set ps j (by simpa using h) v]
    simp
theorem keyAtK_spec (ps : List (GVal × GVal)) (key : GVal) : ∀ k, k ≤ ps.length → (keyAtK (unp ps) key k = -1 ∧ ∀ j (h : j < ps.length), j < k → ps[j].1 ≠ key) ∨ ∃ j, ∃ h : j < ps.length, ps[j].1 = key ∧ keyAtK (unp ps) key k = ((2 * j : Nat) : Int)
  | 0, _ => .inl ⟨rfl, fun j _ h => absurd h (by omega)⟩
  | k + 1, hk => by
    have hv := (unp_val (ps := ps) (j := k) (by omega)).1
    by_cases e : ps[k].1 = key
    · exact .inr ⟨k, by omega, e, by rw [keyAtK, hv, if_pos e]⟩
    · rw [keyAtK, hv, if_neg e]
      rcases keyAtK_spec ps key k (by omega) with ⟨h1, h2⟩ | h
      · refine .inl ⟨h1, fun j hj hjk => ?_⟩
        by_cases e2 : j = k
        · subst e2; exact e
        · exact h2 j hj (by omega)
      · exact .inr h
theorem keyAt_spec (ps : List (GVal × GVal)) (key : GVal) : (keyAt (unp ps) key = -1 ∧ ∀ q ∈ ps, q.1 ≠ key) ∨ ∃ j, ∃ h : j < ps.length, ps[j].1 = key ∧ keyAt (unp ps) key = ((2 * j : Nat) : Int) := by
  have e : ((unp ps).length + 1) / 2 = ps.length := by rw [unp_len]; omega
  unfold keyAt
  rw [e]
  rcases keyAtK_spec ps key ps.length (Nat.le_refl _) with ⟨h1, h2⟩ | h
  · refine .inl ⟨h1, fun q hq => ?_⟩
    obtain ⟨j, hj, rfl⟩ := List.getElem_of_mem hq
    exact h2 j hj hj
  · exact .inr h
def KeysOk (ps : List (GVal × GVal)) : Prop := (∀ q ∈ ps, q.1.kind = 5) ∧ (ps.map (·.1.n)).Nodup
theorem keys_at {ps : List (GVal × GVal)} (h : KeysOk ps) {i j : Nat} (hi : i < ps.length) (hj : j < ps.length) (e : ps[i].1 = ps[j].1) : i = j := by
  have h2 := List.pairwise_iff_getElem.1 h.2
  rcases Nat.lt_trichotomy i j with hl | hl | hl
  · exact (h2 i j (by simpa using hi) (by simpa using hj) hl (by simp [e])).elim
  · exact hl
  · exact (h2 j i (by simpa using hj) (by simpa using hi) hl (by simp [e])).elim
section
variable {s : GState}
theorem names_cell {v : GVal} {k : Int} (h : namesB s v k = true) : ∃ (n : Nat) (hn : n < s.cells.length), v = ⟨5, n⟩ ∧ cellAt s v.n = s.cells[n] ∧ s.cells[n].kind = k := by
  simp only [namesB, Bool.and_eq_true, decide_eq_true_eq] at h
  obtain ⟨⟨⟨h1, h2⟩, h3⟩, h4⟩ := h
  obtain ⟨n, hn⟩ : ∃ n : Nat, v.n = n := ⟨v.n.toNat, by omega⟩
  have hnl : n < s.cells.length := by omega
  have hat : cellAt s v.n = s.cells[n] := by rw [hn]; exact at_nat hnl
  exact ⟨n, hnl, by cases v; simp_all, hat, by rw [← hat]; exact h4⟩
theorem cell_vals (h : cellsQ wordsT s = 0) {n : Nat} (hn : n < s.cells.length) : (∀ v ∈ s.cells[n].vals, fitsB s v = true) ∧ (s.cells[n].kind ≠ 7 → s.cells[n].vals.length ≤ 100) ∧ s.cells[n].vals.length ≤ 600 := by
  obtain ⟨d, m, fl, nm⟩ := heap_cell h hn
  obtain ⟨d1, d2, d3, d4⟩ := cellB_parts d
  refine ⟨List.all_eq_true.1 d3, fun e => ?_, ?_⟩
  · simp [manyB, e] at m; omega
  · simp only [manyB, Bool.and_eq_false_iff, decide_eq_false_iff_not, Bool.or_eq_false_iff] at m
    omega
end
end Go.Proofs.YtbphdcffpobcbaaGreatDoor

namespace Go.Proofs.YtbphdcffpobcbaaGreatDoor.Flt
open Ieee Ieee.Datum
abbrev Dbl := Ieee.double
theorem sw : Dbl.signWeight = 9223372036854775808 := by decide +kernel
theorem bn : Dbl.binade = 4503599627370496 := by decide +kernel
theorem lp : Dbl.leastPlace = -1074 := by decide +kernel
theorem inr : Dbl.infRung = 9218868437227405312 := by decide +kernel
theorem shl_pow (a k : Nat) : a <<< k = a * 2 ^ k := Nat.shiftLeft_eq a k
theorem cut_zero (s : Bool) (n drop : Nat) : Toward.zero.cut s n drop = n / 2 ^ drop := by
  unfold Toward.cut
  simp only [Bool.toNat_false, Nat.add_zero, Nat.one_shiftLeft]
  rcases Nat.le_total drop (n.log2 + 2) with h | h
  · rw [Nat.min_eq_left h]
  · rw [Nat.min_eq_right h]
    have h1 : n < 2 ^ (n.log2 + 2) := Nat.lt_of_lt_of_le (Nat.lt_log2_self (n := n)) (Nat.pow_le_pow_right (by omega) (by omega))
    have h2 : n < 2 ^ drop := Nat.lt_of_lt_of_le h1 (Nat.pow_le_pow_right (by omega) h)
    rw [Nat.div_eq_of_lt h1, Nat.div_eq_of_lt h2]
theorem cut_even0 (s : Bool) (n : Nat) : Toward.even.cut s n 0 = n := by
  unfold Toward.cut
  simp
  omega
theorem cut_even_ge (s : Bool) (n drop : Nat) : n / 2 ^ drop ≤ Toward.even.cut s n drop := by
  unfold Toward.cut
  simp only [Nat.one_shiftLeft]
  rcases Nat.le_total drop (n.log2 + 2) with h | h
  · rw [Nat.min_eq_left h]; exact Nat.le_add_right _ _
  · have h1 : n < 2 ^ (n.log2 + 2) := Nat.lt_of_lt_of_le (Nat.lt_log2_self (n := n)) (Nat.pow_le_pow_right (by omega) (by omega))
    have h2 : n < 2 ^ drop := Nat.lt_of_lt_of_le h1 (Nat.pow_le_pow_right (by omega) h)
    rw [Nat.div_eq_of_lt h2]; exact Nat.zero_le _
theorem read_word (s : Bool) {r : Nat} (h : r ≤ 9218868437227405312) : Dbl.read (Dbl.word s r) = if r < 4503599627370496 then .number s r (-1074) else if r < 9218868437227405312 then .number s (4503599627370496 + r % 4503599627370496) (-1074 + (r / 4503599627370496 - 1 : Nat)) else .infinity s := by
  have e1 : (Dbl.word s r / 9223372036854775808 % 2 == 1) = s := by
    unfold Format.word
    rw [sw]
    cases s
    · simp; omega
    · simp; omega
  have e2 : Dbl.word s r % 9223372036854775808 = r := by
    unfold Format.word
    rw [sw]
    cases s
    · simp; omega
    · simp; omega
  unfold Format.read
  simp only [sw, bn, lp, inr, e1, e2]
  split
  · rfl
  · split
    · rfl
    · rw [if_pos (by omega)]
def whole (m : Nat) (i : Int) : Nat := (m <<< i.toNat) / 2 ^ (-i).toNat
theorem integral_eq (s : Bool) (m : Nat) (i : Int) : (Datum.number s m i).integral .zero = .number s (whole m i) 0 := by
  unfold Datum.integral whole
  simp only [cut_zero]
theorem toInt_eq (s : Bool) (m : Nat) (i : Int) : (Datum.number s m i).toInt .zero = some (signed s (whole m i) 0) := by
  unfold Datum.toInt
  rw [integral_eq]
theorem write_small (s : Bool) {M : Nat} (h : M < 9007199254740992) : ∃ m i : Nat, Dbl.read (Dbl.write (.number s M 0)) = .number s m (-(i : Int)) ∧ m = M * 2 ^ i := by
  show ∃ m i : Nat, Dbl.read (Dbl.nearest s M 0) = .number s m (-(i : Int)) ∧ m = M * 2 ^ i
  unfold Format.nearest
  by_cases h0 : M = 0
  · subst h0
    rw [if_pos rfl, read_word s (by omega), if_pos (by omega)]
    obtain ⟨e, he⟩ : ∃ e : Nat, e = 1074 := ⟨_, rfl⟩
    exact ⟨0, e, by rw [he]; rfl, (Nat.zero_mul _).symm⟩
  · rw [if_neg h0]
    have hl : M.log2 ≤ 52 := by
      have := (Nat.log2_lt h0 (k := 53)).2 (by omega)
      omega
    have hlast : max ((0 : Int) + (M.log2 : Nat) - (Dbl.fractionBits : Nat)) Dbl.leastPlace = -((52 - M.log2 : Nat) : Int) := by
      rw [lp, show Dbl.fractionBits = 52 from rfl]
      omega
    simp only [hlast]
    have e1 : (-((52 - M.log2 : Nat) : Int) - 0).toNat = 0 := by omega
    have e2 : ((0 : Int) - -((52 - M.log2 : Nat) : Int)).toNat = 52 - M.log2 := by omega
    rw [e1, e2, cut_even0, shl_pow, lp, bn, inr]
    have e3 : (-((52 - M.log2 : Nat) : Int) - -1074).toNat = 1074 - (52 - M.log2) := by omega
    rw [e3]
    have k1 : 2 ^ M.log2 ≤ M := Nat.log2_self_le h0
    have k2 : M < 2 ^ (M.log2 + 1) := Nat.lt_log2_self
    have hp : 2 ^ M.log2 * 2 ^ (52 - M.log2) = 4503599627370496 := by rw [← Nat.pow_add, show M.log2 + (52 - M.log2) = 52 by omega]
    have hp2 : 2 ^ (M.log2 + 1) * 2 ^ (52 - M.log2) = 9007199254740992 := by rw [← Nat.pow_add, show M.log2 + 1 + (52 - M.log2) = 53 by omega]
    have g1 : 4503599627370496 ≤ M * 2 ^ (52 - M.log2) := by rw [← hp]; exact Nat.mul_le_mul_right _ k1
    have g2 : M * 2 ^ (52 - M.log2) < 9007199254740992 := by rw [← hp2]; exact Nat.mul_lt_mul_of_pos_right k2 (Nat.two_pow_pos _)
    generalize hK : M * 2 ^ (52 - M.log2) = kept at *
    generalize M.log2 = L at *
    have hr : (1074 - (52 - L)) * 4503599627370496 + kept < 9218868437227405312 := by omega
    rw [Nat.min_eq_left (by omega), read_word s (by omega), if_neg (by omega), if_pos hr]
    refine ⟨kept, 52 - L, ?_, hK.symm⟩
    have d1 : ((1074 - (52 - L)) * 4503599627370496 + kept) % 4503599627370496 = kept - 4503599627370496 := by omega
    have d2 : ((1074 - (52 - L)) * 4503599627370496 + kept) / 4503599627370496 = 1074 - (52 - L) + 1 := by omega
    have d3 : 4503599627370496 + (kept - 4503599627370496) = kept := by omega
    have d4 : (-1074 + ((1074 - (52 - L) + 1 - 1 : Nat) : Int)) = -((52 - L : Nat) : Int) := by omega
    rw [d1, d2, d3, d4]
theorem write_great (s : Bool) {M : Nat} (h : 9007199254740992 ≤ M) : Dbl.read (Dbl.write (.number s M 0)) = .infinity s ∨ ∃ m i : Nat, Dbl.read (Dbl.write (.number s M 0)) = .number s m i ∧ 4503599627370496 ≤ m := by
  show Dbl.read (Dbl.nearest s M 0) = .infinity s ∨ ∃ m i : Nat, Dbl.read (Dbl.nearest s M 0) = .number s m i ∧ 4503599627370496 ≤ m
  unfold Format.nearest
  rw [if_neg (by omega)]
  have hl : 53 ≤ M.log2 := (Nat.le_log2 (by omega)).2 (by omega)
  have hlast : max ((0 : Int) + (M.log2 : Nat) - (Dbl.fractionBits : Nat)) Dbl.leastPlace = ((M.log2 - 52 : Nat) : Int) := by
    rw [lp, show Dbl.fractionBits = 52 from rfl]
    omega
  simp only [hlast]
  have e1 : (((M.log2 - 52 : Nat) : Int) - 0).toNat = M.log2 - 52 := by omega
  have e2 : ((0 : Int) - ((M.log2 - 52 : Nat) : Int)).toNat = 0 := by omega
  rw [e1, e2, lp, bn, inr]
  have e3 : (((M.log2 - 52 : Nat) : Int) - -1074).toNat = 1074 + (M.log2 - 52) := by omega
  rw [e3]
  have k1 : 2 ^ M.log2 ≤ M := Nat.log2_self_le (by omega)
  have g1 : 4503599627370496 ≤ Toward.even.cut s (M <<< 0) (M.log2 - 52) := by
    refine Nat.le_trans ?_ (cut_even_ge s _ _)
    rw [Nat.shiftLeft_zero, Nat.le_div_iff_mul_le (Nat.two_pow_pos _), show 4503599627370496 = 2 ^ 52 from rfl, ← Nat.pow_add, show 52 + (M.log2 - 52) = M.log2 by omega]
    exact k1
  generalize Toward.even.cut s (M <<< 0) (M.log2 - 52) = kept at *
  generalize M.log2 = L at *
  rw [read_word s (Nat.min_le_right _ _)]
  have hr : 1076 * 4503599627370496 ≤ min ((1074 + (L - 52)) * 4503599627370496 + kept) 9218868437227405312 := by omega
  generalize min ((1074 + (L - 52)) * 4503599627370496 + kept) 9218868437227405312 = r at *
  rw [if_neg (by omega)]
  split
  · right
    refine ⟨4503599627370496 + r % 4503599627370496, r / 4503599627370496 - 1 - 1074, ?_, by omega⟩
    congr 1
    omega
  · exact .inl rfl
theorem sgn (s : Bool) (m k : Nat) : signed s m k = if s then -((m * 2 ^ k : Nat) : Int) else ((m * 2 ^ k : Nat) : Int) := by
  unfold signed; rw [shl_pow]
theorem cmp_lt {a b : Int} : (compare a b == .lt) = decide (a < b) := by
  rw [Bool.eq_iff_iff]; simp [compare, compareOfLessAndEq]; split <;> simp_all
theorem cmp_eq {a b : Int} : (compare a b == .eq) = decide (a = b) := by
  rw [Bool.eq_iff_iff]; simp [compare, compareOfLessAndEq]; split <;> (try split) <;> simp_all <;> omega
theorem cmp_gt {a b : Int} : (compare a b == .gt) = decide (b < a) := by
  rw [Bool.eq_iff_iff]; simp [compare, compareOfLessAndEq]; split <;> (try split) <;> simp_all <;> omega
theorem mul_pow_lt {a b : Int} (k : Nat) : a * 2 ^ k < b * 2 ^ k ↔ a < b := by
  have : (0 : Int) < 2 ^ k := Int.pow_pos (by omega)
  exact ⟨fun h => Int.lt_of_mul_lt_mul_right h (Int.le_of_lt this), fun h => Int.mul_lt_mul_of_pos_right h this⟩
theorem cmp_scale {a b : Int} (k : Nat) : compare (a * 2 ^ k) (b * 2 ^ k) = compare a b := by
  have h0 : (0 : Int) < 2 ^ k := Int.pow_pos (by omega)
  have h1 := mul_pow_lt (a := a) (b := b) k
  have h2 : a * 2 ^ k = b * 2 ^ k ↔ a = b := ⟨fun e => Int.eq_of_mul_eq_mul_right (by omega) e, fun e => by rw [e]⟩
  simp only [compare, compareOfLessAndEq, h1, h2]
def sv (s : Bool) (M : Nat) : Int := if s then -(M : Int) else M
theorem sgn_sv (s : Bool) (m k : Nat) : signed s m k = sv s m * 2 ^ k := by
  rw [sgn]; unfold sv
  cases s <;> simp [Int.neg_mul]
theorem order_exact (s t : Bool) (M C i p : Nat) : (Datum.number s (M * 2 ^ i) (-(i : Int))).order (.number t (C * 2 ^ p) (-(p : Int))) = some (compare (sv s M) (sv t C)) := by
  unfold Datum.order
  simp only
  rw [sgn_sv, sgn_sv]
  have e1 : sv s (M * 2 ^ i) = sv s M * 2 ^ i := by unfold sv; cases s <;> simp [Int.neg_mul]
  have e2 : sv t (C * 2 ^ p) = sv t C * 2 ^ p := by unfold sv; cases t <;> simp [Int.neg_mul]
  rw [e1, e2, Int.mul_assoc, Int.mul_assoc, ← Int.pow_add, ← Int.pow_add]
  have e3 : i + (-(i : Int) - min (-(i : Int)) (-(p : Int))).toNat = max i p := by omega
  have e4 : p + (-(p : Int) - min (-(i : Int)) (-(p : Int))).toNat = max i p := by omega
  rw [e3, e4, cmp_scale]
theorem size_lt (m C p : Nat) (i : Int) : m * 2 ^ (i - min i (-(p : Int))).toNat < C * 2 ^ p * 2 ^ (-(p : Int) - min i (-(p : Int))).toNat ↔ whole m i < C := by
  unfold whole
  rw [shl_pow, Nat.div_lt_iff_lt_mul (Nat.two_pow_pos _)]
  rcases Int.le_total 0 i with hi | hi
  · have a1 : (i - min i (-(p : Int))).toNat = i.toNat + p := by omega
    have a2 : (-(p : Int) - min i (-(p : Int))).toNat = 0 := by omega
    have a3 : (-i).toNat = 0 := by omega
    rw [a1, a2, a3, Nat.pow_add, ← Nat.mul_assoc, Nat.pow_zero, Nat.mul_one, Nat.mul_one]
    exact Nat.mul_lt_mul_right (Nat.two_pow_pos p)
  · have a1 : i.toNat = 0 := by omega
    have a2 : p + (-(p : Int) - min i (-(p : Int))).toNat = (-i).toNat + (i - min i (-(p : Int))).toNat := by omega
    rw [a1, Nat.mul_assoc C, ← Nat.pow_add, a2, Nat.pow_add, ← Nat.mul_assoc, Nat.pow_zero, Nat.mul_one]
    exact Nat.mul_lt_mul_right (Nat.two_pow_pos _)
def minW : Nat := 13970166044103278592
def maxW : Nat := 4746794007244308480
def hiW : Nat := 4746794007248502784
def loW : Nat := 13970166044105375744
theorem read_min : Dbl.read minW = .number true (2147483648 * 2 ^ 21) (-(21 : Nat)) := by decide +kernel
theorem read_max : Dbl.read maxW = .number false (2147483647 * 2 ^ 22) (-(22 : Nat)) := by decide +kernel
theorem read_hi : Dbl.read hiW = .number false (2147483648 * 2 ^ 21) (-(21 : Nat)) := by decide +kernel
theorem read_lo : Dbl.read loW = .number true (2147483649 * 2 ^ 21) (-(21 : Nat)) := by decide +kernel
def inW (N : Int) : Bool := decide (-2147483648 ≤ N) && decide (N ≤ 2147483647)
theorem some_beq {α : Type} [BEq α] {a b : α} : (some a == some b) = (a == b) := rfl
theorem code_number (s : Bool) (m : Nat) (i : Int) (X : Nat) (hX : X = Dbl.write ((Datum.number s m i).integral .zero)) :
    ((Dbl.order X minW == some .gt || Dbl.order X minW == some .eq) && (Dbl.order X maxW == some .lt || Dbl.order X maxW == some .eq)) = inW (sv s (whole m i)) := by
  rw [integral_eq] at hX
  unfold Format.order
  rw [read_min, read_max]
  generalize whole m i = M at *
  subst hX
  rcases Nat.lt_or_ge M 9007199254740992 with h | h
  · obtain ⟨a, k, h1, rfl⟩ := write_small s h
    rw [h1, order_exact, order_exact]
    simp only [some_beq, cmp_lt, cmp_eq, cmp_gt]
    unfold inW sv
    rw [Bool.eq_iff_iff]
    cases s <;> simp <;> omega
  · have hout : inW (sv s M) = false := by unfold inW sv; cases s <;> simp <;> omega
    rw [hout]
    rcases write_great s h with h1 | ⟨a, k, h1, h2⟩
    · rw [h1]; cases s <;> rfl
    · rw [h1]
      unfold Datum.order
      simp only [sgn]
      have e1 : ((k : Int) - min (k : Int) (-(21 : Nat))).toNat = k + 21 := by omega
      have e2 : ((-(21 : Nat) : Int) - min (k : Int) (-(21 : Nat))).toNat = 0 := by omega
      have e3 : ((k : Int) - min (k : Int) (-(22 : Nat))).toNat = k + 22 := by omega
      have e4 : ((-(22 : Nat) : Int) - min (k : Int) (-(22 : Nat))).toNat = 0 := by omega
      rw [e1, e2, e3, e4]
      have g1 : 4503599627370496 * 2 ^ 21 ≤ a * 2 ^ (k + 21) := Nat.mul_le_mul h2 (Nat.pow_le_pow_right (by omega) (by omega))
      have g2 : 4503599627370496 * 2 ^ 22 ≤ a * 2 ^ (k + 22) := Nat.mul_le_mul h2 (Nat.pow_le_pow_right (by omega) (by omega))
      generalize a * 2 ^ (k + 21) = p at *
      generalize a * 2 ^ (k + 22) = q at *
      simp only [some_beq, cmp_lt, cmp_eq, cmp_gt]
      cases s <;> simp <;> omega
theorem code_int (s : Bool) (m : Nat) (i : Int) (h : inW (sv s (whole m i)) = true) : (Dbl.read (Dbl.write ((Datum.number s m i).integral .zero))).toInt .zero = some (sv s (whole m i)) := by
  rw [integral_eq]
  generalize whole m i = M at *
  have hM : M < 9007199254740992 := by unfold inW sv at h; cases s <;> simp at h <;> omega
  obtain ⟨a, k, h1, rfl⟩ := write_small s hM
  rw [h1, toInt_eq]
  have : whole (M * 2 ^ k) (-(k : Int)) = M := by
    unfold whole
    have a1 : (-(k : Int)).toNat = 0 := by omega
    have a2 : (- -(k : Int)).toNat = k := by omega
    rw [a1, a2, Nat.shiftLeft_zero, Nat.mul_div_cancel _ (Nat.two_pow_pos k)]
  rw [this, sgn_sv]
  simp
theorem code_inf (s : Bool) : Dbl.write (Datum.integral .zero (.infinity s)) = Dbl.word s 9218868437227405312 := by
  show Dbl.word s Dbl.infRung = _
  rw [inr]
theorem order_inf (s : Bool) : ((Dbl.order (Dbl.word s 9218868437227405312) minW == some .gt || Dbl.order (Dbl.word s 9218868437227405312) minW == some .eq) && (Dbl.order (Dbl.word s 9218868437227405312) maxW == some .lt || Dbl.order (Dbl.word s 9218868437227405312) maxW == some .eq)) = false := by
  unfold Format.order
  rw [read_min, read_max, read_word s (Nat.le_refl _), if_neg (by omega), if_neg (by omega)]
  cases s <;> rfl
theorem doc_number {x : Nat} {s : Bool} {m : Nat} {i : Int} (hx : Dbl.read x = .number s m i) :
    ((Dbl.order x hiW == some .gt || Dbl.order x hiW == some .eq) || (Dbl.order x loW == some .lt || Dbl.order x loW == some .eq)) = !inW (sv s (whole m i)) := by
  unfold Format.order
  rw [hx, read_hi, read_lo]
  unfold Datum.order
  have g1 := size_lt m 2147483648 21 i
  have g2 := size_lt m 2147483649 21 i
  simp only [sgn]
  generalize m * 2 ^ (i - min i (-(21 : Nat))).toNat = a at *
  have g3 : 0 < 2147483648 * 2 ^ 21 * 2 ^ ((-(21 : Nat) : Int) - min i (-(21 : Nat))).toNat := Nat.mul_pos (by decide) (Nat.two_pow_pos _)
  have g4 : 0 < 2147483649 * 2 ^ 21 * 2 ^ ((-(21 : Nat) : Int) - min i (-(21 : Nat))).toNat := Nat.mul_pos (by decide) (Nat.two_pow_pos _)
  generalize 2147483648 * 2 ^ 21 * 2 ^ ((-(21 : Nat) : Int) - min i (-(21 : Nat))).toNat = b at *
  generalize 2147483649 * 2 ^ 21 * 2 ^ ((-(21 : Nat) : Int) - min i (-(21 : Nat))).toNat = c at *
  generalize whole m i = M at *
  simp only [some_beq, cmp_lt, cmp_eq, cmp_gt]
  unfold inW sv
  rw [Bool.eq_iff_iff]
  cases s <;> simp <;> omega
theorem doc_inf {x : Nat} {s : Bool} (hx : Dbl.read x = .infinity s) : ((Dbl.order x hiW == some .gt || Dbl.order x hiW == some .eq) || (Dbl.order x loW == some .lt || Dbl.order x loW == some .eq)) = true := by
  unfold Format.order
  rw [hx, read_hi, read_lo]
  cases s <;> rfl
theorem order_nan {x y : Nat} {s : Bool} {t : Nat} (hx : Dbl.read x = .nan s t) : Dbl.order x y = none := by
  unfold Format.order
  rw [hx]; rfl
theorem order_self {x : Nat} (hx : ∀ s t, Dbl.read x ≠ .nan s t) : Dbl.order x x = some .eq := by
  unfold Format.order
  cases h : Dbl.read x with
  | nan s t => exact absurd h (hx s t)
  | infinity s => cases s <;> rfl
  | number s m i =>
    unfold Datum.order
    simp [compare, compareOfLessAndEq]
end Go.Proofs.YtbphdcffpobcbaaGreatDoor.Flt

