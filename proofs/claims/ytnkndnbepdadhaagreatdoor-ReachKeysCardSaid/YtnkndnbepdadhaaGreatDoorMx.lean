/- Several texts in one. -/
import Derived.Test.YtnkndnbepdadhaaGreatDoorMo
import Derived.Test.YtnkndnbepdadhaaGreatDoorMs
import Derived.Test.YtnkndnbepdadhaaGreatDoorMw
set_option linter.unusedSimpArgs false
set_option linter.unusedVariables false
set_option maxRecDepth 100000
set_option maxHeartbeats 16000000
namespace Go.Proofs.YtnkndnbepdadhaaGreatDoor
open Go.RowKit Go
section
variable {p : GProg} {s : GState}
theorem fits_in {v : GVal} (h : fitsB s v = true) : In s.cells.length v := fun e5 => by
  simp only [fitsB, Bool.and_eq_true] at h
  have hp := right_pos h.1 (.inr e5)
  have h2 := h.2
  rw [if_neg (by omega), if_pos e5] at h2
  simp only [Bool.and_eq_true, decide_eq_true_eq] at h2
  exact ⟨hp, h2.1⟩
theorem names_inC {v : GVal} {k : Int} (h : namesB s v k = true) : In s.cells.length v := fun _ => by
  simp only [namesB, Bool.and_eq_true, decide_eq_true_eq] at h
  exact ⟨h.1.1.2, h.1.2⟩
theorem frame_parts {f : GFrame} (h : frameB p s f = true) : namesB s f.self 4 = true ∧ f.regs.all (fitsB s) = true := by
  simp only [frameB, Bool.and_eq_true] at h
  exact ⟨h.1.1.1.1.1.1.1.2, h.2⟩
theorem valsF_in {f : GFrame} (h : frameB p s f = true) (hg : 0 ≤ f.gen → f.gen < s.cells.length) : ∀ v ∈ valsF f, In s.cells.length v := fun v hv => by
  obtain ⟨h1, h2⟩ := frame_parts h
  unfold valsF at hv
  rcases List.mem_append.1 hv with hv | hv
  · rcases List.mem_cons.1 hv with rfl | hv
    · exact names_inC h1
    · exact fits_in (List.all_eq_true.1 h2 v hv)
  · split at hv
    · rename_i h0
      rw [List.mem_singleton] at hv
      subst hv
      exact fun _ => ⟨h0, hg h0⟩
    · cases hv
theorem cell_right (h : stateQ wordsT p s = 0) {c : GCell} (hc : c ∈ s.cells) : cellB s c = true ∧ heapB p s c = true := by
  obtain ⟨-, h2, -, h4⟩ := stateQ_iff.1 h
  obtain ⟨-, -, -, -, g5, -⟩ := cellsQ_iff.1 h2
  simp only [stateB, Bool.and_eq_true] at h4
  exact ⟨List.all_eq_true.1 g5 c hc, List.all_eq_true.1 h4.1.1.1.2 c hc⟩
theorem cell_saved (h : stateQ wordsT p s = 0) {c : GCell} (hc : c ∈ s.cells) {f : GFrame} (hf : f ∈ c.frames) : c.kind = 5 ∧ savedB p s f = true := by
  obtain ⟨hb, hh⟩ := cell_right h hc
  simp only [cellB, Bool.and_eq_true, decide_eq_true_eq] at hb
  obtain ⟨⟨⟨-, hl⟩, -⟩, -⟩ := hb
  unfold framesOf at hl
  split at hl
  · rename_i hk
    unfold heapB at hh
    rw [if_neg (by omega), if_pos hk.1] at hh
    simp only [hk.2, decide_true, Bool.not_true, Bool.false_or] at hh
    obtain ⟨k, hk2, rfl⟩ := List.getElem_of_mem hf
    obtain rfl : k = 0 := by omega
    rw [List.getD_eq_getElem?_getD, List.getElem?_eq_getElem hk2] at hh
    exact ⟨hk.1, hh⟩
  · rw [List.eq_nil_of_length_eq_zero hl] at hf; cases hf
theorem saved_parts {f : GFrame} (h : savedB p s f = true) : frameB p s f = true ∧ f.gen = -1 := by
  simp only [savedB, Bool.and_eq_true, decide_eq_true_eq] at h
  exact ⟨h.1.1.1.1, h.1.1.2⟩
def unp (ps : List (GVal × GVal)) : List GVal := ps.flatMap fun q => [q.1, q.2]
@[simp] theorem unp_nil : unp [] = [] := rfl
@[simp] theorem unp_cons (q : GVal × GVal) (ps : List (GVal × GVal)) : unp (q :: ps) = q.1 :: q.2 :: unp ps := rfl
theorem unp_app (a b : List (GVal × GVal)) : unp (a ++ b) = unp a ++ unp b := List.flatMap_append
theorem unp_len : ∀ ps : List (GVal × GVal), (unp ps).length = 2 * ps.length
  | [] => rfl
  | q :: ps => by simp [unp_len ps]; omega
theorem unp_at : ∀ (ps : List (GVal × GVal)) (j : Nat), (unp ps)[2 * j]? = (ps[j]?).map (·.1) ∧ (unp ps)[2 * j + 1]? = (ps[j]?).map (·.2)
  | [], j => by simp
  | q :: ps, 0 => by simp
  | q :: ps, j + 1 => by
    have := unp_at ps j
    rw [show 2 * (j + 1) = 2 * j + 1 + 1 by omega]
    simpa using this
theorem unp_ex : ∀ (n : Nat) (l : List GVal), l.length = 2 * n → ∃ ps : List (GVal × GVal), l = unp ps ∧ ps.length = n
  | 0, l, h => ⟨[], by simpa using h, rfl⟩
  | n + 1, [], h => by simp at h
  | n + 1, [_], h => by simp at h; omega
  | n + 1, a :: b :: l, h => by
    obtain ⟨ps, rfl, h2⟩ := unp_ex n l (by simp at h; omega)
    exact ⟨(a, b) :: ps, rfl, by simp [h2]⟩
theorem unp_val {ps : List (GVal × GVal)} {j : Nat} (h : j < ps.length) : valAt (unp ps) (2 * j) = ps[j].1 ∧ valAt (unp ps) (2 * j + 1) = ps[j].2 := by
  unfold valAt
  rw [List.getD_eq_getElem?_getD, List.getD_eq_getElem?_getD, (unp_at ps j).1, (unp_at ps j).2, List.getElem?_eq_getElem h]
  exact ⟨rfl, rfl⟩
theorem unp_mem {ps : List (GVal × GVal)} {v : GVal} : v ∈ unp ps ↔ ∃ q ∈ ps, v = q.1 ∨ v = q.2 := by
  simp [unp]
theorem weak_iff {l : List GVal} : weakB l = true ↔ ∃ ps : List (GVal × GVal), l = unp ps ∧ (∀ q ∈ ps, q.1.kind = 5) ∧ (ps.map (·.1.n)).Nodup := by
  constructor
  · intro h
    simp only [weakB, Bool.and_eq_true, decide_eq_true_eq, List.all_eq_true, List.mem_range] at h
    obtain ⟨ps, rfl, hn⟩ := unp_ex (l.length / 2) l (by omega)
    have hk : ∀ j (hj : j < ps.length), ps[j].1.kind = 5 ∧ ∀ i (hi : i < j), ps[i].1.n ≠ ps[j].1.n := fun j hj => by
      have := h.2 j (by rw [unp_len]; omega)
      simp only [keyB, Bool.and_eq_true, decide_eq_true_eq, List.all_eq_true, List.mem_range, Bool.not_eq_true', decide_eq_false_iff_not, (unp_val hj).1] at this
      refine ⟨this.1, fun i hi => ?_⟩
      have h2 := this.2 i hi
      rwa [(unp_val (show i < ps.length by omega)).1] at h2
    refine ⟨ps, rfl, fun q hq => ?_, ?_⟩
    · obtain ⟨j, hj, rfl⟩ := List.getElem_of_mem hq
      exact (hk j hj).1
    · rw [List.nodup_iff_pairwise_ne, List.pairwise_iff_getElem]
      intro i j hi hj hij
      simp only [List.length_map] at hi hj
      rw [List.getElem_map, List.getElem_map]
      exact (hk j hj).2 i hij
  · rintro ⟨ps, rfl, h1, h2⟩
    simp only [weakB, Bool.and_eq_true, decide_eq_true_eq, List.all_eq_true, List.mem_range]
    refine ⟨by rw [unp_len]; omega, fun j hj => ?_⟩
    rw [unp_len] at hj
    have hj' : j < ps.length := by omega
    simp only [keyB, Bool.and_eq_true, decide_eq_true_eq, List.all_eq_true, List.mem_range, Bool.not_eq_true', decide_eq_false_iff_not, (unp_val hj').1]
    refine ⟨h1 _ (List.getElem_mem hj'), fun i hi => ?_⟩
    rw [(unp_val (show i < ps.length by omega)).1]
    rw [List.nodup_iff_pairwise_ne, List.pairwise_iff_getElem] at h2
    have := h2 i j (by simpa using (show i < ps.length by omega)) (by simpa using hj') hi
    rwa [List.getElem_map, List.getElem_map] at this
theorem kind_weak {c : GCell} (h : kindB s c = true) (hk : c.kind = 7) : c.num = 0 ∧ weakB c.vals = true := by
  unfold kindB at h
  rw [if_neg (by omega), if_neg (by omega), if_neg (by omega), if_neg (by omega), if_neg (by omega), if_neg (by omega), if_neg (by omega), if_pos hk] at h
  simpa using h
theorem cellB_parts {c : GCell} (h : cellB s c = true) : kindB s c = true ∧ c.frames.length = framesOf c ∧ c.vals.all (fitsB s) = true ∧ c.frames.all (frameFits s) = true := by
  simp only [cellB, Bool.and_eq_true, decide_eq_true_eq] at h
  exact ⟨h.1.1.1, h.1.1.2, h.1.2, h.2⟩
theorem thread_on {t : GThread} (h : threadB p s t = true) : fitsB s t.val = true ∧ (t.state = 1 → namesB s ⟨5, t.on⟩ 6 = true) := by
  simp only [threadB, Bool.and_eq_true] at h
  refine ⟨h.1.1.1.2, fun e => ?_⟩
  have := h.1.2
  rwa [onB, if_pos e] at this
theorem end_names (h : stateQ wordsT p s = 0) {e : GEnd} (he : e ∈ s.ends) : btw e.cell 0 (s.cells.length - 1) = true ∧ namesB s e.fn 4 = true := by
  obtain ⟨-, h2, -, -⟩ := stateQ_iff.1 h
  obtain ⟨-, -, -, -, -, -, g7⟩ := cellsQ_iff.1 h2
  have := List.all_eq_true.1 g7 e he
  simpa only [endB, Bool.and_eq_true] using this
theorem at_mem {m : Nat} (hm : m < s.cells.length) : cellAt s m ∈ s.cells := by rw [at_nat hm]; exact List.getElem_mem hm
theorem goodS_of (h : stateQ wordsT p s = 0) : GoodS s := by
  refine ⟨fun v hv => ?_, fun m hm v hv => ?_, fun m hm hk => ?_, fun m hm => ?_⟩
  · rcases List.mem_append.1 hv with hv | hv
    · obtain ⟨t, ht, hv⟩ := List.mem_flatMap.1 hv
      have hT := (state_thread h ht).1
      rcases List.mem_append.1 hv with hv | hv
      · obtain ⟨f, hf, hv⟩ := List.mem_flatMap.1 hv
        exact valsF_in (thread_frames h ht hf) (thread_gens h ht hf) v hv
      · rcases List.mem_cons.1 hv with rfl | hv
        · exact fits_in (thread_on hT).1
        · split at hv
          · rename_i e
            rw [List.mem_singleton] at hv
            subst hv
            exact names_inC ((thread_on hT).2 e)
          · cases hv
    · obtain ⟨e, he, rfl⟩ := List.mem_map.1 hv
      exact names_inC (end_names h he).2
  · have hc := at_mem (s := s) hm
    obtain ⟨-, -, h3, -⟩ := cellB_parts (cell_right h hc).1
    rcases List.mem_append.1 hv with hv | hv
    · exact fits_in (List.all_eq_true.1 h3 v hv)
    · obtain ⟨f, hf, hv⟩ := List.mem_flatMap.1 hv
      obtain ⟨q1, q2⟩ := saved_parts (cell_saved h hc hf).2
      exact valsF_in q1 (fun h0 => by omega) v hv
  · obtain ⟨ps, e, h1, -⟩ := weak_iff.1 (kind_weak (cellB_parts (cell_right h (at_mem hm)).1).1 hk).2
    rw [e, unp_len]
    refine ⟨by omega, fun k hk => ?_⟩
    have hk' : k < ps.length := by omega
    rw [(unp_val hk').1]
    exact h1 _ (List.getElem_mem hk')
  · exact Nat.le_trans (cell_frames h (at_mem hm)).1 (by omega)
end
def keepP (b : List Bool) : List GVal → List GVal
  | k :: v :: l => if b.getD k.n.toNat false = true then k :: v :: keepP b l else keepP b l
  | _ => []
def colC (b : List Bool) (n : Nat) (c : GCell) : GCell := if b.getD n false = true then (if c.kind = 7 then ⟨c.kind, c.num, keepP b c.vals, c.frames⟩ else c) else ⟨0, 0, [], []⟩
def colS (b : List Bool) (s : GState) : GState := ⟨s.cells.mapIdx (colC b), s.shapes, s.texts, s.threads, s.ends, s.said, s.asked, s.steps⟩
structure SeenB (s : GState) (b : List Bool) : Prop where
  len : b.length = s.cells.length
  iff : ∀ n, b.getD n false = true ↔ Got s n
theorem keepP_unp (b : List Bool) : ∀ ps : List (GVal × GVal), keepP b (unp ps) = unp (ps.filter fun q => b.getD q.1.n.toNat false)
  | [] => rfl
  | q :: ps => by
    rw [unp_cons, keepP, keepP_unp b ps, List.filter_cons]
    split <;> simp
theorem keepP_len (b : List Bool) : ∀ l : List GVal, (keepP b l).length ≤ l.length
  | [] => Nat.le_refl _
  | [_] => Nat.zero_le _
  | k :: v :: l => by
    have := keepP_len b l
    rw [keepP]
    split <;> simp <;> omega
section
variable {p : GProg} {s : GState} {b : List Bool}
theorem Got.lt (hg : GoodS s) {n : Nat} (h : Got s n) : n < s.cells.length := by
  induction h with
  | root hv hk => have := hg.root _ hv hk; omega
  | @kid m v hm h7 hv hk ih => have := hg.kid m ih v hv hk; omega
  | @key m k hm h7 hl hk5 hkey ih1 ih2 =>
    have hc : valAt (cellAt s m).vals (2 * k + 1) ∈ valsC (cellAt s m) := by
      refine List.mem_append_left _ ?_
      rw [valAt, List.getD_eq_getElem?_getD, List.getElem?_eq_getElem hl]
      exact List.getElem_mem hl
    have := hg.kid m ih1 _ hc hkey
    omega
theorem got_pair {m : Nat} (hm : Got s m) (h7 : (cellAt s m).kind = 7) {ps : List (GVal × GVal)} (e : (cellAt s m).vals = unp ps) {q : GVal × GVal} (hq : q ∈ ps) (h1 : Got s q.1.n.toNat) (h2 : q.2.kind = 5) : Got s q.2.n.toNat := by
  obtain ⟨j, hj, rfl⟩ := List.getElem_of_mem hq
  have := Got.key (s := s) (m := m) (k := j) hm h7 (by rw [e, unp_len]; omega)
  rw [e, (unp_val hj).1, (unp_val hj).2] at this
  exact this h1 h2
theorem col_len : (colS b s).cells.length = s.cells.length := by simp [colS]
theorem col_at {n : Int} (hn : n.toNat < s.cells.length) : cellAt (colS b s) n = colC b n.toNat (cellAt s n) := by
  simp [cellAt, colS, List.getD_eq_getElem?_getD, hn]
theorem SeenB.same (hb : SeenB s b) {c : GCell} {n : Nat} (h : Got s n) (h7 : c.kind ≠ 7) : colC b n c = c := by
  rw [colC, if_pos ((hb.iff n).2 h), if_neg h7]
theorem SeenB.weak (hb : SeenB s b) {c : GCell} {n : Nat} (h : Got s n) (h7 : c.kind = 7) : colC b n c = ⟨c.kind, c.num, keepP b c.vals, c.frames⟩ := by
  rw [colC, if_pos ((hb.iff n).2 h), if_pos h7]
theorem SeenB.free (hb : SeenB s b) {c : GCell} {n : Nat} (h : ¬ Got s n) : colC b n c = ⟨0, 0, [], []⟩ := by
  rw [colC, if_neg (fun e => h ((hb.iff n).1 e))]
theorem SeenB.kind (hb : SeenB s b) {c : GCell} {n : Nat} (h : Got s n) : (colC b n c).kind = c.kind ∧ (colC b n c).num = c.num ∧ (colC b n c).frames = c.frames := by
  by_cases h7 : c.kind = 7
  · rw [hb.weak h h7]; exact ⟨rfl, rfl, rfl⟩
  · rw [hb.same h h7]; exact ⟨rfl, rfl, rfl⟩
theorem good_pairs (hg : GoodS s) {m : Nat} (hm : m < s.cells.length) (h7 : (cellAt s m).kind = 7) : ∃ ps : List (GVal × GVal), (cellAt s m).vals = unp ps := by
  obtain ⟨h1, -⟩ := hg.weak m hm h7
  obtain ⟨ps, e, -⟩ := unp_ex ((cellAt s m).vals.length / 2) (cellAt s m).vals (by omega)
  exact ⟨ps, e⟩
theorem got_col (hg : GoodS s) (hb : SeenB s b) (n : Nat) : Got (colS b s) n ↔ Got s n := by
  constructor
  · intro h
    induction h with
    | root hv hk => exact Got.root hv hk
    | @kid m v hm h7 hv hk ih =>
      have hl := ih.lt hg
      rw [col_at (by simpa using hl)] at h7 hv
      simp only [Int.toNat_natCast] at h7 hv
      have hk7 : (cellAt s m).kind ≠ 7 := by rw [(hb.kind ih).1] at h7; exact h7
      rw [hb.same ih hk7] at hv
      exact Got.kid ih hk7 hv hk
    | @key m k hm h7 hl2 hk5 hkey ih1 ih2 =>
      have hl := ih1.lt hg
      rw [col_at (by simpa using hl)] at h7 hl2 hkey ih2 ⊢
      simp only [Int.toNat_natCast] at h7 hl2 hkey ih2 ⊢
      have hk7 : (cellAt s m).kind = 7 := by rw [(hb.kind ih1).1] at h7; exact h7
      obtain ⟨ps, e⟩ := good_pairs hg hl hk7
      rw [hb.weak ih1 hk7, e] at hl2 hkey ih2 ⊢
      simp only [keepP_unp, unp_len] at hl2 hkey ih2 ⊢
      have hj : k < (ps.filter fun q => b.getD q.1.n.toNat false).length := by omega
      rw [(unp_val hj).2] at hkey ⊢
      rw [(unp_val hj).1] at ih2
      exact got_pair ih1 hk7 e (List.mem_filter.1 (List.getElem_mem hj)).1 ih2 hkey
  · intro h
    induction h with
    | root hv hk => exact Got.root hv hk
    | @kid m v hm h7 hv hk ih =>
      have hl := hm.lt hg
      refine Got.kid ih ?_ ?_ hk
      · rw [col_at (by simpa using hl)]
        simp only [Int.toNat_natCast]
        rw [hb.same hm h7]; exact h7
      · rw [col_at (by simpa using hl)]
        simp only [Int.toNat_natCast]
        rw [hb.same hm h7]; exact hv
    | @key m k hm h7 hl2 hk5 hkey ih1 ih2 =>
      have hl := hm.lt hg
      obtain ⟨ps, e⟩ := good_pairs hg hl h7
      rw [e, unp_len] at hl2
      rw [e] at hk5 hkey ih2 ⊢
      have hj : k < ps.length := by omega
      rw [(unp_val hj).1] at hk5 ih2
      rw [(unp_val hj).2] at hkey ⊢
      have hc : cellAt (colS b s) m = ⟨(cellAt s m).kind, (cellAt s m).num, keepP b (cellAt s m).vals, (cellAt s m).frames⟩ := by
        rw [col_at (by simpa using hl)]
        simp only [Int.toNat_natCast]
        rw [hb.weak hm h7]
      refine got_pair (q := ps[k]) ih1 (by rw [hc]; exact h7) (by rw [hc]; show keepP b (cellAt s m).vals = _; rw [e, keepP_unp]) (List.mem_filter.2 ⟨List.getElem_mem hj, (hb.iff _).2 hk5⟩) ih2 hkey
theorem seen_col (hg : GoodS s) (hb : SeenB s b) : SeenB (colS b s) b := ⟨by rw [col_len]; exact hb.len, fun n => by rw [got_col hg hb]; exact hb.iff n⟩
theorem SeenB.uniq {b' : List Bool} (hb : SeenB s b) (hb' : SeenB s b') : b = b' := by
  refine List.ext_getElem (hb.len.trans hb'.len.symm) fun n h1 h2 => ?_
  have e := (hb.iff n).trans (hb'.iff n).symm
  rw [List.getD_eq_getElem?_getD, List.getD_eq_getElem?_getD, List.getElem?_eq_getElem h1, List.getElem?_eq_getElem h2] at e
  simpa using e
theorem keepP_twice (b : List Bool) : ∀ l : List GVal, keepP b (keepP b l) = keepP b l
  | [] => rfl
  | [_] => rfl
  | k :: v :: l => by
    have := keepP_twice b l
    by_cases h : b.getD k.n.toNat false = true
    · rw [keepP, if_pos h, keepP, if_pos h, this]
    · rw [keepP, if_neg h, this]
theorem col_twice (b : List Bool) (s : GState) : colS b (colS b s) = colS b s := by
  have : (s.cells.mapIdx (colC b)).mapIdx (colC b) = s.cells.mapIdx (colC b) := by
    refine List.ext_getElem (by simp) fun n h1 h2 => ?_
    simp only [List.getElem_mapIdx]
    have hn : n < s.cells.length := by simpa using h2
    unfold colC
    by_cases h : b.getD n false = true
    · rw [if_pos h, if_pos h]
      by_cases h7 : s.cells[n].kind = 7
      · rw [if_pos h7, if_pos h7]; simp [keepP_twice]
      · rw [if_neg h7, if_neg h7]
    · rw [if_neg h, if_neg h]
  unfold colS
  simp only [this]
theorem fits_col (hb : SeenB s b) {v : GVal} (hv : v.kind = 5 → Got s v.n.toNat) (h : fitsB s v = true) : fitsB (colS b s) v = true := by
  have hin := fits_in h
  simp only [fitsB, Bool.and_eq_true] at h ⊢
  refine ⟨h.1, ?_⟩
  have h2 := h.2
  by_cases e4 : v.kind = 4
  · rw [if_pos e4] at h2 ⊢; exact h2
  rw [if_neg e4] at h2 ⊢
  by_cases e5 : v.kind = 5
  · rw [if_pos e5] at h2 ⊢
    have := hin e5
    rw [col_len, col_at (by omega), (hb.kind (hv e5)).1]
    exact h2
  · rw [if_neg e5]
theorem names_col (hb : SeenB s b) {v : GVal} {k : Int} (h : namesB s v k = true) (hv : v.kind = 5 → Got s v.n.toNat) : namesB (colS b s) v k = true ∧ (cellAt (colS b s) v.n).num = (cellAt s v.n).num := by
  simp only [namesB, Bool.and_eq_true, decide_eq_true_eq] at h ⊢
  obtain ⟨⟨⟨h1, h2⟩, h3⟩, h4⟩ := h
  rw [col_len, col_at (by omega), (hb.kind (hv h1)).1, (hb.kind (hv h1)).2.1]
  exact ⟨⟨⟨⟨h1, h2⟩, h3⟩, h4⟩, rfl⟩
def GotF (s : GState) (l : List GVal) : Prop := ∀ v ∈ l, v.kind = 5 → Got s v.n.toNat
theorem GotF.self {f : GFrame} (h : GotF s (valsF f)) : f.self.kind = 5 → Got s f.self.n.toNat := h _ (by simp [valsF])
theorem GotF.reg {f : GFrame} (h : GotF s (valsF f)) {v : GVal} (hv : v ∈ f.regs) : v.kind = 5 → Got s v.n.toNat := h _ (by simp [valsF, hv])
theorem GotF.gen {f : GFrame} (h : GotF s (valsF f)) (h0 : 0 ≤ f.gen) : Got s f.gen.toNat := h ⟨5, f.gen⟩ (by simp [valsF, h0]) rfl
theorem frameFits_col (hb : SeenB s b) {f : GFrame} (hv : GotF s (valsF f)) (h : frameFits s f = true) : frameFits (colS b s) f = true := by
  simp only [frameFits, Bool.and_eq_true] at h ⊢
  exact ⟨all_mono h.1 fun v hm => fits_col hb (hv.reg hm), fits_col hb hv.self h.2⟩
theorem frame_col (hb : SeenB s b) {f : GFrame} (hv : GotF s (valsF f)) (h : frameB p s f = true) : frameB p (colS b s) f = true := by
  simp only [frameB, Bool.and_eq_true] at h ⊢
  obtain ⟨⟨⟨⟨⟨⟨⟨⟨⟨h1, h2⟩, h3⟩, h4⟩, h5⟩, h6⟩, h7⟩, h8⟩, h9⟩, h10⟩ := h
  obtain ⟨n1, n2⟩ := names_col hb h3 hv.self
  exact ⟨⟨⟨⟨⟨⟨⟨⟨⟨h1, h2⟩, n1⟩, by rw [n2]; exact h4⟩, h5⟩, h6⟩, h7⟩, h8⟩, h9⟩, all_mono h10 fun v hm => fits_col hb (hv.reg hm)⟩
theorem saved_col (hb : SeenB s b) {f : GFrame} (hv : GotF s (valsF f)) (h : savedB p s f = true) : savedB p (colS b s) f = true := by
  simp only [savedB, Bool.and_eq_true] at h ⊢
  obtain ⟨⟨⟨⟨h1, h2⟩, h3⟩, h4⟩, h5⟩ := h
  exact ⟨⟨⟨⟨frame_col hb hv h1, h2⟩, h3⟩, h4⟩, h5⟩
theorem stack_col (hb : SeenB s b) {fs : List GFrame} {k : Nat} (hv : GotF s (valsF (fs.getD k dFrame))) (h : stackB p s fs k = true) : stackB p (colS b s) fs k = true := by
  unfold stackB at h ⊢
  simp only [Bool.and_eq_true] at h ⊢
  obtain ⟨⟨⟨h1, h2⟩, h3⟩, h4⟩ := h
  refine ⟨⟨⟨frame_col hb hv h1, h2⟩, h3⟩, ?_⟩
  by_cases hg : (fnAt p (fs.getD k dFrame).fn).gen = true
  · rw [if_pos hg] at h4 ⊢
    simp only [Bool.and_eq_true] at h4 ⊢
    obtain ⟨⟨⟨a1, a2⟩, a3⟩, a4⟩ := h4
    obtain ⟨n1, n2⟩ := names_col hb a3 (fun _ => hv.gen (by simpa using a1))
    exact ⟨⟨⟨a1, a2⟩, n1⟩, by simp only at n2; rw [n2]; exact a4⟩
  · rw [if_neg hg] at h4 ⊢; exact h4
theorem thread_col (hb : SeenB s b) {t : GThread} (ht : t ∈ s.threads) (h : threadB p s t = true) : threadB p (colS b s) t = true := by
  have hr : GotF s (valsT t) := fun v hv hk => Got.root (List.mem_append_left _ (List.mem_flatMap.2 ⟨t, ht, hv⟩)) hk
  have hon := (thread_on h).2
  simp only [threadB, Bool.and_eq_true] at h ⊢
  obtain ⟨⟨⟨⟨⟨h1, h2⟩, h3⟩, h4⟩, h5⟩, h6⟩ := h
  refine ⟨⟨⟨⟨⟨h1, h2⟩, fits_col hb (hr _ (by simp [valsT])) h3⟩, h4⟩, ?_⟩, all_mono h6 fun k hk => stack_col hb fun v hv => ?_⟩
  · unfold onB at h5 ⊢
    by_cases e1 : t.state = 1
    · rw [if_pos e1]; exact (names_col hb (hon e1) (hr _ (by simp [valsT, e1]))).1
    · rw [if_neg e1] at h5 ⊢; exact h5
  · have hk := List.mem_range.1 hk
    rw [List.getD_eq_getElem?_getD, List.getElem?_eq_getElem hk] at hv
    exact hr v (List.mem_append_left _ (List.mem_flatMap.2 ⟨_, List.getElem_mem hk, hv⟩))
theorem kind_col (hb : SeenB s b) {c : GCell} (h7 : c.kind ≠ 7) (hv : GotF s c.vals) (h : kindB s c = true) : kindB (colS b s) c = true := by
  unfold kindB at h ⊢
  by_cases e4 : c.kind = 4
  · rw [if_neg (by omega), if_neg (by omega), if_neg (by omega), if_neg (by omega), if_pos e4] at h ⊢
    simp only [Bool.and_eq_true] at h ⊢
    exact ⟨h.1, all_mono h.2 fun v hm hn => (names_col hb hn (hv v hm)).1⟩
  · by_cases e0 : c.kind = 0
    · rw [if_pos e0] at h ⊢; exact h
    rw [if_neg e0] at h ⊢
    by_cases e1 : c.kind = 1
    · rw [if_pos e1] at h ⊢; exact h
    rw [if_neg e1] at h ⊢
    by_cases e2 : c.kind = 2
    · rw [if_pos e2] at h ⊢; exact h
    rw [if_neg e2] at h ⊢
    by_cases e3 : c.kind = 3
    · rw [if_pos e3] at h ⊢; exact h
    rw [if_neg e3, if_neg e4] at h ⊢
    exact h
theorem cell_col (hg : GoodS s) (hb : SeenB s b) {n : Nat} (hn : n < s.cells.length) (h : cellB s s.cells[n] = true) : cellB (colS b s) (colC b n s.cells[n]) = true := by
  by_cases hG : Got s n
  case neg =>
    rw [hb.free hG]
    simp [cellB, kindB, framesOf]
  obtain ⟨h1, h2, h3, h4⟩ := cellB_parts h
  have hat := at_nat hn
  by_cases h7 : s.cells[n].kind = 7
  · rw [hb.weak hG h7]
    obtain ⟨k1, k2⟩ := kind_weak h1 h7
    obtain ⟨ps, e, w1, w2⟩ := weak_iff.1 k2
    have hf : s.cells[n].frames = [] := by
      rw [framesOf, if_neg (by omega)] at h2
      exact List.eq_nil_of_length_eq_zero h2
    have hw : weakB (keepP b s.cells[n].vals) = true := by
      rw [e, keepP_unp]
      exact weak_iff.2 ⟨_, rfl, fun q hq => w1 q (List.mem_filter.1 hq).1, ((List.filter_sublist (l := ps)).map _).nodup w2⟩
    have hv : (keepP b s.cells[n].vals).all (fitsB (colS b s)) = true := by
      rw [List.all_eq_true] at h3 ⊢
      intro v hv
      rw [e, keepP_unp, unp_mem] at hv
      obtain ⟨q, hq, hv⟩ := hv
      obtain ⟨hq1, hq2⟩ := List.mem_filter.1 hq
      have g1 := (hb.iff _).1 hq2
      rcases hv with rfl | rfl
      · exact fits_col hb (fun _ => g1) (h3 _ (by rw [e, unp_mem]; exact ⟨q, hq1, .inl rfl⟩))
      · exact fits_col hb (fun h5 => got_pair hG (by rw [hat]; exact h7) (by rw [hat]; exact e) hq1 g1 h5) (h3 _ (by rw [e, unp_mem]; exact ⟨q, hq1, .inr rfl⟩))
    simp only [cellB, Bool.and_eq_true, decide_eq_true_eq]
    refine ⟨⟨⟨?_, ?_⟩, hv⟩, by rw [hf]; rfl⟩
    · unfold kindB
      simp only [h7]
      rw [if_neg (by omega), if_neg (by omega), if_neg (by omega), if_neg (by omega), if_neg (by omega), if_neg (by omega), if_neg (by omega)]
      simp [k1, hw]
    · rw [hf, framesOf, if_neg (by simp only; omega)]; rfl
  · rw [hb.same hG h7]
    have hr : GotF s (valsC s.cells[n]) := fun v hv hk => Got.kid hG (by rw [hat]; exact h7) (by rw [hat]; exact hv) hk
    have hr1 : GotF s s.cells[n].vals := fun v hv => hr v (List.mem_append_left _ hv)
    simp only [cellB, Bool.and_eq_true, decide_eq_true_eq]
    refine ⟨⟨⟨kind_col hb h7 hr1 h1, h2⟩, all_mono h3 fun v hm => fits_col hb (hr1 v hm)⟩, all_mono h4 fun f hm => frameFits_col hb fun v hv => hr v (List.mem_append_right _ (List.mem_flatMap.2 ⟨f, hm, hv⟩))⟩
theorem many_col {n : Nat} {c : GCell} (h : manyB c = false) : manyB (colC b n c) = false := by
  unfold colC
  split
  · split
    · have := keepP_len b c.vals
      simp [manyB] at h ⊢
      intro h1
      have := h (by omega)
      omega
    · exact h
  · simp [manyB]
theorem heap_col (hb : SeenB s b) {n : Nat} (hn : n < s.cells.length) (h : heapB p s s.cells[n] = true) : heapB p (colS b s) (colC b n s.cells[n]) = true := by
  by_cases hG : Got s n
  case neg => rw [hb.free hG]; simp [heapB]
  have hat := at_nat hn
  by_cases h7 : s.cells[n].kind = 7
  · rw [hb.weak hG h7]; simp [heapB, h7]
  rw [hb.same hG h7]
  unfold heapB at h ⊢
  by_cases e4 : s.cells[n].kind = 4
  · rw [if_pos e4] at h ⊢; exact h
  rw [if_neg e4] at h ⊢
  by_cases e5 : s.cells[n].kind = 5
  · rw [if_pos e5] at h ⊢
    simp only [Bool.or_eq_true] at h ⊢
    refine h.imp id fun h => ?_
    by_cases hf : 0 < s.cells[n].frames.length
    · refine saved_col hb (fun v hv hk => Got.kid hG (by rw [hat]; exact h7) ?_ hk) h
      rw [hat]
      rw [List.getD_eq_getElem?_getD, List.getElem?_eq_getElem hf] at hv
      exact List.mem_append_right _ (List.mem_flatMap.2 ⟨_, List.getElem_mem hf, hv⟩)
    · have hz : s.cells[n].frames = [] := List.eq_nil_of_length_eq_zero (by omega)
      rw [hz] at h ⊢
      refine saved_col hb (fun v hv hk => ?_) h
      exfalso
      simp only [savedB, frameB, namesB, Bool.and_eq_true, decide_eq_true_eq] at h
      have := h.1.1.1.1.1.1.1.1.1.1.1.2.1.1.1
      simp [dFrame] at this
  · rw [if_neg e5]
theorem mem_col {c : GCell} (h : c ∈ (colS b s).cells) : ∃ n, ∃ hn : n < s.cells.length, c = colC b n s.cells[n] := by
  obtain ⟨n, hn, rfl⟩ := List.getElem_of_mem h
  exact ⟨n, by simpa [colS] using hn, by simp [colS]⟩
theorem col_state (h : stateQ wordsT p s = 0) (hb : SeenB s b) : stateQ wordsT p (colS b s) = 0 := by
  have hg := goodS_of h
  have h0 := h
  rw [stateQ_iff] at h ⊢
  obtain ⟨a1, a2, a3, a4⟩ := h
  refine ⟨a1, ?_, a3, ?_⟩
  · rw [cellsQ_iff] at a2 ⊢
    obtain ⟨c1, c2, c3, c4, c5, c6, c7⟩ := a2
    have c6' : (colS b s).said.all (saidB (colS b s)) = true := all_mono c6 fun v _ hv => by
      simp only [saidB, Bool.and_eq_true, decide_eq_true_eq] at hv ⊢
      exact ⟨hv.1, fits_col hb (fun e => by omega) hv.2⟩
    refine ⟨?_, c2, c3, c4, ?_, c6', ?_⟩
    · simp only [heapLarge, Bool.or_eq_false_iff, decide_eq_false_iff_not] at c1 ⊢
      obtain ⟨⟨⟨⟨⟨b1, b2⟩, b3⟩, b4⟩, b5⟩, b6⟩ := c1
      refine ⟨⟨⟨⟨⟨by rw [col_len]; exact b1, b2⟩, b3⟩, b4⟩, b5⟩, ?_⟩
      rw [List.any_eq_false] at b6 ⊢
      intro c hc
      obtain ⟨n, hn, rfl⟩ := mem_col hc
      rw [many_col (by simpa using b6 _ (List.getElem_mem hn))]
      decide
    · rw [List.all_eq_true] at c5 ⊢
      intro c hc
      obtain ⟨n, hn, rfl⟩ := mem_col hc
      exact cell_col hg hb hn (c5 _ (List.getElem_mem hn))
    · refine all_mono c7 fun e hm he => ?_
      simp only [endB, Bool.and_eq_true] at he ⊢
      refine ⟨by rw [col_len]; exact he.1, (names_col hb he.2 fun hk => Got.root (List.mem_append_right _ (List.mem_map.2 ⟨e, hm, rfl⟩)) hk).1⟩
  · simp only [stateB, Bool.and_eq_true] at a4 ⊢
    obtain ⟨⟨⟨⟨b1, b2⟩, b3⟩, b4⟩, b5⟩ := a4
    refine ⟨⟨⟨⟨b1, ?_⟩, all_mono b3 fun t hm => thread_col hb hm⟩, b4⟩, ?_⟩
    · rw [List.all_eq_true] at b2 ⊢
      intro c hc
      obtain ⟨n, hn, rfl⟩ := mem_col hc
      exact heap_col hb hn (b2 _ (List.getElem_mem hn))
    · unfold goesB at b5 ⊢
      rw [List.all_eq_true] at b5 ⊢
      intro k hk
      rw [col_len] at hk
      have := b5 k hk
      have hk := List.mem_range.1 hk
      rw [col_at (by simpa using hk), Int.toNat_natCast]
      by_cases hG : Got s k
      · by_cases h7 : (cellAt s k).kind = 7
        · rw [hb.weak hG h7]; simp [h7]
        · rw [hb.same hG h7]; exact this
      · rw [hb.free hG]; simp
end
theorem mem_set_or {α : Type} {l : List α} {i : Nat} {a x : α} (hi : i < l.length) (h : x ∈ l) : x ∈ l.set i a ∨ x = l[i] := by
  obtain ⟨j, hj, rfl⟩ := List.getElem_of_mem h
  by_cases e : j = i
  · subst e; exact .inr rfl
  · refine .inl ?_
    have : (l.set i a)[j]'(by simpa using hj) = l[j] := by rw [List.getElem_set_ne (fun h => e h.symm)]
    rw [← this]
    exact List.getElem_mem _
theorem mem_set_self {α : Type} {l : List α} {i : Nat} {a : α} (hi : i < l.length) : a ∈ l.set i a :=
  List.mem_iff_getElem.2 ⟨i, by simpa using hi, List.getElem_set_self _⟩
section
variable {p : GProg} {s : GState}
def putReg (s : GState) (th k r : Nat) (v : GVal) : GState := match s.threads[th]? with
  | some t => match t.frames[k]? with
    | some f => s.setT th (t.setF k (f.withR (f.regs.set r v)))
    | none => s
  | none => s
theorem putReg_eq {th k r : Nat} {v : GVal} (hth : th < s.threads.length) (hk : k < s.threads[th].frames.length) : putReg s th k r v = s.setT th (s.threads[th].setF k (s.threads[th].frames[k].withR (s.threads[th].frames[k].regs.set r v))) := by
  rw [putReg, List.getElem?_eq_getElem hth]
  simp only
  rw [List.getElem?_eq_getElem hk]
theorem vals_more {th k r : Nat} {v : GVal} (hth : th < s.threads.length) (hk : k < s.threads[th].frames.length) (hr : r < s.threads[th].frames[k].regs.length) : v ∈ valsS (putReg s th k r v) ∧ ∀ u ∈ valsS s, u ∈ valsS (putReg s th k r v) ∨ u = s.threads[th].frames[k].regs[r] := by
  rw [putReg_eq hth hk]
  obtain ⟨f, hf⟩ : ∃ f, f = s.threads[th].frames[k] := ⟨_, rfl⟩
  simp only [← hf] at hr ⊢
  obtain ⟨t, ht⟩ : ∃ t, t = s.threads[th] := ⟨_, rfl⟩
  simp only [← ht] at hf hk ⊢
  have hin : ∀ x ∈ valsT (t.setF k (f.withR (f.regs.set r v))), x ∈ valsS (s.setT th (t.setF k (f.withR (f.regs.set r v)))) := fun x hx =>
    List.mem_append_left _ (List.mem_flatMap.2 ⟨_, mem_set_self hth, hx⟩)
  have hfin : ∀ x ∈ valsF (f.withR (f.regs.set r v)), x ∈ valsT (t.setF k (f.withR (f.regs.set r v))) := fun x hx =>
    List.mem_append_left _ (List.mem_flatMap.2 ⟨_, mem_set_self hk, hx⟩)
  have hreg : ∀ x ∈ f.regs.set r v, x ∈ valsF (f.withR (f.regs.set r v)) := fun x hx => by
    simp [valsF, GFrame.withR, hx]
  refine ⟨hin _ (hfin _ (hreg _ (mem_set_self hr))), fun u hu => ?_⟩
  rcases List.mem_append.1 hu with hu | hu
  · obtain ⟨t', ht', hu⟩ := List.mem_flatMap.1 hu
    rcases mem_set_or (a := t.setF k (f.withR (f.regs.set r v))) hth ht' with h1 | h1
    · exact .inl (List.mem_append_left _ (List.mem_flatMap.2 ⟨t', h1, hu⟩))
    · rw [h1, ← ht] at hu
      rcases List.mem_append.1 hu with hu | hu
      · obtain ⟨g, hg, hu⟩ := List.mem_flatMap.1 hu
        rcases mem_set_or (a := f.withR (f.regs.set r v)) hk hg with h2 | h2
        · exact .inl (hin _ (List.mem_append_left _ (List.mem_flatMap.2 ⟨g, h2, hu⟩)))
        · rw [h2, ← hf] at hu
          unfold valsF at hu
          rcases List.mem_append.1 hu with hu | hu
          · rcases List.mem_cons.1 hu with rfl | hu
            · exact .inl (hin _ (hfin _ (by simp [valsF, GFrame.withR])))
            · rcases mem_set_or (a := v) hr hu with h3 | h3
              · exact .inl (hin _ (hfin _ (hreg _ h3)))
              · exact .inr h3
          · exact .inl (hin _ (hfin _ (List.mem_append_right _ hu)))
      · exact .inl (hin _ (List.mem_append_right _ hu))
  · exact .inl (List.mem_append_right _ hu)
theorem got_roots {t : GState} (hc : t.cells = s.cells) (hr : ∀ u ∈ valsS s, u.kind = 5 → u ∈ valsS t) {n : Nat} (h : Got s n) : Got t n := by
  have hat : ∀ m, cellAt t m = cellAt s m := fun m => by rw [cellAt, cellAt, hc]
  induction h with
  | root hv hk => exact Got.root (hr _ hv hk) hk
  | @kid m v hm h7 hv hk ih => exact Got.kid ih (by rw [hat]; exact h7) (by rw [hat]; exact hv) hk
  | @key m k hm h7 hl2 hk5 hkey ih1 ih2 =>
    have := Got.key (s := t) (m := m) (k := k) ih1 (by rw [hat]; exact h7) (by rw [hat]; exact hl2)
    rw [hat] at this
    exact this ih2 hkey
theorem putReg_cells {th k r : Nat} {v : GVal} : (putReg s th k r v).cells = s.cells := by
  unfold putReg
  split
  · split <;> rfl
  · rfl
theorem got_more {th k r : Nat} {v : GVal} (hth : th < s.threads.length) (hk : k < s.threads[th].frames.length) (hr : r < s.threads[th].frames[k].regs.length) (hw : s.threads[th].frames[k].regs[r].kind ≠ 5) {n : Nat} (h : Got s n) : Got (putReg s th k r v) n :=
  got_roots putReg_cells (fun u hu h5 => ((vals_more hth hk hr).2 u hu).resolve_right fun e => hw (e ▸ h5)) h
theorem got_put {th k r : Nat} {v : GVal} (hth : th < s.threads.length) (hk : k < s.threads[th].frames.length) (hr : r < s.threads[th].frames[k].regs.length) (h5 : v.kind = 5) : Got (putReg s th k r v) v.n.toNat :=
  Got.root (vals_more hth hk hr).1 h5
end
structure SameK (s t : GState) : Prop where
  texts : t.texts = s.texts
  cl : t.cells.length = s.cells.length
  tl : t.threads.length = s.threads.length
  kind : ∀ n, (cellAt t n).kind = (cellAt s n).kind
  num : ∀ n, (cellAt s n).kind = 4 ∨ (cellAt s n).kind = 5 → (cellAt t n).num = (cellAt s n).num
section
variable {p : GProg} {s t : GState}
theorem SameK.fits (h : SameK s t) : fitsB t = fitsB s := by
  funext v
  unfold fitsB
  rw [h.texts, h.cl, h.kind]
theorem SameK.names (h : SameK s t) : namesB t = namesB s := by
  funext v k
  unfold namesB
  rw [h.cl, h.kind]
theorem SameK.frameFits (h : SameK s t) : frameFits t = frameFits s := by
  funext f
  unfold Go.Proofs.YtnkndnbepdadhaaGreatDoor.frameFits
  rw [h.fits]
theorem SameK.frame (h : SameK s t) : frameB p t = frameB p s := by
  funext f
  unfold frameB
  rw [h.fits, h.names]
  cases q : namesB s f.self 4 with
  | false => simp
  | true =>
    have hk : (cellAt s f.self.n).kind = 4 := by
      simp only [namesB, Bool.and_eq_true, decide_eq_true_eq] at q
      exact q.2
    rw [h.num _ (.inl hk)]
theorem SameK.saved (h : SameK s t) : savedB p t = savedB p s := by
  funext f
  unfold savedB
  rw [h.frame]
theorem SameK.heap (h : SameK s t) : heapB p t = heapB p s := by
  funext c
  unfold heapB
  rw [h.saved]
theorem SameK.stack (h : SameK s t) : stackB p t = stackB p s := by
  funext fs k
  unfold stackB
  rw [h.frame, h.names]
  cases q : namesB s ⟨5, (fs.getD k dFrame).gen⟩ 5 with
  | false => simp only [q, Bool.and_false, Bool.false_and]
  | true =>
    have hk : (cellAt s (fs.getD k dFrame).gen).kind = 5 := by
      simp only [namesB, Bool.and_eq_true, decide_eq_true_eq] at q
      exact q.2
    simp only [q, h.num _ (.inr hk)]
theorem SameK.thread (h : SameK s t) : threadB p t = threadB p s := by
  funext x
  unfold threadB onB
  rw [h.fits, h.names, h.stack, h.tl]
def bareC (c : GCell) : GCell := if c.kind = 7 then ⟨c.kind, c.num, [], c.frames⟩ else c
def bareS (s : GState) : GState := ⟨s.cells.map bareC, s.shapes, s.texts, s.threads, s.ends, s.said, s.asked, s.steps⟩
theorem bareC_same (c : GCell) : (bareC c).kind = c.kind ∧ (bareC c).num = c.num ∧ (bareC c).frames = c.frames := by
  unfold bareC; split <;> exact ⟨rfl, rfl, rfl⟩
theorem bare_at (n : Int) : cellAt (bareS s) n = bareC (cellAt s n) := by
  simp only [cellAt, bareS, List.getD_eq_getElem?_getD, List.getElem?_map]
  cases s.cells[n.toNat]? <;> simp [bareC, dCell]
theorem bare_k : SameK s (bareS s) := ⟨rfl, by simp [bareS], rfl, fun n => by rw [bare_at]; exact (bareC_same _).1, fun n _ => by rw [bare_at]; exact (bareC_same _).2.1⟩
theorem got_bare {n : Nat} (h : Got (bareS s) n) : Got s n := by
  induction h with
  | root hv hk => exact Got.root hv hk
  | @kid m v hm h7 hv hk ih =>
    rw [bare_at] at h7 hv
    rw [(bareC_same _).1] at h7
    rw [bareC, if_neg h7] at hv
    exact Got.kid ih h7 hv hk
  | @key m k hm h7 hl2 hk5 hkey ih1 ih2 =>
    rw [bare_at] at h7 hl2
    rw [(bareC_same _).1] at h7
    rw [bareC, if_pos h7] at hl2
    simp at hl2
theorem bare_state (h : stateQ wordsT p s = 0) : stateQ wordsT p (bareS s) = 0 := by
  have hk := bare_k (s := s)
  rw [stateQ_iff] at h ⊢
  obtain ⟨a1, a2, a3, a4⟩ := h
  have hc : ∀ c ∈ (bareS s).cells, ∃ c0 ∈ s.cells, c = bareC c0 := fun c hc => by
    obtain ⟨c0, h1, h2⟩ := List.mem_map.1 hc
    exact ⟨c0, h1, h2.symm⟩
  refine ⟨a1, ?_, a3, ?_⟩
  · rw [cellsQ_iff] at a2 ⊢
    obtain ⟨c1, c2, c3, c4, c5, c6, c7⟩ := a2
    have c6' : (bareS s).said.all (saidB (bareS s)) = true := by
      have e : saidB (bareS s) = saidB s := by funext v; unfold saidB; rw [hk.fits]
      rw [e]; exact c6
    refine ⟨?_, c2, c3, c4, ?_, c6', ?_⟩
    · simp only [heapLarge, Bool.or_eq_false_iff, decide_eq_false_iff_not] at c1 ⊢
      obtain ⟨⟨⟨⟨⟨b1, b2⟩, b3⟩, b4⟩, b5⟩, b6⟩ := c1
      refine ⟨⟨⟨⟨⟨by rw [hk.cl]; exact b1, b2⟩, b3⟩, b4⟩, b5⟩, ?_⟩
      rw [List.any_eq_false] at b6 ⊢
      intro c h1
      obtain ⟨c0, h2, rfl⟩ := hc c h1
      have := b6 _ h2
      unfold bareC
      split
      · simp [manyB]
      · exact this
    · rw [List.all_eq_true] at c5 ⊢
      intro c h1
      obtain ⟨c0, h2, rfl⟩ := hc c h1
      obtain ⟨d1, d2, d3, d4⟩ := cellB_parts (c5 _ h2)
      simp only [cellB, Bool.and_eq_true, decide_eq_true_eq]
      rw [hk.fits, hk.frameFits]
      unfold bareC
      split
      · rename_i h7
        have := (kind_weak d1 h7).1
        refine ⟨⟨⟨?_, d2⟩, rfl⟩, d4⟩
        unfold kindB
        simp only [h7]
        rw [if_neg (by omega), if_neg (by omega), if_neg (by omega), if_neg (by omega), if_neg (by omega), if_neg (by omega), if_neg (by omega)]
        simp [this, weakB]
      · refine ⟨⟨⟨?_, d2⟩, d3⟩, d4⟩
        unfold kindB at d1 ⊢
        rw [hk.names]
        exact d1
    · refine all_mono c7 fun e _ he => ?_
      simp only [endB, Bool.and_eq_true] at he ⊢
      rw [hk.names, hk.cl]
      exact he
  · simp only [stateB, Bool.and_eq_true] at a4 ⊢
    obtain ⟨⟨⟨⟨b1, b2⟩, b3⟩, b4⟩, b5⟩ := a4
    refine ⟨⟨⟨⟨b1, ?_⟩, ?_⟩, b4⟩, ?_⟩
    · rw [List.all_eq_true] at b2 ⊢
      intro c h1
      obtain ⟨c0, h2, rfl⟩ := hc c h1
      have := b2 _ h2
      rw [hk.heap]
      unfold bareC
      split
      · rename_i h7; simp [heapB, h7]
      · exact this
    · rw [hk.thread]; exact b3
    · unfold goesB at b5 ⊢
      rw [List.all_eq_true] at b5 ⊢
      intro k hk2
      rw [hk.cl] at hk2
      have := b5 k hk2
      rw [bare_at, (bareC_same _).1, (bareC_same _).2.1]
      exact this
end
end Go.Proofs.YtnkndnbepdadhaaGreatDoor
