/- Several texts in one. -/
import Derived.Lib.ItoaLen
import Derived.Test.YtbphdcffpobcbaaGreatDoorMf
import Derived.Test.YtbphdcffpobcbaaGreatDoorMg
import Derived.Test.YtbphdcffpobcbaaGreatDoorMj
import Derived.Test.YtbphdcffpobcbaaGreatDoorMo
import Derived.Test.YtbphdcffpobcbaaGreatDoorMkd
import Derived.Test.YtbphdcffpobcbaaGreatDoorMla
import Derived.Test.YtbphdcffpobcbaaGreatDoorMm
import Derived.Test.YtbphdcffpobcbaaGreatDoorMn
set_option linter.unusedSimpArgs false
set_option linter.unusedVariables false
set_option maxRecDepth 100000
set_option maxHeartbeats 16000000
namespace Go.Proofs.YtbphdcffpobcbaaGreatDoor
open Go.RowKit Go
def wantP (n : Nat) (sched : List Int) (k : Nat) : Nat := if k < sched.length ∧ 0 ≤ sched.getD k 0 ∧ sched.getD k 0 < n then (sched.getD k 0).toNat else 0
def trnT (s : GState) (w i : Nat) : GThread := thrAt s (((w + i) % s.threads.length : Nat) : Int)
def accPk (s : GState) (w i : Nat) : Bool := (List.range i).all fun j => decide ((trnT s w j).state = 3) || decide ((trnT s w j).state = 4)
theorem accPk_step (s : GState) (w i : Nat) : accPk s w (i + 1) = (accPk s w i && (decide ((trnT s w i).state = 3) || decide ((trnT s w i).state = 4))) := by
  unfold accPk
  rw [List.range_succ, List.all_append]
  simp
def PickK (s : GState) (w : Nat) (K : Int → Int → Prop) : Prop :=
  (∀ i, i < s.threads.length → canB s (trnT s w i) = true → (∀ j, j < i → canB s (trnT s w j) = false) → K (((w + i) % s.threads.length : Nat) : Int) 0) ∧
  ((∀ j, j < s.threads.length → canB s (trnT s w j) = false) → K 0 (if accPk s w s.threads.length = true then 5 else 10))
theorem rem_nat {a n : Nat} : (a : Int).tmod (n : Int) = ((a % n : Nat) : Int) := by
  rw [Int.tmod_eq_emod_of_nonneg (by omega)]; omega
theorem want_cases (n : Nat) (sched : List Int) (k : Nat) :
    (¬ k < sched.length ∧ wantP n sched k = 0) ∨ (∃ h : k < sched.length, ¬ 0 ≤ sched[k] ∧ wantP n sched k = 0) ∨ (∃ h : k < sched.length, 0 ≤ sched[k] ∧ ¬ sched[k] < n ∧ wantP n sched k = 0) ∨ (∃ h : k < sched.length, 0 ≤ sched[k] ∧ sched[k] < n ∧ (sched[k] = (wantP n sched k : Nat)) ∧ wantP n sched k < n) := by
  unfold wantP
  by_cases h : k < sched.length
  · have e : sched.getD k 0 = sched[k] := by simp [List.getD_eq_getElem?_getD, h]
    rw [e]
    by_cases h1 : 0 ≤ sched[k]
    · by_cases h2 : sched[k] < n
      · refine .inr (.inr (.inr ⟨h, h1, h2, ?_⟩))
        rw [if_pos ⟨h, h1, h2⟩]; omega
      · exact .inr (.inr (.inl ⟨h, h1, h2, by rw [if_neg (fun e => h2 e.2.2)]⟩))
    · exact .inr (.inl ⟨h, h1, by rw [if_neg (fun e => h1 e.2.1)]⟩)
  · exact .inl ⟨h, by rw [if_neg (fun e => h e.1)]⟩
theorem cutR {G R : Prop} (h : R → G) (r : R) : G := h r
section
variable {s : GState} (hn : s.threads.length ≤ 5) (hon : ∀ i : Nat, i < s.threads.length → onB s (thrAt s i) = true) (hst : ∀ t ∈ s.threads, btw t.state 0 4 = true)
include hn hon in
theorem pick_ok (S : Bool) (sched : List Int) (k : Nat) {K : D → List Blk → Prop} (h : PickK s (wantP s.threads.length sched k) fun t e => K (.tup [dI t, dI e]) []) : DPure Tryz.prog 45 [pS S s, dL true (sched.map eInt), dI k] K := by
  refine fn_ok [0,1,2,6,7,8,9,10,11,12,13,37,42,43,44,53,73] [] Tryz.func45 rfl (by kernel_rfl) rfl rfl rfl rfl (by kernel_rfl) ?_
  have hc := want_cases s.threads.length sched k
  generalize wantP s.threads.length sched k = w at *
  have hw : w ≤ 5 := by rcases hc with ⟨-, e⟩ | ⟨-, -, e⟩ | ⟨-, -, -, e⟩ | ⟨-, -, -, -, e⟩ <;> omega
  have hz : ¬ k < sched.length ∨ (∃ h : k < sched.length, ¬ 0 ≤ sched[k]) ∨ (∃ h : k < sched.length, 0 ≤ sched[k] ∧ ¬ sched[k] < s.threads.length) → w = 0 := by
    rintro (a | ⟨a, b⟩ | ⟨a, b, c⟩)
    all_goals rcases hc with ⟨a', e⟩ | ⟨a', b', e⟩ | ⟨a', b', c', e⟩ | ⟨a', b', c', d', e⟩ <;> first | exact e | (exfalso; omega)
  have hs : ∀ h : k < sched.length, 0 ≤ sched[k] → sched[k] < s.threads.length → sched[k] = (w : Int) := by
    intro a b c
    rcases hc with ⟨a', e⟩ | ⟨a', b', e⟩ | ⟨a', b', c', e⟩ | ⟨a', b', c', d', e⟩ <;> first | exact d' | (exfalso; omega)
  clear hc
  have hn5 : (s.threads.length : Int) ≤ 5 := by omega
  have loop : ∀ (i : Nat), i < s.threads.length → ∃ p q : Nat, p = w + i ∧ q = (w + i) % s.threads.length ∧ q < s.threads.length ∧ IntKind.i64.wrap ((w : Int) + (i : Int)) = (p : Int) ∧ (p : Int).tmod (s.threads.length : Int) = (q : Int) ∧ trnT s w i = thrAt s q ∧ s.threads[q]? = some (thrAt s q) := fun i hi => by
    refine ⟨w + i, (w + i) % s.threads.length, rfl, rfl, Nat.mod_lt _ (by omega), ?_, rem_nat, rfl, ?_⟩
    · rw [wrap_id (by omega) (by omega)]; omega
    · have hq := Nat.mod_lt (w + i) (show 0 < s.threads.length by omega)
      have := thr_get (s := s) (n := (((w + i) % s.threads.length : Nat) : Int)) (by omega) (by omega)
      rwa [Int.toNat_natCast] at this
  have hz0 : ¬ (k < sched.length ∧ (∃ h : k < sched.length, 0 ≤ sched[k] ∧ sched[k] < s.threads.length)) → w = 0 := fun hh => by
    refine hz ?_
    by_cases a : k < sched.length
    · by_cases b : 0 ≤ sched[k]
      · exact .inr (.inr ⟨a, b, fun c => hh ⟨a, a, b, c⟩⟩)
      · exact .inr (.inl ⟨a, b⟩)
    · exact .inl a
  refine cutR (R := ?Rpick) ?pica ?picb
  case pica =>
    intro rr
    by_cases c1 : k < sched.length
    · by_cases c2 : 0 ≤ sched[k]
      · by_cases c3 : sched[k] < s.threads.length
        · have e := hs c1 c2 c3
          rw [e] at c2 c3
          simp [c1, c2, c3, e]
          intros
          refine Ev.weak (st' := ⟨_, [(0, pS S s), (1, dL true (sched.map eInt)), (2, dI k), (8, dI s.threads.length), (9, dI w), (10, dB true), (42, dI s.threads.length), (43, dI 0)], Hp.none, 0⟩) ?_ (Wk.sub (by simp))
          exact rr
        · have e := hz0 (fun h => c3 h.2.2.2)
          simp [c1, c2, c3]
          intros
          refine Ev.weak (st' := ⟨_, [(0, pS S s), (1, dL true (sched.map eInt)), (2, dI k), (8, dI s.threads.length), (9, dI w), (10, dB true), (42, dI s.threads.length), (43, dI 0)], Hp.none, 0⟩) ?_ (Wk.sub (by simp [e]))
          exact rr
      · have e := hz0 (fun h => c2 h.2.2.1)
        simp [c1, c2]
        intros
        refine Ev.weak (st' := ⟨_, [(0, pS S s), (1, dL true (sched.map eInt)), (2, dI k), (8, dI s.threads.length), (9, dI w), (10, dB true), (42, dI s.threads.length), (43, dI 0)], Hp.none, 0⟩) ?_ (Wk.sub (by simp [e]))
        exact rr
    · have e := hz0 (fun h => c1 h.1)
      simp [c1]
      intros
      refine Ev.weak (st' := ⟨_, [(0, pS S s), (1, dL true (sched.map eInt)), (2, dI k), (8, dI s.threads.length), (9, dI w), (10, dB true), (42, dI s.threads.length), (43, dI 0)], Hp.none, 0⟩) ?_ (Wk.sub (by simp [e]))
      exact rr
  case picb =>
    refine loop_ok (ks := [0,1,2,6,7,8,9,10,11,12,13,37,42,43,44,53,73]) (pl := []) (n0 := 74) (fun x : {i : Nat // i ≤ s.threads.length ∧ ∀ j, j < i → canB s (trnT s w j) = false} => [(10, dB (accPk s w x.1)), (43, dI x.1)]) (fun x => s.threads.length - x.1) ⟨0, Nat.zero_le _, fun j hj => absurd hj (Nat.not_lt_zero _)⟩ rfl (by kernel_rfl) (Wk.sub (by simp [accPk])) ?_
    rintro ⟨i, hi, hprev⟩
    by_cases h1 : i < s.threads.length
    · obtain ⟨p, q, hp, hq, hql, w1, w2, ht, hg⟩ := loop i h1
      have n0 : ¬ s.threads.length = 0 := by omega
      have n0' : ¬ (s.threads.length : Int) = 0 := by omega
      obtain ⟨g1, g2⟩ := List.getElem?_eq_some_iff.1 hg
      have hacc := accPk_step s w i
      rw [ht] at hacc
      simp [h1, w1, w2, n0, n0']
      refine can_ok S s q hql (hon q hql) ?_
      cases hcb : canB s (thrAt s q) with
      | true =>
        simp
        have := h.1 i h1 (by rw [ht]; exact hcb) hprev
        rw [← hq] at this
        exact this
      | false =>
        have hnext : ∀ j, j < i + 1 → canB s (trnT s w j) = false := fun j hj => by
          by_cases e : j = i
          · subst e; rw [ht]; exact hcb
          · exact hprev j (by omega)
        cases ha : accPk s w i with
        | false =>
          rw [ha] at hacc
          simp [hql, hg, g2]
          exact ⟨i + 1, by omega, ⟨by omega, hnext⟩, Wk.sub (by simp [hacc, wrap_add (show i < 9223372036854775807 by omega)])⟩
        | true =>
          rw [ha] at hacc
          by_cases d3 : (thrAt s q).state = 3
          · simp [hql, hg, g2, d3]
            exact ⟨i + 1, by omega, ⟨by omega, hnext⟩, Wk.sub (by simp [hacc, d3, wrap_add (show i < 9223372036854775807 by omega)])⟩
          · simp [hql, hg, g2, d3]
            exact ⟨i + 1, by omega, ⟨by omega, hnext⟩, Wk.sub (by simp [hacc, d3, wrap_add (show i < 9223372036854775807 by omega)])⟩
    · obtain rfl : i = s.threads.length := by omega
      have := h.2 hprev
      cases ha : accPk s w s.threads.length with
      | true =>
        rw [ha] at this
        simp
        exact this
      | false =>
        rw [ha] at this
        simp
        exact this
end
section
variable {s : GState} (hn : s.threads.length ≤ 5) (hon : ∀ i : Nat, i < s.threads.length → onB s (thrAt s i) = true) (hst : ∀ t ∈ s.threads, btw t.state 0 4 = true)
include hn hon hst in
theorem picked_ok (sched : List Int) (k : Nat) {K : D → List Blk → Prop} (h : PickK s (wantP s.threads.length sched k) fun t e => K (.tup [dI t, dI e]) []) : DPure Tryz.prog 15 [aD (eState s), dL true (sched.map eInt), dI k] K := by
  refine fn_ok [0,1,2,3,6,7,8,9,10,11,12,28,38,46,58] [] Tryz.func15 rfl (by kernel_rfl) rfl rfl rfl rfl (by kernel_rfl) ?_
  have hc := want_cases s.threads.length sched k
  generalize wantP s.threads.length sched k = w at *
  have hw : w ≤ 5 := by rcases hc with ⟨-, e⟩ | ⟨-, -, e⟩ | ⟨-, -, -, e⟩ | ⟨-, -, -, -, e⟩ <;> omega
  have hb : ∀ h : k < sched.length, btw sched[k] 0 (s.threads.length - 1) = true → sched[k] = (w : Int) := by
    intro a b
    simp [btw] at b
    rcases hc with ⟨a', e⟩ | ⟨a', b', e⟩ | ⟨a', b', c', e⟩ | ⟨a', b', c', d', e⟩ <;> first | exact d' | (exfalso; omega)
  have hz : ¬ (∃ h : k < sched.length, btw sched[k] 0 (s.threads.length - 1) = true) → w = 0 := by
    intro hh
    rcases hc with ⟨a', e⟩ | ⟨a', b', e⟩ | ⟨a', b', c', e⟩ | ⟨a', b', c', d', e⟩
    · exact e
    · exact e
    · exact e
    · exact absurd ⟨a', by simp [btw]; omega⟩ hh
  clear hc
  obtain ⟨W, hW⟩ : ∃ W : Nat, W = w + s.threads.length := ⟨_, rfl⟩
  have wW : IntKind.i64.wrap ((w : Int) + (s.threads.length : Int)) = (W : Int) := by rw [wrap_id (by omega) (by omega)]; omega
  have wN : IntKind.i64.wrap ((s.threads.length : Int) - 1) = (s.threads.length : Int) - 1 := wrap_id (by omega) (by omega)
  have loop : ∀ (i : Nat), i < s.threads.length → ∃ q : Nat, q = (w + i) % s.threads.length ∧ q < s.threads.length ∧ ((w + i : Nat) : Int).tmod (s.threads.length : Int) = (q : Int) ∧ trnT s w i = thrAt s q ∧ s.threads[q]? = some (thrAt s q) := fun i hi => by
    refine ⟨(w + i) % s.threads.length, rfl, Nat.mod_lt _ (by omega), rem_nat, rfl, ?_⟩
    have hq := Nat.mod_lt (w + i) (show 0 < s.threads.length by omega)
    have := thr_get (s := s) (n := (((w + i) % s.threads.length : Nat) : Int)) (by omega) (by omega)
    rwa [Int.toNat_natCast] at this
  refine cutR (R := ?Rpicked) ?pcda ?pcdb
  case pcda =>
    intro rr
    by_cases c1 : k < sched.length
    · simp [c1, wN]
      intros
      refine between_ok _ _ _ ?_
      cases c2 : btw sched[k] 0 (s.threads.length - 1) with
      | true =>
        have e := hb c1 c2
        simp [c1, e]
        refine Ev.weak (st' := ⟨_, [(1, dL true (sched.map eInt)), (2, dI k), (3, .one (.ptr 0 8 0 0)), (8, dI s.threads.length), (9, dI w), (10, dB false), (11, dI w)], Hp.none.set 0 (some ⟨.c 29, 8, [(eState s).map .d]⟩), 1⟩) ?_ (Wk.sub (by simp))
        exact rr
      | false =>
        have e := hz (fun ⟨a, b⟩ => by rw [c2] at b; cases b)
        simp
        refine Ev.weak (st' := ⟨_, [(1, dL true (sched.map eInt)), (2, dI k), (3, .one (.ptr 0 8 0 0)), (8, dI s.threads.length), (9, dI w), (10, dB false), (11, dI w)], Hp.none.set 0 (some ⟨.c 29, 8, [(eState s).map .d]⟩), 1⟩) ?_ (Wk.sub (by simp [e]))
        exact rr
    · have e := hz (fun ⟨a, b⟩ => c1 a)
      simp [c1]
      intros
      refine Ev.weak (st' := ⟨_, [(1, dL true (sched.map eInt)), (2, dI k), (3, .one (.ptr 0 8 0 0)), (8, dI s.threads.length), (9, dI w), (10, dB false), (11, dI w)], Hp.none.set 0 (some ⟨.c 29, 8, [(eState s).map .d]⟩), 1⟩) ?_ (Wk.sub (by simp [e]))
      exact rr
  case pcdb =>
    refine loop_ok (ks := [0,1,2,3,6,7,8,9,10,11,12,28,38,46,58]) (pl := []) (n0 := 59) (fun x : {i : Nat // i ≤ s.threads.length ∧ ∀ j, j < i → canB s (trnT s w j) = false} => [(10, dB (!accPk s w x.1)), (11, dI ((w + x.1 : Nat) : Int))]) (fun x => s.threads.length - x.1) ⟨0, Nat.zero_le _, fun j hj => absurd hj (Nat.not_lt_zero _)⟩ rfl (by kernel_rfl) (Wk.sub (by simp [accPk])) ?_
    rintro ⟨i, hi, hprev⟩
    by_cases h1 : i < s.threads.length
    · obtain ⟨q, hq, hql, w2, ht, hg⟩ := loop i h1
      obtain ⟨p, hp⟩ : ∃ p, p = w + i := ⟨_, rfl⟩
      simp only [← hp] at w2 ⊢
      have hpW : p < W := by omega
      have hpn : IntKind.i64.wrap ((p : Int) + 1) = ((w + (i + 1) : Nat) : Int) := by rw [wrap_id (by omega) (by omega)]; omega
      obtain ⟨p1, hp1⟩ : ∃ p1, p1 = w + (i + 1) := ⟨_, rfl⟩
      rw [← hp1] at hpn
      have n0 : ¬ s.threads.length = 0 := by omega
      have n0' : ¬ (s.threads.length : Int) = 0 := by omega
      obtain ⟨g1, g2⟩ := List.getElem?_eq_some_iff.1 hg
      have hacc := accPk_step s w i
      rw [ht] at hacc
      have hbt := hst _ (List.mem_of_getElem? hg)
      simp [wW, hpW, w2, n0, n0']
      refine canGo_ok s q hql (hon q hql) hst ?_
      cases hcb : canB s (thrAt s q) with
      | true =>
        simp
        have := h.1 i h1 (by rw [ht]; exact hcb) hprev
        rw [← hq] at this
        exact this
      | false =>
        have hnext : ∀ j, j < i + 1 → canB s (trnT s w j) = false := fun j hj => by
          by_cases e : j = i
          · subst e; rw [ht]; exact hcb
          · exact hprev j (by omega)
        cases ha : accPk s w i with
        | false =>
          rw [ha] at hacc
          simp [hpn]
          exact ⟨i + 1, by omega, ⟨by omega, hnext⟩, Wk.sub (by simp [hacc, hpn, hp1])⟩
        | true =>
          rw [ha] at hacc
          have hlt : (decide ((thrAt s q).state = 3) || decide ((thrAt s q).state = 4)) = !decide ((thrAt s q).state < 3) := by
            simp [btw] at hbt
            rw [Bool.eq_iff_iff]; simp; omega
          rw [hlt] at hacc
          simp [hql, hg, g2, hpn]
          exact ⟨i + 1, by omega, ⟨by omega, hnext⟩, Wk.sub (by simp [hacc, hpn, hp1])⟩
    · obtain rfl : i = s.threads.length := by omega
      have := h.2 hprev
      simp only [← hW]
      cases ha : accPk s w s.threads.length with
      | true =>
        rw [ha] at this
        simp [wW]
        exact this
      | false =>
        rw [ha] at this
        simp [wW]
        exact this
end
theorem textW_size {s : GState} (hq : cellsQ wordsT s = 0) {v : GVal} (hv : fitsB s v = true) : (textW s v).size ≤ 300 := by
  obtain ⟨g1, g2, g3, g4⟩ := fits_kind hv
  have hb : ∀ n : Nat, (s.texts.getD n ByteArray.empty).size ≤ 200 := fun n => by
    rw [List.getD_eq_getElem?_getD]
    by_cases h : n < s.texts.length
    · rw [List.getElem?_eq_getElem h, Option.getD_some]; exact txt_len hq (List.getElem_mem h)
    · rw [List.getElem?_eq_none (by omega), Option.getD_none]; exact Nat.zero_le _
  unfold textW
  split
  · show (3 : Nat) ≤ 300; omega
  split
  · split <;> decide
  split
  · rename_i h2
    have := Lib.itoa_length_le v.n (g3 h2).1 (g3 h2).2
    simp [ByteArray.size]
    omega
  split
  · simp [ByteArray.size, hexF_len]
  split
  · have := hb v.n.toNat; omega
  · have := hb (kindW s v).toNat
    simp only [ByteArray.size_append]
    have z1 : (⟨#[91]⟩ : ByteArray).size = 1 := rfl
    have z2 : (⟨#[93]⟩ : ByteArray).size = 1 := rfl
    omega
def bang : ByteArray := ⟨#[33, 32]⟩
noncomputable def saidK (s : GState) (k : Nat) : List ByteArray := (s.said.take k).map (textW s)
noncomputable def thrT (s : GState) (k : Nat) : List ByteArray := ((s.threads.take k).filter fun t => decide (t.state = 4)).map fun t => bang ++ textW s t.val
noncomputable def saidT (s : GState) (k : Nat) : List ByteArray := saidK s s.said.length ++ thrT s k
def txRows (l : List ByteArray) : List (List C) := l.map fun t => [.d (eS t)]
theorem saidK_next {s : GState} {k : Nat} (h : k < s.said.length) : saidK s (k + 1) = saidK s k ++ [textW s s.said[k]] := by
  unfold saidK
  rw [List.take_succ_eq_append_getElem h, List.map_append]
  rfl
theorem thrT_next {s : GState} {k : Nat} (h : k < s.threads.length) : thrT s (k + 1) = thrT s k ++ if s.threads[k].state = 4 then [bang ++ textW s s.threads[k].val] else [] := by
  unfold thrT
  rw [List.take_succ_eq_append_getElem h, List.filter_append, List.map_append]
  congr 1
  by_cases e : s.threads[k].state = 4 <;> simp [e]
theorem saidK_len (s : GState) (k : Nat) : (saidK s k).length ≤ s.said.length := by
  unfold saidK
  rw [List.length_map, List.length_take]
  omega
theorem thrT_len (s : GState) (k : Nat) : (thrT s k).length ≤ s.threads.length := by
  unfold thrT
  rw [List.length_map]
  have := List.length_filter_le (fun t : GThread => decide (t.state = 4)) (s.threads.take k)
  rw [List.length_take] at this
  omega
theorem txRows_app (a : List ByteArray) (t : ByteArray) : txRows a ++ [[.d (eS t)]] = txRows (a ++ [t]) := by simp [txRows]
theorem txRows_sol (l : List ByteArray) : ∀ e ∈ txRows l, ∀ c ∈ e, C.solidC c = true := by
  intro e he c hc
  obtain ⟨x, -, rfl⟩ := List.mem_map.1 he
  simp at hc
  subst hc
  rfl
theorem txRows_shw {H : Hp} {l : List ByteArray} {n : Nat} (h : H n = some ⟨.c 9, 1, txRows l⟩) : Shw H (fun _ => True) (.own n 1 l.length) (.sl true (l.map eStr)) :=
  Shw.row trivial h rfl (by simp) (by simp [txRows, List.take_of_length_le]) (by simp) (by simp)
structure SdS where
  k : Nat
  H : Hp
  nx : Nat
  n : Nat
structure SdI (H0 : Hp) (nx0 : Nat) (T : List ByteArray) (x : SdS) : Prop where
  n : nx0 ≤ x.n ∧ x.n < x.nx
  blk : x.H x.n = some ⟨.c 9, 1, txRows T⟩
  low : ∀ i, i < nx0 → x.H i = H0 i
  sol : HSol x.H
section
variable {s : GState} (hq : cellsQ wordsT s = 0) (hth : ∀ t ∈ s.threads, fitsB s t.val = true) (hsl : s.threads.length ≤ 5)
include hq in
theorem said_fits {k : Nat} (h : k < s.said.length) : fitsB s s.said[k] = true := by
  obtain ⟨-, -, -, -, -, h6, -⟩ := cellsQ_iff.1 hq
  have := List.all_eq_true.1 h6 _ (List.getElem_mem h)
  simp only [saidB, Bool.and_eq_true] at this
  exact this.2
include hq in
theorem said_len : s.said.length ≤ 200 := by
  have := (cellsQ_iff.1 hq).1
  simp only [heapLarge, Bool.or_eq_false_iff, decide_eq_false_iff_not] at this
  omega
include hq hth hsl in
theorem saidBy_ok {K : D → List Blk → Prop} (h : K (dL true ((saidT s s.threads.length).map eStr)) []) : DPure Tryz.prog 14 [aD (eState s)] K := by
  have hl := said_len hq
  refine DPure.ofI ?_
  refine fni_ok [0,1,2,3,5,7,9,10,11,12,23,24,25,26,31] [] Tryz.func14 rfl (by kernel_rfl) rfl rfl rfl rfl (by kernel_rfl) ?_
  simp
  intro _
  generalize hH0 : Hp.set _ _ _ = H0
  have hH0s : HSol H0 := by rw [← hH0]; exact HSol.set HSol.zero (by simp)
  have hH00 : H0 0 = some ⟨.c 29, 8, [(eState s).map .d]⟩ := by rw [← hH0]; rfl
  clear hH0
  refine loopH_ok (ks := [0,1,2,3,5,7,9,10,11,12,23,24,25,26,31]) (pl := []) (n0 := 42) (α := {x : SdS // x.k ≤ s.said.length ∧ SdI H0 1 (saidK s x.k) x}) (fun x => [(3, .one (.own x.1.n 1 (saidK s x.1.k).length)), (11, dI x.1.k)]) (fun _ x => x.1.H) (fun x => x.1.nx) (fun x => s.said.length - x.1.k)
    ⟨⟨0, H0.set 1 (some ⟨.c 9, 1, []⟩), 2, 1⟩, Nat.zero_le _, ⟨by simp, by simp [saidK, txRows], fun i hi => Hp.set_ne _ _ (by omega), HSol.set hH0s (by simp)⟩⟩ rfl (by kernel_rfl) ((Wk.emp (t := 3) 9 1 rfl).trans (Wk.sub (by simp [saidK]))) ?_
  rintro ⟨⟨k, H, nx, nO⟩, hk, ⟨⟨n1, n2⟩, hb, low, sol⟩⟩
  simp only at hk n1 n2 hb low sol
  have h0 : H 0 = some ⟨.c 29, 8, [(eState s).map .d]⟩ := by rw [low 0 (by omega), hH00]
  have hkl := saidK_len s k
  by_cases c1 : k < s.said.length
  · have hf := said_fits hq c1
    have hnext := saidK_next c1
    have e1 : ¬ nO = nx := by omega
    have e2 : ¬ nO = nx + 1 := by omega
    have e3 : ¬ 0 = nx := by omega
    have e4 : ¬ 0 = nx + 1 := by omega
    have t1 : (txRows (saidK s k)).take (saidK s k).length = txRows (saidK s k) := by simp [txRows]
    have t2 : (txRows (saidK s k)).length = (saidK s k).length := by simp [txRows]
    simp [c1, h0, e3]
    refine textIn_ok s hq s.said[k] hf ?_
    simp [hb, e1, e2, t1, t2]
    have hlen : (saidK s (k + 1)).length = (saidK s k).length + 1 := by rw [hnext]; simp
    refine ⟨?_, .inl (by omega), ⟨k + 1, (((H.set nx (some ⟨.c 31, 2, [[.d (eI s.said[k].kind), .d (eI s.said[k].n)]]⟩)).set (nx + 1) (some ⟨.c 9, 1, [[.d (eS (textW s s.said[k]))]]⟩)).set nO none).set (nx + 1 + 1) (some ⟨.c 9, 1, txRows (saidK s k) ++ [[.d (eS (textW s s.said[k]))]]⟩), nx + 1 + 1 + 1, nx + 1 + 1⟩, by simp only; omega, ⟨by simp only; omega, ⟨by simp only; omega, ?_, fun i hi => ?_, ?_⟩⟩, Wk.sub (by simp [hlen, wrap_add (show k < 9223372036854775807 by omega)])⟩
    · rintro m b' rfl
      rw [if_neg e2, if_neg e1, hb]
      intro e
      cases e
      exact ⟨rfl, rfl⟩
    · simp only
      rw [Hp.set_same, txRows_app, hnext]
    · dsimp only
      rw [Hp.set_ne _ _ (by omega), Hp.set_ne _ _ (by omega), Hp.set_ne _ _ (by omega), Hp.set_ne _ _ (by omega)]
      exact low i hi
    · dsimp only
      exact HSol.set (HSol.none (HSol.set (HSol.set sol (by simp)) (by simp))) (by rw [txRows_app]; exact txRows_sol _)
  obtain rfl : k = s.said.length := by omega
  simp [h0]
  intro _
  have hz : saidT s 0 = saidK s s.said.length := by simp [saidT, thrT]
  refine loopH_ok (ks := [0,1,2,3,5,7,9,10,11,12,23,24,25,26,31]) (pl := []) (n0 := 42) (α := {x : SdS // x.k ≤ s.threads.length ∧ SdI H0 1 (saidT s x.k) x}) (fun x => [(3, .one (.own x.1.n 1 (saidT s x.1.k).length)), (25, dI x.1.k)]) (fun _ x => x.1.H) (fun x => x.1.nx) (fun x => s.threads.length - x.1.k)
    ⟨⟨0, H, nx, nO⟩, Nat.zero_le _, ⟨⟨n1, n2⟩, by simp only; rw [hz]; exact hb, low, sol⟩⟩ rfl (by kernel_rfl) (Wk.sub (by simp [hz])) ?_
  clear hb low sol n1 n2 h0 hz hkl hk
  rintro ⟨⟨k, H, nx, nO⟩, hk, ⟨⟨n1, n2⟩, hb, low, sol⟩⟩
  simp only at hk n1 n2 hb low sol
  have h0 : H 0 = some ⟨.c 29, 8, [(eState s).map .d]⟩ := by rw [low 0 (by omega), hH00]
  have hkl := saidK_len s s.said.length
  have hkt := thrT_len s k
  have hlT : (saidT s k).length = (saidK s s.said.length).length + (thrT s k).length := by simp [saidT]
  by_cases c1 : k < s.threads.length
  · have hf := hth _ (List.getElem_mem c1)
    have hnext := thrT_next c1
    have e1 : ¬ nO = nx := by omega
    have e2 : ¬ nO = nx + 1 := by omega
    have e3 : ¬ 0 = nx := by omega
    have t1 : (txRows (saidT s k)).take (saidT s k).length = txRows (saidT s k) := by simp [txRows]
    have t2 : (txRows (saidT s k)).length = (saidT s k).length := by simp [txRows]
    by_cases c2 : s.threads[k].state = 4
    · have hsz := textW_size hq hf
      have z1 : (⟨#[33, 32]⟩ : ByteArray).size = 2 := rfl
      have z2 : 2 + (textW s s.threads[k].val).size ≤ 9223372036854775807 := by omega
      rw [if_pos c2] at hnext
      have hnx2 : saidT s (k + 1) = saidT s k ++ [⟨#[33, 32]⟩ ++ textW s s.threads[k].val] := by
        unfold saidT
        rw [hnext, ← List.append_assoc]
        rfl
      have hlen : (saidT s (k + 1)).length = (saidT s k).length + 1 := by rw [hnx2]; simp
      simp [c1, c2, h0, e3]
      refine textIn_ok s hq s.threads[k].val hf ?_
      simp [hb, e1, e2, t1, t2, z1, z2]
      refine ⟨?_, .inl (by omega), ⟨k + 1, (((H.set nx (some ⟨.c 90, 5, [[.d (.sl true (s.threads[k].frames.map eFrame)), .d (eI 4), .d (eI s.threads[k].on), .d (eI s.threads[k].val.kind), .d (eI s.threads[k].val.n)]]⟩)).set (nx + 1) (some ⟨.c 9, 1, [[.d (eS (⟨#[33, 32]⟩ ++ textW s s.threads[k].val))]]⟩)).set nO none).set (nx + 1 + 1) (some ⟨.c 9, 1, txRows (saidT s k) ++ [[.d (eS (⟨#[33, 32]⟩ ++ textW s s.threads[k].val))]]⟩), nx + 1 + 1 + 1, nx + 1 + 1⟩, by simp only; omega, ⟨by simp only; omega, ⟨by simp only; omega, ?_, fun i hi => ?_, ?_⟩⟩, Wk.sub (by simp [hlen, c2, wrap_add (show k < 9223372036854775807 by omega)])⟩
      · rintro m b' rfl
        rw [if_neg e2, if_neg e1, hb]
        intro e
        cases e
        exact ⟨rfl, rfl⟩
      · simp only
        rw [Hp.set_same, txRows_app, hnx2]
      · dsimp only
        rw [Hp.set_ne _ _ (by omega), Hp.set_ne _ _ (by omega), Hp.set_ne _ _ (by omega), Hp.set_ne _ _ (by omega)]
        exact low i hi
      · dsimp only
        exact HSol.set (HSol.none (HSol.set (HSol.set sol (by simp)) (by simp))) (by rw [txRows_app]; exact txRows_sol _)
    · rw [if_neg c2, List.append_nil] at hnext
      have hnx2 : saidT s (k + 1) = saidT s k := by unfold saidT; rw [hnext]
      simp [c1, c2, h0, e3]
      exact ⟨⟨k + 1, H.set nx (some ⟨.c 90, 5, [(eThread s.threads[k]).map .d]⟩), nx + 1, nO⟩, by simp only; omega, ⟨by simp only; omega, ⟨by simp only; omega, by simp only; rw [Hp.set_ne _ _ (by omega), hnx2]; exact hb, fun i hi => by simp only; rw [Hp.set_ne _ _ (by omega)]; exact low i hi, HSol.set sol (by simp)⟩⟩, Wk.sub (by simp [hnx2, wrap_add (show k < 9223372036854775807 by omega)])⟩
  obtain rfl : k = s.threads.length := by omega
  simp
  exact ⟨sol, dL true ((saidT s s.threads.length).map eStr), ⟨_, rfl, txRows_shw hb⟩, h⟩
end
theorem state_facts {p : GProg} {s : GState} (c1 : stateQ wordsT p s = 0) : cellsQ wordsT s = 0 ∧ s.threads.length ≤ 5 ∧ (∀ t ∈ s.threads, fitsB s t.val = true) ∧ (∀ t ∈ s.threads, btw t.state 0 4 = true) ∧ ∀ i : Nat, i < s.threads.length → onB s (thrAt s i) = true := by
  have hq := stateQ_iff.1 c1
  have hth := (state_iff.1 hq.2.2.2).2.2.1
  refine ⟨hq.2.1, ?_, fun t ht => (thread_iff.1 (List.all_eq_true.1 hth t ht)).2.2.1, fun t ht => (thread_iff.1 (List.all_eq_true.1 hth t ht)).2.2.2.1, fun i hi => (threads_on c1 hi).1⟩
  have := hq.2.2.1
  simp [stateLarge] at this
  omega
theorem says_ok (p : GProg) (hp : okP p) (s : GState) (hs : okSt s) {K : D → List Blk → Prop} (h0' : stateQ wordsT p s ≠ 0 → K (.tup [.one (.d .emp), dI (stateQ wordsT p s)]) []) (h1' : stateQ wordsT p s = 0 → K (.tup [dL true ((saidT s s.threads.length).map eStr), dI 0]) []) : DPure Tryz.prog 11 [aD (eProg p), aD (eState s)] K := by
  refine DPure.ofI ?_
  refine fni_ok [0,1,2,3,4,5,6,7,8,10,12,17,21,22,23,24,35,36,37,38,43] [] Tryz.func11 rfl (by kernel_rfl) rfl rfl rfl rfl (by kernel_rfl) ?_
  simp
  refine ⟨_, rfl, Wk.refl _, ?_⟩
  simp [vcC0]
  refine stCheck_ok p hp s hs ?_
  by_cases q1 : stateQ wordsT p s = 0
  case neg =>
    simp [q1]
    refine ⟨?_, .tup [.one (.d .emp), dI (stateQ wordsT p s)], ⟨⟨_, rfl, .d rfl⟩, ⟨_, rfl, .d rfl⟩, trivial⟩, h0' q1⟩
    repeat' (first | exact HSol.nil | exact HSol.zero | refine HSol.set ?_ ?_ | (simp; done))
  obtain ⟨hq, hsl, hth, -, -⟩ := state_facts q1
  have hl := said_len hq
  simp [q1]
  intro _
  generalize hH0 : Hp.set _ _ _ = H0
  have hH0s : HSol H0 := by
    rw [← hH0]
    repeat' (first | exact HSol.nil | exact HSol.zero | refine HSol.set ?_ ?_ | (simp; done))
  have hH01 : H0 1 = some ⟨.c 29, 8, [(eState s).map .d]⟩ := by rw [← hH0]; rfl
  have hH02 : H0 2 = some ⟨.c 65, 1, [[.ptr 1 8 0 0]]⟩ := by rw [← hH0]; rfl
  clear hH0
  refine loopH_ok (ks := [0,1,2,3,4,5,6,7,8,10,12,17,21,22,23,24,35,36,37,38,43]) (pl := []) (n0 := 54) (α := {x : SdS // x.k ≤ s.said.length ∧ SdI H0 3 (saidK s x.k) x}) (fun x => [(8, .one (.own x.1.n 1 (saidK s x.1.k).length)), (23, dI x.1.k)]) (fun _ x => x.1.H) (fun x => x.1.nx) (fun x => s.said.length - x.1.k)
    ⟨⟨0, H0.set 3 (some ⟨.c 9, 1, []⟩), 4, 3⟩, Nat.zero_le _, ⟨by simp, by simp [saidK, txRows], fun i hi => Hp.set_ne _ _ (by omega), HSol.set hH0s (by simp)⟩⟩ rfl (by kernel_rfl) ((Wk.emp (t := 8) 9 1 rfl).trans (Wk.sub (by simp [saidK]))) ?_
  rintro ⟨⟨k, H, nx, nO⟩, hk, ⟨⟨n1, n2⟩, hb, low, sol⟩⟩
  simp only at hk n1 n2 hb low sol
  have h1 : H 1 = some ⟨.c 29, 8, [(eState s).map .d]⟩ := by rw [low 1 (by omega), hH01]
  have h2 : H 2 = some ⟨.c 65, 1, [[.ptr 1 8 0 0]]⟩ := by rw [low 2 (by omega), hH02]
  have hkl := saidK_len s k
  by_cases c1 : k < s.said.length
  · have hf := said_fits hq c1
    have hnext := saidK_next c1
    have e1 : ¬ nO = nx := by omega
    have e2 : ¬ nO = nx + 1 := by omega
    have e3 : ¬ 2 = nx := by omega
    have e5 : ¬ 1 = nx := by omega
    have t1 : (txRows (saidK s k)).take (saidK s k).length = txRows (saidK s k) := by simp [txRows]
    have t2 : (txRows (saidK s k)).length = (saidK s k).length := by simp [txRows]
    simp [c1, h1, h2, e3, e5]
    refine ICall.lendL (es := [hpD true s, aD (eVal s.said[k])]) ⟨dat_shw (by simp [h1, e5]), val_shw _, trivial⟩ (heapText_ok s hq s.said[k] hf ?_)
    simp [hb, e1, e2, t1, t2]
    have hlen : (saidK s (k + 1)).length = (saidK s k).length + 1 := by rw [hnext]; simp
    refine ⟨?_, .inl (by omega), ⟨k + 1, (((H.set nx (some ⟨.c 31, 2, [[.d (eI s.said[k].kind), .d (eI s.said[k].n)]]⟩)).set (nx + 1) (some ⟨.c 9, 1, [[.d (eS (textW s s.said[k]))]]⟩)).set nO none).set (nx + 1 + 1) (some ⟨.c 9, 1, txRows (saidK s k) ++ [[.d (eS (textW s s.said[k]))]]⟩), nx + 1 + 1 + 1, nx + 1 + 1⟩, by simp only; omega, ⟨by simp only; omega, ⟨by simp only; omega, ?_, fun i hi => ?_, ?_⟩⟩, Wk.sub (by simp [hlen, wrap_add (show k < 9223372036854775807 by omega)])⟩
    · rintro m b' rfl
      rw [if_neg e2, if_neg e1, hb]
      intro e
      cases e
      exact ⟨rfl, rfl⟩
    · simp only
      rw [Hp.set_same, txRows_app, hnext]
    · dsimp only
      rw [Hp.set_ne _ _ (by omega), Hp.set_ne _ _ (by omega), Hp.set_ne _ _ (by omega), Hp.set_ne _ _ (by omega)]
      exact low i hi
    · dsimp only
      exact HSol.set (HSol.none (HSol.set (HSol.set sol (by simp)) (by simp))) (by rw [txRows_app]; exact txRows_sol _)
  obtain rfl : k = s.said.length := by omega
  simp [h1]
  intro _
  have hz : saidT s 0 = saidK s s.said.length := by simp [saidT, thrT]
  refine loopH_ok (ks := [0,1,2,3,4,5,6,7,8,10,12,17,21,22,23,24,35,36,37,38,43]) (pl := []) (n0 := 54) (α := {x : SdS // x.k ≤ s.threads.length ∧ SdI H0 3 (saidT s x.k) x}) (fun x => [(8, .one (.own x.1.n 1 (saidT s x.1.k).length)), (37, dI x.1.k)]) (fun _ x => x.1.H) (fun x => x.1.nx) (fun x => s.threads.length - x.1.k)
    ⟨⟨0, H, nx, nO⟩, Nat.zero_le _, ⟨⟨n1, n2⟩, by simp only; rw [hz]; exact hb, low, sol⟩⟩ rfl (by kernel_rfl) (Wk.sub (by simp [hz])) ?_
  clear hb low sol n1 n2 h1 h2 hz hkl hk
  rintro ⟨⟨k, H, nx, nO⟩, hk, ⟨⟨n1, n2⟩, hb, low, sol⟩⟩
  simp only at hk n1 n2 hb low sol
  have h1 : H 1 = some ⟨.c 29, 8, [(eState s).map .d]⟩ := by rw [low 1 (by omega), hH01]
  have h2 : H 2 = some ⟨.c 65, 1, [[.ptr 1 8 0 0]]⟩ := by rw [low 2 (by omega), hH02]
  have hkl := saidK_len s s.said.length
  have hkt := thrT_len s k
  have hlT : (saidT s k).length = (saidK s s.said.length).length + (thrT s k).length := by simp [saidT]
  by_cases c1 : k < s.threads.length
  · have hf := hth _ (List.getElem_mem c1)
    have hnext := thrT_next c1
    have e1 : ¬ nO = nx := by omega
    have e2 : ¬ nO = nx + 1 := by omega
    have e3 : ¬ 2 = nx := by omega
    have e5 : ¬ 1 = nx := by omega
    have t1 : (txRows (saidT s k)).take (saidT s k).length = txRows (saidT s k) := by simp [txRows]
    have t2 : (txRows (saidT s k)).length = (saidT s k).length := by simp [txRows]
    by_cases c2 : s.threads[k].state = 4
    · have hsz := textW_size hq hf
      have z1 : (⟨#[33, 32]⟩ : ByteArray).size = 2 := rfl
      have z2 : 2 + (textW s s.threads[k].val).size ≤ 9223372036854775807 := by omega
      rw [if_pos c2] at hnext
      have hnx2 : saidT s (k + 1) = saidT s k ++ [⟨#[33, 32]⟩ ++ textW s s.threads[k].val] := by
        unfold saidT
        rw [hnext, ← List.append_assoc]
        rfl
      have hlen : (saidT s (k + 1)).length = (saidT s k).length + 1 := by rw [hnx2]; simp
      simp [c1, c2, h1, h2, e3, e5]
      refine ICall.lendL (es := [hpD true s, aD (eVal s.threads[k].val)]) ⟨dat_shw (by simp [h1, e5]), val_shw _, trivial⟩ (heapText_ok s hq s.threads[k].val hf ?_)
      simp [hb, e1, e2, t1, t2, z1, z2]
      refine ⟨?_, .inl (by omega), ⟨k + 1, (((H.set nx (some ⟨.c 90, 5, [[.d (.sl true (s.threads[k].frames.map eFrame)), .d (eI 4), .d (eI s.threads[k].on), .d (eI s.threads[k].val.kind), .d (eI s.threads[k].val.n)]]⟩)).set (nx + 1) (some ⟨.c 9, 1, [[.d (eS (⟨#[33, 32]⟩ ++ textW s s.threads[k].val))]]⟩)).set nO none).set (nx + 1 + 1) (some ⟨.c 9, 1, txRows (saidT s k) ++ [[.d (eS (⟨#[33, 32]⟩ ++ textW s s.threads[k].val))]]⟩), nx + 1 + 1 + 1, nx + 1 + 1⟩, by simp only; omega, ⟨by simp only; omega, ⟨by simp only; omega, ?_, fun i hi => ?_, ?_⟩⟩, Wk.sub (by simp [hlen, c2, wrap_add (show k < 9223372036854775807 by omega)])⟩
      · rintro m b' rfl
        rw [if_neg e2, if_neg e1, hb]
        intro e
        cases e
        exact ⟨rfl, rfl⟩
      · simp only
        rw [Hp.set_same, txRows_app, hnx2]
      · dsimp only
        rw [Hp.set_ne _ _ (by omega), Hp.set_ne _ _ (by omega), Hp.set_ne _ _ (by omega), Hp.set_ne _ _ (by omega)]
        exact low i hi
      · dsimp only
        exact HSol.set (HSol.none (HSol.set (HSol.set sol (by simp)) (by simp))) (by rw [txRows_app]; exact txRows_sol _)
    · rw [if_neg c2, List.append_nil] at hnext
      have hnx2 : saidT s (k + 1) = saidT s k := by unfold saidT; rw [hnext]
      simp [c1, c2, h1, h2, e3, e5]
      exact ⟨⟨k + 1, H.set nx (some ⟨.c 90, 5, [(eThread s.threads[k]).map .d]⟩), nx + 1, nO⟩, by simp only; omega, ⟨by simp only; omega, ⟨by simp only; omega, by simp only; rw [Hp.set_ne _ _ (by omega), hnx2]; exact hb, fun i hi => by simp only; rw [Hp.set_ne _ _ (by omega)]; exact low i hi, HSol.set sol (by simp)⟩⟩, Wk.sub (by simp [hnx2, wrap_add (show k < 9223372036854775807 by omega)])⟩
  obtain rfl : k = s.threads.length := by omega
  simp
  exact ⟨sol, .tup [dL true ((saidT s s.threads.length).map eStr), dI 0], ⟨⟨_, rfl, txRows_shw hb⟩, ⟨_, rfl, .d rfl⟩, trivial⟩, h1' q1⟩
def pickR (s : GState) (w : Nat) : Int × Int := match (List.range s.threads.length).find? (fun i => canB s (trnT s w i)) with
  | some i => ((((w + i) % s.threads.length : Nat) : Int), 0)
  | none => (0, if accPk s w s.threads.length = true then 5 else 10)
theorem pickK_of {s : GState} {w : Nat} {K : Int → Int → Prop} (h : K (pickR s w).1 (pickR s w).2) : PickK s w K := by
  constructor
  · intro i hi hc hj
    have : (List.range s.threads.length).find? (fun i => canB s (trnT s w i)) = some i := by
      rw [List.find?_range_eq_some]
      exact ⟨hc, by simpa using hi, fun j hj' => by simp [hj j hj']⟩
    unfold pickR at h
    rw [this] at h
    exact h
  · intro hj
    have : (List.range s.threads.length).find? (fun i => canB s (trnT s w i)) = none := by
      rw [List.find?_range_eq_none]
      exact fun j hj' => by simp [hj j hj']
    unfold pickR at h
    rw [this] at h
    exact h
theorem ints_arg {H : Type} {enc : TypeId × Value → H} {W : World} {held : Bool} {r : Reach} {b0 : Nat} {v : Value} {d : DataW H} {ps : List MemPlace} (hval : Value.okWide Tryz.prog W r b0 40 v) (h : DataW.Trod enc Tryz.prog W 0 (fun _ => true) held 40 v d ps) (hz : ∀ y ∈ d.weights Tryz.prog 40, y ≤ reachBytes) :
    ∃ l : List Int, ∀ (B : Nat → Prop) (ι : Nms), RV (Env.mk (fun b => b < W.heap.size) B) W ι (dL true (l.map eInt)) v := by
  obtain ⟨a, len, cap, rfl⟩ := WideShapes.okWide_slice Tryz.underlying40 hval
  obtain ⟨m, hm⟩ := h
  rw [show (Value.slice a len cap).cells = #[.slice a len cap] from rfl] at hm
  obtain ⟨l, l1, l2⟩ := opn_ints enc W held [.slice a len cap] ⟨m, _, hm, hz⟩
  refine ⟨l, fun B ι => ?_⟩
  rw [RV, RC]
  exact l2 ⟨fun b => b < W.heap.size, B⟩ (fun b hb => hb) 0 _ _ rfl rfl
theorem pickC_ok (p : GProg) (hp : okP p) (s : GState) (hs : okSt s) (sched : List Int) (k : Int) {K : D → List Blk → Prop} (h0 : stateQ wordsT p s ≠ 0 → K (.tup [dI 0, dI (stateQ wordsT p s)]) []) (h1 : stateQ wordsT p s = 0 → k < 0 → K (.tup [dI 0, dI 1]) [])
    (h2 : stateQ wordsT p s = 0 → ∀ n : Nat, k = n → K (.tup [dI (pickR s (wantP s.threads.length sched n)).1, dI (pickR s (wantP s.threads.length sched n)).2]) []) : DPure Tryz.prog 10 [aD (eProg p), aD (eState s), dL true (sched.map eInt), dI k] K := by
  refine fn_ok [0,1,2,3,4,5,8,9,10,15,18] [] Tryz.func10 rfl (by kernel_rfl) rfl rfl rfl rfl (by kernel_rfl) ?_
  simp
  refine ⟨_, rfl, Wk.refl _, ?_⟩; simp [vcC0]
  refine stCheck_ok p hp s hs ?_
  by_cases q1 : stateQ wordsT p s = 0
  case neg =>
    simp [q1]
    exact h0 q1
  obtain ⟨hq, hsl, hth, hst, hon⟩ := state_facts q1
  by_cases c1 : k < 0
  · simp [q1, c1]
    exact h1 q1 c1
  obtain ⟨n, rfl⟩ : ∃ n : Nat, k = n := ⟨k.toNat, by omega⟩
  simp [q1, c1]
  refine ICall.ofPure (es := [pS false s, dL true (sched.map eInt), dI n]) (by simp) ?_
  refine pick_ok hsl hon false sched n (pickK_of ?_)
  simp
  exact h2 q1 n rfl
theorem runPicks_ok (p : GProg) (hp : okP p) (s : GState) (hs : okSt s) (sched : List Int) (k : Int) : DPure Tryz.prog 4 [aD (eProg p), aD (eState s), dL true (sched.map eInt), dI k] fun d _ => d = dB true := by
  refine fn_ok [0,1,2,3,4,5,8,9,10,11,12,13,14,15,34,60,62] [] Tryz.func4 rfl (by kernel_rfl) rfl rfl rfl rfl (by kernel_rfl) ?_
  simp
  refine pickC_ok p hp s hs sched k (fun q1 => ?_) (fun q1 hk => ?_) (fun q1 n hk => ?_)
  · simp
    refine says_ok p hp s hs (fun _ => ?_) (fun e => absurd e q1)
    simp
    refine stateFault_ok p hp s hs ?_
    simp [q1]
  · simp
    refine says_ok p hp s hs (fun e => absurd q1 e) (fun _ => ?_)
    obtain ⟨hq, hsl, hth, hst, hon⟩ := state_facts q1
    simp
    refine stateFault_ok p hp s hs ?_
    simp [q1]
    refine saidBy_ok hq hth hsl ?_
    simp
    refine equalS_ok _ _ _ _ ?_
    simp [hk]
  · subst hk
    simp
    refine says_ok p hp s hs (fun e => absurd q1 e) (fun _ => ?_)
    obtain ⟨hq, hsl, hth, hst, hon⟩ := state_facts q1
    simp
    refine stateFault_ok p hp s hs ?_
    simp [q1]
    refine saidBy_ok hq hth hsl ?_
    simp
    refine equalS_ok _ _ _ _ ?_
    simp
    refine picked_ok hsl hon hst sched n (pickK_of ?_)
    simp
end Go.Proofs.YtbphdcffpobcbaaGreatDoor
