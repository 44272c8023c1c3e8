/- Several texts in one. -/
import Derived.Test.YtomhiphiogbbiaaGreatDoorMj
import Derived.Test.YtomhiphiogbbiaaGreatDoorMko
import Derived.Test.YtomhiphiogbbiaaGreatDoorMla
import Derived.Test.YtomhiphiogbbiaaGreatDoorMlb
set_option linter.unusedSimpArgs false
set_option linter.unusedVariables false
set_option maxRecDepth 100000
set_option maxHeartbeats 16000000
namespace Go.Proofs.YtomhiphiogbbiaaGreatDoor
open Go.RowKit Go
theorem slot_one {s : GState} {of which : GVal} (h : 0 ≤ (slotW s of which).1) : (slotW s of which).2 = -1 := by
  unfold slotW at h ⊢
  split
  · rfl
  · rename_i e1
    rw [if_neg e1] at h
    split
    · rename_i e2
      rw [if_pos e2] at h
      split
      · rfl
      · rename_i e3
        rw [if_neg e3] at h
        exact absurd h (by decide)
    · rename_i e2
      rw [if_neg e2] at h
      exact absurd h (by decide)
theorem empty_arg : ∀ E w ι vs, RVs E w ι [aD (eState emptyS), .agg [.d .emp, .d .emp, .d .emp, .d .emp, .d .emp, .d .emp, .d (eI 0), .d (eI 0)]] vs → RVs E w ι [aD (eState emptyS), aD (eState emptyS)] vs := no_arg (es := (eState emptyS).map .d) ⟨.inr ⟨rfl, rfl⟩, .inr ⟨rfl, rfl⟩, .inr ⟨rfl, rfl⟩, .inr ⟨rfl, rfl⟩, .inr ⟨rfl, rfl⟩, .inr ⟨rfl, rfl⟩, .inl rfl, .inl rfl, trivial⟩
theorem cellsRead_ok (s : GState) (hw : OkW s) (of which v : GVal) : DPure Tryz.prog 3 [aD (eState s), aD (eVal of), aD (eVal which), aD (eVal v)] fun d _ => d = dB true := by
  refine fn_ok [0,1,2,3,4,5,6,7,8,9,10,11,12,13,14,15,16,17,22,26,44,57,66,84,99,109] [(1, [0,1,0,7,15], (.seg 0 (.seg 2 (.eff 1 [2] (.eff 3 [] (.seg 4 .last)))))), (5, [0,0,3,0,0,31,63,127], (.seg 0 (.seg 1 (.seg 3 (.seg 4 (.eff 2 [3, 4] (.eff 5 [] (.seg 6 (.seg 7 .last)))))))))] Tryz.func3 rfl (by kernel_rfl) rfl rfl rfl rfl (by kernel_rfl) ?_
  simp
  refine celCheck_ok s hw.ok ?_
  simp
  refine heapFault_ok s hw.ok ?_
  simp
  refine heapAsked_ok s hw.ok false [of] ?_
  by_cases a1 : askC s [of] = true
  case neg =>
    have a2 : askC s [of, which] = false := by
      rw [← Bool.not_eq_true]; intro e
      exact a1 (askC_iff.2 ⟨(askC_iff.1 e).1, fun u hu => (askC_iff.1 e).2 u (by simp at hu; simp [hu])⟩)
    have a3 : askC s [of, which, v] = false := by
      rw [← Bool.not_eq_true]; intro e
      exact a1 (askC_iff.2 ⟨(askC_iff.1 e).1, fun u hu => (askC_iff.1 e).2 u (by simp at hu; simp [hu])⟩)
    rw [Bool.not_eq_true] at a1
    simp [a1]
    refine kindC_ok s hw.ok of ?_
    have e : kindD s of = 8 := by unfold kindD; rw [a1]; rfl
    rw [e]
    simp
    refine textC_ok s hw.ok of ?_
    have e : textC s of = ⟨#[]⟩ := by unfold textC; rw [a1]; rfl
    rw [e]
    simp
    refine getC_ok s hw.ok of which ?_
    have e : getC s of which = (⟨0, 0⟩, 6) := by unfold getC; rw [a2]; rfl
    rw [e]
    simp
    refine heapAsked_ok s hw.ok false [of, which] ?_
    simp [a2]
    refine putC_ok s hw of which v ?_
    have e3 : putC s of which v = (emptyS, 6) := by unfold putC; rw [a3]; rfl
    rw [e3]
    simp
    refine heapAsked_ok s hw.ok false [of, which, v] ?_
    simp [a3]
    refine DPure.args empty_arg ?_
    refine sameStates_ok emptyS emptyS ?_
    simp
  have hq := (askC_iff.1 a1).1
  have ho := (askC_iff.1 a1).2 of (by simp)
  simp [a1]
  refine kindWord_ok s hq of ho ?_
  simp
  refine textIn_ok s hq of ho ?_
  simp
  refine kindC_ok s hw.ok of ?_
  have e : kindD s of = kindW s of := by unfold kindD; rw [if_pos a1]
  rw [e]
  simp
  refine textC_ok s hw.ok of ?_
  have e : textC s of = textW s of := by unfold textC; rw [if_pos a1]
  rw [e]
  simp
  refine getC_ok s hw.ok of which ?_
  simp
  refine heapAsked_ok s hw.ok false [of, which] ?_
  by_cases a2 : askC s [of, which] = true
  case neg =>
    have a3 : askC s [of, which, v] = false := by
      rw [← Bool.not_eq_true]; intro e
      exact a2 (askC_iff.2 ⟨(askC_iff.1 e).1, fun u hu => (askC_iff.1 e).2 u (by simp at hu; rcases hu with rfl | rfl <;> simp)⟩)
    rw [Bool.not_eq_true] at a2
    have e : getC s of which = (⟨0, 0⟩, 6) := by unfold getC; rw [a2]; rfl
    rw [e]
    simp [a2]
    refine putC_ok s hw of which v ?_
    have e3 : putC s of which v = (emptyS, 6) := by unfold putC; rw [a3]; rfl
    rw [e3]
    simp
    refine heapAsked_ok s hw.ok false [of, which, v] ?_
    simp [a3]
    refine DPure.args empty_arg ?_
    refine sameStates_ok emptyS emptyS ?_
    simp
  have e : getC s of which = getW s of which := by unfold getC; rw [if_pos a2]
  rw [e]
  unfold getW
  simp [a2]
  refine slotIn_ok s hq of which ho ?_
  by_cases c : 0 ≤ (slotW s of which).1
  case neg =>
    rw [if_neg c]
    simp [c]
    by_cases a3 : askC s [of, which, v] = true
    case neg =>
      rw [Bool.not_eq_true] at a3
      refine putC_ok s hw of which v ?_
      have e3 : putC s of which v = (emptyS, 6) := by unfold putC; rw [a3]; rfl
      rw [e3]
      simp
      refine heapAsked_ok s hw.ok false [of, which, v] ?_
      simp [a3]
      refine DPure.args empty_arg ?_
      refine sameStates_ok emptyS emptyS ?_
      simp
    refine putC_ok s hw of which v ?_
    simp
    refine heapAsked_ok s hw.ok false [of, which, v] ?_
    simp [a3]
    refine putIn_ok s hq of which v ho ?_
    have e3 : putC s of which v = if 0 ≤ (putW s of which v).2 then (emptyS, (putW s of which v).2) else ((putW s of which v).1, -1) := by unfold putC; rw [if_pos a3]
    rw [e3]
    have hle := put_le s of which v
    generalize putW s of which v = R at *
    obtain ⟨T, u⟩ := R
    simp only at hle ⊢
    by_cases q : 0 ≤ u
    · simp [q]
      refine DPure.args empty_arg ?_
      refine sameStates_ok emptyS emptyS ?_
      simp
    · obtain rfl : u = -1 := hle.resolve_right q
      simp
      refine sameStates_ok T T ?_
      simp
  have c2 := slot_one c
  obtain ⟨k5, -⟩ := slot_kind c2
  obtain ⟨p1, p2⟩ := fits_ref ho k5
  obtain ⟨n, hn⟩ : ∃ n : Nat, of.n = n := ⟨of.n.toNat, by omega⟩
  have hnl : n < s.cells.length := by omega
  have hn' : (n : Int) < (s.cells.length : Int) := by omega
  have hat : cellAt s of.n = s.cells[n] := by rw [hn]; exact at_nat hnl
  obtain ⟨k, hk0⟩ : ∃ k : Nat, (slotW s of which).1 = k := ⟨(slotW s of which).1.toNat, by omega⟩
  have hkl : k < s.cells[n].vals.length := slot_lt hq hnl (which := which) (by rw [← hat, ← hk0, slotW_eq, if_pos k5])
  obtain rfl : of = ⟨5, n⟩ := by cases of; simp at k5 hn; simp [k5, hn]
  have hva : valAt s.cells[n].vals k = s.cells[n].vals[k] := by simp [valAt, List.getD_eq_getElem?_getD, hkl]
  have hkl' : (k : Int) < (s.cells[n].vals.length : Int) := by omega
  rw [if_pos c, hat, c2, hk0, Int.toNat_natCast, hva]
  simp [hnl, hn', hkl, hkl']
  by_cases a3 : askC s [⟨5, n⟩, which, v] = true
  case neg =>
    rw [Bool.not_eq_true] at a3
    refine putC_ok s hw ⟨5, n⟩ which v ?_
    have e3 : putC s ⟨5, n⟩ which v = (emptyS, 6) := by unfold putC; rw [a3]; rfl
    rw [e3]
    simp
    refine heapAsked_ok s hw.ok false [⟨5, n⟩, which, v] ?_
    simp [a3]
    refine DPure.args empty_arg ?_
    refine sameStates_ok emptyS emptyS ?_
    simp
  refine putC_ok s hw ⟨5, n⟩ which v ?_
  simp
  refine heapAsked_ok s hw.ok false [⟨5, n⟩, which, v] ?_
  simp [a3]
  refine putIn_ok s hq ⟨5, n⟩ which v ho ?_
  have e3 : putC s ⟨5, n⟩ which v = if 0 ≤ (putW s ⟨5, n⟩ which v).2 then (emptyS, (putW s ⟨5, n⟩ which v).2) else ((putW s ⟨5, n⟩ which v).1, -1) := by unfold putC; rw [if_pos a3]
  rw [e3]
  have hle := put_le s ⟨5, n⟩ which v
  generalize putW s ⟨5, n⟩ which v = R at *
  obtain ⟨T, u⟩ := R
  simp only at hle ⊢
  by_cases q : 0 ≤ u
  · simp [q]
    refine DPure.args empty_arg ?_
    refine sameStates_ok emptyS emptyS ?_
    simp
  · obtain rfl : u = -1 := hle.resolve_right q
    simp
    refine sameStates_ok T T ?_
    simp
end Go.Proofs.YtomhiphiogbbiaaGreatDoor
