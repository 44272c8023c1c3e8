/- GenResumes: for every program, state, thread, generator, value and register: Resume answers what the document says. No condition. -/
import Derived.Test.YtjbkinmdcaegcaaGreatDoorCards
import Derived.Test.YtjbkinmdcaegcaaGreatDoorTie
import Derived.SevenTiedAt
import Derived.Lib.SmallJoins
import Derived.Test.YtjbkinmdcaegcaaGreatDoorMa
import Derived.Test.YtjbkinmdcaegcaaGreatDoorMb
import Derived.Test.YtjbkinmdcaegcaaGreatDoorMc
import Derived.Test.YtjbkinmdcaegcaaGreatDoorMd
import Derived.Test.YtjbkinmdcaegcaaGreatDoorMe
import Derived.Test.YtjbkinmdcaegcaaGreatDoorMf
import Derived.Test.YtjbkinmdcaegcaaGreatDoorMg
import Derived.Test.YtjbkinmdcaegcaaGreatDoorMh
import Derived.Test.YtjbkinmdcaegcaaGreatDoorMi
import Derived.Test.YtjbkinmdcaegcaaGreatDoorMj
import Derived.Test.YtjbkinmdcaegcaaGreatDoorMk
import Derived.Test.YtjbkinmdcaegcaaGreatDoorMl
import Derived.Test.YtjbkinmdcaegcaaGreatDoorMm
import Derived.Test.YtjbkinmdcaegcaaGreatDoorMo
import Derived.Test.YtjbkinmdcaegcaaGreatDoorMp
import Derived.Test.YtjbkinmdcaegcaaGreatDoorMq
import Derived.Test.YtjbkinmdcaegcaaGreatDoorMs
import Derived.Test.YtjbkinmdcaegcaaGreatDoorMt
import Derived.Test.YtjbkinmdcaegcaaGreatDoorMu
import Derived.Test.YtjbkinmdcaegcaaGreatDoorMv
namespace Go.Proofs.YtjbkinmdcaegcaaGreatDoor
open Go.RowKit Go
set_option linter.unusedSimpArgs false
/-! ### THE ROW AND THE CARD: GenResumes (after the kit's worked card) -/
namespace genResumes
open Go.ChangeShapes Go.WideShapes Go.ChangeAt Go.RowKit Go.Joins
theorem own : ownKnob Tryz.prog.godebug = none := by kernel_rfl
theorem laidOut : laidOutB Tryz.prog = true := by kernel_rfl
set_option maxRecDepth 100000 in
theorem lifted (os : Os) (started : os.Started) (H : Type) (enc : TypeId × Value → H) :
    ReturnsInHanded {} Tryz.checked os 10 .any (fun w args => (Rows.genResumesSpec.pre enc Tryz.prog Tryz.f10 [] false w args ∧ laidMetH Tryz.prog Rows.genResumesRow.laid w) ∧ sizedMet enc Tryz.prog Tryz.f10 (OpenSpec.ofChange Rows.genResumesSpec) false w args)
      (Rows.genResumesSpec.post enc Tryz.prog Tryz.f10 false true false false) := by
  refine returnsInHanded_of_change_and (C := Tryz.checked) (X := fun w _ => laidMetH Tryz.prog Rows.genResumesRow.laid w) (fun _ _ _ hh h => h.of_heap hh) own started (by kernel_rfl) Tryz.func10
    (ChangeSpec.witness_shaped (enc := enc) (C := Tryz.checked) (os := os) (X := fun w _ => laidMetH Tryz.prog Rows.genResumesRow.laid w) false (World.laidAll Tryz.prog os Rows.genResumesRow.laid) #[.agg #[.slice none 0 0, .slice none 0 0, .slice none 0 0], .agg #[.slice none 0 0, .slice none 0 0, .slice none 0 0, .slice none 0 0, .slice none 0 0, .slice none 0 0, .int .i64 0, .int .i64 0], .int .i64 0, .agg #[.int .i64 0, .int .i64 0], .agg #[.int .i64 0, .int .i64 0], .int .i64 0] 8 (World.laidAll_os _ _ _)
      (World.shaped_of_ZipB (by kernel_rfl) (by kernel_rfl)) (by kernel_rfl) (by kernel_rfl) (by kernel_rfl)
      (by rw [MakeChecks.laidMetH_plain _ _ _ (by kernel_rfl)]; exact laidMet_laidAll _ (by kernel_rfl) (by kernel_rfl))) ?_
  intro W base args ds gs before hval0 hW _ hsz hL _
  have hval : ∀ (j : Nat) t v, Tryz.f10.params[j]? = some t → args[j]? = some v → Value.okWide Tryz.prog W .any base t v := hval0
  have hW' := hW
  have hszw : (DataW.weightsEach Tryz.prog (Tryz.f10.params.toList ++ DataSpec.varTypes Tryz.prog Rows.genResumesSpec.plain) (ds ++ gs)).all (· ≤ reachBytes) = true := hsz
  obtain ⟨p, q, hA0, hV, rfl, hfz, hnd⟩ := hW
  have hA : DataW.TrodAll enc Tryz.prog W 0 (fun _ => true) true Tryz.f10.params.toList args.toList ds p := hA0
  rw [Tryz.params10] at hA hval hszw
  obtain ⟨v0, vs0, d0, ds0, p0, q0, hargs, rfl, rfl, h0, r0⟩ := trodAll_cons hA
  obtain ⟨v1, vs1, d1, ds1, p1, q1, rfl, rfl, rfl, h1, r1⟩ := trodAll_cons r0
  obtain ⟨v2, vs2, d2, ds2, p2, q2, rfl, rfl, rfl, h2, r2⟩ := trodAll_cons r1
  obtain ⟨v3, vs3, d3, ds3, p3, q3, rfl, rfl, rfl, h3, r3⟩ := trodAll_cons r2
  obtain ⟨v4, vs4, d4, ds4, p4, q4, rfl, rfl, rfl, h4, r4⟩ := trodAll_cons r3
  obtain ⟨v5, vs5, d5, ds5, p5, q5, rfl, rfl, rfl, h5, r5⟩ := trodAll_cons r4
  obtain ⟨rfl, rfl, rfl⟩ := trodAll_nil r5
  have hz0 : ∀ y ∈ d0.weights Tryz.prog 26, y ≤ reachBytes := fun y hy => by simpa using List.all_eq_true.1 hszw y (DataW.weights_mem_each (j := 0) rfl rfl y hy)
  have hz1 : ∀ y ∈ d1.weights Tryz.prog 32, y ≤ reachBytes := fun y hy => by simpa using List.all_eq_true.1 hszw y (DataW.weights_mem_each (j := 1) rfl rfl y hy)
  have hz2 : ∀ y ∈ d2.weights Tryz.prog 3, y ≤ reachBytes := fun y hy => by simpa using List.all_eq_true.1 hszw y (DataW.weights_mem_each (j := 2) rfl rfl y hy)
  have hz3 : ∀ y ∈ d3.weights Tryz.prog 50, y ≤ reachBytes := fun y hy => by simpa using List.all_eq_true.1 hszw y (DataW.weights_mem_each (j := 3) rfl rfl y hy)
  have hz4 : ∀ y ∈ d4.weights Tryz.prog 50, y ≤ reachBytes := fun y hy => by simpa using List.all_eq_true.1 hszw y (DataW.weights_mem_each (j := 4) rfl rfl y hy)
  have hz5 : ∀ y ∈ d5.weights Tryz.prog 3, y ≤ reachBytes := fun y hy => by simpa using List.all_eq_true.1 hszw y (DataW.weights_mem_each (j := 5) rfl rfl y hy)
  obtain rfl : args = #[v0, v1, v2, v3, v4, v5] := by cases args; simp_all
  obtain ⟨rfl, rfl⟩ := trodVars_none hV
  have kk0 := h0
  have lt0 : ∀ x ∈ p0, x.block < W.heap.size := by obtain ⟨m, hm⟩ := kk0; exact DataW.trod_lt m _ _ _ hm
  have kk1 := h1
  have lt1 : ∀ x ∈ p1, x.block < W.heap.size := by obtain ⟨m, hm⟩ := kk1; exact DataW.trod_lt m _ _ _ hm
  have kk2 := h2
  have lt2 : ∀ x ∈ p2, x.block < W.heap.size := by obtain ⟨m, hm⟩ := kk2; exact DataW.trod_lt m _ _ _ hm
  have kk3 := h3
  have lt3 : ∀ x ∈ p3, x.block < W.heap.size := by obtain ⟨m, hm⟩ := kk3; exact DataW.trod_lt m _ _ _ hm
  have kk4 := h4
  have lt4 : ∀ x ∈ p4, x.block < W.heap.size := by obtain ⟨m, hm⟩ := kk4; exact DataW.trod_lt m _ _ _ hm
  have kk5 := h5
  have lt5 : ∀ x ∈ p5, x.block < W.heap.size := by obtain ⟨m, hm⟩ := kk5; exact DataW.trod_lt m _ _ _ hm
  obtain ⟨p0, hp0, hv0⟩ := prog_arg (hval 0 _ v0 rfl rfl) h0 hz0
  obtain ⟨s1, hs1, hv1⟩ := state_arg (hval 1 _ v1 rfl rfl) h1 hz1
  obtain ⟨a2, rfl, rfl, rfl, g2⟩ := open_int Tryz.underlying3 (hval 2 3 v2 rfl rfl) h2
  obtain ⟨c3a, c3b, y3a, y3b, m3, rfl, rfl, rfl, hy3a, hy3b⟩ := open_agg2 Tryz.underlying50 (by kernel_rfl) (by kernel_rfl) (hval 3 50 v3 rfl rfl) h3
  obtain ⟨k3, ea3, rfl, wk3⟩ := DataW.trod_int Tryz.underlying3 hy3a
  obtain ⟨n3, eb3, rfl, wn3⟩ := DataW.trod_int Tryz.underlying3 hy3b
  simp at ea3 eb3
  subst ea3 eb3
  obtain ⟨c4a, c4b, y4a, y4b, m4, rfl, rfl, rfl, hy4a, hy4b⟩ := open_agg2 Tryz.underlying50 (by kernel_rfl) (by kernel_rfl) (hval 4 50 v4 rfl rfl) h4
  obtain ⟨k4, ea4, rfl, wk4⟩ := DataW.trod_int Tryz.underlying3 hy4a
  obtain ⟨n4, eb4, rfl, wn4⟩ := DataW.trod_int Tryz.underlying3 hy4b
  simp at ea4 eb4
  subst ea4 eb4
  obtain ⟨a5, rfl, rfl, rfl, g5⟩ := open_int Tryz.underlying3 (hval 5 3 v5 rfl rfl) h5
  have hgl := gl_of_laid hL
  clear hA0 hval0
  refine (law_frame (genResumes_ok p0 hp0 s1 hs1 a2 ⟨k3, n3⟩ ⟨k4, n4⟩ a5) hgl (vs := [v0, v1, .int .i64 a2, .agg #[.int .i64 k3, .int .i64 n3], .agg #[.int .i64 k4, .int .i64 n4], .int .i64 a5]) (by simp only [RVs]; exact ⟨hv0 _ _, hv1 _ _, by rw [RV]; exact .lit rfl, dV_ok _ _ _ _ _, dV_ok _ _ _ _ _, by rw [RV]; exact .lit rfl, trivial⟩)).mono fun e W' ⟨he, bel⟩ => ?_
  subst he
  exact ⟨_, rfl, _, _, _, [], _, [], hW', trodAll_mk1 (shut_bool Tryz.underlying4 _), (trodAll_cons_mk (Below.trod laidOut (by kernel_rfl) (of_decide_eq_true (by kernel_rfl)) kk0 bel lt0) (trodAll_cons_mk (Below.trod laidOut (by kernel_rfl) (of_decide_eq_true (by kernel_rfl)) kk1 bel lt1) (trodAll_cons_mk (Below.trod laidOut (by kernel_rfl) (of_decide_eq_true (by kernel_rfl)) kk2 bel lt2) (trodAll_cons_mk (Below.trod laidOut (by kernel_rfl) (of_decide_eq_true (by kernel_rfl)) kk3 bel lt3) (trodAll_cons_mk (Below.trod laidOut (by kernel_rfl) (of_decide_eq_true (by kernel_rfl)) kk4 bel lt4) (trodAll_cons_mk (Below.trod laidOut (by kernel_rfl) (of_decide_eq_true (by kernel_rfl)) kk5 bel lt5) trodAll_mk0)))))), rfl, bel.frame _, fun h => by cases h⟩
set_option maxHeartbeats 4000000 in
theorem facts : joinedFacts Tryz.prog 10 Tryz.f10 Rows.genResumesSpec Rows.genResumesRow = true := by
  unfold joinedFacts
  simp only [Bool.and_eq_true]
  repeat' (with_reducible refine And.intro ?_ ?_)
  all_goals (as_aux_lemma => kernel_rfl)
theorem over : Rows.GenResumesSaid :=
  OpenClaim.holds_of_wide 10 Tryz.f10 rfl rfl rfl rfl rfl rfl rfl ⟨rfl, rfl, rfl, rfl, rfl⟩ rfl rfl rfl rfl rfl (by as_aux_lemma => kernel_rfl) Tryz.func10 facts
    (of_decide_eq_true (by as_aux_lemma => kernel_rfl)) (by unfold Func.isWrapper; first | (rw [if_pos (by as_aux_lemma => decide +kernel)]; kernel_rfl) | (rw [if_neg (by as_aux_lemma => decide +kernel)]; exact ⟨rfl, rfl⟩))
    (fun os started H enc _ => lifted os started H enc)
end genResumes
theorem genResumes_holds : Rows.GenResumesCardSaid :=
  Claim7.holds_tied_plain_at .later [] [.listed, .data] true (true, "bfbdd18fb645c5f456ff1746ebc6767cf54c3ee6b7b86918289f40c962192eed") false genResumes.over (fun _ h => by cases h) (by kernel_rfl) (fun _ h => by cases h) genResumes_row_tie rfl ⟨rfl, rfl⟩ (by kernel_rfl) rfl
    (fun f fn hf hfn => by
      obtain rfl : f = 10 := Option.some.inj ((show Tryz.prog.funcNamed "backstitch/backstitchlaw1.GenResumes" = some 10 by kernel_rfl).symm.trans hf) |>.symm
      obtain rfl : fn = Tryz.f10 := (Option.some.inj (Tryz.func10.symm.trans hfn)).symm
      exact ⟨by kernel_rfl, fun j t ht => by
        rw [Tryz.params10] at ht
        have hm : t ∈ [26, 32, 3, 50, 50, 3] := by simpa using Array.mem_of_getElem? ht
        have hall : ([26, 32, 3, 50, 50, 3].all fun u => !Tryz.prog.wantsStandIn u) = true := by kernel_rfl
        exact (show Tryz.prog.wantsStandIn t = false by simpa using List.all_eq_true.1 hall t hm)⟩)
    (by kernel_rfl)
#print axioms genResumes_holds
end Go.Proofs.YtjbkinmdcaegcaaGreatDoor
