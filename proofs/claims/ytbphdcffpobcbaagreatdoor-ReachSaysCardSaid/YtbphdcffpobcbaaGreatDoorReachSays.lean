/- ReachSays: for every program and state: package reach says what the document says. No condition. -/
import Derived.Test.YtbphdcffpobcbaaGreatDoorCards
import Derived.Test.YtbphdcffpobcbaaGreatDoorTie
import Derived.SevenTiedAt
import Derived.Lib.SmallJoins
import Derived.Test.YtbphdcffpobcbaaGreatDoorMg
import Derived.Test.YtbphdcffpobcbaaGreatDoorMrh
namespace Go.Proofs.YtbphdcffpobcbaaGreatDoor
open Go.RowKit Go
set_option linter.unusedSimpArgs false
/-! ### THE ROW AND THE CARD: ReachSays (after the kit's worked card) -/
namespace reachSays
open Go.ChangeShapes Go.WideShapes Go.ChangeAt Go.RowKit Go.Joins
theorem own : ownKnob Tryz.prog.godebug = none := by kernel_rfl
theorem laidOut : laidOutB Tryz.prog = true := by kernel_rfl
set_option maxRecDepth 100000 in
theorem lifted (os : Os) (started : os.Started) (H : Type) (enc : TypeId × Value → H) :
    ReturnsInHanded {} Tryz.checked os 5 .any (fun w args => (Rows.reachSaysSpec.pre enc Tryz.prog Tryz.f5 [] false w args ∧ laidMetH Tryz.prog Rows.reachSaysRow.laid w) ∧ sizedMet enc Tryz.prog Tryz.f5 (OpenSpec.ofChange Rows.reachSaysSpec) false w args)
      (Rows.reachSaysSpec.post enc Tryz.prog Tryz.f5 false true false false) := by
  refine returnsInHanded_of_change_and (C := Tryz.checked) (X := fun w _ => laidMetH Tryz.prog Rows.reachSaysRow.laid w) (fun _ _ _ hh h => h.of_heap hh) own started (by kernel_rfl) Tryz.func5
    (ChangeSpec.witness_shaped (enc := enc) (C := Tryz.checked) (os := os) (X := fun w _ => laidMetH Tryz.prog Rows.reachSaysRow.laid w) false (World.laidAll Tryz.prog os Rows.reachSaysRow.laid) #[.agg #[.slice none 0 0, .slice none 0 0, .slice none 0 0], .agg #[.slice none 0 0, .slice none 0 0, .slice none 0 0, .slice none 0 0, .slice none 0 0, .slice none 0 0, .int .i64 0, .int .i64 0]] 8 (World.laidAll_os _ _ _)
      (World.shaped_of_ZipB (by kernel_rfl) (by kernel_rfl)) (by kernel_rfl) (by kernel_rfl) (by kernel_rfl)
      (by rw [MakeChecks.laidMetH_plain _ _ _ (by kernel_rfl)]; exact laidMet_laidAll _ (by kernel_rfl) (by kernel_rfl))) ?_
  intro W base args ds gs before hval0 hW _ hsz hL _
  have hval : ∀ (j : Nat) t v, Tryz.f5.params[j]? = some t → args[j]? = some v → Value.okWide Tryz.prog W .any base t v := hval0
  have hW' := hW
  have hszw : (DataW.weightsEach Tryz.prog (Tryz.f5.params.toList ++ DataSpec.varTypes Tryz.prog Rows.reachSaysSpec.plain) (ds ++ gs)).all (· ≤ reachBytes) = true := hsz
  obtain ⟨p, q, hA0, hV, rfl, hfz, hnd⟩ := hW
  have hA : DataW.TrodAll enc Tryz.prog W 0 (fun _ => true) true Tryz.f5.params.toList args.toList ds p := hA0
  rw [Tryz.params5] at hA hval hszw
  obtain ⟨v0, vs0, d0, ds0, p0, q0, hargs, rfl, rfl, h0, r0⟩ := trodAll_cons hA
  obtain ⟨v1, vs1, d1, ds1, p1, q1, rfl, rfl, rfl, h1, r1⟩ := trodAll_cons r0
  obtain ⟨rfl, rfl, rfl⟩ := trodAll_nil r1
  have hz0 : ∀ y ∈ d0.weights Tryz.prog 39, y ≤ reachBytes := fun y hy => by simpa using List.all_eq_true.1 hszw y (DataW.weights_mem_each (j := 0) rfl rfl y hy)
  have hz1 : ∀ y ∈ d1.weights Tryz.prog 29, y ≤ reachBytes := fun y hy => by simpa using List.all_eq_true.1 hszw y (DataW.weights_mem_each (j := 1) rfl rfl y hy)
  obtain rfl : args = #[v0, v1] := by cases args; simp_all
  obtain ⟨rfl, rfl⟩ := trodVars_none hV
  have kk0 := h0
  have lt0 : ∀ x ∈ p0, x.block < W.heap.size := by obtain ⟨m, hm⟩ := kk0; exact DataW.trod_lt m _ _ _ hm
  have kk1 := h1
  have lt1 : ∀ x ∈ p1, x.block < W.heap.size := by obtain ⟨m, hm⟩ := kk1; exact DataW.trod_lt m _ _ _ hm
  obtain ⟨p0, hp0, hv0⟩ := prog_arg (hval 0 _ v0 rfl rfl) h0 hz0
  obtain ⟨s1, hs1, hv1⟩ := state_arg (hval 1 _ v1 rfl rfl) h1 hz1
  have hgl := gl_of_laid hL
  clear hA0 hval0
  refine (law_frame (reachSays_ok p0 hp0 s1 hs1) hgl (vs := [v0, v1]) (by simp only [RVs]; exact ⟨hv0 _ _, hv1 _ _, trivial⟩)).mono fun e W' ⟨he, bel⟩ => ?_
  subst he
  exact ⟨_, rfl, _, _, _, [], _, [], hW', trodAll_mk1 (shut_bool Tryz.underlying4 _), (trodAll_cons_mk (Below.trod laidOut (by kernel_rfl) (of_decide_eq_true (by kernel_rfl)) kk0 bel lt0) (trodAll_cons_mk (Below.trod laidOut (by kernel_rfl) (of_decide_eq_true (by kernel_rfl)) kk1 bel lt1) trodAll_mk0)), rfl, bel.frame _, fun h => by cases h⟩
set_option maxHeartbeats 4000000 in
theorem facts : joinedFacts Tryz.prog 5 Tryz.f5 Rows.reachSaysSpec Rows.reachSaysRow = true := by
  unfold joinedFacts
  simp only [Bool.and_eq_true]
  repeat' (with_reducible refine And.intro ?_ ?_)
  all_goals (as_aux_lemma => kernel_rfl)
theorem over : Rows.ReachSaysSaid :=
  OpenClaim.holds_of_wide 5 Tryz.f5 rfl rfl rfl rfl rfl rfl rfl ⟨rfl, rfl, rfl, rfl, rfl⟩ rfl rfl rfl rfl rfl (by as_aux_lemma => kernel_rfl) Tryz.func5 facts
    (of_decide_eq_true (by as_aux_lemma => kernel_rfl)) (by unfold Func.isWrapper; first | (rw [if_pos (by as_aux_lemma => decide +kernel)]; kernel_rfl) | (rw [if_neg (by as_aux_lemma => decide +kernel)]; exact ⟨rfl, rfl⟩))
    (fun os started H enc _ => lifted os started H enc)
theorem fw : Rows.reachSaysRow.wfByText (OpenSpec.ofChange Rows.reachSaysSpec) = true := by kernel_rfl
theorem fm : Tryz.prog.mainIs = some (true, ("649f7d636a124f1c9608720d2ecb199ec101bdf0eb8f0afd898cf29322994591" : String).toList) := by kernel_rfl
theorem fn : Tryz.prog.funcNamed "backstitch/backstitchlaw1.ReachSays" = some 5 := by kernel_rfl
theorem fk : false = Tryz.prog.looks [] := by kernel_rfl
theorem fs : ([39, 29].all fun u => !Tryz.prog.wantsStandIn u) = true := by kernel_rfl
theorem fg : false = Rows.reachSaysRow.goesBy Tryz.prog := by kernel_rfl
end reachSays
theorem reachSays_holds : Rows.ReachSaysCardSaid :=
  Claim7.holds_tied_plain_at .later [] [.listed, .data] true (true, "649f7d636a124f1c9608720d2ecb199ec101bdf0eb8f0afd898cf29322994591") false reachSays.over (fun _ h => by cases h) reachSays.fw (fun _ h => by cases h) reachSays_row_tie rfl ⟨rfl, rfl⟩ reachSays.fm rfl
    (fun f fn hf hfn => by
      obtain rfl : f = 5 := (Option.some.inj (reachSays.fn.symm.trans hf)).symm
      obtain rfl : fn = Tryz.f5 := (Option.some.inj (Tryz.func5.symm.trans hfn)).symm
      exact ⟨reachSays.fk, fun j t ht => by
        rw [Tryz.params5] at ht
        have hm : t ∈ [39, 29] := by simpa using Array.mem_of_getElem? ht
        exact (show Tryz.prog.wantsStandIn t = false by simpa using List.all_eq_true.1 reachSays.fs t hm)⟩)
    reachSays.fg
#print axioms reachSays_holds
end Go.Proofs.YtbphdcffpobcbaaGreatDoor
