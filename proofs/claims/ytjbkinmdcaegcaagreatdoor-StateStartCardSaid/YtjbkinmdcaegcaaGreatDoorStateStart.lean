/- StateStart: each program that may be has a beginning that may be; one thread can go on. No condition. -/
import Derived.Test.YtjbkinmdcaegcaaGreatDoorCards
import Derived.Test.YtjbkinmdcaegcaaGreatDoorTie
import Derived.SevenTiedAt
import Derived.Lib.SmallJoins
import Derived.Test.YtjbkinmdcaegcaaGreatDoorMa
import Derived.Test.YtjbkinmdcaegcaaGreatDoorMb
import Derived.Test.YtjbkinmdcaegcaaGreatDoorMc
import Derived.Test.YtjbkinmdcaegcaaGreatDoorMd
import Derived.Test.YtjbkinmdcaegcaaGreatDoorMe
import Derived.Test.YtjbkinmdcaegcaaGreatDoorMf
import Derived.Test.YtjbkinmdcaegcaaGreatDoorMg
namespace Go.Proofs.YtjbkinmdcaegcaaGreatDoor
open Go.RowKit Go
set_option linter.unusedSimpArgs false
/-! ### THE ROW AND THE CARD: StateStart (after the kit's worked card) -/
namespace stateStart
open Go.ChangeShapes Go.WideShapes Go.ChangeAt Go.RowKit Go.Joins
theorem own : ownKnob Tryz.prog.godebug = none := by kernel_rfl
theorem laidOut : laidOutB Tryz.prog = true := by kernel_rfl
set_option maxRecDepth 100000 in
theorem lifted (os : Os) (started : os.Started) (H : Type) (enc : TypeId × Value → H) :
    ReturnsInHanded {} Tryz.checked os 3 .any (fun w args => (Rows.stateStartSpec.pre enc Tryz.prog Tryz.f3 [] false w args ∧ laidMetH Tryz.prog Rows.stateStartRow.laid w) ∧ sizedMet enc Tryz.prog Tryz.f3 (OpenSpec.ofChange Rows.stateStartSpec) false w args)
      (Rows.stateStartSpec.post enc Tryz.prog Tryz.f3 false true false false) := by
  refine returnsInHanded_of_change_and (C := Tryz.checked) (X := fun w _ => laidMetH Tryz.prog Rows.stateStartRow.laid w) (fun _ _ _ hh h => h.of_heap hh) own started (by kernel_rfl) Tryz.func3
    (ChangeSpec.witness_shaped (enc := enc) (C := Tryz.checked) (os := os) (X := fun w _ => laidMetH Tryz.prog Rows.stateStartRow.laid w) false (World.laidAll Tryz.prog os Rows.stateStartRow.laid) #[.agg #[.slice none 0 0, .slice none 0 0, .slice none 0 0]] 8 (World.laidAll_os _ _ _)
      (World.shaped_of_ZipB (by kernel_rfl) (by kernel_rfl)) (by kernel_rfl) (by kernel_rfl) (by kernel_rfl)
      (by rw [MakeChecks.laidMetH_plain _ _ _ (by kernel_rfl)]; exact laidMet_laidAll _ (by kernel_rfl) (by kernel_rfl))) ?_
  intro W base args ds gs before hval0 hW _ hsz hL _
  have hval : ∀ (j : Nat) t v, Tryz.f3.params[j]? = some t → args[j]? = some v → Value.okWide Tryz.prog W .any base t v := hval0
  have hW' := hW
  obtain ⟨p, q, hA0, hV, rfl, hfz, hnd⟩ := hW
  have hA : DataW.TrodAll enc Tryz.prog W 0 (fun _ => true) true Tryz.f3.params.toList args.toList ds p := hA0
  rw [Tryz.params3] at hA hval
  obtain ⟨v0, vs0, d0, ds0, p0, q0, hargs, rfl, rfl, h0, r0⟩ := trodAll_cons hA
  obtain ⟨rfl, rfl, rfl⟩ := trodAll_nil r0
  obtain rfl : args = #[v0] := by cases args; simp_all
  obtain ⟨rfl, rfl⟩ := trodVars_none hV
  have kk0 := h0
  have lt0 : ∀ x ∈ p0, x.block < W.heap.size := by obtain ⟨m, hm⟩ := kk0; exact DataW.trod_lt m _ _ _ hm
  obtain ⟨p0, hp0, hv0⟩ := prog_arg (hval 0 _ v0 rfl rfl) h0
  have hgl := gl_of_laid hL
  clear hA0 hval0
  refine (law_frame (stateStart_ok p0 hp0) hgl (vs := [v0]) (by simp only [RVs]; exact ⟨hv0 _ _, trivial⟩)).mono fun e W' ⟨he, bel⟩ => ?_
  subst he
  exact ⟨_, rfl, _, _, _, [], _, [], hW', trodAll_mk1 (shut_bool Tryz.underlying4 _), (trodAll_cons_mk (Below.trod laidOut (by kernel_rfl) (of_decide_eq_true (by kernel_rfl)) kk0 bel lt0) trodAll_mk0), rfl, bel.frame _, fun h => by cases h⟩
theorem over : Rows.StateStartSaid :=
  OpenClaim.holds_of_wide 3 Tryz.f3 rfl rfl rfl rfl rfl rfl rfl ⟨rfl, rfl, rfl, rfl, rfl⟩ rfl rfl rfl rfl rfl (by kernel_rfl) Tryz.func3 (by kernel_rfl)
    (of_decide_eq_true (by kernel_rfl)) (by unfold Func.isWrapper; first | (rw [if_pos (by decide +kernel)]; kernel_rfl) | (rw [if_neg (by decide +kernel)]; exact ⟨rfl, rfl⟩))
    (fun os started H enc _ => lifted os started H enc)
end stateStart
theorem stateStart_holds : Rows.StateStartCardSaid :=
  Claim7.holds_tied_plain_at .later [] [.listed, .data] true (true, "bfbdd18fb645c5f456ff1746ebc6767cf54c3ee6b7b86918289f40c962192eed") false stateStart.over (fun _ h => by cases h) (by kernel_rfl) (fun _ h => by cases h) stateStart_row_tie rfl ⟨rfl, rfl⟩ (by kernel_rfl) rfl
    (fun f fn hf hfn => by
      obtain rfl : f = 3 := Option.some.inj ((show Tryz.prog.funcNamed "backstitch/backstitchkeep1.StateStart" = some 3 by kernel_rfl).symm.trans hf) |>.symm
      obtain rfl : fn = Tryz.f3 := (Option.some.inj (Tryz.func3.symm.trans hfn)).symm
      exact ⟨by kernel_rfl, fun j t ht => by
        rw [Tryz.params3] at ht
        have hm : t ∈ [26] := by simpa using Array.mem_of_getElem? ht
        have hall : ([26].all fun u => !Tryz.prog.wantsStandIn u) = true := by kernel_rfl
        exact (show Tryz.prog.wantsStandIn t = false by simpa using List.all_eq_true.1 hall t hm)⟩)
    (by kernel_rfl)
#print axioms stateStart_holds
end Go.Proofs.YtjbkinmdcaegcaaGreatDoor
