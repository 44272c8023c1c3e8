/- OpsSay: for every op and every two values Right, Truth, Unary, Binary and Words answer what the document answers. No condition. -/
import Derived.Test.YtalippdhfkpbmaaDoorOpX
import Derived.Test.YtalippdhfkpbmaaDoorFrm
import Derived.Test.YtalippdhfkpbmaaDoorCards
import Derived.Test.YtalippdhfkpbmaaDoorTie
import Derived.SevenTiedAt
import Derived.Lib.SmallJoins
namespace Go.Proofs.YtalippdhfkpbmaaDoor
open Go.RowKit Go
set_option linter.unusedSimpArgs false
set_option maxRecDepth 100000 in
set_option maxHeartbeats 1000000 in
theorem opsSay_ok (op ak an bk bn : Int) : DPure Tryd.prog 3 [dI op, dV ak an, dV bk bn] fun d _ => d = dB true := by
  refine fn_ok [0,1,2,4,5,6,7,8,9,10,11,12,13,14] [(5, [0,1,0,7,15,31,63,127,63,511,1023,2047,4095,8191,8191,32767,65535,131071,262143,262143,1048575,2097151,4194303,8388607,8388607,33554431,67108863,134217727,268435455,268435455,1073741823,2147483647,4294967295,8589934591,17179869183,34359738367,68719476735,137438953471], (.seg 0 (.seg 2 (.eff 1 [2] (.eff 3 [0, 2] (.seg 4 (.seg 5 (.seg 6 (.seg 8 (.eff 7 [8] (.eff 9 [0, 2] (.seg 10 (.seg 11 (.seg 12 (.seg 13 (.seg 14 (.seg 15 (.seg 16 (.seg 17 (.seg 18 (.seg 19 (.seg 20 (.seg 21 (.seg 22 (.seg 23 (.seg 24 (.seg 25 (.seg 26 (.seg 27 (.seg 28 (.seg 29 (.seg 30 (.seg 31 (.seg 32 (.eff 33 [0, 2] (.eff 34 [0, 2] (.eff 35 [] (.seg 36 (.seg 37 .last)))))))))))))))))))))))))))))))))))))))] Tryd.func3 rfl (by kernel_rfl) rfl rfl rfl rfl (by kernel_rfl) ?_
  simp
  refine unary_ok _ _ _ ?_
  simp
  refine binary_ok _ _ _ _ _ ?_
  simp
  refine oneOp_ok _ _ _ ?_
  simp
  refine twoOp_ok _ _ _ _ _ ?_
  simp
  refine right_ok _ _ ?_
  simp
  refine rightVal_ok _ _ ?_
  simp
  refine truth_ok _ _ ?_
  simp
  refine isTrue_ok _ _ ?_
  simp
  refine words_ok ?_
  simp
  refine ownWords_ok ?_
  simp
  refine equalS_ok false false wordsT wordsT ?_
  simp
/-! ### THE ROW AND THE CARD: OpsSay (after the kit's worked card) -/
namespace opsSay
open Go.ChangeShapes Go.WideShapes Go.ChangeAt Go.RowKit Go.Joins
theorem own : ownKnob Tryd.prog.godebug = none := by kernel_rfl
theorem laidOut : laidOutB Tryd.prog = true := by kernel_rfl
set_option maxRecDepth 100000 in
theorem lifted (os : Os) (started : os.Started) (H : Type) (enc : TypeId × Value → H) :
    ReturnsInHanded {} Tryd.checked os 3 .any (fun w args => (Rows.opsSaySpec.pre enc Tryd.prog Tryd.f3 [] false w args ∧ laidMetH Tryd.prog Rows.opsSayRow.laid w) ∧ sizedMet enc Tryd.prog Tryd.f3 (OpenSpec.ofChange Rows.opsSaySpec) false w args)
      (Rows.opsSaySpec.post enc Tryd.prog Tryd.f3 false true false false) := by
  refine returnsInHanded_of_change_and (C := Tryd.checked) (X := fun w _ => laidMetH Tryd.prog Rows.opsSayRow.laid w) (fun _ _ _ hh h => h.of_heap hh) own started (by kernel_rfl) Tryd.func3
    (ChangeSpec.witness_shaped (enc := enc) (C := Tryd.checked) (os := os) (X := fun w _ => laidMetH Tryd.prog Rows.opsSayRow.laid w) false (World.laidAll Tryd.prog os Rows.opsSayRow.laid) #[.int .i64 0, .agg #[.int .i64 0, .int .i64 0], .agg #[.int .i64 0, .int .i64 0]] 8 (World.laidAll_os _ _ _)
      (World.shaped_of_ZipB (by kernel_rfl) (by kernel_rfl)) (by kernel_rfl) (by kernel_rfl) (by kernel_rfl)
      (by rw [MakeChecks.laidMetH_plain _ _ _ (by kernel_rfl)]; exact laidMet_laidAll _ (by kernel_rfl) (by kernel_rfl))) ?_
  intro W base args ds gs before hval0 hW _ hsz hL _
  have hval : ∀ (j : Nat) t v, Tryd.f3.params[j]? = some t → args[j]? = some v → Value.okWide Tryd.prog W .any base t v := hval0
  have hW' := hW
  obtain ⟨p, q, hA0, hV, rfl, hfz, hnd⟩ := hW
  have hA : DataW.TrodAll enc Tryd.prog W 0 (fun _ => true) true Tryd.f3.params.toList args.toList ds p := hA0
  rw [Tryd.params3] at hA hval
  obtain ⟨v0, vs0, d0, ds0, p0, q0, hargs, rfl, rfl, h0, r0⟩ := trodAll_cons hA
  obtain ⟨v1, vs1, d1, ds1, p1, q1, rfl, rfl, rfl, h1, r1⟩ := trodAll_cons r0
  obtain ⟨v2, vs2, d2, ds2, p2, q2, rfl, rfl, rfl, h2, r2⟩ := trodAll_cons r1
  obtain ⟨rfl, rfl, rfl⟩ := trodAll_nil r2
  obtain rfl : args = #[v0, v1, v2] := by cases args; simp_all
  obtain ⟨rfl, rfl⟩ := trodVars_none hV
  have kk0 := h0
  have lt0 : ∀ x ∈ p0, x.block < W.heap.size := by obtain ⟨m, hm⟩ := kk0; exact DataW.trod_lt m _ _ _ hm
  have kk1 := h1
  have lt1 : ∀ x ∈ p1, x.block < W.heap.size := by obtain ⟨m, hm⟩ := kk1; exact DataW.trod_lt m _ _ _ hm
  have kk2 := h2
  have lt2 : ∀ x ∈ p2, x.block < W.heap.size := by obtain ⟨m, hm⟩ := kk2; exact DataW.trod_lt m _ _ _ hm
  obtain ⟨a0, rfl, rfl, rfl, g0⟩ := open_int Tryd.underlying3 (hval 0 3 v0 rfl rfl) h0
  obtain ⟨c1a, c1b, y1a, y1b, m1, rfl, rfl, rfl, hy1a, hy1b⟩ := open_agg2 Tryd.underlying23 (by kernel_rfl) (by kernel_rfl) (hval 1 23 v1 rfl rfl) h1
  obtain ⟨k1, ea1, rfl, wk1⟩ := DataW.trod_int Tryd.underlying3 hy1a
  obtain ⟨n1, eb1, rfl, wn1⟩ := DataW.trod_int Tryd.underlying3 hy1b
  simp at ea1 eb1
  subst ea1 eb1
  obtain ⟨c2a, c2b, y2a, y2b, m2, rfl, rfl, rfl, hy2a, hy2b⟩ := open_agg2 Tryd.underlying23 (by kernel_rfl) (by kernel_rfl) (hval 2 23 v2 rfl rfl) h2
  obtain ⟨k2, ea2, rfl, wk2⟩ := DataW.trod_int Tryd.underlying3 hy2a
  obtain ⟨n2, eb2, rfl, wn2⟩ := DataW.trod_int Tryd.underlying3 hy2b
  simp at ea2 eb2
  subst ea2 eb2
  have hgl := gl_of_laid hL
  clear hA0 hval0
  refine (law_frame (opsSay_ok a0 k1 n1 k2 n2) hgl (vs := [.int .i64 a0, .agg #[.int .i64 k1, .int .i64 n1], .agg #[.int .i64 k2, .int .i64 n2]]) (by simp only [RVs]; exact ⟨by rw [RV]; exact .lit rfl, dV_ok _ _ _ _ _, dV_ok _ _ _ _ _, trivial⟩)).mono fun e W' ⟨he, bel⟩ => ?_
  subst he
  exact ⟨_, rfl, _, _, _, [], _, [], hW', trodAll_mk1 (shut_bool Tryd.underlying4 _), (trodAll_cons_mk (Below.trod laidOut (by kernel_rfl) (of_decide_eq_true (by kernel_rfl)) kk0 bel lt0) (trodAll_cons_mk (Below.trod laidOut (by kernel_rfl) (of_decide_eq_true (by kernel_rfl)) kk1 bel lt1) (trodAll_cons_mk (Below.trod laidOut (by kernel_rfl) (of_decide_eq_true (by kernel_rfl)) kk2 bel lt2) trodAll_mk0))), rfl, bel.frame _, fun h => by cases h⟩
theorem over : Rows.OpsSaySaid :=
  OpenClaim.holds_of_wide 3 Tryd.f3 rfl rfl rfl rfl rfl rfl rfl ⟨rfl, rfl, rfl, rfl, rfl⟩ rfl rfl rfl rfl rfl (by kernel_rfl) Tryd.func3 (by kernel_rfl)
    (of_decide_eq_true (by kernel_rfl)) (by unfold Func.isWrapper; first | (rw [if_pos (by decide +kernel)]; kernel_rfl) | (rw [if_neg (by decide +kernel)]; exact ⟨rfl, rfl⟩))
    (fun os started H enc _ => lifted os started H enc)
end opsSay
theorem opsSay_holds : Rows.OpsSayCardSaid :=
  Claim7.holds_tied_plain_at .later [] [.listed, .data] true (true, "4da94772299d49a46a470b8e019a6d26686646e07ba2ca2f61e7d983d451178f") false opsSay.over (fun _ h => by cases h) (by kernel_rfl) (fun _ h => by cases h) opsSay_row_tie rfl ⟨rfl, rfl⟩ (by kernel_rfl) rfl
    (fun f fn hf hfn => by
      obtain rfl : f = 3 := Option.some.inj ((show Tryd.prog.funcNamed "backstitch/backstitchlaw1.OpsSay" = some 3 by kernel_rfl).symm.trans hf) |>.symm
      obtain rfl : fn = Tryd.f3 := (Option.some.inj (Tryd.func3.symm.trans hfn)).symm
      exact ⟨by kernel_rfl, fun j t ht => by
        rw [Tryd.params3] at ht
        have hm : t ∈ [3, 23, 23] := by simpa using Array.mem_of_getElem? ht
        have hall : ([3, 23, 23].all fun u => !Tryd.prog.wantsStandIn u) = true := by kernel_rfl
        exact (show Tryd.prog.wantsStandIn t = false by simpa using List.all_eq_true.1 hall t hm)⟩)
    (by kernel_rfl)
#print axioms opsSay_holds
end Go.Proofs.YtalippdhfkpbmaaDoor
