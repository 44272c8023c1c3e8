/- Several texts in one. -/
import Derived.Test.YtbphdcffpobcbaaGreatDoorMki
import Derived.Test.YtbphdcffpobcbaaGreatDoorMkj
import Derived.Test.YtbphdcffpobcbaaGreatDoorMkk
import Derived.Test.YtbphdcffpobcbaaGreatDoorMkl
set_option linter.unusedSimpArgs false
set_option linter.unusedVariables false
set_option maxRecDepth 100000
set_option maxHeartbeats 16000000
namespace Go.Proofs.YtbphdcffpobcbaaGreatDoor
open Go.RowKit Go
theorem hcAll (call : Int) : HcOk call := by
  by_cases h : call < 0 ∨ 16 ≤ call ∨ call = 5 ∨ call = 8 ∨ call = 9 ∨ call = 15
  · exact hcP h
  have : call = 0 ∨ call = 1 ∨ call = 2 ∨ call = 3 ∨ call = 4 ∨ call = 6 ∨ call = 7 ∨ call = 10 ∨ call = 11 ∨ call = 12 ∨ call = 13 ∨ call = 14 := by omega
  rcases this with rfl | rfl | rfl | rfl | rfl | rfl | rfl | rfl | rfl | rfl | rfl | rfl
  · exact hcA (.inl rfl)
  · exact hcA (.inr (.inl rfl))
  · exact hcA (.inr (.inr rfl))
  · exact hcK
  · exact hcX
  · exact hcF (.inl rfl)
  · exact hcF (.inr rfl)
  · exact hcM (.inl rfl)
  · exact hcM (.inr rfl)
  · exact hcKp
  · exact hcT
  · exact hcE
theorem valsW_arg {H : Type} {enc : TypeId × Value → H} {W : World} {held : Bool} {r : Reach} {b0 : Nat} {v : Value} {d : DataW H} {ps : List MemPlace} (hval : Value.okWide Tryz.prog W r b0 27 v) (h : DataW.Trod enc Tryz.prog W 0 (fun _ => true) held 27 v d ps) (hz : ∀ y ∈ d.weights Tryz.prog 27, y ≤ reachBytes) :
    ∃ l : List GVal, (∀ u ∈ l, InI u.n) ∧ ∀ (B : Nat → Prop) (ι : Nms), RV (Env.mk (fun b => b < W.heap.size) B) W ι (dL true (l.map eVal)) v := by
  obtain ⟨a, len, cap, rfl⟩ := WideShapes.okWide_slice Tryz.underlying27 hval
  obtain ⟨m, hm⟩ := h
  rw [show (Value.slice a len cap).cells = #[.slice a len cap] from rfl] at hm
  obtain ⟨l, l1, l2⟩ := opn_valsW enc W held [.slice a len cap] ⟨m, _, hm, hz⟩
  refine ⟨l, l1, fun B ι => ?_⟩
  rw [RV, RC]
  exact l2 ⟨fun b => b < W.heap.size, B⟩ (fun b hb => hb) 0 _ _ rfl rfl
end Go.Proofs.YtbphdcffpobcbaaGreatDoor
