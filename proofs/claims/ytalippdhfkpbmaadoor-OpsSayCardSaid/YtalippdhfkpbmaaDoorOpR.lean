/- Package ops: words, what is a value: contracts for the evaluator. -/
import Derived.Test.YtalippdhfkpbmaaDoorEvZ
import Derived.Test.YtalippdhfkpbmaaDoorLibA
import Derived.Test.YtalippdhfkpbmaaDoorShf
import Derived.Test.YtalippdhfkpbmaaDoorOpsC
import Derived.Test.YtalippdhfkpbmaaDoorCodA
namespace Go.Proofs.YtalippdhfkpbmaaDoor
open Go.RowKit Go
/-! ### Words -/
def wordsC : List UInt8 := [107, 105, 110, 100, 32, 114, 97, 110, 103, 101, 32, 122, 101, 114, 111, 32, 105, 110, 100, 101, 120, 32, 108, 97, 114, 103, 101, 32, 100, 101, 101, 112, 32, 115, 116, 97, 116, 101, 32, 99, 111, 117, 110, 116, 32, 110, 105, 108, 32, 98, 111, 111, 108, 32, 105, 110, 116, 32, 102, 108, 111, 97, 116, 32, 116, 101, 120, 116, 32, 111, 98, 106, 101, 99, 116, 32, 108, 105, 115, 116, 32, 102, 117, 110, 99, 116, 105, 111, 110, 32, 103, 101, 110, 101, 114, 97, 116, 111, 114, 32, 108, 111, 99, 107, 32, 119, 101, 97, 107]
def wordsT : List ByteArray := [⟨#[107, 105, 110, 100]⟩, ⟨#[114, 97, 110, 103, 101]⟩, ⟨#[122, 101, 114, 111]⟩, ⟨#[105, 110, 100, 101, 120]⟩, ⟨#[108, 97, 114, 103, 101]⟩, ⟨#[100, 101, 101, 112]⟩, ⟨#[115, 116, 97, 116, 101]⟩, ⟨#[99, 111, 117, 110, 116]⟩, ⟨#[110, 105, 108]⟩, ⟨#[98, 111, 111, 108]⟩, ⟨#[105, 110, 116]⟩, ⟨#[102, 108, 111, 97, 116]⟩, ⟨#[116, 101, 120, 116]⟩, ⟨#[111, 98, 106, 101, 99, 116]⟩, ⟨#[108, 105, 115, 116]⟩, ⟨#[102, 117, 110, 99, 116, 105, 111, 110]⟩, ⟨#[103, 101, 110, 101, 114, 97, 116, 111, 114]⟩, ⟨#[108, 111, 99, 107]⟩, ⟨#[119, 101, 97, 107]⟩]
theorem wordsT_fields : ((Lib.fields wordsC).map fun l => Value.string ⟨l.toArray⟩) = wordsT.map Value.string := by kernel_rfl
theorem tab_of_gl {F : Nat → Prop} {w : World} (h : GlOk F w) : Lib.TabIs Tryd.prog w "strings.asciiSpace" .u8 Lib.asciiSpaceTab := by
  obtain ⟨-, t, fz, e⟩ := h _ _ (List.mem_singleton.2 rfl)
  unfold Lib.TabIs World.var?
  rw [show Tryd.prog.globalNamed "strings.asciiSpace" = some 1 by kernel_rfl]
  simp only [Option.bind_some, e]
theorem fieldsW_ok {s : ByteArray} (hs : s = ⟨wordsC.toArray⟩) {K : D → List Blk → Prop} (h : K (.one (.own 0 1 wordsT.length)) [⟨.c 9, 1, wordsT.map fun s => [.d (eS s)]⟩]) : DPure Tryd.prog 48 [dS s] K := by
  subst hs
  refine DPure.ofRow [.string ⟨wordsC.toArray⟩] rfl (by kernel_rfl) 9 (wordsT.map Value.string) (by decide) (by decide) (by simp [wordsT, maxLen]) (fun F w hg => ?_) (by rw [List.length_map, List.map_map]; exact h)
  have := Tryd.strings_Fields ⟨wordsC.toArray⟩ w (by decide) (fun j b hj => (by decide : ∀ b ∈ wordsC, b.toNat < 128) b (List.mem_of_getElem? hj)) (tab_of_gl hg)
  have e : (Lib.fields (ByteArray.mk wordsC.toArray).data.toList).length = (wordsT.map Value.string).length := by rw [← wordsT_fields]; simp
  rw [e] at this
  have e2 : ((Lib.fields (ByteArray.mk wordsC.toArray).data.toList).map fun l => Value.string ⟨l.toArray⟩) = wordsT.map Value.string := wordsT_fields
  rw [e2] at this
  exact this
theorem words_ok {K : D → List Blk → Prop} (h : K (.one (.own 0 1 wordsT.length)) [⟨.c 9, 1, wordsT.map fun s => [.d (eS s)]⟩]) : DPure Tryd.prog 17 [] K := by
  refine fn_ok [0] [] Tryd.func17 rfl (by kernel_rfl) rfl rfl rfl rfl (by kernel_rfl) ?_
  simp
  refine fieldsW_ok (by kernel_rfl) ?_
  simp
  exact h
set_option maxRecDepth 100000 in
theorem ownWords_ok {K : D → List Blk → Prop} (h : K (.one (.own 0 1 wordsT.length)) [⟨.c 9, 1, wordsT.map fun s => [.d (eS s)]⟩]) : DPure Tryd.prog 18 [] K := by
  refine fn_ok [0] [] Tryd.func18 rfl (by kernel_rfl) rfl rfl rfl rfl (by kernel_rfl) ?_
  simp
  exact h
@[simp] theorem take_map_len {α β : Type} (g : α → β) (l : List α) : (l.map g).take l.length = l.map g := by rw [List.take_of_length_le (by simp)]
/-! ### of the program: as they were walked -/
abbrev dV (k n : Int) : D := aD [eI k, eI n]
theorem dV_ok (k n : Int) (E : Env) (w : World) (ι : Nms) : RV E w ι (dV k n) (.agg #[.int .i64 k, .int .i64 n]) := by
  rw [RV]; exact ⟨_, rfl, .lit rfl, .lit rfl, trivial⟩
abbrev dVT (x : VT) : D := .tup [dV x.1 x.2.1, dI x.2.2]
theorem dVT_ok (x : VT) (E : Env) (w : World) (ι : Nms) : RV E w ι (dVT x) (.tuple #[.agg #[.int .i64 x.1, .int .i64 x.2.1], .int .i64 x.2.2]) := by
  rw [RV]
  refine ⟨_, rfl, ?_⟩
  rw [RVs]
  refine ⟨dV_ok _ _ _ _ _, ?_⟩
  rw [RVs]
  refine ⟨?_, by rw [RVs]; trivial⟩
  rw [RV]; exact .lit rfl
theorem right_ok (k n : Int) {K : D → List Blk → Prop} (h : K (dB (rightB k n)) []) : DPure Tryd.prog 12 [dV k n] K :=
  DPure.ofBelow [.agg #[.int .i64 k, .int .i64 n]] rfl (by kernel_rfl) _ (dB (rightB k n)) (fun _ _ _ => by rw [RV]; exact .lit rfl) (fun w => right_any k n w) h
end Go.Proofs.YtalippdhfkpbmaaDoor
