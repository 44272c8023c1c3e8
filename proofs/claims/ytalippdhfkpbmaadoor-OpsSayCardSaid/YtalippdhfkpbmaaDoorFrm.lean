/- From a law's contract to its row: what a frame needs. -/
import Derived.Test.YtalippdhfkpbmaaDoorEvZ
import Derived.Test.YtalippdhfkpbmaaDoorLibA
import Derived.Test.YtalippdhfkpbmaaDoorRows
import Derived.Handy
import Derived.Lay
import Derived.OpenShut
import Derived.MakeChecks
import Derived.Carry
namespace Go.Proofs.YtalippdhfkpbmaaDoor
open Go.RowKit Go
theorem law_frame {f : FuncId} {ds : List D} (hD : DPure Tryd.prog f ds fun d _ => d = dB true) {W : World} {vs : List Value} (hgl : GlOk (fun b => b < W.heap.size) W) (hvs : RVs ⟨fun b => b < W.heap.size, fun b => b < W.heap.size⟩ W (fun _ => none) ds vs) :
    Calls Tryd.prog f vs.toArray W fun e w' => e = .returned (.bool true) ∧ Below W.heap.size W w' :=
  (hD.2 _ W vs (fun _ h => h) hgl hvs).mono fun e w' ⟨F', ι, d, fr, v, e1, ho, e3⟩ => by
    subst e1 e3
    have hv := ho.val
    rw [RV] at hv
    exact ⟨by rw [RD.lit_inv hv], ⟨ho.io.1, ho.io.2.2, ho.io.2.1, ho.size, ho.old⟩⟩
/-- what a laid row of plain data says of the variables -/
theorem laid_tail {P : Program} {x : String × DataW Unit} {l : List (String × DataW Unit)} {W : World} (h : laidMet P (x :: l) W) : laidMet P l W := by
  obtain ⟨ps, ⟨g, t, cs, fuel, p, q, -, -, -, -, hq, rfl⟩, hn, hc⟩ := h
  exact ⟨q, hq, (List.nodup_append.1 hn).2.1, fun b off hb => hc b off (List.mem_append_right _ hb)⟩
theorem gl_of_laid {W : World} (h : laidMetH Tryd.prog [("unicode.White_Space", Rows.laid_unicode_White_Space), ("strings.asciiSpace", Rows.laid_strings_asciiSpace)] W) : GlOk (fun b => b < W.heap.size) W := by
  rw [MakeChecks.laidMetH_plain _ _ _ (by kernel_rfl)] at h
  have h2 := laid_tail h
  have hd : Rows.laid_strings_asciiSpace (H := Unit) = Lib.tabData .u8 Lib.asciiSpaceTab := by kernel_rfl
  rw [hd] at h2
  have ht := Lib.tabIs_of_head (g := 1) (by kernel_rfl) (by kernel_rfl) (t := 93) (e := 5) (n := 256) (by kernel_rfl) (by kernel_rfl) (by kernel_rfl) (by kernel_rfl) h2
  intro g arr hm
  obtain ⟨rfl, rfl⟩ : g = 1 ∧ arr = (Lib.asciiSpaceTab.map fun z => Value.int .u8 z).toArray := by
    have := List.mem_singleton.1 hm
    cases this
    exact ⟨rfl, rfl⟩
  unfold Lib.TabIs World.var? at ht
  rw [show Tryd.prog.globalNamed "strings.asciiSpace" = some 1 by kernel_rfl] at ht
  simp only [Option.bind_some] at ht
  split at ht
  · rename_i cs t fz hw
    simp only [Option.some.injEq] at ht
    subst ht
    refine ⟨?_, t, fz, hw⟩
    exact (Array.getElem?_eq_some_iff.1 hw).1
  · cases ht
end Go.Proofs.YtalippdhfkpbmaaDoor
