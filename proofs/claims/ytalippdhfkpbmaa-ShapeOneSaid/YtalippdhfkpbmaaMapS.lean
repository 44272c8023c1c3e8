/- The call's own map from shapes to numbers, in which what was seen has 1. -/
import Derived.Test.YtalippdhfkpbmaaApp
import Derived.Test.YtalippdhfkpbmaaShpP
import Derived.Maps.OwnSet
import Derived.Maps.OwnOps
import Derived.DeepKeys4
namespace Go.Proofs.Ytalippdhfkpbmaa
open Go.RowKit Go.Maps
/-- a number that an int may be -/
def InI (n : Int) : Prop := -9223372036854775808 ≤ n ∧ n ≤ 9223372036854775807
def InS (p : Shp) : Prop := InI p.1 ∧ InI p.2
theorem wfI {n : Int} (h : InI n) : (Lit.int .i64 n).wf = true := WalkArith.wf_i64 h
theorem ms_laidOut : laidOutB Try.prog = true := by kernel_rfl
theorem ms_map : Try.prog.underlying 56 = some (.map 29 3) := by kernel_rfl
theorem ms_int : Try.prog.underlying 3 = some (.int .i64) := by kernel_rfl
theorem ms_wide : (match Try.prog.underlying 29 with | some (.array _ _) | some (.struct _) => true | _ => false) = true := by
  rw [Try.underlying29]
theorem ms_key2 : Try.prog.keyTypeAt 2 29 = true := by kernel_rfl
theorem ms_law : Go.WideMaps.KeyLaw Try.prog 29 := deep_law_laid ms_laidOut (m := 2) (by omega) (of_decide_eq_true (by kernel_rfl)) ms_key2 ms_wide
theorem ms_keyed : Keyed Try.prog 29 := Keyed.of_law ms_law
theorem ms_zero (w : World) : (zeroValue 3).run Try.prog w = .ok (.int .i64 0) w := by kernel_rfl
/-- what a shape reads as, as a key -/
def kl (p : Shp) : Lit := .string (keyBytes [.int .i64 p.1, .int .i64 p.2])
theorem ms_kt : Try.prog.keyType 29 = true := by kernel_rfl
theorem ms_c2 : Try.prog.cellsOf 29 = 2 := by kernel_rfl
theorem ms_c1 : Try.prog.cellsOf 3 = 1 := by kernel_rfl
theorem ms_key {p : Shp} (h : InS p) : keyOf Try.prog 29 (.agg #[.int .i64 p.1, .int .i64 p.2]) = some (kl p) := by
  unfold keyOf
  simp only [Try.underlying29]
  rw [if_pos (by simp [ms_kt, Value.formed, Try.underlying29, ms_c2]), show Try.prog.types.size = (Try.prog.types.size - 1) + 1 from by kernel_rfl]
  unfold Program.keyLits
  simp only [Try.underlying29, Value.cells]
  rw [if_pos ⟨by rw [ms_c2]; rfl, by simp⟩]
  have hk : ∀ (d : Nat) (n : Int), InI n → Try.prog.keyLits (d + 1) 3 [.int .i64 n] = some [.int .i64 n] := fun d n hn => by
    unfold Program.keyLits
    simp only [ms_int, wfI hn, and_self, if_true]
  have hs : ∃ d, Try.prog.types.size - 1 = d + 1 := ⟨Try.prog.types.size - 2, by kernel_rfl⟩
  obtain ⟨d, hd⟩ := hs
  simp only [hd, List.mapM_cons, List.mapM_nil, ms_c1, List.drop, List.take]
  rw [hk (d + 1) p.1 h.1, hk (d + 1) p.2 h.2]
  rfl
theorem kl_inj {p q : Shp} (hp : InS p) (hq : InS q) (h : kl p = kl q) : p = q := by
  have h1 := ms_key hp
  have h2 := ms_key hq
  rw [← h] at h2
  have := ms_keyed.inj h1 h2
  simp only [Value.agg.injEq] at this
  have e := congrArg Array.toList this
  simp only [List.cons.injEq, Value.int.injEq, true_and, and_true] at e
  exact Prod.ext e.1 e.2
/-- Block b is a map in which just those of S have 1, all others 0. -/
def SeenAt (w : World) (b : Nat) (S : List Shp) : Prop :=
  ∃ D : DataW Unit, w.ownsMap Try.prog 29 (plainElem Try.prog 3) b S.length D ∧ (∀ p ∈ S, InS p) ∧ ∀ p, InS p → D.atKey (kl p) (.lit (.int .i64 0)) = .lit (.int .i64 (if p ∈ S then 1 else 0))
theorem SeenAt.made (w : World) : SeenAt (w.alloc (.map #[] 0)) w.heap.size [] :=
  ⟨_, World.ownsMap_made _ _ _ _, by simp, fun p _ => by simp [DataW.atKey]⟩
theorem SeenAt.keep {w w' : World} {b : Nat} {S : List Shp} (h : SeenAt w b S) (hb : Below w.heap.size w w') : SeenAt w' b S := by
  obtain ⟨D, hD, h1, h2⟩ := h
  refine ⟨D, ?_, h1, h2⟩
  have hlt := hD.lt
  obtain ⟨es, cl, he, rest⟩ := hD
  exact ⟨es, cl, (hb.block b hlt).trans he, rest⟩
theorem SeenAt.lt {w : World} {b : Nat} {S : List Shp} (h : SeenAt w b S) : b < w.heap.size := h.choose_spec.1.lt
theorem wpList_look_seen {w : World} {ops : Array Oper} {rest : List Oper} {o : Oper} {a : Act} {Q : Exit → Act → World → Prop} (hg : Region.wanted o (yielded ops a.tmps) = true) (m x : Operand)
    (hop : o.op = Op.lookup 56 m x false) {b : Nat} {S : List Shp} (hm : a.eval m = .map (some b)) (hS : SeenAt w b S) {p : Shp} (hx : a.eval x = .agg #[.int .i64 p.1, .int .i64 p.2]) (hp : InS p)
    (hK : wpList Try.prog ops Q rest (a.put o.dst (.int .i64 (if p ∈ S then 1 else 0))) w) : wpList Try.prog ops Q (o :: rest) a w := by
  obtain ⟨D, hD, h1, h2⟩ := hS
  refine BigFrame.wpList_want hg fun K' hK' => ?_
  obtain ⟨c, hrun, hc, -⟩ := hD.lookup_int ms_keyed ms_map ms_int (ms_zero w) (ms_key hp)
  rw [h2 p hp] at hc
  simp only [DataW.lit.injEq, Lit.int.injEq, true_and] at hc
  subst hc
  unfold Oper.wp
  simp [execOp, hop, hm, hx, hrun, Result.andThen]
  exact hK' _ _ hK
theorem wpList_put_seen {w : World} {ops : Array Oper} {rest : List Oper} {o : Oper} {a : Act} {Q : Exit → Act → World → Prop} (hg : Region.wanted o (yielded ops a.tmps) = true) (m x v : Operand)
    (hop : o.op = Op.mapUpdate 56 m x v) {b : Nat} {S : List Shp} (hm : a.eval m = .map (some b)) (hS : SeenAt w b S) {p : Shp} (hx : a.eval x = .agg #[.int .i64 p.1, .int .i64 p.2]) (hv : a.eval v = .int .i64 1) (hp : InS p) (hn : S.length < 1000000)
    (hK : ∀ w', SeenAt w' b (S ++ [p]) → Below b w w' → wpList Try.prog ops Q rest (a.put o.dst undef) w') : wpList Try.prog ops Q (o :: rest) a w := by
  obtain ⟨D, hD, h1, h2⟩ := hS
  have hlt := hD.lt
  refine BigFrame.wpList_want hg fun K' hK' => ?_
  obtain ⟨w', hrun, h3, h4⟩ := hD.update ms_keyed ms_map (by simp only [maxLen]; omega) (ms_key hp) (plainElem_int (a := 1) ms_int (by decide))
  unfold Oper.wp
  simp [execOp, hop, hm, hx, hv, hrun, Result.andThen]
  refine hK' _ _ (hK w' ⟨D.put (kl p) (.lit (.int .i64 1)), by simpa using h3, ?_, ?_⟩ ⟨h4.os, h4.tape, h4.output, h4.size, fun k hk => h4.block k (by omega) (by simp; omega)⟩)
  · intro q hq
    rcases List.mem_append.1 hq with hq | hq
    · exact h1 q hq
    · rw [List.mem_singleton.1 hq]; exact hp
  · intro q hq
    by_cases e : q = p
    · subst e
      rw [atKey_put_same hD.isMap (ms_keyed.key (ms_key hp))]
      simp
    · rw [atKey_put_other (fun h => e (kl_inj hq hp h)), h2 q hq]
      simp [e]
end Go.Proofs.Ytalippdhfkpbmaa
