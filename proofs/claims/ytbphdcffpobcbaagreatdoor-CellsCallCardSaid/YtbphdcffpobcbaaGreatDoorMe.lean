/- Several texts in one. -/
import Derived.WalkKit
import Derived.ProofKit
import Ieee.Arith
import Derived.Shelf.Strings.Fields
import Derived.Test.YtbphdcffpobcbaaGreatDoorProg
import Derived.WalkLawsBesides
import Derived.WalkSpells
import Derived.OwnWalk
import Derived.Deep.DeepAppendWide
import Derived.Laws.AppendOwnNone
import Derived.Test.YtbphdcffpobcbaaGreatDoorMa
import Derived.Test.YtbphdcffpobcbaaGreatDoorMd
set_option linter.unusedSimpArgs false
set_option linter.unusedVariables false
set_option maxRecDepth 100000
set_option maxHeartbeats 16000000
namespace Go.Proofs.YtbphdcffpobcbaaGreatDoor
open Go.RowKit Go
theorem HSol.zero : HSol Hp.none := fun _ _ h => by cases h
end Go.Proofs.YtbphdcffpobcbaaGreatDoor

namespace Go.Proofs.YtbphdcffpobcbaaGreatDoor
open Go.RowKit
def flt (n : Int) : Nat := (IntKind.u64.wrap n).toNat
def same (x y : Nat) : Bool := Ieee.double.order x y == some .eq
def less (x y : Nat) : Bool := Ieee.double.order x y == some .lt
def theNaN : Int := 9221120237041090561
def ofN (b : Nat) : Int := if same b b then wrap64 b else theNaN
def bit (b : Bool) : Int := if b then 1 else 0
def rightB (k n : Int) : Bool :=
  if k = 0 then n == 0 else if k = 1 then decide (0 ≤ n) && decide (n ≤ 1) else if k = 2 then decide (-2147483648 ≤ n) && decide (n ≤ 2147483647)
  else if k = 3 then same (flt n) (flt n) || n == theNaN else if k = 4 ∨ k = 5 then decide (0 ≤ n) else if k = 6 then decide (0 ≤ n) && decide (n ≤ 15) else false
end Go.Proofs.YtbphdcffpobcbaaGreatDoor

namespace Go.Proofs.YtbphdcffpobcbaaGreatDoor
open Go.RowKit Go
structure MoreOk (p p' : GProg) (f f' : GFn) : Prop where
  consts : p.consts.length ≤ p'.consts.length
  texts : p.texts.length ≤ p'.texts.length
  fns : p.fns.length ≤ p'.fns.length
  same : ∀ k, k < p.fns.length → (p'.fns.getD k ⟨0, 0, false, [], []⟩).caught = (p.fns.getD k ⟨0, 0, false, [], []⟩).caught
  regs : f.regs ≤ f'.regs
  one : 1 ≤ f.regs
  gen : f.gen = f'.gen
  caught : f.caught = f'.caught
  code : f.code = f'.code
  b1 : p'.consts.length ≤ 100000
  b2 : p'.texts.length ≤ 100000
  b3 : p'.fns.length ≤ 100000
  b4 : f'.regs ≤ 100000
end Go.Proofs.YtbphdcffpobcbaaGreatDoor

namespace Go.Proofs.YtbphdcffpobcbaaGreatDoor
open Go.RowKit Go
def keyDs : List D → Option (List Value)
  | [] => some []
  | d :: ds => (keyD d).bind fun v => (keyDs ds).map fun l => v :: l
theorem keyDs_ok {E : Env} {w : World} {ι : Nms} : ∀ {ds : List D} {vs us : List Value}, RVs E w ι ds vs → keyDs ds = some us → vs = us
  | [], [], us, _, h => by simp only [keyDs, Option.some.injEq] at h; exact h
  | [], _ :: _, _, h, _ => by simp [RVs] at h
  | _ :: _, [], _, h, _ => by simp [RVs] at h
  | d :: ds, v :: vs, us, h, hk => by
    rw [RVs] at h
    simp only [keyDs] at hk
    obtain ⟨x, h1, h2⟩ := Option.bind_eq_some_iff.1 hk
    cases h3 : keyDs ds with
    | none => simp [h3] at h2
    | some l =>
      simp only [h3, Option.map_some, Option.some.injEq] at h2
      subst h2
      rw [keyD_ok h.1 h1, keyDs_ok h.2 h3]
theorem DPure.ofRow {P : Program} {f : FuncId} {ds : List D} {K : D → List Blk → Prop} (us : List Value) (hu : keyDs ds = some us) (hg : goFn P f = true) (t : TypeId) (xs : List Value) (h1 : xs.all Value.oneCell' = true) (h0 : 0 < xs.length) (hm : xs.length ≤ maxLen)
    (h : ∀ F w, GlOk F w → Calls P f us.toArray w fun e w' => e = .returned (.slice (some ⟨w.heap.size, 0, none⟩) xs.length xs.length) ∧ w' = w.alloc (.cells xs.toArray t)) (hK : K (.one (.own 0 1 xs.length)) [⟨.c t, 1, xs.map fun v => [.d (.lit v)]⟩]) : DPure P f ds K :=
  ⟨hg, fun F w vs hF hgl hvs => by
    rw [keyDs_ok hvs hu]
    refine (h F w hgl).mono ?_
    rintro e w' ⟨rfl, rfl⟩
    have hs : (w.alloc (.cells xs.toArray t)).heap.size = w.heap.size + 1 := by show (w.heap.push _).size = _; rw [Array.size_push]
    refine ⟨F, fun i => if i = 0 then some (w.heap.size, xs.length) else none, _, _, _, rfl, ⟨by omega, fun b hb => old_alloc w _ b hb, fun _ h => h, fun b h => ⟨.inl h, by have := hF b h; omega⟩, fun i x hx => ?_, fun i b cap hi hb hc => ?_, fun i j b c c' hi hj _ _ _ _ => ?_, fun i hi => ?_, ?_, rfl, rfl, rfl⟩, hK⟩
    · cases i with
      | zero =>
        simp only [List.getElem?_cons_zero, Option.some.injEq] at hx
        subst hx
        refine ⟨⟨w.heap.size, xs.length, rfl, by simp, by simp, fun _ => ⟨xs.toArray, ?_, by simp, fun v hv => List.all_eq_true.1 h1 v (by simpa using hv), fun i j c hc => ?_⟩⟩, fun e he c hc => ?_⟩
        · show (w.heap.push _)[w.heap.size]? = _
          simp
        · unfold nth2 at hc
          simp only [List.getElem?_map] at hc
          cases hx : xs[i]? with
          | none => simp [hx] at hc
          | some v =>
            simp only [hx, Option.map_some, Option.bind_some] at hc
            cases j with
            | zero =>
              simp only [List.getElem?_cons_zero, Option.some.injEq] at hc
              subst hc
              exact ⟨v, by simp [hx], RD.lit (List.all_eq_true.1 h1 v (List.mem_of_getElem? hx))⟩
            | succ j => simp at hc
        · obtain ⟨v, -, rfl⟩ := List.mem_map.1 he
          exact ⟨_, List.mem_singleton.1 hc⟩
      | succ i => simp at hx
    · simp at hi; subst hi
      simp at hb
      obtain ⟨rfl, rfl⟩ := hb
      exact ⟨Nat.le_refl _, by omega, fun hF' => by have := hF _ hF'; omega⟩
    · simp at hi hj; omega
    · simp at hi; have : i ≠ 0 := by omega
      simp [this]
    · rw [RV]
      exact ⟨w.heap.size, xs.length, rfl, Nat.le_refl _, hm, .inr ⟨h0, rfl⟩⟩⟩
end Go.Proofs.YtbphdcffpobcbaaGreatDoor

namespace Go.Proofs
open Go.Shelf
def Tryz.lays157_ren : Go.Shelf.Ren := ⟨fun | 157 => 218 | 229 => 238 | 199 => 239 | 261 => 248 | 311 => 250 | 312 => 251 | n => n, fun | 9 => 9 | 31 => 24 | 3 => 3 | 5 => 5 | 4 => 4 | 119 => 283 | 0 => 0 | 40 => 285 | 152 => 289 | 21 => 21 | 154 => 291 | 51 => 262 | 141 => 293 | 196 => 300 | 193 => 297 | 198 => 303 | 49 => 301 | 194 => 298 | 201 => 306 | 226 => 308 | 46 => 210 | 227 => 309 | n => n, fun | 0 => 2 | 6 => 4 | n => n⟩
theorem Tryz.lays157 : Go.Proofs.Lays.n157 Tryz.prog Tryz.lays157_ren := {
  mixed := by kernel_rfl
  f157 := Tryz.func218.trans (congrArg some (by kernel_rfl))
  f199 := Tryz.func239.trans (congrArg some (by kernel_rfl))
  f229 := Tryz.func238.trans (congrArg some (by kernel_rfl))
  f261 := Tryz.func248.trans (congrArg some (by kernel_rfl))
  f311 := Tryz.func250.trans (congrArg some (by kernel_rfl))
  f312 := Tryz.func251.trans (congrArg some (by kernel_rfl))
  t0 := Tryz.underlying0
  a0 := Tryz.isAgg0
  z0 := Tryz.sizeOf0
  v0 := Tryz.zeroValue0
  t3 := Tryz.underlying3
  a3 := Tryz.isAgg3
  z3 := Tryz.sizeOf3
  v3 := Tryz.zeroValue3
  t4 := Tryz.underlying4
  a4 := Tryz.isAgg4
  z4 := Tryz.sizeOf4
  v4 := Tryz.zeroValue4
  t5 := Tryz.underlying5
  a5 := Tryz.isAgg5
  z5 := Tryz.sizeOf5
  v5 := Tryz.zeroValue5
  t9 := Tryz.underlying9
  a9 := Tryz.isAgg9
  z9 := Tryz.sizeOf9
  v9 := Tryz.zeroValue9
  t21 := Tryz.underlying21
  a21 := Tryz.isAgg21
  z21 := Tryz.sizeOf21
  v21 := Tryz.zeroValue21
  t31 := Tryz.underlying24
  a31 := Tryz.isAgg24
  z31 := Tryz.sizeOf24
  v31 := Tryz.zeroValue24
  t40 := Tryz.underlying285
  a40 := Tryz.isAgg285
  z40 := Tryz.sizeOf285
  v40 := Tryz.zeroValue285
  t46 := Tryz.underlying210
  a46 := Tryz.isAgg210
  z46 := Tryz.sizeOf210
  v46 := Tryz.zeroValue210
  t49 := Tryz.underlying301
  a49 := Tryz.isAgg301
  z49 := Tryz.sizeOf301
  v49 := Tryz.zeroValue301
  t51 := Tryz.underlying262
  a51 := Tryz.isAgg262
  z51 := Tryz.sizeOf262
  v51 := Tryz.zeroValue262
  t119 := Tryz.underlying283
  a119 := Tryz.isAgg283
  z119 := Tryz.sizeOf283
  t141 := Tryz.underlying293
  a141 := Tryz.isAgg293
  z141 := Tryz.sizeOf293
  v141 := Tryz.zeroValue293
  t152 := Tryz.underlying289
  a152 := Tryz.isAgg289
  z152 := Tryz.sizeOf289
  v152 := Tryz.zeroValue289
  t154 := Tryz.underlying291
  a154 := Tryz.isAgg291
  z154 := Tryz.sizeOf291
  v154 := Tryz.zeroValue291
  t193 := Tryz.underlying297
  a193 := Tryz.isAgg297
  z193 := Tryz.sizeOf297
  v193 := Tryz.zeroValue297
  t194 := Tryz.underlying298
  a194 := Tryz.isAgg298
  z194 := Tryz.sizeOf298
  v194 := Tryz.zeroValue298
  t196 := Tryz.underlying300
  a196 := Tryz.isAgg300
  z196 := Tryz.sizeOf300
  v196 := Tryz.zeroValue300
  t198 := Tryz.underlying303
  a198 := Tryz.isAgg303
  z198 := Tryz.sizeOf303
  v198 := Tryz.zeroValue303
  t201 := Tryz.underlying306
  a201 := Tryz.isAgg306
  z201 := Tryz.sizeOf306
  v201 := Tryz.zeroValue306
  t226 := Tryz.underlying308
  a226 := Tryz.isAgg308
  z226 := Tryz.sizeOf308
  v226 := Tryz.zeroValue308
  t227 := Tryz.underlying309
  a227 := Tryz.isAgg309
  z227 := Tryz.sizeOf309
  v227 := Tryz.zeroValue309
  g0 := by kernel_rfl
  g6 := by kernel_rfl }
open Go.RowKit Go.Lib in
theorem Tryz.strings_Fields (s : ByteArray) (w : World) (hs : s.size < 4294967281) (hascii : ∀ (j : Nat) b, s.data.toList[j]? = some b → b.toNat < 128) (htab : Lib.TabIs Tryz.prog w "strings.asciiSpace" .u8 Lib.asciiSpaceTab) :
    Calls Tryz.prog 218 #[.string s] w fun e w' =>
      e = .returned (.slice (some ⟨w.heap.size, 0, none⟩) (Lib.fields s.data.toList).length (Lib.fields s.data.toList).length) ∧ w' = w.alloc (.cells ((Lib.fields s.data.toList).map fun l => Value.string ⟨l.toArray⟩).toArray 9) := Any.strings_Fields Tryz.lays157 (by kernel_rfl) (by kernel_rfl) s w hs hascii htab
end Go.Proofs

namespace Go.Proofs.YtbphdcffpobcbaaGreatDoor
open Go.RowKit Go
def wordsC : List UInt8 := [107, 105, 110, 100, 32, 114, 97, 110, 103, 101, 32, 122, 101, 114, 111, 32, 105, 110, 100, 101, 120, 32, 108, 97, 114, 103, 101, 32, 100, 101, 101, 112, 32, 115, 116, 97, 116, 101, 32, 99, 111, 117, 110, 116, 32, 110, 105, 108, 32, 98, 111, 111, 108, 32, 105, 110, 116, 32, 102, 108, 111, 97, 116, 32, 116, 101, 120, 116, 32, 111, 98, 106, 101, 99, 116, 32, 108, 105, 115, 116, 32, 102, 117, 110, 99, 116, 105, 111, 110, 32, 103, 101, 110, 101, 114, 97, 116, 111, 114, 32, 108, 111, 99, 107, 32, 119, 101, 97, 107]
def wordsT : List ByteArray := [⟨#[107, 105, 110, 100]⟩, ⟨#[114, 97, 110, 103, 101]⟩, ⟨#[122, 101, 114, 111]⟩, ⟨#[105, 110, 100, 101, 120]⟩, ⟨#[108, 97, 114, 103, 101]⟩, ⟨#[100, 101, 101, 112]⟩, ⟨#[115, 116, 97, 116, 101]⟩, ⟨#[99, 111, 117, 110, 116]⟩, ⟨#[110, 105, 108]⟩, ⟨#[98, 111, 111, 108]⟩, ⟨#[105, 110, 116]⟩, ⟨#[102, 108, 111, 97, 116]⟩, ⟨#[116, 101, 120, 116]⟩, ⟨#[111, 98, 106, 101, 99, 116]⟩, ⟨#[108, 105, 115, 116]⟩, ⟨#[102, 117, 110, 99, 116, 105, 111, 110]⟩, ⟨#[103, 101, 110, 101, 114, 97, 116, 111, 114]⟩, ⟨#[108, 111, 99, 107]⟩, ⟨#[119, 101, 97, 107]⟩]
theorem wordsT_fields : ((Lib.fields wordsC).map fun l => Value.string ⟨l.toArray⟩) = wordsT.map Value.string := by kernel_rfl
theorem tab_of_gl {F : Nat → Prop} {w : World} (h : GlOk F w) : Lib.TabIs Tryz.prog w "strings.asciiSpace" .u8 Lib.asciiSpaceTab := by
  obtain ⟨-, t, fz, e⟩ := h _ _ List.mem_cons_self
  unfold Lib.TabIs World.var?
  rw [show Tryz.prog.globalNamed "strings.asciiSpace" = some 2 by kernel_rfl]
  simp only [Option.bind_some, e]
theorem fieldsW_ok {s : ByteArray} (hs : s = ⟨wordsC.toArray⟩) {K : D → List Blk → Prop} (h : K (.one (.own 0 1 wordsT.length)) [⟨.c 9, 1, wordsT.map fun s => [.d (eS s)]⟩]) : DPure Tryz.prog 218 [dS s] K := by
  subst hs
  refine DPure.ofRow [.string ⟨wordsC.toArray⟩] rfl (by kernel_rfl) 9 (wordsT.map Value.string) (by decide) (by decide) (by simp [wordsT, maxLen]) (fun F w hg => ?_) (by rw [List.length_map, List.map_map]; exact h)
  have := Tryz.strings_Fields ⟨wordsC.toArray⟩ w (by decide) (fun j b hj => (by decide : ∀ b ∈ wordsC, b.toNat < 128) b (List.mem_of_getElem? hj)) (tab_of_gl hg)
  have e : (Lib.fields (ByteArray.mk wordsC.toArray).data.toList).length = (wordsT.map Value.string).length := by rw [← wordsT_fields]; simp
  rw [e] at this
  have e2 : ((Lib.fields (ByteArray.mk wordsC.toArray).data.toList).map fun l => Value.string ⟨l.toArray⟩) = wordsT.map Value.string := wordsT_fields
  rw [e2] at this
  exact this
theorem words_ok {K : D → List Blk → Prop} (h : K (.one (.own 0 1 wordsT.length)) [⟨.c 9, 1, wordsT.map fun s => [.d (eS s)]⟩]) : DPure Tryz.prog 178 [] K := by
  refine fn_ok [0] [] Tryz.func178 rfl (by kernel_rfl) rfl rfl rfl rfl (by kernel_rfl) ?_
  simp
  refine fieldsW_ok (by kernel_rfl) ?_
  simp
  exact h
theorem ownWords_ok {K : D → List Blk → Prop} (h : K (.one (.own 0 1 wordsT.length)) [⟨.c 9, 1, wordsT.map fun s => [.d (eS s)]⟩]) : DPure Tryz.prog 84 [] K := by
  refine fn_ok [0] [] Tryz.func84 rfl (by kernel_rfl) rfl rfl rfl rfl (by kernel_rfl) ?_
  simp
  exact h
abbrev dV (k n : Int) : D := aD [eI k, eI n]
abbrev dF (b : Nat) : D := .one (.d (.lit (.float .f64 b)))
theorem opsWithin_ok (n lo hi : Int) {K : D → List Blk → Prop} (h : K (dB (btw n lo hi)) []) : DPure Tryz.prog 220 [dI n, dI lo, dI hi] K := by
  refine fn_ok [0,1,2,6] [] Tryz.func220 rfl (by kernel_rfl) rfl rfl rfl rfl (by kernel_rfl) ?_
  simp
  refine alt (fun h1 => kB h (by simp [btw]; omega)) (fun h1 => kB h (by simp [btw]; omega))
theorem opsFloat_ok (k n : Int) {K : D → List Blk → Prop} (h : K (dF (flt n)) []) : DPure Tryz.prog 221 [dV k n] K := by
  refine fn_ok [0,1,2] [] Tryz.func221 rfl (by kernel_rfl) rfl rfl rfl rfl (by kernel_rfl) ?_
  simp
  exact h
theorem right_ok (k n : Int) {K : D → List Blk → Prop} (h : K (dB (rightB k n)) []) : DPure Tryz.prog 186 [dV k n] K := by
  refine fn_ok [0,1,2,4,5,10,15,20,32,38] [(9, [0,1,0,7,15,31,63,127,255,511,1023], (.seg 0 (.seg 2 (.eff 1 [2] (.eff 3 [] (.seg 4 (.seg 5 (.seg 6 (.seg 7 (.seg 8 (.seg 9 (.seg 10 .last))))))))))))] Tryz.func186 rfl (by kernel_rfl) rfl rfl rfl rfl (by kernel_rfl) ?_
  by_cases e3 : k = 3
  · simp [e3]
    refine opsFloat_ok _ _ ?_
    simp
    refine opsFloat_ok _ _ ?_
    simp
    refine alt (fun c => ?_) (fun c => ?_)
    · have hs : same (flt n) (flt n) = true := by simp [same, c]
      exact kB h (by simp [rightB, e3, hs])
    · have hs : same (flt n) (flt n) = false := by simp [same, c]
      exact kB h (by rw [Bool.eq_iff_iff]; simp [rightB, e3, hs, theNaN])
  simp [e3]
  repeat' (first | (refine alt (fun _ => ?_) (fun _ => ?_)) | (intro _) | (refine opsWithin_ok _ _ _ ?_; simp))
  all_goals exact kB h (by simp_all [rightB, btw, theNaN] <;> first | done | omega | (rw [Bool.eq_iff_iff]; simp; done) | (rw [Bool.eq_iff_iff]; simp; omega)  )
end Go.Proofs.YtbphdcffpobcbaaGreatDoor

namespace Go.Proofs.YtbphdcffpobcbaaGreatDoor
open Go.RowKit Go
noncomputable def seenF (L : List ByteArray) (k : Nat) (v : Value) : Int := if v ∈ (L.take k).map Value.string then 1 else 0
theorem seenF_zero (L : List ByteArray) : seenF L 0 = fun _ => 0 := by funext v; simp [seenF]
theorem seenF_succ (L : List ByteArray) (k : Nat) (hk : k < L.length) : (fun v => if v = Value.string L[k] then 1 else seenF L k v) = seenF L (k + 1) := by
  funext v
  unfold seenF
  have e : (L.take (k + 1)).map Value.string = (L.take k).map Value.string ++ [Value.string L[k]] := by rw [List.take_succ_eq_append_getElem hk, List.map_append]; rfl
  rw [e]
  by_cases h : v = Value.string L[k]
  · rw [if_pos h, if_pos (by rw [h]; simp)]
  · rw [if_neg h]
    by_cases h2 : v ∈ (L.take k).map Value.string
    · rw [if_pos h2, if_pos (List.mem_append_left _ h2)]
    · rw [if_neg h2, if_neg (fun hm => by
        rcases List.mem_append.1 hm with hm | hm
        · exact h2 hm
        · exact h (List.mem_singleton.1 hm))]
theorem seenF_get (L : List ByteArray) (k : Nat) (hk : k < L.length) : seenF L k (.string L[k]) = 1 ↔ L[k] ∈ L.take k := by
  unfold seenF
  have e : Value.string L[k] ∈ (L.take k).map Value.string ↔ L[k] ∈ L.take k := by
    rw [List.mem_map]
    exact ⟨fun ⟨x, hx, e⟩ => by cases e; exact hx, fun h => ⟨_, h, rfl⟩⟩
  by_cases h : L[k] ∈ L.take k
  · rw [if_pos (e.2 h)]; simp [h]
  · rw [if_neg (fun h' => h (e.1 h'))]; simp [h]
theorem nodup_take {α : Type} {L : List α} {k : Nat} (hk : k < L.length) (h : (L.take k).Nodup) (hn : L[k] ∉ L.take k) : (L.take (k + 1)).Nodup := by
  rw [List.take_succ_eq_append_getElem hk, List.nodup_append]
  exact ⟨h, by simp, fun a ha b hb e => by rw [List.mem_singleton.1 hb] at e; exact hn (e ▸ ha)⟩
theorem not_nodup {α : Type} {L : List α} {k : Nat} (hk : k < L.length) (hn : L[k] ∈ L.take k) : ¬ L.Nodup := fun h => by
  have := h.sublist (List.take_sublist (k + 1) L)
  rw [List.take_succ_eq_append_getElem hk, List.nodup_append] at this
  exact this.2.2 _ hn _ (List.mem_singleton.2 rfl) rfl
end Go.Proofs.YtbphdcffpobcbaaGreatDoor

namespace Go.Proofs.YtbphdcffpobcbaaGreatDoor
open Go.RowKit Go
end Go.Proofs.YtbphdcffpobcbaaGreatDoor

namespace Go.Proofs.YtbphdcffpobcbaaGreatDoor
open Go.RowKit Go
end Go.Proofs.YtbphdcffpobcbaaGreatDoor

namespace Go.Proofs.YtbphdcffpobcbaaGreatDoor
open Go.RowKit Go
theorem Wk.emp {n nx t : Nat} {tm : List (Nat × D)} {H : Hp} (e : TypeId) (k : Nat) (ht : lk tm t = .one (.d .emp)) : Wk ⟨n, tm, H, nx⟩ ⟨n, ins tm t (.one (.own nx k 0)), H.set nx (some ⟨.c e, k, []⟩), nx + 1⟩ := fun β F ι a w h => by
  have hh : HpOk β F w ι H nx := h.heap
  obtain ⟨h1, h2⟩ := hh.adopt (x := ⟨.c e, k, []⟩) (b := 0) (cap := 0) ⟨0, 0, by simp [Nms.set], Nat.le_refl _, fun _ h => (by simp at h), fun h => absurd h (by omega)⟩ (fun h => absurd h (by omega)) (fun _ _ _ _ _ h => absurd h (by omega))
  refine ⟨F, ι.set nx (0, 0), h.good, h.defers, h.size, fun u => ?_, h1⟩
  have hu := (h.tm u).keep (E' := ⟨F, β.B⟩) (w' := w) ⟨fun _ h => h, fun _ h => h, fun _ _ => rfl, fun _ _ => rfl⟩ h2
  simp only [lk_ins]
  by_cases e1 : u = t
  · subst e1
    rw [if_pos rfl]
    have : lk (St.mk n tm H nx).tm u = .one (.d .emp) := ht
    rw [this, RV] at hu
    rw [RV]
    have hv : ∃ A, a.tmps.getD u undef = .slice A 0 0 := by
      have hr : RD ⟨F, β.B⟩ w .emp (a.tmps.getD u undef) := hu
      generalize a.tmps.getD u undef = y at hr
      cases hr; exact ⟨_, rfl⟩
    exact ⟨0, 0, by simp [Nms.set], Nat.le_refl _, by simp [maxLen], .inl ⟨rfl, hv⟩⟩
  · rw [if_neg e1]; exact hu
def iRows (L : List Int) : List (List C) := L.map fun x => [.d (eI x)]
@[simp] theorem iRows_len (L : List Int) : (iRows L).length = L.length := by simp [iRows]
@[simp] theorem iRows_get (L : List Int) (k : Nat) : (iRows L)[k]? = (L[k]?).map fun x => [.d (eI x)] := by simp [iRows]
@[simp] theorem iRows_getE (L : List Int) (k : Nat) (h : k < (iRows L).length) : (iRows L)[k] = [.d (eI (L[k]'(by simpa using h)))] := by simp [iRows]
theorem iRows_isD {L : List Int} : ∀ e ∈ iRows L, ∀ c ∈ e, c.isD = true := by simp [iRows]
theorem iRows_set (L : List Int) (k : Nat) (x : Int) : (iRows L).set k [.d (eI x)] = iRows (L.set k x) := by simp [iRows, List.map_set]
theorem iRows_app (L : List Int) (x : Int) : iRows L ++ [[.d (eI x)]] = iRows (L ++ [x]) := by simp [iRows]
def swp (L M : List Int) (k : Nat) : Prop := M.length = L.length ∧ ∀ p, p < L.length → M.getD p 0 = if p < k ∨ L.length ≤ p + k then L.getD (L.length - 1 - p) 0 else L.getD p 0
theorem swp_zero (L : List Int) : swp L L 0 := ⟨rfl, fun p hp => by simp [show ¬ L.length ≤ p by omega]⟩
theorem getD_setI {M : List Int} {i j : Nat} {x : Int} (h : i < M.length) : (M.set i x).getD j 0 = if i = j then x else M.getD j 0 := by
  simp only [List.getD, List.getElem?_set]
  split
  · simp [h]
  · rfl
theorem swp_step {L M : List Int} {k : Nat} (h : swp L M k) (hk : k + k + 1 < L.length) :
    swp L ((M.set k (M.getD (L.length - 1 - k) 0)).set (L.length - 1 - k) (M.getD k 0)) (k + 1) := by
  obtain ⟨h1, h2⟩ := h
  refine ⟨by simp [h1], fun p hp => ?_⟩
  rw [getD_setI (by simp; omega), getD_setI (by omega)]
  have a := h2 (L.length - 1 - k) (by omega)
  have b := h2 k (by omega)
  have c := h2 p hp
  rw [if_neg (by omega)] at a b
  by_cases e1 : L.length - 1 - k = p
  · rw [if_pos e1, b, if_pos (by omega)]; congr 1; omega
  · rw [if_neg e1]
    by_cases e2 : k = p
    · rw [if_pos e2, a, if_pos (by omega)]; congr 1; omega
    · rw [if_neg e2, c]
      by_cases e3 : p < k ∨ L.length ≤ p + k
      · rw [if_pos e3, if_pos (by omega)]
      · rw [if_neg e3, if_neg (by omega)]
theorem swp_end {L M : List Int} {k : Nat} (h : swp L M k) (hk : L.length ≤ k + k + 1) (hk2 : k + k ≤ L.length) : M = L.reverse := by
  obtain ⟨h1, h2⟩ := h
  apply List.ext_getElem (by simp [h1])
  intro p hp hq
  have hp' : p < L.length := by omega
  have := h2 p hp'
  simp only [List.getD, List.getElem?_eq_getElem hp, Option.getD_some] at this
  rw [List.getElem_reverse, this]
  split
  · simp [List.getElem?_eq_getElem (show L.length - 1 - p < L.length by omega)]
  · have : p = L.length - 1 - p := by omega
    simp [List.getElem?_eq_getElem hp', ← this]
def backI (L : List Int) (k : Nat) : Int := (L.length : Int) - 1 - k
structure RvS where
  k : Nat
  M : List Int
theorem HSol.rows {H : Hp} {n : Nat} {t : BT} {M : List Int} (h : HSol H) : HSol (H.set n (some ⟨t, 1, iRows M⟩)) := fun m x hx e he c hc => by
  by_cases e1 : m = n
  · subst e1
    rw [Hp.set_same] at hx
    cases hx
    have := iRows_isD e he c hc
    cases c <;> first | exact this | (cases this)
  · rw [Hp.set_ne _ _ e1] at hx
    exact h m x hx e he c hc
theorem reverse_ok {H : Hp} {nx n : Nat} {L : List Int} (hH : H n = some ⟨.c 3, 1, iRows L⟩) (hs : HSol H) (hl : L.length ≤ 1000000) {K : D → Hp → Nat → Prop} (h : K (.tup []) (H.set n (some ⟨.c 3, 1, iRows L.reverse⟩)) nx) :
    ICall Tryz.prog 217 [.one (.own n 1 L.length)] H nx K := by
  refine fni_ok [0,2,3,9] [(3, [0,0,0,0,0,0,48,112,0,0,768,1792,4083,8179,16383,32767], (.seg 0 (.seg 1 (.seg 2 (.seg 3 (.seg 4 (.seg 5 (.seg 6 (.seg 7 (.seg 8 (.seg 9 (.seg 10 (.seg 11 (.seg 12 (.eff 13 [] (.seg 14 (.eff 15 [] .last)))))))))))))))))] Tryz.func217 rfl (by kernel_rfl) rfl rfl rfl rfl (by kernel_rfl) ?_
  simp
  intro _
  have hw : IntKind.i64.wrap ((L.length : Int) - 1) = backI L 0 := by rw [wrap_id (by omega) (by omega)]; simp [backI]
  rw [hw]
  refine loopH_ok (ks := [0,2,3,9]) (pl := [(3, [0,0,0,0,0,0,48,112,0,0,768,1792,4083,8179,16383,32767], (.seg 0 (.seg 1 (.seg 2 (.seg 3 (.seg 4 (.seg 5 (.seg 6 (.seg 7 (.seg 8 (.seg 9 (.seg 10 (.seg 11 (.seg 12 (.eff 13 [] (.seg 14 (.eff 15 [] .last)))))))))))))))))]) (n0 := 28) (α := {x : RvS // swp L x.M x.k ∧ x.k + x.k ≤ L.length}) (fun x => [(2, dI x.1.k), (3, dI (backI L x.1.k))]) (fun H x => H.set n (some ⟨.c 3, 1, iRows x.1.M⟩)) (fun _ => nx) (fun x => L.length + 1 - x.1.k) ⟨⟨0, L⟩, swp_zero L, Nat.zero_le _⟩ rfl (by kernel_rfl) ?_ ?_
  · refine Wk.subH (by simp) ?_
    funext m
    simp only [Hp.set]
    split
    · rename_i e; subst e; exact hH
    · rfl
  rintro ⟨⟨k, M⟩, hM, hk⟩
  simp only at hM hk
  have hml := hM.1
  by_cases h1 : k + k + 1 < L.length
  · have hb : backI L k = ((L.length - 1 - k : Nat) : Int) := by unfold backI; omega
    have hlt : (k : Int) < backI L k := by rw [hb]; omega
    have hk1 : k < M.length := by omega
    have hk2 : L.length - 1 - k < M.length := by omega
    have hst := swp_step hM h1
    have g1 : M.getD k 0 = M[k] := by rw [List.getD_eq_getElem?_getD, List.getElem?_eq_getElem hk1]; rfl
    have g2 : M.getD (L.length - 1 - k) 0 = M[L.length - 1 - k] := by rw [List.getD_eq_getElem?_getD, List.getElem?_eq_getElem hk2]; rfl
    rw [g1, g2] at hst
    have hw2 : IntKind.i64.wrap (((L.length - 1 - k : Nat) : Int) - 1) = backI L (k + 1) := by rw [wrap_id (by omega) (by omega)]; unfold backI; omega
    simp [hb, hml, hw2, show k < L.length by omega, show L.length - 1 - k < L.length by omega, show k < L.length - 1 - k by omega]
    simp only [iRows_set, iRows_getE]
    refine ⟨by simp, ⟨k + 1, _⟩, by simp; omega, ⟨hst, by simp; omega⟩, Wk.subH (by simp [wrap_add (show k < 9223372036854775807 by omega)]) (by simp [iRows_set])⟩
  · have hlt : ¬ (k : Int) < backI L k := by unfold backI; omega
    have he := swp_end hM (by omega) hk
    subst he
    simp [hlt]
    exact ⟨hs.rows, h⟩
end Go.Proofs.YtbphdcffpobcbaaGreatDoor

namespace Go.Proofs.YtbphdcffpobcbaaGreatDoor
open Go.RowKit Go
end Go.Proofs.YtbphdcffpobcbaaGreatDoor

namespace Go.Proofs.YtbphdcffpobcbaaGreatDoor
open Go.RowKit Go
def eTs (l : List GTry) : List Dt := [.sl true (l.map eTry)]
def eBo (b : Bool) : List Dt := [eB b]
attribute [simp] eBo
def eOut (f : GFn) : List Dt := [.sl true ((triesQ f).out.map eTs)]
def eSeen (f : GFn) : List Dt := [.sl true ((triesQ f).seen.map eBo)]
attribute [simp] eOut eSeen
structure KA where
  k : Nat
  q : Nat
end Go.Proofs.YtbphdcffpobcbaaGreatDoor

namespace Go.Proofs.YtbphdcffpobcbaaGreatDoor
open Go.RowKit Go
structure HN where
  k : Nat
  H : Hp
  nx : Nat
end Go.Proofs.YtbphdcffpobcbaaGreatDoor

namespace Go.Proofs.YtbphdcffpobcbaaGreatDoor
open Go.RowKit
def Stay (p : Prop) : Prop := p
theorem Stay.out {p : Prop} (h : Stay p) : p := h
theorem Stay.mk {p : Prop} (h : p) : Stay p := h
end Go.Proofs.YtbphdcffpobcbaaGreatDoor

namespace Go.Proofs.YtbphdcffpobcbaaGreatDoor
open Go.RowKit
def Lies (w : World) (v : Value) (n k : Nat) (xs : List Value) : Prop :=
  ∃ A cap, v = .slice A n cap ∧ n ≤ cap ∧ cap ≤ maxLen ∧ xs.length = n * k ∧ (A = none → n = 0 ∧ cap = 0) ∧
    (0 < n → ∃ b o, A = some ⟨b, o, none⟩ ∧ b < w.heap.size ∧ ∀ i x, xs[i]? = some x → w.cell? ⟨b, o + i, none⟩ = some x)
theorem Lies.nil (w : World) (k : Nat) : Lies w (.slice none 0 0) 0 k [] := ⟨none, 0, rfl, by omega, by simp [maxLen], by simp, fun _ => ⟨rfl, rfl⟩, fun h => by omega⟩
theorem Lies.keep {w w' : World} {v : Value} {n k : Nat} {xs : List Value} {B : Nat} (h : Lies w v n k xs) (hb : Below B w w') (hB : w.heap.size ≤ B) : Lies w' v n k xs := by
  obtain ⟨A, cap, hv, h1, h2, h3, h4, h5⟩ := h
  refine ⟨A, cap, hv, h1, h2, h3, h4, fun h0 => ?_⟩
  obtain ⟨b, o, ha, hlt, hc⟩ := h5 h0
  refine ⟨b, o, ha, Nat.lt_of_lt_of_le hlt hb.size, fun i x hx => ?_⟩
  rw [hb.cell (p := ⟨b, o + i, none⟩) (by show b < B; omega)]
  exact hc i x hx
def ints (L : List Int) : List Value := L.map (Value.int .i64)
theorem ints_get {L : List Int} {i : Nat} (h : i < L.length) : (ints L)[i]? = some (.int .i64 (L.getD i 0)) := by
  simp [ints, List.getD, List.getElem?_eq_getElem h]
def duos : List (Int × Int) → List Value
  | [] => []
  | p :: L => .int .i64 p.1 :: .int .i64 p.2 :: duos L
theorem duos_get : ∀ {L : List (Int × Int)} {i : Nat}, i < L.length → (duos L)[i * 2]? = some (.int .i64 (L.getD i (0, 0)).1) ∧ (duos L)[i * 2 + 1]? = some (.int .i64 (L.getD i (0, 0)).2)
  | p :: L, 0, _ => by simp [duos]
  | p :: L, i + 1, h => by
    have := duos_get (L := L) (i := i) (by simpa using h)
    rw [show (i + 1) * 2 = i * 2 + 1 + 1 by omega]
    simpa [duos, List.getD] using this
def fstD (L : List (Int × Int)) (i : Nat) : Int := (L.getD i (0, 0)).1
def sndD (L : List (Int × Int)) (i : Nat) : Int := (L.getD i (0, 0)).2
def Ints (w : World) (v : Value) (L : List Int) : Prop := Lies w v L.length 1 (ints L)
def Duos (w : World) (v : Value) (L : List (Int × Int)) : Prop := Lies w v L.length 2 (duos L)
theorem Ints.keep {w w' : World} {v : Value} {L : List Int} {B : Nat} (h : Ints w v L) (hb : Below B w w') (hB : w.heap.size ≤ B) : Ints w' v L := Lies.keep h hb hB
theorem Duos.keep {w w' : World} {v : Value} {L : List (Int × Int)} {B : Nat} (h : Duos w v L) (hb : Below B w w') (hB : w.heap.size ≤ B) : Duos w' v L := Lies.keep h hb hB
theorem Ints.drew {w : World} {v : Value} {L : List Int} (h : Ints w v L) : Ints w.drew v L := h
theorem Duos.drew {w : World} {v : Value} {L : List (Int × Int)} (h : Duos w v L) : Duos w.drew v L := h
theorem Ints.open {w : World} {v : Value} {L : List Int} (h : Ints w v L) : ∃ A cap, v = .slice A L.length cap ∧ L.length ≤ cap ∧ cap ≤ maxLen ∧ (A = none → L.length = 0 ∧ cap = 0) ∧
    (0 < L.length → ∃ b o, A = some ⟨b, o, none⟩ ∧ b < w.heap.size ∧ ∀ i, i < L.length → w.cell? ⟨b, o + i, none⟩ = some (.int .i64 (L.getD i 0))) := by
  obtain ⟨A, cap, hv, h1, h2, h3, h4, h5⟩ := h
  refine ⟨A, cap, hv, h1, h2, h4, fun h0 => ?_⟩
  obtain ⟨b, o, ha, hlt, hc⟩ := h5 h0
  exact ⟨b, o, ha, hlt, fun i hi => hc i _ (ints_get hi)⟩
theorem Duos.open {w : World} {v : Value} {L : List (Int × Int)} (h : Duos w v L) : ∃ A cap, v = .slice A L.length cap ∧ L.length ≤ cap ∧ cap ≤ maxLen ∧ (A = none → L.length = 0 ∧ cap = 0) ∧
    (0 < L.length → ∃ b o, A = some ⟨b, o, none⟩ ∧ b < w.heap.size ∧ ∀ i, i < L.length → w.cell? ⟨b, o + i * 2, none⟩ = some (.int .i64 (fstD L i)) ∧ w.cell? ⟨b, o + i * 2 + 1, none⟩ = some (.int .i64 (sndD L i))) := by
  obtain ⟨A, cap, hv, h1, h2, h3, h4, h5⟩ := h
  refine ⟨A, cap, hv, h1, h2, h4, fun h0 => ?_⟩
  obtain ⟨b, o, ha, hlt, hc⟩ := h5 h0
  exact ⟨b, o, ha, hlt, fun i hi => ⟨hc _ _ (duos_get hi).1, by have := hc _ _ (duos_get hi).2; rwa [← Nat.add_assoc] at this⟩⟩
theorem Duos.nil (w : World) : Duos w (.slice none 0 0) [] := Lies.nil w 2
theorem Ints.nil (w : World) : Ints w (.slice none 0 0) [] := Lies.nil w 1
end Go.Proofs.YtbphdcffpobcbaaGreatDoor

namespace Go.Proofs.YtbphdcffpobcbaaGreatDoor
open Go.RowKit
def idx {α : Type} [DecidableEq α] (L : List α) (x : α) : Int := if x ∈ L then (L.idxOf x : Int) else -1
abbrev Shp := Int × Int
def namesF (L : List Shp) : Nat → Nat → List Int
  | 0, _ => []
  | f + 1, s => if s = 0 then [] else namesF L f (fstD L s).toNat ++ [sndD L s]
def namesP (L : List Shp) (s : Nat) : List Int := namesF L s s
def Ahead (L : List Shp) (s : Nat) : Prop := ∀ j, 0 < j → j ≤ s → 0 ≤ fstD L j ∧ fstD L j < j
theorem Ahead.to {L : List Shp} {s t : Nat} (h : Ahead L s) (ht : t ≤ s) : Ahead L t := fun j h0 h1 => h j h0 (by omega)
theorem namesF_fuel {L : List Shp} : ∀ {f g s : Nat}, Ahead L s → s ≤ f → s ≤ g → namesF L f s = namesF L g s
  | 0, 0, s, _, _, _ => rfl
  | 0, g + 1, s, _, h, _ => by obtain rfl : s = 0 := by omega
                               simp [namesF]
  | f + 1, 0, s, _, _, h => by obtain rfl : s = 0 := by omega
                               simp [namesF]
  | f + 1, g + 1, s, ha, hf, hg => by
    by_cases h0 : s = 0
    · simp [namesF, h0]
    · have hu := ha s (by omega) (Nat.le_refl _)
      simp only [namesF, h0, if_false]
      rw [namesF_fuel (f := f) (g := g) (ha.to (by omega)) (by omega) (by omega)]
theorem namesP_zero (L : List Shp) : namesP L 0 = [] := rfl
theorem namesP_step {L : List Shp} {s : Nat} (h : Ahead L s) (h0 : 0 < s) : namesP L s = namesP L (fstD L s).toNat ++ [sndD L s] := by
  have hu := h s h0 (Nat.le_refl _)
  obtain ⟨t, rfl⟩ : ∃ t, s = t + 1 := ⟨s - 1, by omega⟩
  show namesF L (t + 1) (t + 1) = _
  simp only [namesF, Nat.add_eq_zero_iff, Nat.one_ne_zero, and_false, if_false]
  rw [namesF_fuel (f := t) (g := (fstD L (t + 1)).toNat) (h.to (by omega)) (by omega) (by omega)]
  rfl
theorem namesP_len {L : List Shp} : ∀ {s : Nat}, Ahead L s → (namesP L s).length ≤ s := by
  intro s
  induction s using Nat.strongRecOn with
  | _ s ih =>
    intro h
    by_cases h0 : s = 0
    · subst h0; simp [namesP_zero]
    · have hu := h s (by omega) (Nat.le_refl _)
      rw [namesP_step h (by omega)]
      have := ih (fstD L s).toNat (by omega) (h.to (by omega))
      simp; omega
def fits (L : List Shp) (k : Nat) : Prop :=
  0 ≤ fstD L k ∧ fstD L k < k ∧ 0 ≤ sndD L k ∧ sndD L k ∉ namesP L (fstD L k).toNat ∧ L.getD k (0, 0) ∉ L.take k
def okTo (L : List Shp) (k : Nat) : Prop := ∀ j, 0 < j → j < k → fits L j
theorem okTo.ahead {L : List Shp} {k s : Nat} (h : okTo L k) (hs : s < k) : Ahead L s := fun j h0 h1 => by
  have := h j h0 (by omega)
  exact ⟨this.1, this.2.1⟩
def okay (L : List Shp) : Prop := 0 < L.length ∧ L.getD 0 (0, 0) = (-1, -1) ∧ okTo L L.length
open Classical in
noncomputable def faultP (L : List Shp) : Int := if 100 < L.length then 2 else if okay L then 0 else 3
theorem fault_bad {L : List Shp} (h : L.length ≤ 100) (hn : ¬ okay L) : faultP L = 3 := by unfold faultP; rw [if_neg (by omega), if_neg hn]
theorem fault_ok {L : List Shp} (h : L.length ≤ 100) (hn : okay L) : faultP L = 0 := by unfold faultP; rw [if_neg (by omega), if_pos hn]
theorem fault_fit {L : List Shp} {j : Nat} (h : L.length ≤ 100) (h0 : 0 < j) (hj : j < L.length) (hn : ¬ fits L j) : faultP L = 3 := fault_bad h fun ⟨_, _, h3⟩ => hn (h3 j h0 hj)
theorem okTo.step {L : List Shp} {k : Nat} (h : okTo L k) (hf : fits L k) : okTo L (k + 1) := fun j h0 h1 => by
  by_cases e : j = k
  · subst e; exact hf
  · exact h j h0 (by omega)
theorem pair_eta (L : List Shp) (k : Nat) : (fstD L k, sndD L k) = L.getD k (0, 0) := rfl
theorem root_take {L : List Shp} (h0 : 0 < L.length) (k : Nat) : L.take (k + 1) = (fstD L 0, sndD L 0) :: (L.drop 1).take k := by
  cases L with
  | nil => simp at h0
  | cons p L => simp [fstD, sndD]
theorem fits_seen {L : List Shp} {k : Nat} (h0 : 0 < L.length) (hf : fits L (k + 1)) : (fstD L (k + 1), sndD L (k + 1)) ∉ (L.drop 1).take k := fun h =>
  hf.2.2.2.2 (by rw [← pair_eta, root_take h0 k]; exact List.mem_cons_of_mem _ h)
theorem fits_mk {L : List Shp} {k : Nat} (h0 : 0 < L.length) (hr : fstD L 0 = -1) (a : 0 ≤ fstD L (k + 1)) (b : fstD L (k + 1) ≤ k) (c : 0 ≤ sndD L (k + 1)) (d : (fstD L (k + 1), sndD L (k + 1)) ∉ (L.drop 1).take k)
    (e : sndD L (k + 1) ∉ namesP L (fstD L (k + 1)).toNat) : fits L (k + 1) := by
  refine ⟨a, by omega, c, e, ?_⟩
  rw [← pair_eta, root_take h0 k]
  intro h
  rcases List.mem_cons.1 h with h | h
  · have := congrArg Prod.fst h
    simp only [hr] at this
    omega
  · exact d h
theorem faultP_ok {L : List Shp} (h : faultP L = 0) : L.length ≤ 100 ∧ okay L := by
  unfold faultP at h
  split at h
  · omega
  · split at h
    · exact ⟨by omega, by assumption⟩
    · omega
noncomputable def namesQ (L : List Shp) (a : Int) : List Int := if faultP L ≠ 0 ∨ a < 0 ∨ (L.length : Int) ≤ a then [] else namesP L a.toNat
end Go.Proofs.YtbphdcffpobcbaaGreatDoor

namespace Go.Proofs.YtbphdcffpobcbaaGreatDoor
open Go.RowKit Go
structure GFrame where
  fn : Int
  at_ : Int
  «to» : Int
  gen : Int
  self : GVal
  regs : List GVal
  tries : List GTry
def eFrame (f : GFrame) : List Dt := [eI f.fn, eI f.at_, eI f.to, eI f.gen, eI f.self.kind, eI f.self.n, .sl true (f.regs.map eVal), .sl true (f.tries.map eTry)]
structure GCell where
  kind : Int
  num : Int
  vals : List GVal
  frames : List GFrame
def eCell (c : GCell) : List Dt := [eI c.kind, eI c.num, .sl true (c.vals.map eVal), .sl true (c.frames.map eFrame)]
def eShape (x : Shp) : List Dt := [eI x.1, eI x.2]
structure GThread where
  frames : List GFrame
  state : Int
  on : Int
  val : GVal
def eThread (t : GThread) : List Dt := [.sl true (t.frames.map eFrame), eI t.state, eI t.on, eI t.val.kind, eI t.val.n]
structure GEnd where
  cell : Int
  fn : GVal
def eEnd (e : GEnd) : List Dt := [eI e.cell, eI e.fn.kind, eI e.fn.n]
structure GState where
  cells : List GCell
  shapes : List Shp
  texts : List ByteArray
  threads : List GThread
  ends : List GEnd
  said : List GVal
  asked : Int
  steps : Int
def eState (s : GState) : List Dt := [.sl true (s.cells.map eCell), .sl true (s.shapes.map eShape), .sl true (s.texts.map eStr), .sl true (s.threads.map eThread), .sl true (s.ends.map eEnd), .sl true (s.said.map eVal), eI s.asked, eI s.steps]
attribute [simp] eFrame eCell eShape eThread eEnd eState
instance : Inhabited GTry := ⟨⟨0, 0⟩⟩
instance : Inhabited GFrame := ⟨⟨0, 0, 0, 0, ⟨0, 0⟩, [], []⟩⟩
instance : Inhabited GCell := ⟨⟨0, 0, [], []⟩⟩
instance : Inhabited GThread := ⟨⟨[], 0, 0, ⟨0, 0⟩⟩⟩
instance : Inhabited GEnd := ⟨⟨0, ⟨0, 0⟩⟩⟩
end Go.Proofs.YtbphdcffpobcbaaGreatDoor

namespace Go.Proofs.YtbphdcffpobcbaaGreatDoor
open Go.RowKit Go
theorem indexFCe_ok {α : Type} (S : Bool) (L : List α) (en : α → List Dt) (el : α → D) (p : α → Bool) (g : FuncId) (hx : ∀ v, ext1 g v = none) (hz : spcFn g = false) (fs cs : List Dt) (he : ∀ x, ∃ a b c d, en x = [a, b, c, d] ∧ el x = .agg [.d a, .d b, .d c, .d d])
    (hp : ∀ x ∈ L, ∀ K : D → List Blk → Prop, K (dB (p x)) [] → DPure Tryz.prog g (fs.map (fun x => .one (.d x)) ++ (el x :: cs.map fun x => .one (.d x))) K) {K : D → List Blk → Prop} (h : ∀ n : Int, (0 ≤ n ↔ L.any p = true) → K (dI n) []) :
    DPure Tryz.prog 180 [dL S (L.map en), .one (.d (.fn (.func g) fs cs))] K := by
  refine fn_ok [0,1,4,5,7,8,9,16] [] Tryz.func180 rfl (by kernel_rfl) rfl rfl rfl rfl (by kernel_rfl) ?_
  simp
  intro hl
  refine loop_ok (ks := [0,1,4,5,7,8,9,16]) (pl := []) (n0 := 19) (fun x : {k : Nat // k ≤ L.length ∧ (L.take k).any p = false} => [(8, dI x.1)]) (fun x => L.length - x.1) ⟨0, by simp⟩ rfl (by kernel_rfl) (Wk.sub (by simp)) ?_
  rintro ⟨k, hk, ht⟩
  by_cases h1 : k < L.length
  · have he' := he L[k]
    obtain ⟨a, b, c, d, e1, e2⟩ := he'
    obtain ⟨hz1, hz2⟩ := spc_of hz
    simp [h1, e1, hx, hz1, hz2, -ext1, -frzFn, -wrFn]
    rw [← e2]
    refine hp L[k] (List.getElem_mem h1) _ ?_
    simp
    refine alt (fun hb => h _ ⟨fun _ => List.any_eq_true.2 ⟨_, List.getElem_mem h1, hb⟩, fun _ => by omega⟩) (fun hb => ⟨k + 1, by omega, ⟨by omega, by simpa using any_take_succ ht h1 (by simpa using hb)⟩, Wk.sub (by simp [wrap_add (show k < 9223372036854775807 by omega)])⟩)
  · simp [h1]
    obtain rfl : k = L.length := by omega
    rw [List.take_length] at ht
    exact h _ (by simp [ht])
theorem containsFCe_ok {α : Type} (S : Bool) (L : List α) (en : α → List Dt) (el : α → D) (p : α → Bool) (g : FuncId) (hx : ∀ v, ext1 g v = none) (hz : spcFn g = false) (fs cs : List Dt) (he : ∀ x, ∃ a b c d, en x = [a, b, c, d] ∧ el x = .agg [.d a, .d b, .d c, .d d])
    (hp : ∀ x ∈ L, ∀ K : D → List Blk → Prop, K (dB (p x)) [] → DPure Tryz.prog g (fs.map (fun x => .one (.d x)) ++ (el x :: cs.map fun x => .one (.d x))) K) {K : D → List Blk → Prop} (h : K (dB (L.any p)) []) :
    DPure Tryz.prog 119 [dL S (L.map en), .one (.d (.fn (.func g) fs cs))] K := by
  refine fn_ok [0,1,4] [] Tryz.func119 rfl (by kernel_rfl) rfl rfl rfl rfl (by kernel_rfl) ?_
  simp
  refine indexFCe_ok S L en el p g hx hz fs cs he hp fun n hn => ?_
  simp
  exact kB h (by rw [Bool.eq_iff_iff]; simp [← hn])
theorem indexFSh_ok {α : Type} (S : Bool) (L : List α) (en : α → List Dt) (el : α → D) (p : α → Bool) (g : FuncId) (hx : ∀ v, ext1 g v = none) (hz : spcFn g = false) (fs cs : List Dt) (he : ∀ x, ∃ a b, en x = [a, b] ∧ el x = .agg [.d a, .d b])
    (hp : ∀ x ∈ L, ∀ K : D → List Blk → Prop, K (dB (p x)) [] → DPure Tryz.prog g (fs.map (fun x => .one (.d x)) ++ (el x :: cs.map fun x => .one (.d x))) K) {K : D → List Blk → Prop} (h : ∀ n : Int, (0 ≤ n ↔ L.any p = true) → K (dI n) []) :
    DPure Tryz.prog 179 [dL S (L.map en), .one (.d (.fn (.func g) fs cs))] K := by
  refine fn_ok [0,1,4,5,7,8,9,16] [] Tryz.func179 rfl (by kernel_rfl) rfl rfl rfl rfl (by kernel_rfl) ?_
  simp
  intro hl
  refine loop_ok (ks := [0,1,4,5,7,8,9,16]) (pl := []) (n0 := 19) (fun x : {k : Nat // k ≤ L.length ∧ (L.take k).any p = false} => [(8, dI x.1)]) (fun x => L.length - x.1) ⟨0, by simp⟩ rfl (by kernel_rfl) (Wk.sub (by simp)) ?_
  rintro ⟨k, hk, ht⟩
  by_cases h1 : k < L.length
  · have he' := he L[k]
    obtain ⟨a, b, e1, e2⟩ := he'
    obtain ⟨hz1, hz2⟩ := spc_of hz
    simp [h1, e1, hx, hz1, hz2, -ext1, -frzFn, -wrFn]
    rw [← e2]
    refine hp L[k] (List.getElem_mem h1) _ ?_
    simp
    refine alt (fun hb => h _ ⟨fun _ => List.any_eq_true.2 ⟨_, List.getElem_mem h1, hb⟩, fun _ => by omega⟩) (fun hb => ⟨k + 1, by omega, ⟨by omega, by simpa using any_take_succ ht h1 (by simpa using hb)⟩, Wk.sub (by simp [wrap_add (show k < 9223372036854775807 by omega)])⟩)
  · simp [h1]
    obtain rfl : k = L.length := by omega
    rw [List.take_length] at ht
    exact h _ (by simp [ht])
theorem containsFSh_ok {α : Type} (S : Bool) (L : List α) (en : α → List Dt) (el : α → D) (p : α → Bool) (g : FuncId) (hx : ∀ v, ext1 g v = none) (hz : spcFn g = false) (fs cs : List Dt) (he : ∀ x, ∃ a b, en x = [a, b] ∧ el x = .agg [.d a, .d b])
    (hp : ∀ x ∈ L, ∀ K : D → List Blk → Prop, K (dB (p x)) [] → DPure Tryz.prog g (fs.map (fun x => .one (.d x)) ++ (el x :: cs.map fun x => .one (.d x))) K) {K : D → List Blk → Prop} (h : K (dB (L.any p)) []) :
    DPure Tryz.prog 117 [dL S (L.map en), .one (.d (.fn (.func g) fs cs))] K := by
  refine fn_ok [0,1,4] [] Tryz.func117 rfl (by kernel_rfl) rfl rfl rfl rfl (by kernel_rfl) ?_
  simp
  refine indexFSh_ok S L en el p g hx hz fs cs he hp fun n hn => ?_
  simp
  exact kB h (by rw [Bool.eq_iff_iff]; simp [← hn])
theorem indexFEn_ok {α : Type} (S : Bool) (L : List α) (en : α → List Dt) (el : α → D) (p : α → Bool) (g : FuncId) (hx : ∀ v, ext1 g v = none) (hz : spcFn g = false) (fs cs : List Dt) (he : ∀ x, ∃ a b c, en x = [a, b, c] ∧ el x = .agg [.d a, .d b, .d c])
    (hp : ∀ x ∈ L, ∀ K : D → List Blk → Prop, K (dB (p x)) [] → DPure Tryz.prog g (fs.map (fun x => .one (.d x)) ++ (el x :: cs.map fun x => .one (.d x))) K) {K : D → List Blk → Prop} (h : ∀ n : Int, (0 ≤ n ↔ L.any p = true) → K (dI n) []) :
    DPure Tryz.prog 187 [dL S (L.map en), .one (.d (.fn (.func g) fs cs))] K := by
  refine fn_ok [0,1,4,5,7,8,9,16] [] Tryz.func187 rfl (by kernel_rfl) rfl rfl rfl rfl (by kernel_rfl) ?_
  simp
  intro hl
  refine loop_ok (ks := [0,1,4,5,7,8,9,16]) (pl := []) (n0 := 19) (fun x : {k : Nat // k ≤ L.length ∧ (L.take k).any p = false} => [(8, dI x.1)]) (fun x => L.length - x.1) ⟨0, by simp⟩ rfl (by kernel_rfl) (Wk.sub (by simp)) ?_
  rintro ⟨k, hk, ht⟩
  by_cases h1 : k < L.length
  · have he' := he L[k]
    obtain ⟨a, b, c, e1, e2⟩ := he'
    obtain ⟨hz1, hz2⟩ := spc_of hz
    simp [h1, e1, hx, hz1, hz2, -ext1, -frzFn, -wrFn]
    rw [← e2]
    refine hp L[k] (List.getElem_mem h1) _ ?_
    simp
    refine alt (fun hb => h _ ⟨fun _ => List.any_eq_true.2 ⟨_, List.getElem_mem h1, hb⟩, fun _ => by omega⟩) (fun hb => ⟨k + 1, by omega, ⟨by omega, by simpa using any_take_succ ht h1 (by simpa using hb)⟩, Wk.sub (by simp [wrap_add (show k < 9223372036854775807 by omega)])⟩)
  · simp [h1]
    obtain rfl : k = L.length := by omega
    rw [List.take_length] at ht
    exact h _ (by simp [ht])
theorem containsFEn_ok {α : Type} (S : Bool) (L : List α) (en : α → List Dt) (el : α → D) (p : α → Bool) (g : FuncId) (hx : ∀ v, ext1 g v = none) (hz : spcFn g = false) (fs cs : List Dt) (he : ∀ x, ∃ a b c, en x = [a, b, c] ∧ el x = .agg [.d a, .d b, .d c])
    (hp : ∀ x ∈ L, ∀ K : D → List Blk → Prop, K (dB (p x)) [] → DPure Tryz.prog g (fs.map (fun x => .one (.d x)) ++ (el x :: cs.map fun x => .one (.d x))) K) {K : D → List Blk → Prop} (h : K (dB (L.any p)) []) :
    DPure Tryz.prog 125 [dL S (L.map en), .one (.d (.fn (.func g) fs cs))] K := by
  refine fn_ok [0,1,4] [] Tryz.func125 rfl (by kernel_rfl) rfl rfl rfl rfl (by kernel_rfl) ?_
  simp
  refine indexFEn_ok S L en el p g hx hz fs cs he hp fun n hn => ?_
  simp
  exact kB h (by rw [Bool.eq_iff_iff]; simp [← hn])
theorem indexFFr_ok {α : Type} (S : Bool) (L : List α) (en : α → List Dt) (el : α → D) (p : α → Bool) (g : FuncId) (hx : ∀ v, ext1 g v = none) (hz : spcFn g = false) (fs cs : List Dt) (he : ∀ x, ∃ a b c d e f g i, en x = [a, b, c, d, e, f, g, i] ∧ el x = .agg [.d a, .d b, .d c, .d d, .d e, .d f, .d g, .d i])
    (hp : ∀ x ∈ L, ∀ K : D → List Blk → Prop, K (dB (p x)) [] → DPure Tryz.prog g (fs.map (fun x => .one (.d x)) ++ (el x :: cs.map fun x => .one (.d x))) K) {K : D → List Blk → Prop} (h : ∀ n : Int, (0 ≤ n ↔ L.any p = true) → K (dI n) []) :
    DPure Tryz.prog 219 [dL S (L.map en), .one (.d (.fn (.func g) fs cs))] K := by
  refine fn_ok [0,1,4,5,7,8,9,16] [] Tryz.func219 rfl (by kernel_rfl) rfl rfl rfl rfl (by kernel_rfl) ?_
  simp
  intro hl
  refine loop_ok (ks := [0,1,4,5,7,8,9,16]) (pl := []) (n0 := 19) (fun x : {k : Nat // k ≤ L.length ∧ (L.take k).any p = false} => [(8, dI x.1)]) (fun x => L.length - x.1) ⟨0, by simp⟩ rfl (by kernel_rfl) (Wk.sub (by simp)) ?_
  rintro ⟨k, hk, ht⟩
  by_cases h1 : k < L.length
  · have he' := he L[k]
    obtain ⟨a, b, c, d, e, f, g', i, e1, e2⟩ := he'
    obtain ⟨hz1, hz2⟩ := spc_of hz
    simp [h1, e1, hx, hz1, hz2, -ext1, -frzFn, -wrFn]
    rw [← e2]
    refine hp L[k] (List.getElem_mem h1) _ ?_
    simp
    refine alt (fun hb => h _ ⟨fun _ => List.any_eq_true.2 ⟨_, List.getElem_mem h1, hb⟩, fun _ => by omega⟩) (fun hb => ⟨k + 1, by omega, ⟨by omega, by simpa using any_take_succ ht h1 (by simpa using hb)⟩, Wk.sub (by simp [wrap_add (show k < 9223372036854775807 by omega)])⟩)
  · simp [h1]
    obtain rfl : k = L.length := by omega
    rw [List.take_length] at ht
    exact h _ (by simp [ht])
theorem containsFFr_ok {α : Type} (S : Bool) (L : List α) (en : α → List Dt) (el : α → D) (p : α → Bool) (g : FuncId) (hx : ∀ v, ext1 g v = none) (hz : spcFn g = false) (fs cs : List Dt) (he : ∀ x, ∃ a b c d e f g i, en x = [a, b, c, d, e, f, g, i] ∧ el x = .agg [.d a, .d b, .d c, .d d, .d e, .d f, .d g, .d i])
    (hp : ∀ x ∈ L, ∀ K : D → List Blk → Prop, K (dB (p x)) [] → DPure Tryz.prog g (fs.map (fun x => .one (.d x)) ++ (el x :: cs.map fun x => .one (.d x))) K) {K : D → List Blk → Prop} (h : K (dB (L.any p)) []) :
    DPure Tryz.prog 183 [dL S (L.map en), .one (.d (.fn (.func g) fs cs))] K := by
  refine fn_ok [0,1,4] [] Tryz.func183 rfl (by kernel_rfl) rfl rfl rfl rfl (by kernel_rfl) ?_
  simp
  refine indexFFr_ok S L en el p g hx hz fs cs he hp fun n hn => ?_
  simp
  exact kB h (by rw [Bool.eq_iff_iff]; simp [← hn])
end Go.Proofs.YtbphdcffpobcbaaGreatDoor

namespace Go.Proofs.YtbphdcffpobcbaaGreatDoor
open Go.RowKit Go
def dCell : GCell := ⟨0, 0, [], []⟩
def dFn : GFn := ⟨0, 0, false, [], []⟩
def dFrame : GFrame := ⟨0, 0, 0, 0, ⟨0, 0⟩, [], []⟩
def cellAt (s : GState) (n : Int) : GCell := s.cells.getD n.toNat dCell
def fitsB (s : GState) (v : GVal) : Bool :=
  rightB v.kind v.n && (if v.kind = 4 then decide (v.n < s.texts.length) else if v.kind = 5 then decide (v.n < s.cells.length) && !decide ((cellAt s v.n).kind = 0) else true)
def namesB (s : GState) (v : GVal) (kind : Int) : Bool := decide (v.kind = 5) && decide (0 ≤ v.n) && decide (v.n < s.cells.length) && decide ((cellAt s v.n).kind = kind)
def valAt (l : List GVal) (k : Nat) : GVal := l.getD k ⟨0, 0⟩
def keyB (l : List GVal) (j : Nat) : Bool := decide ((valAt l (2 * j)).kind = 5) && (List.range j).all fun i => !decide ((valAt l (2 * i)).n = (valAt l (2 * j)).n)
def weakB (l : List GVal) : Bool := decide (l.length % 2 = 0) && (List.range ((l.length + 1) / 2)).all (keyB l)
def shapeLen (s : GState) (n : Int) : Nat := (namesP s.shapes n.toNat).length
def framesOf (c : GCell) : Nat := if c.kind = 5 ∧ c.num = 0 then 1 else 0
def kindB (s : GState) (c : GCell) : Bool :=
  if c.kind = 0 then decide (c.num = 0) && decide (c.vals = []) else if c.kind = 1 then btw c.num 0 (s.shapes.length - 1) && decide (c.vals.length = shapeLen s c.num)
  else if c.kind = 2 then decide (c.num = 0) else if c.kind = 3 then decide (c.num = 0) && decide (c.vals.length = 1) else if c.kind = 4 then decide (0 ≤ c.num) && c.vals.all (fun v => namesB s v 3)
  else if c.kind = 5 then btw c.num 0 2 && decide (c.vals = []) else if c.kind = 6 then btw c.num (-1) 4 && decide (c.vals = []) else if c.kind = 7 then decide (c.num = 0) && weakB c.vals else false
def frameFits (s : GState) (f : GFrame) : Bool := f.regs.all (fitsB s) && fitsB s f.self
def cellB (s : GState) (c : GCell) : Bool := kindB s c && decide (c.frames.length = framesOf c) && c.vals.all (fitsB s) && c.frames.all (frameFits s)
def manyB (c : GCell) : Bool := decide (100 < c.vals.length) && (!decide (c.kind = 7) || decide (600 < c.vals.length))
def heapLarge (s : GState) : Bool := decide (300 < s.cells.length) || decide (300 < s.texts.length) || decide (200 < s.said.length) || decide (100 < s.ends.length) || s.texts.any (fun t => decide (200 < t.size)) || s.cells.any manyB
def wordsB (ws l : List ByteArray) : Bool := decide (l.take ws.length = ws) && decide l.Nodup
def saidB (s : GState) (v : GVal) : Bool := decide (v.kind = 4) && fitsB s v
def endB (s : GState) (e : GEnd) : Bool := btw e.cell 0 (s.cells.length - 1) && namesB s e.fn 4
noncomputable def cellsQ (ws : List ByteArray) (s : GState) : Int :=
  if heapLarge s = true then 2 else if faultP s.shapes ≠ 0 then faultP s.shapes
  else if wordsB ws s.texts = true ∧ s.shapes.all (fun x => decide (x.2 < s.texts.length)) = true ∧ s.cells.all (cellB s) = true ∧ s.said.all (saidB s) = true ∧ s.ends.all (endB s) = true then 0 else 3
def fnAt (p : GProg) (n : Int) : GFn := p.fns.getD n.toNat dFn
def frameB (p : GProg) (s : GState) (f : GFrame) : Bool :=
  decide (0 ≤ f.fn) && decide (f.fn < p.fns.length) && namesB s f.self 4 && decide ((cellAt s f.self.n).num = f.fn) && decide ((f.regs.length : Int) = (fnAt p f.fn).regs) && decide (0 ≤ f.at_) && decide (f.at_ < (fnAt p f.fn).code.length) &&
  (triesQ (fnAt p f.fn)).seen.getD f.at_.toNat false && decide (f.tries = (triesQ (fnAt p f.fn)).out.getD f.at_.toNat []) && f.regs.all (fitsB s)
def savedB (p : GProg) (s : GState) (f : GFrame) : Bool :=
  frameB p s f && decide (f.to = -1) && decide (f.gen = -1) && (fnAt p f.fn).gen && (decide (f.at_ = 0) || decide (((fnAt p f.fn).code.getD (f.at_ - 1).toNat dIns).op = 32))
def heapB (p : GProg) (s : GState) (c : GCell) : Bool :=
  if c.kind = 4 then decide (c.num < p.fns.length) && decide (c.vals.length = (fnAt p c.num).caught.length) else if c.kind = 5 then !decide (c.num = 0) || savedB p s (c.frames.getD 0 dFrame) else true
def stackB (p : GProg) (s : GState) (fs : List GFrame) (k : Nat) : Bool :=
  let f := fs.getD k dFrame
  frameB p s f && decide (-1 ≤ f.to) && decide (f.to < (if k = 0 then 0 else ((fs.getD (k - 1) dFrame).regs.length : Int))) && (if (fnAt p f.fn).gen then decide (0 ≤ f.gen) && decide (0 < k) && namesB s ⟨5, f.gen⟩ 5 && decide ((cellAt s f.gen).num = 1) else decide (f.gen = -1))
def overB (t : GThread) : Bool := decide (t.state = 3) || decide (t.state = 4)
def onB (s : GState) (t : GThread) : Bool := if t.state = 1 then namesB s ⟨5, t.on⟩ 6 else if t.state = 2 then decide (0 ≤ t.on) && decide (t.on < s.threads.length) else decide (t.on = 0)
def threadB (p : GProg) (s : GState) (t : GThread) : Bool :=
  decide (overB t = decide (t.frames = [])) && (overB t || (decide (t.val.kind = 0) && decide (t.val.n = 0))) && fitsB s t.val && btw t.state 0 4 && onB s t && (List.range t.frames.length).all (stackB p s t.frames)
end Go.Proofs.YtbphdcffpobcbaaGreatDoor

namespace Go.Proofs.YtbphdcffpobcbaaGreatDoor
open Go.RowKit Go
theorem floatOf_ok (k n : Int) {K : D → List Blk → Prop} (h : K (dF (flt n)) []) : DPure Tryz.prog 39 [dV k n] K := by
  refine fn_ok [0,1,2] [] Tryz.func39 rfl (by kernel_rfl) rfl rfl rfl rfl (by kernel_rfl) ?_
  simp
  exact h
theorem isNaN_ok (b : Nat) {K : D → List Blk → Prop} (h : K (dB (!same b b)) []) : DPure Tryz.prog 40 [dF b] K := by
  refine fn_ok [0,2] [] Tryz.func40 rfl (by kernel_rfl) rfl rfl rfl rfl (by kernel_rfl) ?_
  simp
  exact kB h (by simp [same, bne])
theorem rightVal_ok (k n : Int) {K : D → List Blk → Prop} (h : K (dB (rightB k n)) []) : DPure Tryz.prog 87 [dV k n] K := by
  refine fn_ok [0,1,2,4,5,10,20,25,36,42] [] Tryz.func87 rfl (by kernel_rfl) rfl rfl rfl rfl (by kernel_rfl) ?_
  by_cases e3 : k = 3
  · simp [e3]
    refine floatOf_ok _ _ ?_
    simp
    refine isNaN_ok _ ?_
    cases hs : same (flt n) (flt n) with
    | true =>
      simp
      exact kB h (by simp [rightB, e3, hs])
    | false =>
      simp
      exact kB h (by rw [Bool.eq_iff_iff]; simp [rightB, e3, hs, theNaN])
  simp [e3]
  repeat' (first | (refine alt (fun _ => ?_) (fun _ => ?_)) | (intro _) | (refine between_ok _ _ _ ?_; simp))
  all_goals exact kB h (by simp_all [rightB, btw, theNaN] <;> first | done | omega | (rw [Bool.eq_iff_iff]; simp; done) | (rw [Bool.eq_iff_iff]; simp; omega))
end Go.Proofs.YtbphdcffpobcbaaGreatDoor

namespace Go.Proofs.YtbphdcffpobcbaaGreatDoor
open Go.RowKit Go
abbrev pS (S : Bool) (s : GState) : D := .one (.d (.at_ S (eState s)))
theorem cell_get {s : GState} {n : Int} (h0 : 0 ≤ n) (h : n < s.cells.length) : s.cells[n.toNat]? = some (cellAt s n) := by
  unfold cellAt
  rw [List.getD_eq_getElem?_getD, List.getElem?_eq_getElem (by omega)]; rfl
theorem cellAt_eq {s : GState} {n : Int} (h0 : 0 ≤ n) (h : n < s.cells.length) : cellAt s n = s.cells[n.toNat]'(by omega) := by
  unfold cellAt
  rw [List.getD_eq_getElem?_getD, List.getElem?_eq_getElem (by omega)]; rfl
theorem right_nonneg {k n : Int} (h : rightB k n = true) (hk : k = 5) : 0 ≤ n := by
  subst hk
  simpa [rightB] using h
theorem fits_ok (S : Bool) (s : GState) (v : GVal) {K : D → List Blk → Prop} (h : K (dB (fitsB s v)) []) : DPure Tryz.prog 124 [pS S s, aD (eVal v)] K := by
  obtain ⟨k, n⟩ := v
  refine fn_ok [0,1,3,4,5,9,21] [(4, [0,1,0,4,12,28,60,127,255], (.seg 0 (.seg 1 (.seg 2 (.seg 3 (.seg 4 (.seg 5 (.seg 6 (.seg 7 (.seg 8 .last)))))))))), (6, [0,1,0,4,12,28,60,127,255,511,1023,2047,4095,511,8703,32767,65535,131071,262143,524287,1048575], (.seg 0 (.seg 1 (.seg 2 (.seg 3 (.seg 4 (.seg 5 (.seg 6 (.seg 7 (.seg 8 (.seg 9 (.seg 10 (.seg 11 (.seg 12 (.seg 13 (.seg 14 (.seg 15 (.seg 16 (.seg 17 (.seg 18 (.seg 19 (.seg 20 .last))))))))))))))))))))))] Tryz.func124 rfl (by kernel_rfl) rfl rfl rfl rfl (by kernel_rfl) ?_
  simp
  refine right_ok _ _ ?_
  cases hr : rightB k n with
  | false =>
    simp
    exact kB h (by simp [fitsB, hr])
  | true =>
  by_cases e4 : k = 4
  · subst e4
    simp
    intro _
    exact kB h (by simp [fitsB, hr])
  by_cases e5 : k = 5
  · have hp := right_nonneg hr e5
    by_cases hl : n < s.cells.length
    · subst e5
      have hc := cellAt_eq hp hl
      simp [hl, hp, cell_get hp hl]
      intro _
      exact kB h (by simp [fitsB, hr, hl, hc])
    · subst e5
      simp [hl]
      intro _
      exact kB h (by simp [fitsB, hr, hl])
  · simp [e4, e5]
    exact kB h (by simp [fitsB, hr, e4, e5])
theorem fitsIn_ok (s : GState) (v : GVal) {K : D → List Blk → Prop} (h : K (dB (fitsB s v)) []) : DPure Tryz.prog 27 [aD (eState s), aD (eVal v)] K := by
  obtain ⟨k, n⟩ := v
  refine fn_ok [0,1,2,3,4,7,10] [] Tryz.func27 rfl (by kernel_rfl) rfl rfl rfl rfl (by kernel_rfl) ?_
  simp
  refine rightVal_ok _ _ ?_
  cases hr : rightB k n with
  | false =>
    simp
    exact kB h (by simp [fitsB, hr])
  | true =>
  by_cases e4 : k = 4
  · subst e4
    simp
    intro _
    exact kB h (by simp [fitsB, hr])
  by_cases e5 : k = 5
  · have hp := right_nonneg hr e5
    by_cases hl : n < s.cells.length
    · subst e5
      have hc := cellAt_eq hp hl
      simp [hl, hp, cell_get hp hl]
      intro _
      exact kB h (by simp [fitsB, hr, hl, hc])
    · subst e5
      simp [hl]
      intro _
      exact kB h (by simp [fitsB, hr, hl])
  · simp [e4, e5]
    exact kB h (by simp [fitsB, hr, e4, e5])
theorem kindIn_ok (s : GState) (v : GVal) (kind : Int) {K : D → List Blk → Prop} (h : K (dB (namesB s v kind)) []) : DPure Tryz.prog 86 [aD (eState s), aD (eVal v), dI kind] K := by
  obtain ⟨k, n⟩ := v
  refine fn_ok [0,1,2,3,4,6] [] Tryz.func86 rfl (by kernel_rfl) rfl rfl rfl rfl (by kernel_rfl) ?_
  by_cases e5 : k = 5
  · simp [e5]
    intro hl
    refine between_ok _ _ _ ?_
    have hw : IntKind.i64.wrap ((s.cells.length : Int) - 1) = (s.cells.length : Int) - 1 := wrap_id (by omega) (by omega)
    rw [hw]
    by_cases hb : 0 ≤ n ∧ n < s.cells.length
    · have : btw n 0 ((s.cells.length : Int) - 1) = true := by simp [btw]; omega
      have hc := cellAt_eq hb.1 hb.2
      simp [this, hb.1, hb.2, cell_get hb.1 hb.2]
      exact kB h (by simp [namesB, e5, hb.1, hb.2, hc])
    · have : btw n 0 ((s.cells.length : Int) - 1) = false := by simp [btw]; omega
      simp [this]
      exact kB h (by simp [namesB, e5]; omega)
  · simp [e5]
    exact kB h (by simp [namesB, e5])
end Go.Proofs.YtbphdcffpobcbaaGreatDoor

namespace Go.Proofs.YtbphdcffpobcbaaGreatDoor
open Go.RowKit Go
theorem cwithin_ok (n lo hi : Int) {K : D → List Blk → Prop} (h : K (dB (btw n lo hi)) []) : DPure Tryz.prog 127 [dI n, dI lo, dI hi] K := by
  refine fn_ok [0,1,2,6] [] Tryz.func127 rfl (by kernel_rfl) rfl rfl rfl rfl (by kernel_rfl) ?_
  simp
  repeat' (first | (refine alt (fun _ => ?_) (fun _ => ?_)) | (intro _) | fail)
  all_goals exact kB h (by rw [Bool.eq_iff_iff]; simp [btw]; omega)
theorem celLarge1_ok (t : ByteArray) {K : D → List Blk → Prop} (h : K (dB (decide (200 < t.size))) []) : DPure Tryz.prog 174 [dS t] K := by
  refine fn_ok [0,2] [] Tryz.func174 rfl (by kernel_rfl) rfl rfl rfl rfl (by kernel_rfl) ?_
  simp
  exact kB h (by rw [Bool.eq_iff_iff]; simp; omega)
theorem celLarge2_ok (c : GCell) {K : D → List Blk → Prop} (h : K (dB (manyB c)) []) : DPure Tryz.prog 175 [aD (eCell c)] K := by
  refine fn_ok [0,1,2] [] Tryz.func175 rfl (by kernel_rfl) rfl rfl rfl rfl (by kernel_rfl) ?_
  simp
  repeat' (first | (refine alt (fun _ => ?_) (fun _ => ?_)) | (intro _) | fail)
  all_goals exact kB h (by unfold manyB; rw [Bool.eq_iff_iff]; simp; omega)
theorem celLarge_ok (S : Bool) (s : GState) {K : D → List Blk → Prop} (h : K (dB (heapLarge s)) []) : DPure Tryz.prog 114 [pS S s] K := by
  refine fn_ok [0,2] [] Tryz.func114 rfl (by kernel_rfl) rfl rfl rfl rfl (by kernel_rfl) ?_
  simp
  have yes : heapLarge s = true → K (dB true) [] := fun e => kB h e
  intro _
  refine alt (fun c1 => ?_) (fun c1 => yes (by simp [heapLarge]; omega))
  intro _
  refine alt (fun c2 => ?_) (fun c2 => yes (by simp [heapLarge]; omega))
  intro _
  refine alt (fun c3 => ?_) (fun c3 => yes (by simp [heapLarge]; omega))
  intro _
  refine alt (fun c4 => ?_) (fun c4 => yes (by simp [heapLarge]; omega))
  refine containsFS_ok true s.texts eStr (fun t => dS t) (fun t => decide (200 < t.size)) 174 (fun _ => by simp) rfl [] [] (fun x => ⟨_, rfl, rfl⟩) (fun x _ K hK => celLarge1_ok x hK) ?_
  have hq : heapLarge s = (s.texts.any (fun t => decide (200 < t.size)) || s.cells.any manyB) := by
    unfold heapLarge
    rw [decide_eq_false (by omega), decide_eq_false (by omega), decide_eq_false (by omega), decide_eq_false (by omega)]; rfl
  generalize s.texts.any (fun t => decide (200 < t.size)) = b1 at hq ⊢
  cases b1 with
  | true =>
    simp
    exact yes (by rw [hq]; rfl)
  | false =>
  simp
  refine containsFCe_ok true s.cells eCell (fun c => aD (eCell c)) manyB 175 (fun _ => by simp) rfl [] [] (fun x => ⟨_, _, _, _, rfl, rfl⟩) (fun x _ K hK => celLarge2_ok x hK) ?_
  generalize s.cells.any manyB = b2 at hq ⊢
  simp
  exact kB h (by rw [hq]; rfl)
theorem celTexts_ok (S : Bool) (l : List ByteArray) (hT : ∀ t ∈ l, t.size ≤ maxLen) (hl : l.length ≤ 1000) {K : D → List Blk → Prop} (h : K (dB (wordsB wordsT l)) []) : DPure Tryz.prog 116 [dL S (l.map eStr)] K := by
  refine fn_ok [0,2,3,4,5,6,9,10,11,12,33] [] Tryz.func116 rfl (by kernel_rfl) rfl rfl rfl rfl (by kernel_rfl) ?_
  simp
  refine words_ok ?_
  simp
  intro _
  refine loopH_ok (ks := [0,2,3,4,5,6,9,10,11,12,33]) (pl := []) (n0 := 42) (fun x : {k : Nat // k ≤ l.length ∧ (l.take k).Nodup ∧ ∀ j (_ : j < k) (h1 : j < l.length) (h2 : j < wordsT.length), l[j] = wordsT[j]} => [(11, dI x.1)]) (fun H x => H.set 1 (some ⟨.m 9 (seenF l x.1) x.1, 0, []⟩)) (fun _ => 2) (fun x => l.length - x.1) ⟨0, by simp⟩ rfl (by kernel_rfl) (Wk.subH (by simp) (by rw [Hp.set_set, seenF_zero])) ?_
  rintro ⟨k, hk, hn, hw⟩
  by_cases h3 : k < l.length
  · have hsz := hT _ (List.getElem_mem h3)
    have hgk := seenF_get l k h3
    simp [h3, keyin9 hsz]
    have bad : (¬ l.Nodup ∨ ∃ (h2 : k < wordsT.length), l[k] ≠ wordsT[k]) → K (dB false) [] := fun e => kB h (by
      rcases e with e | ⟨h2, e⟩
      · simp [wordsB, e]
      · have : l.take wordsT.length ≠ wordsT := fun e2 => e (by
          have h4 : (l.take wordsT.length)[k]? = wordsT[k]? := by rw [e2]
          rw [List.getElem?_take, if_pos h2, List.getElem?_eq_getElem h3, List.getElem?_eq_getElem h2] at h4
          exact Option.some.inj h4)
        simp [wordsB, this])
    refine alt (fun c1 => bad (.inl (not_nodup h3 (hgk.1 c1)))) (fun c1 => ?_)
    intro _
    have hnx := nodup_take h3 hn fun hm => c1 (hgk.2 hm)
    by_cases c2 : k < wordsT.length
    · simp [c2, List.getElem?_eq_getElem c2]
      refine alt (fun c3 => ?_) (fun c3 => bad (.inr ⟨c2, c3⟩))
      exact ⟨by kernel_rfl, by omega, k + 1, by omega, ⟨by omega, hnx, fun j hj h1 h2 => by
        by_cases e : j = k
        · subst e; exact c3
        · exact hw j (by omega) h1 h2⟩, Wk.subH (by simp [wrap_add (show k < 9223372036854775807 by omega)]) (by rw [seenF_succ _ _ h3])⟩
    · simp [c2]
      exact ⟨by kernel_rfl, by omega, k + 1, by omega, ⟨by omega, hnx, fun j hj h1 h2 => hw j (by omega) h1 h2⟩, Wk.subH (by simp [wrap_add (show k < 9223372036854775807 by omega)]) (by rw [seenF_succ _ _ h3])⟩
  · simp [h3]
    obtain rfl : k = l.length := by omega
    intro _ _
    rw [List.take_length] at hn
    refine kB h ?_
    simp only [wordsB, decide_eq_true hn, Bool.and_true]
    by_cases c2 : wordsT.length ≤ l.length
    · rw [decide_eq_true c2, decide_eq_true]
      exact List.ext_getElem (by rw [List.length_take]; omega) fun j h1 h2 => by rw [List.getElem_take]; exact hw j (by omega) (by omega) h2
    · rw [decide_eq_false c2, decide_eq_false fun e => c2 (by have := congrArg List.length e; rw [List.length_take] at this; omega)]
end Go.Proofs.YtbphdcffpobcbaaGreatDoor

namespace Go.Proofs.YtbphdcffpobcbaaGreatDoor
open Go.RowKit Go
theorem shp_get {L : List Shp} {s : Nat} (h : s < L.length) : L[s]? = some (fstD L s, sndD L s) := by
  rw [List.getElem?_eq_getElem h]
  simp [fstD, sndD, List.getD_eq_getElem?_getD, List.getElem?_eq_getElem h]
theorem heapOne {H : Hp} {m : Nat} {x : Option Blk} (h : H m = x) : ∀ i y, (Hp.none.set m x) i = some y → H i = some y := fun i y hy => by
  by_cases e : i = m
  · subst e; rw [Hp.set_same] at hy; rw [h, hy]
  · rw [Hp.set_ne _ _ e] at hy; cases hy
structure NmS where
  s : Nat
  out : List Int
  nx : Nat
theorem names1_ok (S : Bool) (L : List Shp) (s : Nat) (ha : Ahead L s) (hs : s < L.length) (hl : L.length ≤ 100000) {K : D → List Blk → Prop} (h : K (.one (.own 0 1 (namesP L s).length)) [⟨.c 3, 1, iRows (namesP L s)⟩]) :
    DPure Tryz.prog 177 [dL S (L.map eShape), dI s] K := by
  refine fn_ok [0,1,4,5,7] [] Tryz.func177 rfl (by kernel_rfl) rfl rfl rfl rfl (by kernel_rfl) ?_
  simp
  refine loopS_ok (ks := [0,1,4,5,7]) (pl := []) (n0 := 24) (α := {x : NmS // x.s ≤ s ∧ namesP L s = namesP L x.s ++ x.out.reverse}) (fun x => ⟨24, [(0, dL S (L.map eShape)), (1, dI x.1.s), (4, .one (.d .emp)), (5, .one (.own x.1.nx 1 x.1.out.length))], Hp.none.set x.1.nx (some ⟨.c 3, 1, iRows x.1.out⟩), x.1.nx + 1⟩) (fun x => x.1.s) ⟨⟨s, [], 0⟩, Nat.le_refl _, by simp⟩ rfl (by kernel_rfl) ?_ ?_
  · have := Wk.emp (n := 24) (nx := 0) (t := 5) (tm := [(0, dL S (L.map eShape)), (1, dI s), (4, .one (.d .emp)), (5, .one (.d .emp))]) (H := Hp.none) 3 1 rfl
    simpa [iRows] using this
  rintro ⟨⟨j, out, nx⟩, hj, ho⟩
  simp only at hj ho
  by_cases h0 : 0 < j
  · have hjl : j < L.length := by omega
    have hu := ha j h0 hj
    have hlen := namesP_len (ha.to hj)
    have hlen2 := namesP_len ha
    have hol : out.length ≤ s := by have := congrArg List.length ho; simp at this; omega
    have hst := namesP_step (ha.to hj) h0 
    have hfn : (((fstD L j).toNat : Nat) : Int) = fstD L j := by omega
    simp [h0, shp_get hjl]
    refine ⟨fun a b e hb => ?_, by omega, ⟨(fstD L j).toNat, out ++ [sndD L j], nx + 2⟩, by simp; omega, ⟨by simp; omega, by rw [ho, hst]; simp⟩, (Wk.sub (by simp [hfn])).trans (Wk.heap (heapOne (by simp [iRows])))⟩
    subst e
    simp at hb
    subst hb
    exact ⟨rfl, rfl⟩
  · obtain rfl : j = 0 := by omega
    rw [namesP_zero, List.nil_append] at ho
    have hlen := namesP_len ha
    have hol : out.length ≤ s := by have := congrArg List.length ho; simp at this; omega
    simp
    refine reverse_ok (L := out) (by simp) ?_ (by omega) ?_
    · exact HSol.rows (H := Hp.none) fun n x hx => by cases hx
    · rw [← ho]
      simp
      rw [if_pos iRows_isD]
      have : out.length = (namesP L s).length := by rw [ho]; simp
      rw [this]
      exact h
end Go.Proofs.YtbphdcffpobcbaaGreatDoor

