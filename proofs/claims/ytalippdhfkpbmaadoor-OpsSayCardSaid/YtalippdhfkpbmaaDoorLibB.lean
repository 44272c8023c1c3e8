/- Contracts of Go's library, at the types of this program: IndexFunc, ContainsFunc, Clone, Index. -/
import Derived.Test.YtalippdhfkpbmaaDoorLibA
namespace Go.Proofs.YtalippdhfkpbmaaDoor
open Go.RowKit Go
theorem any_take_succ {α : Type} {L : List α} {p : α → Bool} {k : Nat} (h : (L.take k).any p = false) (hk : k < L.length) (e : p L[k] = false) : (L.take (k + 1)).any p = false := by
  rw [List.take_succ_eq_append_getElem hk, List.any_append, h]; simp [e]
/-- indexFI_ok -/
theorem indexFI_ok {α : Type} (S : Bool) (L : List α) (en : α → List Dt) (el : α → D) (p : α → Bool) (g : FuncId) (hx : ∀ v, ext1 g v = none) (fs cs : List Dt) (he : ∀ x, ∃ c, en x = [c] ∧ el x = .one (.d c))
    (hp : ∀ x ∈ L, ∀ K : D → List Blk → Prop, K (dB (p x)) [] → DPure Tryd.prog g (fs.map (fun x => .one (.d x)) ++ (el x :: cs.map fun x => .one (.d x))) K) {K : D → List Blk → Prop} (h : ∀ n : Int, (0 ≤ n ↔ L.any p = true) → K (dI n) []) :
    DPure Tryd.prog 91 [dL S (L.map en), .one (.d (.fn (.func g) fs cs))] K := by
  refine fn_ok [0,1,4,5,7,8,9,16] [] Tryd.func91 rfl (by kernel_rfl) rfl rfl rfl rfl (by kernel_rfl) ?_
  simp
  intro hl
  refine loop_ok (ks := [0,1,4,5,7,8,9,16]) (pl := []) (n0 := 19) (fun x : {k : Nat // k ≤ L.length ∧ (L.take k).any p = false} => [(8, dI x.1)]) (fun x => L.length - x.1) ⟨0, by simp⟩ rfl (by kernel_rfl) (Wk.sub (by simp)) ?_
  rintro ⟨k, hk, ht⟩
  by_cases h1 : k < L.length
  · have he' := he L[k]
    obtain ⟨c, e1, e2⟩ := he'
    simp [h1, e1, hx, -ext1]
    rw [← e2]
    refine hp L[k] (List.getElem_mem h1) _ ?_
    simp
    refine alt (fun hb => h _ ⟨fun _ => List.any_eq_true.2 ⟨_, List.getElem_mem h1, hb⟩, fun _ => by omega⟩) (fun hb => ⟨k + 1, by omega, ⟨by omega, by simpa using any_take_succ ht h1 (by simpa using hb)⟩, Wk.sub (by simp [wrap_add (show k < 9223372036854775807 by omega)])⟩)
  · simp [h1]
    obtain rfl : k = L.length := by omega
    rw [List.take_length] at ht
    exact h _ (by simp [ht])
theorem containsFI_ok {α : Type} (S : Bool) (L : List α) (en : α → List Dt) (el : α → D) (p : α → Bool) (g : FuncId) (hx : ∀ v, ext1 g v = none) (fs cs : List Dt) (he : ∀ x, ∃ c, en x = [c] ∧ el x = .one (.d c))
    (hp : ∀ x ∈ L, ∀ K : D → List Blk → Prop, K (dB (p x)) [] → DPure Tryd.prog g (fs.map (fun x => .one (.d x)) ++ (el x :: cs.map fun x => .one (.d x))) K) {K : D → List Blk → Prop} (h : K (dB (L.any p)) []) :
    DPure Tryd.prog 89 [dL S (L.map en), .one (.d (.fn (.func g) fs cs))] K := by
  refine fn_ok [0,1,4] [] Tryd.func89 rfl (by kernel_rfl) rfl rfl rfl rfl (by kernel_rfl) ?_
  simp
  refine indexFI_ok S L en el p g hx fs cs he hp fun n hn => ?_
  simp
  exact kB h (by rw [Bool.eq_iff_iff]; simp [← hn])
/-- indexFS_ok -/
theorem indexFS_ok {α : Type} (S : Bool) (L : List α) (en : α → List Dt) (el : α → D) (p : α → Bool) (g : FuncId) (hx : ∀ v, ext1 g v = none) (fs cs : List Dt) (he : ∀ x, ∃ c, en x = [c] ∧ el x = .one (.d c))
    (hp : ∀ x ∈ L, ∀ K : D → List Blk → Prop, K (dB (p x)) [] → DPure Tryd.prog g (fs.map (fun x => .one (.d x)) ++ (el x :: cs.map fun x => .one (.d x))) K) {K : D → List Blk → Prop} (h : ∀ n : Int, (0 ≤ n ↔ L.any p = true) → K (dI n) []) :
    DPure Tryd.prog 78 [dL S (L.map en), .one (.d (.fn (.func g) fs cs))] K := by
  refine fn_ok [0,1,4,5,7,8,9,16] [] Tryd.func78 rfl (by kernel_rfl) rfl rfl rfl rfl (by kernel_rfl) ?_
  simp
  intro hl
  refine loop_ok (ks := [0,1,4,5,7,8,9,16]) (pl := []) (n0 := 19) (fun x : {k : Nat // k ≤ L.length ∧ (L.take k).any p = false} => [(8, dI x.1)]) (fun x => L.length - x.1) ⟨0, by simp⟩ rfl (by kernel_rfl) (Wk.sub (by simp)) ?_
  rintro ⟨k, hk, ht⟩
  by_cases h1 : k < L.length
  · have he' := he L[k]
    obtain ⟨c, e1, e2⟩ := he'
    simp [h1, e1, hx, -ext1]
    rw [← e2]
    refine hp L[k] (List.getElem_mem h1) _ ?_
    simp
    refine alt (fun hb => h _ ⟨fun _ => List.any_eq_true.2 ⟨_, List.getElem_mem h1, hb⟩, fun _ => by omega⟩) (fun hb => ⟨k + 1, by omega, ⟨by omega, by simpa using any_take_succ ht h1 (by simpa using hb)⟩, Wk.sub (by simp [wrap_add (show k < 9223372036854775807 by omega)])⟩)
  · simp [h1]
    obtain rfl : k = L.length := by omega
    rw [List.take_length] at ht
    exact h _ (by simp [ht])
theorem containsFS_ok {α : Type} (S : Bool) (L : List α) (en : α → List Dt) (el : α → D) (p : α → Bool) (g : FuncId) (hx : ∀ v, ext1 g v = none) (fs cs : List Dt) (he : ∀ x, ∃ c, en x = [c] ∧ el x = .one (.d c))
    (hp : ∀ x ∈ L, ∀ K : D → List Blk → Prop, K (dB (p x)) [] → DPure Tryd.prog g (fs.map (fun x => .one (.d x)) ++ (el x :: cs.map fun x => .one (.d x))) K) {K : D → List Blk → Prop} (h : K (dB (L.any p)) []) :
    DPure Tryd.prog 68 [dL S (L.map en), .one (.d (.fn (.func g) fs cs))] K := by
  refine fn_ok [0,1,4] [] Tryd.func68 rfl (by kernel_rfl) rfl rfl rfl rfl (by kernel_rfl) ?_
  simp
  refine indexFS_ok S L en el p g hx fs cs he hp fun n hn => ?_
  simp
  exact kB h (by rw [Bool.eq_iff_iff]; simp [← hn])
/-- indexFV_ok -/
theorem indexFV_ok {α : Type} (S : Bool) (L : List α) (en : α → List Dt) (el : α → D) (p : α → Bool) (g : FuncId) (hx : ∀ v, ext1 g v = none) (fs cs : List Dt) (he : ∀ x, ∃ a b, en x = [a, b] ∧ el x = .agg [.d a, .d b])
    (hp : ∀ x ∈ L, ∀ K : D → List Blk → Prop, K (dB (p x)) [] → DPure Tryd.prog g (fs.map (fun x => .one (.d x)) ++ (el x :: cs.map fun x => .one (.d x))) K) {K : D → List Blk → Prop} (h : ∀ n : Int, (0 ≤ n ↔ L.any p = true) → K (dI n) []) :
    DPure Tryd.prog 79 [dL S (L.map en), .one (.d (.fn (.func g) fs cs))] K := by
  refine fn_ok [0,1,4,5,7,8,9,16] [] Tryd.func79 rfl (by kernel_rfl) rfl rfl rfl rfl (by kernel_rfl) ?_
  simp
  intro hl
  refine loop_ok (ks := [0,1,4,5,7,8,9,16]) (pl := []) (n0 := 19) (fun x : {k : Nat // k ≤ L.length ∧ (L.take k).any p = false} => [(8, dI x.1)]) (fun x => L.length - x.1) ⟨0, by simp⟩ rfl (by kernel_rfl) (Wk.sub (by simp)) ?_
  rintro ⟨k, hk, ht⟩
  by_cases h1 : k < L.length
  · have he' := he L[k]
    obtain ⟨a, b, e1, e2⟩ := he'
    simp [h1, e1, hx, -ext1]
    rw [← e2]
    refine hp L[k] (List.getElem_mem h1) _ ?_
    simp
    refine alt (fun hb => h _ ⟨fun _ => List.any_eq_true.2 ⟨_, List.getElem_mem h1, hb⟩, fun _ => by omega⟩) (fun hb => ⟨k + 1, by omega, ⟨by omega, by simpa using any_take_succ ht h1 (by simpa using hb)⟩, Wk.sub (by simp [wrap_add (show k < 9223372036854775807 by omega)])⟩)
  · simp [h1]
    obtain rfl : k = L.length := by omega
    rw [List.take_length] at ht
    exact h _ (by simp [ht])
theorem containsFV_ok {α : Type} (S : Bool) (L : List α) (en : α → List Dt) (el : α → D) (p : α → Bool) (g : FuncId) (hx : ∀ v, ext1 g v = none) (fs cs : List Dt) (he : ∀ x, ∃ a b, en x = [a, b] ∧ el x = .agg [.d a, .d b])
    (hp : ∀ x ∈ L, ∀ K : D → List Blk → Prop, K (dB (p x)) [] → DPure Tryd.prog g (fs.map (fun x => .one (.d x)) ++ (el x :: cs.map fun x => .one (.d x))) K) {K : D → List Blk → Prop} (h : K (dB (L.any p)) []) :
    DPure Tryd.prog 71 [dL S (L.map en), .one (.d (.fn (.func g) fs cs))] K := by
  refine fn_ok [0,1,4] [] Tryd.func71 rfl (by kernel_rfl) rfl rfl rfl rfl (by kernel_rfl) ?_
  simp
  refine indexFV_ok S L en el p g hx fs cs he hp fun n hn => ?_
  simp
  exact kB h (by rw [Bool.eq_iff_iff]; simp [← hn])
/-- indexFF_ok -/
theorem indexFF_ok {α : Type} (S : Bool) (L : List α) (en : α → List Dt) (el : α → D) (p : α → Bool) (g : FuncId) (hx : ∀ v, ext1 g v = none) (fs cs : List Dt) (he : ∀ x, ∃ a b c d f, en x = [a, b, c, d, f] ∧ el x = .agg [.d a, .d b, .d c, .d d, .d f])
    (hp : ∀ x ∈ L, ∀ K : D → List Blk → Prop, K (dB (p x)) [] → DPure Tryd.prog g (fs.map (fun x => .one (.d x)) ++ (el x :: cs.map fun x => .one (.d x))) K) {K : D → List Blk → Prop} (h : ∀ n : Int, (0 ≤ n ↔ L.any p = true) → K (dI n) []) :
    DPure Tryd.prog 73 [dL S (L.map en), .one (.d (.fn (.func g) fs cs))] K := by
  refine fn_ok [0,1,4,5,7,8,9,16] [] Tryd.func73 rfl (by kernel_rfl) rfl rfl rfl rfl (by kernel_rfl) ?_
  simp
  intro hl
  refine loop_ok (ks := [0,1,4,5,7,8,9,16]) (pl := []) (n0 := 19) (fun x : {k : Nat // k ≤ L.length ∧ (L.take k).any p = false} => [(8, dI x.1)]) (fun x => L.length - x.1) ⟨0, by simp⟩ rfl (by kernel_rfl) (Wk.sub (by simp)) ?_
  rintro ⟨k, hk, ht⟩
  by_cases h1 : k < L.length
  · have he' := he L[k]
    obtain ⟨a, b, c, d, f, e1, e2⟩ := he'
    simp [h1, e1, hx, -ext1]
    rw [← e2]
    refine hp L[k] (List.getElem_mem h1) _ ?_
    simp
    refine alt (fun hb => h _ ⟨fun _ => List.any_eq_true.2 ⟨_, List.getElem_mem h1, hb⟩, fun _ => by omega⟩) (fun hb => ⟨k + 1, by omega, ⟨by omega, by simpa using any_take_succ ht h1 (by simpa using hb)⟩, Wk.sub (by simp [wrap_add (show k < 9223372036854775807 by omega)])⟩)
  · simp [h1]
    obtain rfl : k = L.length := by omega
    rw [List.take_length] at ht
    exact h _ (by simp [ht])
theorem containsFF_ok {α : Type} (S : Bool) (L : List α) (en : α → List Dt) (el : α → D) (p : α → Bool) (g : FuncId) (hx : ∀ v, ext1 g v = none) (fs cs : List Dt) (he : ∀ x, ∃ a b c d f, en x = [a, b, c, d, f] ∧ el x = .agg [.d a, .d b, .d c, .d d, .d f])
    (hp : ∀ x ∈ L, ∀ K : D → List Blk → Prop, K (dB (p x)) [] → DPure Tryd.prog g (fs.map (fun x => .one (.d x)) ++ (el x :: cs.map fun x => .one (.d x))) K) {K : D → List Blk → Prop} (h : K (dB (L.any p)) []) :
    DPure Tryd.prog 54 [dL S (L.map en), .one (.d (.fn (.func g) fs cs))] K := by
  refine fn_ok [0,1,4] [] Tryd.func54 rfl (by kernel_rfl) rfl rfl rfl rfl (by kernel_rfl) ?_
  simp
  refine indexFF_ok S L en el p g hx fs cs he hp fun n hn => ?_
  simp
  exact kB h (by rw [Bool.eq_iff_iff]; simp [← hn])
theorem cloneT_ok (S : Bool) (es : List (List Dt)) (hk : ∀ e ∈ es, e.length = 2) (hs : ∀ e ∈ es, ∀ x ∈ e, x.solidT = true) (hl : es.length ≤ 100000000000) {K : D → List Blk → Prop} (h : K (.one (.own 0 2 es.length)) [⟨.c 51, 2, es.map fun e => e.map .d⟩]) :
    DPure Tryd.prog 22 [dL S es] K := by
  refine DPure.own 51 2 ?_
  refine fn_ok [0,2,4] [] Tryd.func22 rfl (by kernel_rfl) rfl rfl rfl rfl (by kernel_rfl) ?_
  have hk' : ∀ d ∈ es.map (fun e => e.map C.d), d.length = 2 := fun d hd => by
    obtain ⟨e, he, rfl⟩ := List.mem_map.1 hd
    simpa using hk e he
  simp [Function.comp_def, hl]
  refine ⟨fun e => ?_, fun e he => hk e he, ?_⟩
  · subst e; exact .inr (by simpa using h)
  · rw [if_pos fun e he x hx => hs e he x hx]
    exact h
theorem cloneI_ok (S : Bool) (es : List (List Dt)) (hk : ∀ e ∈ es, e.length = 5) (hs : ∀ e ∈ es, ∀ x ∈ e, x.solidT = true) (hl : es.length ≤ 100000000000) {K : D → List Blk → Prop} (h : K (.one (.own 0 5 es.length)) [⟨.c 43, 5, es.map fun e => e.map .d⟩]) :
    DPure Tryd.prog 24 [dL S es] K := by
  refine DPure.own 43 5 ?_
  refine fn_ok [0,2,4] [] Tryd.func24 rfl (by kernel_rfl) rfl rfl rfl rfl (by kernel_rfl) ?_
  have hk' : ∀ d ∈ es.map (fun e => e.map C.d), d.length = 5 := fun d hd => by
    obtain ⟨e, he, rfl⟩ := List.mem_map.1 hd
    simpa using hk e he
  simp [Function.comp_def, hl]
  refine ⟨fun e => ?_, fun e he => hk e he, ?_⟩
  · subst e; exact .inr (by simpa using h)
  · rw [if_pos fun e he x hx => hs e he x hx]
    exact h
theorem cloneV_ok (S : Bool) (es : List (List Dt)) (hk : ∀ e ∈ es, e.length = 2) (hs : ∀ e ∈ es, ∀ x ∈ e, x.solidT = true) (hl : es.length ≤ 100000000000) {K : D → List Blk → Prop} (h : K (.one (.own 0 2 es.length)) [⟨.c 23, 2, es.map fun e => e.map .d⟩]) :
    DPure Tryd.prog 29 [dL S es] K := by
  refine DPure.own 23 2 ?_
  refine fn_ok [0,2,4] [] Tryd.func29 rfl (by kernel_rfl) rfl rfl rfl rfl (by kernel_rfl) ?_
  have hk' : ∀ d ∈ es.map (fun e => e.map C.d), d.length = 2 := fun d hd => by
    obtain ⟨e, he, rfl⟩ := List.mem_map.1 hd
    simpa using hk e he
  simp [Function.comp_def, hl]
  refine ⟨fun e => ?_, fun e he => hk e he, ?_⟩
  · subst e; exact .inr (by simpa using h)
  · rw [if_pos fun e he x hx => hs e he x hx]
    exact h
theorem cloneS_ok (S : Bool) (es : List (List Dt)) (hk : ∀ e ∈ es, e.length = 1) (hs : ∀ e ∈ es, ∀ x ∈ e, x.solidT = true) (hl : es.length ≤ 100000000000) {K : D → List Blk → Prop} (h : K (.one (.own 0 1 es.length)) [⟨.c 9, 1, es.map fun e => e.map .d⟩]) :
    DPure Tryd.prog 31 [dL S es] K := by
  refine DPure.own 9 1 ?_
  refine fn_ok [0,2,4] [] Tryd.func31 rfl (by kernel_rfl) rfl rfl rfl rfl (by kernel_rfl) ?_
  have hk' : ∀ d ∈ es.map (fun e => e.map C.d), d.length = 1 := fun d hd => by
    obtain ⟨e, he, rfl⟩ := List.mem_map.1 hd
    simpa using hk e he
  simp [Function.comp_def, hl]
  refine ⟨fun e => ?_, fun e he => hk e he, ?_⟩
  · subst e; exact .inr (by simpa using h)
  · rw [if_pos fun e he x hx => hs e he x hx]
    exact h
theorem cloneF_ok (S : Bool) (es : List (List Dt)) (hk : ∀ e ∈ es, e.length = 5) (hs : ∀ e ∈ es, ∀ x ∈ e, x.solidT = true) (hl : es.length ≤ 100000000000) {K : D → List Blk → Prop} (h : K (.one (.own 0 5 es.length)) [⟨.c 47, 5, es.map fun e => e.map .d⟩]) :
    DPure Tryd.prog 23 [dL S es] K := by
  refine DPure.own 47 5 ?_
  refine fn_ok [0,2,4] [] Tryd.func23 rfl (by kernel_rfl) rfl rfl rfl rfl (by kernel_rfl) ?_
  have hk' : ∀ d ∈ es.map (fun e => e.map C.d), d.length = 5 := fun d hd => by
    obtain ⟨e, he, rfl⟩ := List.mem_map.1 hd
    simpa using hk e he
  simp [Function.comp_def, hl]
  refine ⟨fun e => ?_, fun e he => hk e he, ?_⟩
  · subst e; exact .inr (by simpa using h)
  · rw [if_pos fun e he x hx => hs e he x hx]
    exact h
end Go.Proofs.YtalippdhfkpbmaaDoor
