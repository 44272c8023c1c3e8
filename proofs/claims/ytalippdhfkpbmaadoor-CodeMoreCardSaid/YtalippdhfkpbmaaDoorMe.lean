/- Several texts in one: CodI, CodJ, Fz, CodK, CodL, CodR, CodX, LibC, CodM, Opn, CodO, Frm. -/
import Derived.Deep.Slices
import Derived.ChangeArms
import Derived.DataReads
import Derived.WideShapes
import Derived.Test.YtalippdhfkpbmaaDoorRows
import Derived.Handy
import Derived.Lay
import Derived.OpenShut
import Derived.MakeChecks
import Derived.Carry
import Derived.Test.YtalippdhfkpbmaaDoorMa
import Derived.Test.YtalippdhfkpbmaaDoorMb
import Derived.Test.YtalippdhfkpbmaaDoorMc
import Derived.Test.YtalippdhfkpbmaaDoorMd
set_option linter.unusedSimpArgs false
set_option linter.unusedVariables false
/- Package code: function, Check. -/
namespace Go.Proofs.YtalippdhfkpbmaaDoor
open Go.RowKit Go
theorem kD {K : D → List Blk → Prop} {a b : D} (h : K a []) (e : a = b) : K b [] := e ▸ h
set_option maxRecDepth 100000 in
set_option maxHeartbeats 2000000 in
theorem function_ok (p : GProg) (f : GFn) (hc2 : f.code.length ≤ 1000) {K : D → List Blk → Prop} (h : K (dB (functionB p f)) []) : DPure Tryd.prog 56 [aD (eProg p), aD (eFn f)] K := by
  refine fn_ok [0,1,2,3,4,5,6,7,10,28,30,31,32,33,41] [] Tryd.func56 rfl (by kernel_rfl) rfl rfl rfl rfl (by kernel_rfl) ?_
  simp
  by_cases c3 : f.regs < f.params
  · have hf : functionB p f = false := by simp [functionB, c3]
    rw [hf] at h
    simp [c3]
    repeat' (first | (refine alt (fun _ => ?_) (fun _ => ?_)) | (intro _) | exact h)
    all_goals first | exact h | (exact ⟨fun _ => h, h⟩) | (intro _; exact h)
  simp [c3]
  refine alt (fun c1 => alt (fun c2 => ?_) (fun c2 => kB h (by simp [functionB, show f.regs < 1 by omega]))) (fun c1 => kB h (by simp [functionB, show f.params < 0 by omega]))
  intro _
  refine loopH_ok (ks := [0,1,2,3,4,5,6,7,10,28,30,31,32,33,41]) (pl := []) (n0 := 50) (α := {x : Nat × Nat // x.1 ≤ f.code.length ∧ ∀ i, i < x.1 → orderB p f i (f.code.getD i dIns) = true}) (fun x => [(32, dI x.1.1)]) (fun H _ => H) (fun x => x.1.2 + 3) (fun x => f.code.length - x.1.1) ⟨(0, 0), by simp⟩ rfl (by kernel_rfl) (Wk.sub (by simp)) ?_
  rintro ⟨⟨k, j⟩, hk, ho⟩
  simp only at hk ho
  by_cases h1 : k < f.code.length
  · simp [h1]
    refine order_ok p f k f.code[k] ?_
    simp
    refine alt (fun c4 => ?_) (fun c4 => kB h ?_)
    · refine ⟨k + 1, by omega, ⟨by omega, fun i hi => ?_⟩, j + 1, (Wk.sub (by simp [wrap_add (show k < 9223372036854775807 by omega)])).trans (Wk.heap fun i y hy => ?_)⟩
      · rcases Nat.lt_or_ge i k with h2 | h2
        · simpa using ho i h2
        · obtain rfl : i = k := by omega
          simpa [List.getElem?_eq_getElem h1] using c4
      · by_cases e : i = j + 3
        · subst e; simp at hy
        · rw [Hp.set_ne _ _ e]; exact hy
    · have : ordersB p f = false := by
        cases hb : ordersB p f with
        | false => rfl
        | true => exact absurd (orders_get hb h1) c4
      simp [functionB, this]
  · simp [h1]
    obtain rfl : k = f.code.length := by omega
    have hord : ordersB p f = true := List.all_eq_true.2 fun i hi => ho i (List.mem_range.1 hi)
    refine tries_ok f (goesAll_of hord) hc2 ?_
    simp
    exact kB h (by simp [functionB, hord, c3, show ¬ f.params < 0 by omega, show ¬ f.regs < 1 by omega])
end Go.Proofs.YtalippdhfkpbmaaDoor
/- Package code: Check. -/
namespace Go.Proofs.YtalippdhfkpbmaaDoor
open Go.RowKit Go
theorem check1_ok (p : GProg) (f : GFn) (hc2 : f.code.length ≤ 1000) {K : D → List Blk → Prop} (h : K (dB (!functionB p f)) []) : DPure Tryd.prog 55 [aD (eFn f), .one (.d (.at_ true (eProg p)))] K := by
  refine fn_ok [0,1,2,3] [] Tryd.func55 rfl (by kernel_rfl) rfl rfl rfl rfl (by kernel_rfl) ?_
  simp
  refine function_ok p f hc2 ?_
  simp
  exact h
/-- what a program that comes in is: memory holds no more -/
def okP (p : GProg) : Prop := (∀ t ∈ p.texts, t.size ≤ maxLen)
theorem check_large {p : GProg} (h : largeB p = true) : checkQ wordsT p = 2 := by rw [checkQ, if_pos h]
theorem check_form {p : GProg} (h : largeB p = false) (h2 : tablesB wordsT p = false ∨ firstB p = false) : checkQ wordsT p = 3 := by rw [checkQ, if_neg (by rw [h]; simp), if_pos h2]
theorem check_fns {p : GProg} (h : largeB p = false) (h2 : tablesB wordsT p = true) (h3 : firstB p = true) : checkQ wordsT p = if p.fns.any (fun f => !functionB p f) = true then 3 else 0 := by rw [checkQ, if_neg (by rw [h]; simp), if_neg (by rw [h2, h3]; simp)]
theorem large_lt {p : GProg} (h : largeB p = false) : p.fns.length ≤ 60 ∧ p.consts.length ≤ 200 ∧ p.texts.length ≤ 200 ∧ ∀ f ∈ p.fns, f.code.length ≤ 600 ∧ f.regs ≤ 60 := by
  unfold largeB at h
  simp only [Bool.or_eq_false_iff, decide_eq_false_iff_not] at h
  refine ⟨by omega, by omega, by omega, fun f hf => ?_⟩
  have := List.any_eq_false.1 h.2 f hf
  unfold fnLargeB at this
  simp only [Bool.or_eq_true, decide_eq_true_eq] at this
  omega
set_option maxRecDepth 100000 in
set_option maxHeartbeats 1000000 in
theorem check_nil  (consts : List GVal) (texts : List ByteArray) (hp : okP ⟨[], consts, texts⟩) {K : D → List Blk → Prop} (h : K (dI (checkQ wordsT ⟨[], consts, texts⟩)) []) : DPure Tryd.prog 25 [aD (eProg ⟨[], consts, texts⟩)] K := by
  refine fn_ok [0,1,2,4,37,41] [] Tryd.func25 rfl (by kernel_rfl) rfl rfl rfl rfl (by kernel_rfl) ?_
  simp
  refine large_ok ⟨[], consts, texts⟩ ?_
  simp
  refine alt (fun c1 => ?_) (fun c1 => ?_)
  · rw [check_large c1] at h
    exact h
  have c1 : largeB ⟨[], consts, texts⟩ = false := by simpa using c1
  have hd := large_lt c1
  refine tables_ok ⟨[], consts, texts⟩ hp (by have := hd.2.2.1; omega) ?_
  simp
  rw [check_form c1 (.inr rfl)] at h
  first | exact h | (intro _; exact h) | trace_state
set_option maxRecDepth 100000 in
set_option maxHeartbeats 1000000 in
theorem check_cons (f0 : GFn) (fs : List GFn) (consts : List GVal) (texts : List ByteArray) (hp : okP ⟨f0 :: fs, consts, texts⟩) {K : D → List Blk → Prop} (h : K (dI (checkQ wordsT ⟨f0 :: fs, consts, texts⟩)) []) : DPure Tryd.prog 25 [aD (eProg ⟨f0 :: fs, consts, texts⟩)] K := by
  refine fn_ok [0,1,2,4,37,41] [] Tryd.func25 rfl (by kernel_rfl) rfl rfl rfl rfl (by kernel_rfl) ?_
  simp
  refine large_ok ⟨f0 :: fs, consts, texts⟩ ?_
  simp
  refine alt (fun c1 => ?_) (fun c1 => ?_)
  · rw [check_large c1] at h
    exact h
  have c1 : largeB ⟨f0 :: fs, consts, texts⟩ = false := by simpa using c1
  have hd := large_lt c1
  refine tables_ok ⟨f0 :: fs, consts, texts⟩ hp (by have := hd.2.2.1; omega) ?_
  simp
  refine alt (fun c2 => ?_) (fun c2 => ?_)
  · have form : firstB ⟨f0 :: fs, consts, texts⟩ = false → K (dI 3) [] := fun e => by rw [check_form c1 (.inr e)] at h; exact h
    intro _
    rw [if_neg (by omega)]
    refine alt (fun c3 => ?_) (fun c3 => form (by simp [firstB, c3]))
    intro _
    refine alt (fun c4 => ?_) (fun c4 => form (by simp [firstB, c4]))
    refine alt (fun c5 => form (by simp [firstB, c5])) (fun c5 => ?_)
    have hfns := check_fns c1 c2 (show firstB ⟨f0 :: fs, consts, texts⟩ = true by simp [firstB, c3, c4, c5])
    refine containsFF_ok true (f0 :: fs) eFn (fun f => aD (eFn f)) (fun f => !functionB ⟨f0 :: fs, consts, texts⟩ f) 55 (fun _ => by simp) rfl [] [.at_ true (eProg ⟨f0 :: fs, consts, texts⟩)] (fun x => ⟨_, _, _, _, _, rfl, rfl⟩) (fun x hx K hK => check1_ok ⟨f0 :: fs, consts, texts⟩ x (by have := (hd.2.2.2 x hx).1; omega) hK) ?_
    rw [hfns] at h
    simp only [eProg] at h ⊢
    generalize hany : ((f0 :: fs).any fun f => !functionB ⟨f0 :: fs, consts, texts⟩ f) = bb at *
    cases bb
    · simpa using h
    · simpa using h
  · rw [check_form c1 (.inl (by simpa using c2))] at h
    exact h
theorem check_ok (p : GProg) (hp : okP p) {K : D → List Blk → Prop} (h : K (dI (checkQ wordsT p)) []) : DPure Tryd.prog 25 [aD (eProg p)] K := by
  obtain ⟨fns, consts, texts⟩ := p
  cases fns with
  | nil => exact check_nil consts texts hp h
  | cons f0 fs => exact check_cons f0 fs consts texts hp h
end Go.Proofs.YtalippdhfkpbmaaDoor
/- A row given up as memory of its own: in a form that is computed. -/
namespace Go.Proofs.YtalippdhfkpbmaaDoor
open Go.RowKit Go
def fzH (H : Hp) (m : Nat) (x : Blk) : Hp := fun i => if i = m then none else (H i).map fun y => ⟨y.t, y.k, y.es.map fun e => e.map (C.fz m x)⟩
theorem Wk.fz {n nx : Nat} {tm : List (Nat × D)} {H : Hp} {m : Nat} {x : Blk} (hx : H m = some x) (hall : ∀ e ∈ x.es, ∀ c ∈ e, c.isD = true) : Wk ⟨n, tm, H, nx⟩ ⟨n, fzT m x tm, fzH H m x, nx⟩ := by
  have := Wk.fzR ⟨n, tm, H, nx⟩ m
  simp only [St.fzR, hx] at this
  rw [if_pos (by simpa [List.all_eq_true] using hall)] at this
  exact this
theorem fz_id {m : Nat} {x y : Blk} (h : ∀ e ∈ y.es, ∀ c ∈ e, c.isD = true) : (⟨y.t, y.k, y.es.map fun e => e.map (C.fz m x)⟩ : Blk) = y := by
  obtain ⟨t, k, es⟩ := y
  congr 1
  refine (List.map_congr_left fun e he => ?_).trans (List.map_id _)
  refine (List.map_congr_left fun c hc => ?_).trans (List.map_id _)
  have := h e he c hc
  cases c <;> first | rfl | cases this
theorem fzH_id {H : Hp} {m : Nat} {x y : Blk} {i : Nat} (hi : i ≠ m) (hy : H i = some y) (h : ∀ e ∈ y.es, ∀ c ∈ e, c.isD = true) : fzH H m x i = some y := by
  unfold fzH
  rw [if_neg hi, hy, Option.map_some, fz_id h]
/-- a heap that shows less -/
theorem Wk.lessH {n nx : Nat} {tm : List (Nat × D)} {H H' : Hp} (hl : ∀ i y, H' i = some y → ∃ x, H i = some x ∧ x.less y) : Wk ⟨n, tm, H, nx⟩ ⟨n, tm, H', nx⟩ := fun β F ι a w h => ⟨F, ι, h.good, h.defers, h.size, h.tm, h.heap.less hl⟩
theorem Blk.less.refl {x : Blk} (h : ∀ e ∈ x.es, e.length = x.k) : x.less x := ⟨rfl, rfl, rfl, h, fun _ _ c hc => ⟨c, hc, .inl rfl⟩⟩
/-- one block shows less -/
theorem Wk.less1 {n nx : Nat} {tm : List (Nat × D)} {H : Hp} {m : Nat} {x y : Blk} (hx : H m = some x) (hxy : x.less y) : Wk ⟨n, tm, H, nx⟩ ⟨n, tm, H.set m (some y), nx⟩ := fun β F ι a w h => by
  have hh : HpOk β F w ι H nx := h.heap
  have hn : ∀ i, (H.set m (some y)) i ≠ none → H i ≠ none := fun i hi => by
    by_cases e : i = m
    · subst e; rw [hx]; simp
    · rwa [Hp.set_ne _ _ e] at hi
  refine ⟨F, ι, h.good, h.defers, h.size, h.tm, ⟨hh.size, hh.keep, hh.Flt, hh.Fof, hh.F0, fun i z hz => ?_, fun i b cap hi => hh.own i b cap (hn i hi), fun i j b c c' hi hj => hh.inj i j b c c' (hn i hi) (hn j hj), hh.nx, hh.nm, hh.io⟩⟩
  replace hz : (H.set m (some y)) i = some z := hz
  by_cases e : i = m
  · subst e
    simp only [Hp.set_same, Option.some.injEq] at hz
    subst hz
    obtain ⟨b, cap, p1, p2, p3, p4⟩ := hh.blk i x hx
    refine ⟨b, cap, p1, by rw [← hxy.len]; exact p2, hxy.row, fun hc => ?_⟩
    obtain ⟨arr, r1, r2, r3, r4⟩ := p4 hc
    refine ⟨arr, by rw [← hxy.t]; exact r1, by rw [← hxy.k]; exact r2, r3, fun i j c' hc' => ?_⟩
    obtain ⟨c, g1, g2⟩ := hxy.c i j c' hc'
    obtain ⟨v, g3, g4⟩ := r4 i j c g1
    exact ⟨v, by rw [← hxy.k]; exact g3, g4.less g2⟩
  · rw [Hp.set_ne _ _ e] at hz
    exact hh.blk i z hz
end Go.Proofs.YtalippdhfkpbmaaDoor
/- Package code: Tries. -/
namespace Go.Proofs.YtalippdhfkpbmaaDoor
open Go.RowKit Go
theorem check_zero {p : GProg} (h : checkQ wordsT p = 0) : largeB p = false ∧ tablesB wordsT p = true ∧ firstB p = true ∧ ∀ f ∈ p.fns, functionB p f = true := by
  unfold checkQ at h
  split at h
  · cases h
  rename_i h1
  split at h
  · cases h
  rename_i h2
  split at h
  · cases h
  rename_i h3
  refine ⟨by simpa using h1, by simp at h2; exact h2.1, by simp at h2; exact h2.2, fun f hf => ?_⟩
  simp at h3
  exact h3 f hf
theorem tryRow_isD {L : List (List GTry)} : ∀ x ∈ L.map (fun l => [C.d (Dt.sl true (l.map eTry))]), ∀ c ∈ x, c.isD = true := fun x hx c hc => by
  obtain ⟨b, -, rfl⟩ := List.mem_map.1 hx
  obtain rfl := List.mem_singleton.1 hc
  rfl
theorem fn_in {p : GProg} (h : checkQ wordsT p = 0) {f : GFn} (hf : f ∈ p.fns) : functionB p f = true ∧ ordersB p f = true ∧ goesAll f ∧ f.code.length ≤ 600 ∧ (triesQ f).bad = false := by
  obtain ⟨h1, -, -, h4⟩ := check_zero h
  have h5 := h4 f hf
  have h6 := h5
  simp only [functionB, Bool.and_eq_true, Bool.not_eq_true'] at h6
  exact ⟨h5, h6.1.2, goesAll_of h6.1.2, ((large_lt h1).2.2.2 f hf).1, h6.2⟩
theorem comeQ_short {f : GFn} {q : Wlk} {m : Int} {l : List GTry} (h : ∀ x ∈ q.out, x.length ≤ 20) : ∀ x ∈ (comeQ f q m l).out, x.length ≤ 20 := by
  unfold comeQ
  by_cases h1 : (f.code.length : Int) ≤ m ∨ 20 < l.length
  · rw [if_pos h1]; exact h
  rw [if_neg h1]
  split
  · intro x hx
    rcases List.mem_or_eq_of_mem_set hx with hx | rfl
    · exact h x hx
    · omega
  split <;> exact h
theorem comesQ_short {f : GFn} : ∀ (xs : List (Int × List GTry)) {q : Wlk}, (∀ x ∈ q.out, x.length ≤ 20) → ∀ x ∈ (comesQ f q xs).out, x.length ≤ 20
  | [], _, h => h
  | z :: xs, q, h => comesQ_short xs (q := comeQ f q z.1 z.2) (comeQ_short h)
theorem runQ_short {f : GFn} : ∀ (n : Nat) {q : Wlk}, (∀ x ∈ q.out, x.length ≤ 20) → ∀ x ∈ (runQ f n q).out, x.length ≤ 20
  | 0, _, h => h
  | n + 1, q, h => by
    unfold runQ
    split
    · exact h
    · refine runQ_short n ?_
      unfold stepQ
      rw [fromQ_eq]
      split
      · exact h
      · exact comesQ_short _ (q := { q with todo := q.todo.dropLast }) h
theorem triesQ_short (f : GFn) : ∀ x ∈ (triesQ f).out, x.length ≤ 20 := runQ_short _ (comeQ_short fun x hx => by
  simp only [initQ] at hx
  rw [List.eq_of_mem_replicate hx]; simp)
theorem fz_clone (L : List (List GTry)) (i : Nat) (hi : i < L.length) (m : Nat) (t : BT) : (((L.map fun l => [C.d (Dt.sl true (l.map eTry))]).set i [C.own m 2 L[i].length]).map fun e => e.map (C.fz m ⟨t, 2, L[i].map ((fun e => e.map C.d) ∘ eTry)⟩)) = L.map fun l => [C.d (Dt.sl true (l.map eTry))] := by
  rw [List.map_set]
  have e1 : (L.map fun l => [C.d (Dt.sl true (l.map eTry))]).map (fun e => e.map (C.fz m ⟨t, 2, L[i].map ((fun e => e.map C.d) ∘ eTry)⟩)) = L.map fun l => [C.d (Dt.sl true (l.map eTry))] := by
    rw [List.map_map]; rfl
  have e2 : [C.own m 2 L[i].length].map (C.fz m ⟨t, 2, L[i].map ((fun e => e.map C.d) ∘ eTry)⟩) = [C.d (Dt.sl true (L[i].map eTry))] := by
    simp [C.fz, Function.comp_def]
  rw [e1, e2]
  have := @List.set_getElem_self _ (L.map fun l => [C.d (Dt.sl true (l.map eTry))]) i (by simpa using hi)
  simpa using this
set_option maxRecDepth 100000 in
set_option maxHeartbeats 1000000 in
theorem triesC_ok (p : GProg) (fn : Int) (hp : okP p) {K : D → List Blk → Prop} (h0 : checkQ wordsT p ≠ 0 → K (.tup [.one (.d .emp), .one (.d .emp), dI (checkQ wordsT p)]) []) (h1 : checkQ wordsT p = 0 → (fn < 0 ∨ (p.fns.length : Int) ≤ fn) → K (.tup [.one (.d .emp), .one (.d .emp), dI 1]) [])
    (h2 : checkQ wordsT p = 0 → ∀ (f : GFn) (k : Nat), fn = k → p.fns[k]? = some f → K (.tup [.one (.own 0 1 f.code.length), .one (.own 1 1 f.code.length), dI 0]) [⟨.c 49, 1, (triesQ f).out.map fun l => [.d (.sl true (l.map eTry))]⟩, ⟨.c 4, 1, (triesQ f).seen.map fun b => [.d (eB b)]⟩]) : DPure Tryd.prog 19 [aD (eProg p), dI fn] K := by
  refine fn_ok [0,1,2,4,5,6,7,8,9,11,15,25,37,38,39] [] Tryd.func19 rfl (by kernel_rfl) rfl rfl rfl rfl (by kernel_rfl) ?_
  simp
  refine ⟨_, rfl, Wk.refl _, ?_⟩
  simp [vcC0]
  refine check_ok p hp ?_
  simp
  refine alt (fun c1 => ?_) (fun c1 => h0 c1)
  refine alt (fun c2 => ?_) (fun c2 => h1 c1 (.inl (by omega)))
  intro _
  refine alt (fun c3 => h1 c1 (.inr (by omega))) (fun c3 => ?_)
  obtain ⟨k, rfl⟩ : ∃ k : Nat, fn = k := ⟨fn.toNat, by omega⟩
  have hk : k < p.fns.length := by omega
  obtain ⟨f1, f2, f3, f4, f5⟩ := fn_in c1 (List.getElem_mem hk)
  have h2 := h2 c1 p.fns[k] k rfl (List.getElem?_eq_getElem hk)
  generalize hF : p.fns[k] = f at *
  simp [List.getElem?_eq_getElem hk, hF]
  refine tries_ok f f3 (by omega) ?_
  simp
  intro _
  have hlo : (triesQ f).out.length = f.code.length := (triesQ_ok f3).1.lo
  refine loopH_ok (ks := [0,1,2,4,5,6,7,8,9,11,15,25,37,38,39]) (pl := []) (n0 := 52) (α := {x : Nat × Nat // x.1 ≤ f.code.length}) (fun x => [(38, dI x.1.1)]) (fun H _ => H) (fun x => x.1.2 + 3) (fun x => f.code.length - x.1.1) ⟨(0, 0), by simp⟩ rfl (by kernel_rfl) (Wk.sub (by simp)) ?_
  rintro ⟨⟨i, j⟩, hi⟩
  simp only at hi
  by_cases h3 : i < f.code.length
  · have h3' : i < (triesQ f).out.length := by omega
    simp [h3, List.getElem?_eq_getElem h3']
    refine cloneT_ok true ((triesQ f).out[i].map eTry) (by simp) (by simp) ?_ ?_
    · have hl := triesQ_short f _ (List.getElem_mem h3')
      simp
      omega
    simp [h3, h3', List.getElem?_eq_getElem h3']
    refine ⟨i + 1, by omega, by omega, j + 1, (Wk.fz (m := j + 3) (x := ⟨.c 51, 2, (triesQ f).out[i].map ((fun e => e.map C.d) ∘ eTry)⟩) (by simp) (fun e he c hc => ?_)).trans ((Wk.sub (by simp [fzT, D.fz, C.fz, wrap_add (show i < 9223372036854775807 by omega)])).trans (Wk.heap fun a y hy => ?_))⟩
    · obtain ⟨t, -, rfl⟩ := List.mem_map.1 he
      simp at hc
      rcases hc with rfl | rfl <;> rfl
    · by_cases e2 : a = 2
      · subst e2; simp at hy; subst hy
        exact fzH_id (by omega) (by simp) boolRow_isD
      by_cases e1 : a = 1
      · subst e1; simp at hy; subst hy
        unfold fzH
        rw [if_neg (by omega), Hp.set_same, Option.map_some]
        congr 2
        exact fz_clone _ i h3' _ _
      by_cases e0 : a = 0
      · subst e0; simp at hy; subst hy
        exact fzH_id (by omega) (by simp) (by simp)
      · simp [e0, e1, e2] at hy
  · simp [h3]
    rw [if_pos boolRow_isD]
    exact h2
end Go.Proofs.YtalippdhfkpbmaaDoor
/- Package code: small programs; that something is told of them. -/
namespace Go.Proofs.YtalippdhfkpbmaaDoor
open Go.RowKit Go
theorem num_ok (n : Int) {K : D → List Blk → Prop} (h : K (aD [eI 2, eI n]) []) : DPure Tryd.prog 30 [dI n] K := by
  refine fn_ok [0,2] [] Tryd.func30 rfl (by kernel_rfl) rfl rfl rfl rfl (by kernel_rfl) ?_
  simp
  exact h
theorem small_ok (l : List GIns) {K : D → List Blk → Prop} (h : K (.agg [.own 0 5 1, .own 1 2 1, .own 2 1 wordsT.length]) [⟨.c 47, 5, [[.d (eI 0), .d (eI 3), .d (eB false), .d .emp, .d (.sl true (l.map eIns))]]⟩, ⟨.c 23, 2, [[.d (eI 2), .d (eI 1)]]⟩, ⟨.c 9, 1, wordsT.map fun s => [.d (eS s)]⟩]) :
    DPure Tryd.prog 50 [dL true (l.map eIns)] K := by
  refine fn_ok [0,2] [] Tryd.func50 rfl (by kernel_rfl) rfl rfl rfl rfl (by kernel_rfl) ?_
  simp
  refine num_ok 1 ?_
  simp
  refine words_ok ?_
  simp
  exact h
def smallP (l : List GIns) : GProg := ⟨[⟨0, 3, false, [], l⟩], [⟨2, 1⟩], wordsT⟩
/-- a program written down in three blocks, taken as data; the rest of the heap is let go -/
theorem Wk.prog3 {n nx : Nat} {tm : List (Nat × D)} {H : Hp} {a b c : Nat} {x x' y z : Blk} (hx : H a = some x) (hxx : x.less x') (hy : H b = some y) (hz : H c = some z) (hab : b ≠ a) (hac : c ≠ a) (hbc : c ≠ b)
    (ix : ∀ e ∈ x'.es, ∀ c ∈ e, c.isD = true) (iy : ∀ e ∈ y.es, ∀ c ∈ e, c.isD = true) (iz : ∀ e ∈ z.es, ∀ c ∈ e, c.isD = true) : Wk ⟨n, tm, H, nx⟩ ⟨n, fzT c z (fzT b y (fzT a x' tm)), Hp.none, nx⟩ :=
  (Wk.less1 hx hxx).trans ((Wk.fz (Hp.set_same _ _ _) ix).trans ((Wk.fz (fzH_id hab (by rw [Hp.set_ne _ _ hab]; exact hy) iy) iy).trans ((Wk.fz (fzH_id hbc (fzH_id hac (by rw [Hp.set_ne _ _ hac]; exact hz) iz) iz) iz).trans (Wk.heap fun i y hy => by simp [Hp.none] at hy))))
theorem Wk.fz0 {n nx : Nat} {tm : List (Nat × D)} {H : Hp} {a : Nat} {x : Blk} (hx : H a = some x) (ix : ∀ e ∈ x.es, ∀ c ∈ e, c.isD = true) : Wk ⟨n, tm, H, nx⟩ ⟨n, fzT a x tm, Hp.none, nx⟩ :=
  (Wk.fz hx ix).trans (Wk.heap fun i y hy => by simp [Hp.none] at hy)
theorem isD_one {e : List Dt} (h : (e.all Dt.solidT) = true) : ∀ d ∈ [e.map C.d], ∀ c ∈ d, c.isD = true := by
  intro d hd c hc
  simp only [List.mem_singleton] at hd
  subst hd
  obtain ⟨x, hx, rfl⟩ := List.mem_map.1 hc
  exact List.all_eq_true.1 h x hx
theorem isD_words (l : List ByteArray) : ∀ d ∈ (l.map fun s => [C.d (eS s)]), ∀ c ∈ d, c.isD = true := by
  intro d hd c hc
  obtain ⟨s, _, rfl⟩ := List.mem_map.1 hd
  simp only [List.mem_singleton] at hc
  subst hc
  rfl
theorem small_less (l : List GIns) : (⟨.c 47, 5, [[.d (eI 0), .d (eI 3), .d (eB false), .d .emp, .d (.sl true (l.map eIns))]]⟩ : Blk).less ⟨.c 47, 5, [[.d (eI 0), .d (eI 3), .d (eB false), .d (.sl true []), .d (.sl true (l.map eIns))]]⟩ := by
  refine ⟨rfl, rfl, rfl, by simp, fun i j c' h => ?_⟩
  match i, j with
  | 0, 0 => exact ⟨_, rfl, .inl (Option.some.inj h)⟩
  | 0, 1 => exact ⟨_, rfl, .inl (Option.some.inj h)⟩
  | 0, 2 => exact ⟨_, rfl, .inl (Option.some.inj h)⟩
  | 0, 3 => exact ⟨_, rfl, .inr ⟨rfl, true, (Option.some.inj h).symm⟩⟩
  | 0, 4 => exact ⟨_, rfl, .inl (Option.some.inj h)⟩
  | 0, _ + 5 => simp [nth2] at h
  | _ + 1, _ => simp [nth2] at h
theorem okS (l : List GIns) (h : l.length ≤ 600) : okP (smallP l) := by
  have : ∀ s ∈ wordsT, s.size ≤ maxLen := by
    simp only [wordsT, List.forall_mem_cons]
    repeat' apply And.intro
    all_goals first | decide | (intro x hx; cases hx)
  exact this
theorem okS1 : okP (smallP [⟨30, 1, 3, 0, 0⟩, ⟨31, 0, 0, 0, 0⟩, ⟨28, 0, 0, 0, 0⟩, ⟨29, 1, 0, 0, 0⟩, ⟨28, 0, 0, 0, 0⟩]) := okS _ (by decide)
theorem chkS1 : checkQ wordsT (smallP [⟨30, 1, 3, 0, 0⟩, ⟨31, 0, 0, 0, 0⟩, ⟨28, 0, 0, 0, 0⟩, ⟨29, 1, 0, 0, 0⟩, ⟨28, 0, 0, 0, 0⟩]) = 0 := by kernel_rfl
theorem chkS2 : checkQ wordsT (smallP [⟨2, 0, 0, 0, 0⟩]) = 3 := by kernel_rfl
theorem triesS1 : triesQ ⟨0, 3, false, [], [⟨30, 1, 3, 0, 0⟩, ⟨31, 0, 0, 0, 0⟩, ⟨28, 0, 0, 0, 0⟩, ⟨29, 1, 0, 0, 0⟩, ⟨28, 0, 0, 0, 0⟩]⟩ = ⟨[true, true, true, true, false], [[], [⟨1, 3⟩], [], [], []], [], false⟩ := by kernel_rfl
set_option maxRecDepth 100000 in
set_option maxHeartbeats 1000000 in
theorem codeLives_ok {K : D → List Blk → Prop} (h : K (dB true) []) : DPure Tryd.prog 20 [] K := by
  refine fn_ok [0,1,2,3] [] Tryd.func20 rfl (by kernel_rfl) rfl rfl rfl rfl (by kernel_rfl) ?_
  simp
  refine ⟨_, rfl, Wk.fz (m := 0) (Hp.set_same _ _ _) (by simp), ?_⟩
  simp [vcC0, fzT, D.fz, C.fz, fzH]
  refine small_ok [⟨30, 1, 3, 0, 0⟩, ⟨31, 0, 0, 0, 0⟩, ⟨28, 0, 0, 0, 0⟩, ⟨29, 1, 0, 0, 0⟩, ⟨28, 0, 0, 0, 0⟩] ?_
  simp
  refine ⟨_, rfl, Wk.prog3 (a := 1) (b := 2) (c := 3) (by simp) (small_less [⟨30, 1, 3, 0, 0⟩, ⟨31, 0, 0, 0, 0⟩, ⟨28, 0, 0, 0, 0⟩, ⟨29, 1, 0, 0, 0⟩, ⟨28, 0, 0, 0, 0⟩]) (by simp; rfl) (by simp; rfl) (by decide) (by decide) (by decide) (isD_one (e := [eI 0, eI 3, eB false, .sl true [], .sl true _]) rfl) (isD_one (e := [eI 2, eI 1]) rfl) (isD_words _), ?_⟩
  simp [vcC0, fzT, D.fz, C.fz, fzH]
  simp [Function.comp_def]
  refine triesC_ok (smallP [⟨30, 1, 3, 0, 0⟩, ⟨31, 0, 0, 0, 0⟩, ⟨28, 0, 0, 0, 0⟩, ⟨29, 1, 0, 0, 0⟩, ⟨28, 0, 0, 0, 0⟩]) 0 okS1 ?_ ?_ ?_
  · rw [chkS1]; simp
  · simp [smallP]
  · intro _ f k hk hf
    have hk : k = 0 := by omega
    subst hk
    obtain rfl := Option.some.inj hf
    rw [triesS1]
    simp
    refine equalB_ok false false [true, true, true, true, false] [true, true, true, true, false] ?_
    simp
    refine equalT_ok true false [⟨1, 3⟩] [⟨1, 3⟩] ?_
    simp
    refine ⟨_, rfl, Wk.fz0 (a := 8) (by simp; rfl) (isD_one (e := [eI 2, eI 0, eI 0, eI 0, eI 0]) rfl), ?_⟩
    simp [vcC0, fzT, D.fz, C.fz, fzH]
    refine small_ok [⟨2, 0, 0, 0, 0⟩] ?_
    simp
    refine ⟨_, rfl, Wk.prog3 (a := 9) (b := 10) (c := 11) (by simp) (small_less [⟨2, 0, 0, 0, 0⟩]) (by simp; rfl) (by simp; rfl) (by decide) (by decide) (by decide) (isD_one (e := [eI 0, eI 3, eB false, .sl true [], .sl true _]) rfl) (isD_one (e := [eI 2, eI 1]) rfl) (isD_words _), ?_⟩
    simp [vcC0, fzT, D.fz, C.fz, fzH, Function.comp_def]
    refine check_ok (smallP [⟨2, 0, 0, 0, 0⟩]) (okS _ (by decide)) ?_
    rw [chkS2]
    simp
    exact h
end Go.Proofs.YtalippdhfkpbmaaDoor
/- Package code, plainly: programs with an order that no way leads to, or with more, are as right as they were. -/
namespace Go.Proofs.YtalippdhfkpbmaaDoor
open Go.RowKit Go
theorem ordersB_same {p p' : GProg} (h1 : p.fns.map (·.caught) = p'.fns.map (·.caught)) (h2 : p.consts.length = p'.consts.length) (h3 : p.texts.length = p'.texts.length) (f : GFn) : ordersB p f = ordersB p' f := by
  unfold ordersB
  congr 1
  funext k
  exact orderB_congr h1 h2 h3 rfl rfl rfl rfl _ _
theorem functionB_same {p p' : GProg} (h1 : p.fns.map (·.caught) = p'.fns.map (·.caught)) (h2 : p.consts.length = p'.consts.length) (h3 : p.texts.length = p'.texts.length) (f : GFn) : functionB p f = functionB p' f := by
  unfold functionB
  rw [ordersB_same h1 h2 h3]
theorem check_mk {p : GProg} (h1 : largeB p = false) (h2 : tablesB wordsT p = true) (h3 : firstB p = true) (h4 : ∀ f ∈ p.fns, functionB p f = true) : checkQ wordsT p = 0 := by
  rw [check_fns h1 h2 h3, if_neg]
  simp only [List.any_eq_true, not_exists, not_and]
  intro f hf
  rw [h4 f hf]
  simp
def deadFn (f : GFn) (m : Nat) : GFn := ⟨f.params, f.regs, f.gen, f.caught, f.code.set m endIns⟩
theorem deadFn_ok {p p' : GProg} (h1 : p.fns.map (·.caught) = p'.fns.map (·.caught)) (h2 : p.consts.length = p'.consts.length) (h3 : p.texts.length = p'.texts.length) {f : GFn} {m : Nat} (h : functionB p f = true) (hs : (triesQ f).seen.getD m false = false) : functionB p' (deadFn f m) = true := by
  simp only [functionB, Bool.and_eq_true, Bool.not_eq_true'] at h ⊢
  obtain ⟨⟨h4, h5⟩, h6⟩ := h
  have hl : f.code.length = (deadFn f m).code.length := by simp [deadFn]
  have hne : ∀ k, k ≠ m → f.code.getD k dIns = (deadFn f m).code.getD k dIns := fun k hk => by
    simp only [deadFn, getD_set]
    rw [if_neg (by omega)]
  refine ⟨⟨h4, ?_⟩, by rw [triesQ_other (goesAll_of h5) hl m hne hs]; exact h6⟩
  unfold ordersB at h5 ⊢
  rw [List.all_eq_true] at h5 ⊢
  intro k hk
  rw [← hl] at hk
  have h7 := h5 k hk
  rw [← orderB_congr h1 h2 h3 (f := f) (f' := deadFn f m) rfl rfl rfl hl]
  by_cases e : k = m
  · subst e
    have hk' : k < f.code.length := List.mem_range.1 hk
    have : (deadFn f k).code.getD k dIns = endIns := by simp [deadFn, getD_set, hk']
    rw [this]
    exact end_order p f k
  · rw [← hne k e]; exact h7
theorem dead_check {f0 : GFn} {fs : List GFn} {cs : List GVal} {ts : List ByteArray} (h : checkQ wordsT ⟨f0 :: fs, cs, ts⟩ = 0) {m : Nat} (hs : (triesQ f0).seen.getD m false = false) : checkQ wordsT ⟨deadFn f0 m :: fs, cs, ts⟩ = 0 := by
  obtain ⟨h1, h2, h3, h4⟩ := check_zero h
  have hc : (⟨f0 :: fs, cs, ts⟩ : GProg).fns.map (·.caught) = (⟨deadFn f0 m :: fs, cs, ts⟩ : GProg).fns.map (·.caught) := rfl
  refine check_mk ?_ h2 h3 fun f hf => ?_
  · rw [← h1]; simp [largeB, fnLargeB, deadFn]
  · rcases List.mem_cons.1 hf with rfl | hf
    · exact deadFn_ok hc rfl rfl (h4 f0 (List.mem_cons_self ..)) hs
    · rw [← functionB_same hc rfl rfl]
      exact h4 f (List.mem_cons_of_mem _ hf)
/-! ### More -/
theorem constBad_more {p p' : GProg} (h : p.texts.length ≤ p'.texts.length) {v : GVal} (hb : constBadB p v = false) : constBadB p' v = false := by
  simp only [constBadB, Bool.or_eq_false_iff, Bool.and_eq_false_iff, decide_eq_false_iff_not] at hb ⊢
  refine ⟨hb.1, hb.2.imp id fun h2 => ?_⟩
  omega
theorem tables_more {p p' : GProg} {xs : List ByteArray} {cs : List GVal} (h : tablesB wordsT p = true) (ht : p'.texts = p.texts ++ xs) (hn : (p.texts ++ xs).Nodup) (hc : p'.consts = p.consts ++ cs) (hcs : ∀ v ∈ cs, constBadB p' v = false) : tablesB wordsT p' = true := by
  simp only [tablesB, Bool.and_eq_true, decide_eq_true_eq, Bool.not_eq_true', List.any_eq_false] at h ⊢
  obtain ⟨⟨h1, h2⟩, h3⟩ := h
  refine ⟨⟨?_, by rw [ht]; exact hn⟩, fun v hv => ?_⟩
  · rw [ht]
    have hl : wordsT.length ≤ p.texts.length := by
      have := congrArg List.length h1
      rw [List.length_take] at this; omega
    rw [List.take_append_of_le_length hl]; exact h1
  · rw [hc] at hv
    have : constBadB p' v = false := by
      rcases List.mem_append.1 hv with hv | hv
      · exact constBad_more (p := p) (by rw [ht]; simp) (by simpa using h3 v hv)
      · exact hcs v hv
    rw [this]; simp
theorem more_ok {p p' : GProg} {f f' : GFn} (h : functionB p f = true) (hf : f.regs ≤ f'.regs) (hg : f.gen = f'.gen) (hc : f.caught = f'.caught) (hp : f.params = f'.params) (hk : f.code = f'.code) (hr : f'.regs ≤ 100000)
    (h1 : p.consts.length ≤ p'.consts.length) (h2 : p.texts.length ≤ p'.texts.length) (h3 : p.fns.length ≤ p'.fns.length) (hs : ∀ k, k < p.fns.length → (p'.fns.getD k ⟨0, 0, false, [], []⟩).caught = (p.fns.getD k ⟨0, 0, false, [], []⟩).caught)
    (b1 : p'.consts.length ≤ 100000) (b2 : p'.texts.length ≤ 100000) (b3 : p'.fns.length ≤ 100000) : functionB p' f' = true := by
  have h0 := h
  simp only [functionB, Bool.and_eq_true, Bool.not_eq_true', Bool.or_eq_false_iff, decide_eq_false_iff_not] at h0
  exact functionB_more ⟨h1, h2, h3, hs, hf, by omega, hg, hc, hk, b1, b2, b3, hr⟩ hp h
theorem large_iff {p : GProg} : largeB p = false ↔ p.fns.length ≤ 60 ∧ p.consts.length ≤ 200 ∧ p.texts.length ≤ 200 ∧ (∀ t ∈ p.texts, t.size ≤ 200) ∧ ∀ f ∈ p.fns, f.code.length ≤ 600 ∧ f.regs ≤ 60 := by
  unfold largeB fnLargeB
  simp only [Bool.or_eq_false_iff, decide_eq_false_iff_not, List.any_eq_false, Bool.or_eq_true, decide_eq_true_eq]
  constructor
  · rintro ⟨⟨⟨⟨a, b⟩, c⟩, d⟩, e⟩
    exact ⟨by omega, by omega, by omega, fun t ht => by have := d t ht; omega, fun f hf => by have := e f hf; omega⟩
  · rintro ⟨a, b, c, d, e⟩
    exact ⟨⟨⟨⟨by omega, by omega⟩, by omega⟩, fun t ht => by have := d t ht; omega⟩, fun f hf => by have := e f hf; omega⟩
def seventySeven : GVal := ⟨2, 77⟩
theorem more_const {f0 : GFn} {fs : List GFn} {cs : List GVal} {ts : List ByteArray} (h : checkQ wordsT ⟨f0 :: fs, cs, ts⟩ = 0) (hb : cs.length ≤ 190) : checkQ wordsT ⟨f0 :: fs, cs ++ [seventySeven], ts⟩ = 0 := by
  obtain ⟨h1, h2, h3, h4⟩ := check_zero h
  have hl := large_iff.1 h1
  simp only [] at hl
  refine check_mk (large_iff.2 ⟨hl.1, by simp; omega, hl.2.2.1, hl.2.2.2⟩) (tables_more (p := ⟨f0 :: fs, cs, ts⟩) (xs := []) (cs := [seventySeven]) h2 (by simp) ?_ rfl fun v hv => ?_) h3 fun f hf => ?_
  · simp only [tablesB, Bool.and_eq_true, decide_eq_true_eq] at h2
    simpa using h2.1.2
  · obtain rfl := List.mem_singleton.1 hv
    simp [constBadB, seventySeven, rightB]
  · have hr := hl.2.2.2.2 f hf
    exact more_ok (h4 f hf) (Int.le_refl _) rfl rfl rfl rfl (by omega) (by simp) (Nat.le_refl _) (Nat.le_refl _) (fun _ _ => rfl) (by simp; omega) (by show ts.length ≤ _; omega) (by show (f0 :: fs).length ≤ _; omega)
theorem more_text {f0 : GFn} {fs : List GFn} {cs : List GVal} {ts : List ByteArray} (h : checkQ wordsT ⟨f0 :: fs, cs, ts⟩ = 0) (hb : ts.length ≤ 190) {w : ByteArray} (hw : w.size ≤ 200) (hn : ¬ w ∈ ts) : checkQ wordsT ⟨f0 :: fs, cs, ts ++ [w]⟩ = 0 := by
  obtain ⟨h1, h2, h3, h4⟩ := check_zero h
  have hl := large_iff.1 h1
  simp only [] at hl
  refine check_mk (large_iff.2 ⟨hl.1, hl.2.1, by simp; omega, fun t ht => ?_, hl.2.2.2.2⟩) (tables_more (p := ⟨f0 :: fs, cs, ts⟩) (xs := [w]) (cs := []) h2 rfl ?_ (by simp) fun v hv => by cases hv) h3 fun f hf => ?_
  · rcases List.mem_append.1 ht with ht | ht
    · exact hl.2.2.2.1 t ht
    · obtain rfl := List.mem_singleton.1 ht; exact hw
  · simp only [tablesB, Bool.and_eq_true, decide_eq_true_eq] at h2
    refine List.nodup_append.2 ⟨h2.1.2, by simp, fun a ha b hb => ?_⟩
    obtain rfl := List.mem_singleton.1 hb
    rintro rfl
    exact hn ha
  · have hr := hl.2.2.2.2 f hf
    exact more_ok (h4 f hf) (Int.le_refl _) rfl rfl rfl rfl (by omega) (Nat.le_refl _) (by simp) (Nat.le_refl _) (fun _ _ => rfl) (by show cs.length ≤ _; omega) (by simp; omega) (by show (f0 :: fs).length ≤ _; omega)
def moreReg (f : GFn) : GFn := ⟨f.params, f.regs + 1, f.gen, f.caught, f.code⟩
theorem more_reg {f0 : GFn} {fs : List GFn} {cs : List GVal} {ts : List ByteArray} (h : checkQ wordsT ⟨f0 :: fs, cs, ts⟩ = 0) (hb : f0.regs ≤ 50) : checkQ wordsT ⟨moreReg f0 :: fs, cs, ts⟩ = 0 := by
  obtain ⟨h1, h2, h3, h4⟩ := check_zero h
  have hl := large_iff.1 h1
  simp only [] at hl
  have hs : ∀ k, k < (⟨f0 :: fs, cs, ts⟩ : GProg).fns.length → ((⟨moreReg f0 :: fs, cs, ts⟩ : GProg).fns.getD k ⟨0, 0, false, [], []⟩).caught = ((⟨f0 :: fs, cs, ts⟩ : GProg).fns.getD k ⟨0, 0, false, [], []⟩).caught := fun k _ => by
    cases k <;> rfl
  refine check_mk (large_iff.2 ⟨hl.1, hl.2.1, hl.2.2.1, hl.2.2.2.1, fun f hf => ?_⟩) h2 h3 fun f hf => ?_
  · rcases List.mem_cons.1 hf with rfl | hf
    · exact ⟨(hl.2.2.2.2 f0 (List.mem_cons_self ..)).1, by simp only [moreReg]; omega⟩
    · exact hl.2.2.2.2 f (List.mem_cons_of_mem _ hf)
  · rcases List.mem_cons.1 hf with rfl | hf
    · exact more_ok (f := f0) (f' := moreReg f0) (p := ⟨f0 :: fs, cs, ts⟩) (h4 f0 (List.mem_cons_self ..)) (by simp only [moreReg]; omega) rfl rfl rfl rfl (by simp only [moreReg]; omega) (Nat.le_refl _) (Nat.le_refl _) (Nat.le_refl _) hs (by show cs.length ≤ _; omega) (by show ts.length ≤ _; omega) (by show (f0 :: fs).length ≤ _; omega)
    · have hr := hl.2.2.2.2 f (List.mem_cons_of_mem _ hf)
      exact more_ok (p := ⟨f0 :: fs, cs, ts⟩) (h4 f (List.mem_cons_of_mem _ hf)) (Int.le_refl _) rfl rfl rfl rfl (by omega) (Nat.le_refl _) (Nat.le_refl _) (Nat.le_refl _) hs (by show cs.length ≤ _; omega) (by show ts.length ≤ _; omega) (by show (f0 :: fs).length ≤ _; omega)
def oneFn : GFn := ⟨0, 1, false, [], [⟨28, 0, 0, 0, 0⟩]⟩
theorem oneFn_ok (p : GProg) : functionB p oneFn = true := by
  have h1 : (triesQ oneFn).bad = false := by kernel_rfl
  have hf : formA 28 = (114, 45, 45) := by kernel_rfl
  have hw : wr 0 = 0 := by kernel_rfl
  unfold functionB
  rw [h1]
  simp [oneFn, ordersB, orderB, isOp, hf, nameB, orderK, btw, hw]
theorem more_fn {f0 : GFn} {fs : List GFn} {cs : List GVal} {ts : List ByteArray} (h : checkQ wordsT ⟨f0 :: fs, cs, ts⟩ = 0) (hb : fs.length ≤ 50) : checkQ wordsT ⟨f0 :: (fs ++ [oneFn]), cs, ts⟩ = 0 := by
  obtain ⟨h1, h2, h3, h4⟩ := check_zero h
  have hl := large_iff.1 h1
  simp only [] at hl
  have hs : ∀ k, k < (⟨f0 :: fs, cs, ts⟩ : GProg).fns.length → ((⟨f0 :: (fs ++ [oneFn]), cs, ts⟩ : GProg).fns.getD k ⟨0, 0, false, [], []⟩).caught = ((⟨f0 :: fs, cs, ts⟩ : GProg).fns.getD k ⟨0, 0, false, [], []⟩).caught := fun k hk => by
    have hk : k < (f0 :: fs).length := hk
    show (((f0 :: fs) ++ [oneFn]).getD k ⟨0, 0, false, [], []⟩).caught = ((f0 :: fs).getD k ⟨0, 0, false, [], []⟩).caught
    rw [List.getD_eq_getElem?_getD, List.getD_eq_getElem?_getD, List.getElem?_append_left hk]
  have hc : ∀ f ∈ (f0 :: (fs ++ [oneFn])), f ∈ f0 :: fs ∨ f = oneFn := fun f hf => by
    rw [← List.cons_append] at hf
    rcases List.mem_append.1 hf with hf | hf
    · exact .inl hf
    · exact .inr (List.mem_singleton.1 hf)
  refine check_mk (large_iff.2 ⟨by simp; omega, hl.2.1, hl.2.2.1, hl.2.2.2.1, fun f hf => ?_⟩) h2 h3 fun f hf => ?_
  · rcases hc f hf with hf | rfl
    · exact hl.2.2.2.2 f hf
    · simp [oneFn]
  · rcases hc f hf with hf | rfl
    · have hr := hl.2.2.2.2 f hf
      exact more_ok (p := ⟨f0 :: fs, cs, ts⟩) (h4 f hf) (Int.le_refl _) rfl rfl rfl rfl (by omega) (Nat.le_refl _) (Nat.le_refl _) (by simp) hs (by show cs.length ≤ _; omega) (by show ts.length ≤ _; omega) (by simp; omega)
    · exact oneFn_ok _
end Go.Proofs.YtalippdhfkpbmaaDoor
/- CodeDead: an order that no way leads to may be any. -/
namespace Go.Proofs.YtalippdhfkpbmaaDoor
open Go.RowKit Go
set_option linter.unusedSimpArgs false
theorem set_end {l : List GIns} {m : Nat} (_ : m < l.length) : (l.map ((fun e => e.map C.d) ∘ eIns)).set m [C.d (Dt.lit (Value.int IntKind.i64 31)), C.d (Dt.lit (Value.int IntKind.i64 0)), C.d (Dt.lit (Value.int IntKind.i64 0)), C.d (Dt.lit (Value.int IntKind.i64 0)), C.d (Dt.lit (Value.int IntKind.i64 0))] = (l.set m endIns).map ((fun e => e.map C.d) ∘ eIns) := by
  rw [List.map_set]; rfl
theorem isD_ins {l : List GIns} : ∀ e ∈ l.map ((fun e => e.map C.d) ∘ eIns), ∀ c ∈ e, c.isD = true := by simp
theorem isD_fn {l : List GFn} : ∀ e ∈ l.map ((fun e => e.map C.d) ∘ eFn), ∀ c ∈ e, c.isD = true := by simp
set_option maxRecDepth 100000 in
set_option maxHeartbeats 1000000 in
theorem codeDead_ok (p : GProg) (hp : okP p) (at_ : Int) : DPure Tryd.prog 5 [aD (eProg p), dI at_] fun d _ => d = dB true := by
  refine fn_ok [0,1,2,4,6,7,8,36] [] Tryd.func5 rfl (by kernel_rfl) rfl rfl rfl rfl (by kernel_rfl) ?_
  simp
  refine ⟨_, rfl, Wk.refl _, ?_⟩
  simp [vcC0]
  refine triesC_ok p 0 hp ?_ ?_ ?_
  · intro h
    simp
    refine codeLives_ok ?_
    simp [h]
    refine codeLives_ok ?_
    simp
  · intro h h2
    simp
    refine codeLives_ok ?_
    simp
    refine codeLives_ok ?_
    simp
  intro h0 f k hk hf
  obtain rfl : k = 0 := by omega
  obtain ⟨fns, cs, ts⟩ := p
  cases fns with
  | nil => simp at hf
  | cons f0 fs =>
  obtain rfl : f0 = f := by simpa using hf
  simp
  obtain ⟨-, -, f3, f4, f5⟩ := fn_in h0 (List.mem_of_getElem? hf)
  refine codeLives_ok ?_
  by_cases c1 : at_ < 0
  · simp [c1]
    refine codeLives_ok ?_
    simp
  obtain ⟨m, rfl⟩ : ∃ m : Nat, at_ = m := ⟨at_.toNat, by omega⟩
  by_cases c2 : f0.code.length ≤ m
  · simp [c2]
    intro _
    refine codeLives_ok ?_
    simp
  have c2' : m < f0.code.length := by omega
  have hls : m < (triesQ f0).seen.length := by rw [(triesQ_ok f3).1.ls]; exact c2'
  cases hs : (triesQ f0).seen[m] with
  | true =>
    have hs' : (triesQ f0).seen[m]? = some true := by rw [List.getElem?_eq_getElem hls, hs]
    simp [c2', hs']
    intro _
    refine codeLives_ok ?_
    simp
  | false =>
    have hs' : (triesQ f0).seen[m]? = some false := by rw [List.getElem?_eq_getElem hls, hs]
    have hs2 : (triesQ f0).seen.getD m false = false := by rw [List.getD_eq_getElem?_getD, hs']; rfl
    have hD := dead_check h0 hs2
    have hl := large_lt (check_zero h0).1
    simp [c2', hs']
    intro _
    refine cloneF_ok true ((f0 :: fs).map eFn) (by simp) (by simp) (by have := hl.1; simp at this ⊢; omega) ?_
    simp
    refine cloneI_ok true (f0.code.map eIns) (by simp) (by simp) (by simp; omega) ?_
    simp [c2']
    rw [set_end c2']
    refine ⟨_, rfl, (Wk.fz (m := 4) (x := ⟨.c 43, 5, (f0.code.set m endIns).map ((fun e => e.map C.d) ∘ eIns)⟩) (by simp) isD_ins).trans ((Wk.fz (m := 3) (x := ⟨.c 47, 5, (deadFn f0 m :: fs).map ((fun e => e.map C.d) ∘ eFn)⟩) (by simp [fzH, C.fz, deadFn, Function.comp_def]; rw [List.take_of_length_le (by simp)]; rfl) isD_fn).trans (Wk.heap (H' := Hp.none) fun i y hy => by simp [Hp.none] at hy)), ?_⟩
    simp [vcC0, fzT, D.fz, C.fz]
    simp [Function.comp_def]
    refine check_ok ⟨deadFn f0 m :: fs, cs, ts⟩ hp ?_
    rw [hD]
    simp
end Go.Proofs.YtalippdhfkpbmaaDoor
/- Contracts of Go's library, at the types of this program: Index, Contains. -/
namespace Go.Proofs.YtalippdhfkpbmaaDoor
open Go.RowKit Go
def idxQ {α : Type} [DecidableEq α] (L : List α) (v : α) : Int := match L.findIdx? (fun x => decide (v = x)) with
  | some k => k
  | none => -1
theorem idxQ_at {α : Type} [DecidableEq α] {L : List α} {v : α} {k : Nat} (hk : k < L.length) (h : ∀ j (_ : j < L.length), j < k → v ≠ L[j]) (e : v = L[k]) : idxQ L v = k := by
  unfold idxQ
  rw [List.findIdx?_eq_some_iff_getElem.2 ⟨hk, by simpa using e, fun j hj => by simpa using h j (by omega) hj⟩]
theorem idxQ_no {α : Type} [DecidableEq α] {L : List α} {v : α} (h : ∀ j (_ : j < L.length), v ≠ L[j]) : idxQ L v = -1 := by
  unfold idxQ
  rw [List.findIdx?_eq_none_iff.2 fun x hx => ?_]
  obtain ⟨j, hj, rfl⟩ := List.getElem_of_mem hx
  simpa using h j hj
theorem idxQ_in {α : Type} [DecidableEq α] {L : List α} {v : α} : 0 ≤ idxQ L v ↔ v ∈ L := by
  unfold idxQ
  cases h : L.findIdx? (fun x => decide (v = x)) with
  | none =>
    rw [List.findIdx?_eq_none_iff] at h
    simp only
    refine ⟨fun h0 => by omega, fun hm => ?_⟩
    have := h v hm
    simp at this
  | some k =>
    simp only
    refine ⟨fun _ => ?_, fun _ => by omega⟩
    obtain ⟨hk, h1, -⟩ := List.findIdx?_eq_some_iff_getElem.1 h
    rw [of_decide_eq_true h1]
    exact List.getElem_mem hk
theorem indexS_ok (S : Bool) (L : List ByteArray) (v : ByteArray) {K : D → List Blk → Prop} (h : K (dI (idxQ L v)) []) : DPure Tryd.prog 59 [dL S (L.map (fun b => [eS b])), .one (.d (eS v))] K := by
  refine fn_ok [0,1,4,5,7,8,9,16] [] Tryd.func59 rfl (by kernel_rfl) rfl rfl rfl rfl (by kernel_rfl) ?_
  simp
  intro hl
  refine loop_ok (ks := [0,1,4,5,7,8,9,16]) (pl := []) (n0 := 19) (fun x : {k : Nat // k ≤ L.length ∧ ∀ j (_ : j < L.length), j < k → v ≠ L[j]} => [(8, dI x.1)]) (fun x => L.length - x.1) ⟨0, by simp⟩ rfl (by kernel_rfl) (Wk.sub (by simp)) ?_
  rintro ⟨k, hk, ht⟩
  by_cases h1 : k < L.length
  · simp [h1]
    refine alt (fun hb => ?_) (fun hb => ?_)
    · rw [← idxQ_at h1 ht hb]; exact h
    · refine ⟨k + 1, by omega, ⟨by omega, fun j hj hjk => ?_⟩, Wk.sub (by simp [wrap_add (show k < 9223372036854775807 by omega)])⟩
      by_cases e : j = k
      · subst e; exact hb
      · exact ht j hj (by omega)
  · simp [h1]
    obtain rfl : k = L.length := by omega
    rw [← idxQ_no fun j hj => ht j hj hj]
    exact h
theorem containsS_ok (S : Bool) (L : List ByteArray) (v : ByteArray) {K : D → List Blk → Prop} (h : K (dB (decide (0 ≤ idxQ L v))) []) : DPure Tryd.prog 32 [dL S (L.map (fun b => [eS b])), .one (.d (eS v))] K := by
  refine fn_ok [0,1,4] [] Tryd.func32 rfl (by kernel_rfl) rfl rfl rfl rfl (by kernel_rfl) ?_
  simp
  refine indexS_ok S L v ?_
  simp
  exact h
end Go.Proofs.YtalippdhfkpbmaaDoor
/- CodeMore: with more than it had a program is as right. -/
namespace Go.Proofs.YtalippdhfkpbmaaDoor
open Go.RowKit Go
set_option linter.unusedSimpArgs false
theorem Wk.fz2 {n nx : Nat} {tm : List (Nat × D)} {H : Hp} {a b : Nat} {x y : Blk} (hx : H a = some x) (hy : H b = some y) (hab : b ≠ a) (ix : ∀ e ∈ x.es, ∀ c ∈ e, c.isD = true) (iy : ∀ e ∈ y.es, ∀ c ∈ e, c.isD = true) : Wk ⟨n, tm, H, nx⟩ ⟨n, fzT b y (fzT a x tm), Hp.none, nx⟩ :=
  (Wk.fz hx ix).trans ((Wk.fz (fzH_id hab hy iy) iy).trans (Wk.heap fun i y hy => by simp [Hp.none] at hy))
theorem isD_vals {l : List GVal} : ∀ e ∈ l.map ((fun e => e.map C.d) ∘ eVal), ∀ c ∈ e, c.isD = true := by simp
theorem isD_strs {l : List ByteArray} : ∀ e ∈ l.map ((fun e => e.map C.d) ∘ eStr), ∀ c ∈ e, c.isD = true := by simp
def oneMore : ByteArray := ⟨#[111, 110, 101, 32, 109, 111, 114, 101, 32, 116, 104, 97, 110, 32, 116, 104, 101, 114, 101, 32, 105, 115, 44, 32, 73, 32, 104, 111, 112, 101]⟩
theorem less_fn (l : List GFn) : (⟨.c 47, 5, l.map ((fun e => e.map C.d) ∘ eFn) ++ [[C.d (Dt.lit (Value.int IntKind.i64 0)), C.d (Dt.lit (Value.int IntKind.i64 1)), C.d (Dt.lit (Value.bool false)), C.d Dt.emp, C.own 2 5 1]]⟩ : Blk).less
    ⟨.c 47, 5, l.map ((fun e => e.map C.d) ∘ eFn) ++ [[C.d (eI 0), C.d (eI 1), C.d (eB false), C.d (.sl true []), C.own 2 5 1]]⟩ := by
  refine ⟨rfl, rfl, by simp, fun e he => ?_, fun i j c' h => ?_⟩
  · rcases List.mem_append.1 he with he | he
    · obtain ⟨f, -, rfl⟩ := List.mem_map.1 he
      rfl
    · obtain rfl := List.mem_singleton.1 he
      rfl
  · unfold nth2 at h ⊢
    by_cases hi : i < (l.map ((fun e => e.map C.d) ∘ eFn)).length
    · rw [List.getElem?_append_left hi] at h ⊢
      exact ⟨c', h, .inl rfl⟩
    · rw [List.getElem?_append_right (by omega)] at h ⊢
      generalize i - (l.map ((fun e => e.map C.d) ∘ eFn)).length = q at h ⊢
      match q, j with
      | 0, 0 => exact ⟨_, rfl, .inl (Option.some.inj h)⟩
      | 0, 1 => exact ⟨_, rfl, .inl (Option.some.inj h)⟩
      | 0, 2 => exact ⟨_, rfl, .inl (Option.some.inj h)⟩
      | 0, 3 => exact ⟨_, rfl, .inr ⟨rfl, true, (Option.some.inj h).symm⟩⟩
      | 0, 4 => exact ⟨_, rfl, .inl (Option.some.inj h)⟩
      | 0, _ + 5 => simp at h
      | _ + 1, _ => simp at h
theorem check_at (p : GProg) (hp : okP p) {d : D} (hd : d = aD (eProg p)) {K : D → List Blk → Prop} (h : K (dI (checkQ wordsT p)) []) : DPure Tryd.prog 25 [d] K := by
  subst hd; exact check_ok p hp h
theorem notin_last {ts : List ByteArray} (h : ts.Nodup) (hn : ts.length - 1 < ts.length) : idxQ (ts.take (ts.length - 1)) ts[ts.length - 1] < 0 := by
  refine Int.not_le.1 fun h0 => ?_
  have hm := idxQ_in.1 h0
  rw [← List.take_append_drop (ts.length - 1) ts] at h
  have hd : ts[ts.length - 1] ∈ ts.drop (ts.length - 1) := by rw [List.drop_eq_getElem_cons hn]; exact List.mem_cons_self ..
  exact (List.nodup_append.1 h).2.2 _ hm _ hd rfl
set_option maxRecDepth 100000 in
set_option maxHeartbeats 1000000 in
theorem codeMore_ok (p : GProg) (hp : okP p) (which : Int) : DPure Tryd.prog 7 [aD (eProg p), dI which] fun d _ => d = dB true := by
  refine fn_ok [0,1,2,4,5,6,7,41,48,49,58,66,75] [(15, [0,1,0,4,12,28,63,0,128,0,512,1536,3584,8064,16256,32767,65535], (.seg 0 (.seg 1 (.seg 2 (.seg 3 (.seg 4 (.seg 5 (.seg 6 (.seg 7 (.seg 8 (.seg 9 (.seg 10 (.seg 11 (.seg 12 (.seg 13 (.seg 14 (.eff 15 [] (.seg 16 .last))))))))))))))))))] Tryd.func7 rfl (by kernel_rfl) rfl rfl rfl rfl (by kernel_rfl) ?_
  simp
  refine ⟨_, rfl, Wk.refl _, ?_⟩
  simp [vcC0]
  refine check_ok p hp ?_
  simp
  refine codeLives_ok ?_
  by_cases h0 : checkQ wordsT p = 0
  case neg =>
    simp [h0]
    refine codeLives_ok ?_
    simp
  obtain ⟨fns, cs, ts⟩ := p
  cases fns with
  | nil => exact absurd (check_zero h0).2.2.1 (by simp [firstB])
  | cons f0 fs =>
  have lives : ∀ (K : D → List Blk → Prop), K (dB true) [] → DPure Tryd.prog 20 [] K := fun K h => codeLives_ok h
  simp [h0]
  intro _
  refine alt (fun b1 => ?_) (fun b1 => ?_)
  case refine_2 => refine lives _ ?_; simp
  intro _
  refine alt (fun b2 => ?_) (fun b2 => ?_)
  case refine_2 => refine lives _ ?_; simp
  intro _
  refine alt (fun b3 => ?_) (fun b3 => ?_)
  case refine_2 => refine lives _ ?_; simp
  refine alt (fun b4 => ?_) (fun b4 => ?_)
  case refine_1 => refine lives _ ?_; simp
  refine cloneF_ok true ((f0 :: fs).map eFn) (by simp) (by simp) (by simp; omega) ?_
  simp
  have ht0 := (check_zero h0).2.1
  have hl0 : 19 ≤ ts.length := by
    simp only [tablesB, Bool.and_eq_true, decide_eq_true_eq] at ht0
    have := congrArg List.length ht0.1.1
    rw [List.length_take] at this
    have e : wordsT.length = 19 := rfl
    omega
  have hw : IntKind.i64.wrap ((ts.length : Int) - 1) = ((ts.length - 1 : Nat) : Int) := by rw [wrap_id (by omega) (by omega)]; omega
  have hwl : IntKind.i64.wrap (ts.length : Int) = (ts.length : Int) := wrap_id (by omega) (by omega)
  have hn : ts.length - 1 < ts.length := by omega
  have hg : ts[ts.length - 1]? = some ts[ts.length - 1] := List.getElem?_eq_getElem hn
  have hr1 : 1 ≤ f0.regs := by
    have := (check_zero h0).2.2.2 f0 (List.mem_cons_self ..)
    simp only [functionB, Bool.and_eq_true, Bool.not_eq_true', Bool.or_eq_false_iff, decide_eq_false_iff_not] at this
    omega
  have hwr : IntKind.i64.wrap (f0.regs + 1) = f0.regs + 1 := wrap_id (by omega) (by omega)
  have hnd : ts.Nodup := by
    simp only [tablesB, Bool.and_eq_true, decide_eq_true_eq] at ht0
    exact ht0.1.2
  have hno := notin_last hnd hn
  generalize (IntKind.u64.wrap which).tmod 4 = u
  have htk : List.take (ts.length - 1) (List.map eStr ts) = List.map eStr (ts.take (ts.length - 1)) := List.map_take.symm
  refine alt (fun c0 => ?_) (fun c0 => ?_)
  · refine cloneV_ok true (cs.map eVal) (by simp) (by simp) (by simp; omega) ?_
    simp
    refine num_ok 77 ?_
    simp [hw, hwl, hg, hn]
    refine ⟨fun a b e hb => ?_, by omega, fun _ => ?_⟩
    · subst e; simp at hb; subst hb; exact ⟨rfl, rfl⟩
    rw [htk]
    refine containsS_ok true _ _ ?_
    simp
    intro _
    refine ⟨_, rfl, Wk.fz2 (a := 1) (b := 4) (x := ⟨.c 47, 5, (f0 :: fs).map ((fun e => e.map C.d) ∘ eFn)⟩) (y := ⟨.c 23, 2, (cs ++ [seventySeven]).map ((fun e => e.map C.d) ∘ eVal)⟩) (by simp) (by simp [seventySeven]) (by decide) isD_fn isD_vals, ?_⟩
    simp [vcC0, fzT, D.fz, C.fz]
    refine check_at ⟨f0 :: fs, cs ++ [seventySeven], ts⟩ hp (by simp [Function.comp_def, List.take_of_length_le, seventySeven, moreReg, oneFn, oneMore]) ?_
    rw [more_const h0 (by omega)]
    simp
  refine alt (fun c1 => ?_) (fun c1 => ?_)
  · refine cloneS_ok true (ts.map eStr) (by simp) (by simp) (by simp; omega) ?_
    simp [hw, hwl, hg, hn]
    refine ⟨fun a b e hb => ?_, by omega, fun _ => ⟨by omega, fun _ => ?_⟩⟩
    · subst e; simp at hb; subst hb; exact ⟨rfl, rfl⟩
    rw [show List.map ((fun e => List.map C.dt e) ∘ (fun e => List.map C.d e) ∘ eStr) ts = List.map eStr ts from List.map_congr_left fun _ _ => rfl]
    refine containsS_ok false ts oneMore ?_
    simp
    intro hlt
    have hnm : ¬ oneMore ∈ ts := fun hm => by have := idxQ_in.2 hm; omega
    refine ⟨_, rfl, Wk.fz2 (a := 1) (b := 4) (x := ⟨.c 47, 5, (f0 :: fs).map ((fun e => e.map C.d) ∘ eFn)⟩) (y := ⟨.c 9, 1, (ts ++ [oneMore]).map ((fun e => e.map C.d) ∘ eStr)⟩) (by simp) (by simp [oneMore]) (by decide) isD_fn isD_strs, ?_⟩
    simp [vcC0, fzT, D.fz, C.fz]
    refine check_at ⟨f0 :: fs, cs, ts ++ [oneMore]⟩ (fun t ht => ?_) (by simp [Function.comp_def, List.take_of_length_le, seventySeven, moreReg, oneFn, oneMore]) ?_
    · rcases List.mem_append.1 ht with ht | ht
      · exact hp t ht
      · obtain rfl := List.mem_singleton.1 ht
        decide
    rw [more_text h0 (by omega) (by decide) hnm]
    simp
  refine alt (fun c2 => ?_) (fun c2 => ?_)
  · simp [hw, hwl, hg, hn, hwr]
    intro _
    rw [htk]
    refine containsS_ok true _ _ ?_
    simp
    intro _
    refine ⟨_, rfl, Wk.fz0 (a := 1) (x := ⟨.c 47, 5, (moreReg f0 :: fs).map ((fun e => e.map C.d) ∘ eFn)⟩) (by simp [moreReg]) isD_fn, ?_⟩
    simp [vcC0, fzT, D.fz, C.fz]
    refine check_at ⟨moreReg f0 :: fs, cs, ts⟩ hp (by simp [Function.comp_def, List.take_of_length_le, seventySeven, moreReg, oneFn, oneMore]) ?_
    rw [more_reg h0 (by omega)]
    simp
  refine alt (fun c3 => ?_) (fun c3 => ?_)
  · simp [hw, hwl, hg, hn]
    refine ⟨fun a b e hb => ?_, by omega, fun _ => ?_⟩
    · subst e; simp at hb; subst hb; exact ⟨rfl, rfl⟩
    rw [htk]
    refine containsS_ok true _ _ ?_
    simp
    intro _
    refine ⟨_, rfl, (Wk.less1 (m := 4) (by simp) (less_fn (f0 :: fs))).trans ((Wk.fz (m := 2) (x := ⟨.c 43, 5, oneFn.code.map ((fun e => e.map C.d) ∘ eIns)⟩) (by simp [oneFn]) isD_ins).trans ((Wk.fz (m := 4) (x := ⟨.c 47, 5, ((f0 :: fs) ++ [oneFn]).map ((fun e => e.map C.d) ∘ eFn)⟩) (by simp [fzH, C.fz, oneFn, Function.comp_def]) isD_fn).trans (Wk.heap (H' := Hp.none) fun i y hy => by simp [Hp.none] at hy))), ?_⟩
    simp [vcC0, fzT, D.fz, C.fz]
    refine check_at ⟨f0 :: (fs ++ [oneFn]), cs, ts⟩ hp (by simp [Function.comp_def, List.take_of_length_le, seventySeven, moreReg, oneFn, oneMore]) ?_
    rw [more_fn h0 (by omega)]
    simp
  · simp [hw, hwl, hg, hn]
    intro _
    rw [htk]
    refine containsS_ok true _ _ ?_
    simp
    intro _
    refine ⟨_, rfl, Wk.fz0 (a := 1) (x := ⟨.c 47, 5, (f0 :: fs).map ((fun e => e.map C.d) ∘ eFn)⟩) (by simp) isD_fn, ?_⟩
    simp [vcC0, fzT, D.fz, C.fz]
    refine check_at ⟨f0 :: fs, cs, ts⟩ hp (by simp [Function.comp_def, List.take_of_length_le, seventySeven, moreReg, oneFn, oneMore]) ?_
    rw [h0]
    simp
end Go.Proofs.YtalippdhfkpbmaaDoor
/- Arguments opened: what a datum that came in shows, for types put together of slices, structs and plain things. -/
namespace Go.Proofs.YtalippdhfkpbmaaDoor
open Go.RowKit Go Go.Deep
/-- cells of type t that came in show an α, spelled by f -/
def Opn (P : Program) (t : TypeId) (α : Type) (f : α → List Dt) (ok : α → Prop) : Prop :=
  ∀ {H : Type} (enc : TypeId × Value → H) (W : World) (held : Bool) (cs : List Value), (∃ n x, DataW.trod enc P W 0 (fun _ => true) held n t cs = some x) →
    ∃ a, ok a ∧ ∀ E : Env, (∀ b, b < W.heap.size → E.F b) → ∀ (j : Nat) c v, (f a)[j]? = some c → cs[j]? = some v → RD E W c v
def OpnF (P : Program) (fs : List Field) (off : Nat) (α : Type) (f : α → List Dt) (ok : α → Prop) : Prop :=
  ∀ {H : Type} (enc : TypeId × Value → H) (W : World) (held : Bool) (cs : List Value), (∀ fl ∈ fs, ∃ n x, DataW.trod enc P W 0 (fun _ => true) held n fl.type ((cs.drop fl.offset).take (P.cellsOf fl.type)) = some x) →
    ∃ a, ok a ∧ ∀ E : Env, (∀ b, b < W.heap.size → E.F b) → ∀ (j : Nat) c v, (f a)[j]? = some c → cs[off + j]? = some v → RD E W c v
theorem opn_one {E : Env} {W : World} {d : Dt} {u : Value} (h : RD E W d u) (j : Nat) (c : Dt) (v : Value) (h1 : [d][j]? = some c) (h2 : [u][j]? = some v) : RD E W c v := by
  cases j with
  | zero => simp at h1 h2; subst h1 h2; exact h
  | succ j => simp at h1
variable {P : Program}
theorem opn_int {t : TypeId} (ht : P.underlying t = some (.int .i64)) : Opn P t Int (fun n => [.lit (.int .i64 n)]) (fun n => (Lit.int .i64 n).wf = true) := fun enc W held cs ⟨n, x, h⟩ => by
  obtain ⟨z, rfl, -, hw⟩ := DataW.trod_int ht h
  exact ⟨z, hw, fun E _ => opn_one (.lit rfl)⟩
theorem opn_bool {t : TypeId} (ht : P.underlying t = some .bool) : Opn P t Bool (fun n => [.lit (.bool n)]) (fun _ => True) := fun enc W held cs ⟨n, x, h⟩ => by
  obtain ⟨z, rfl, -⟩ := DataW.trod_bool ht h
  exact ⟨z, trivial, fun E _ => opn_one (.lit rfl)⟩
theorem opn_string {t : TypeId} (ht : P.underlying t = some .string) : Opn P t ByteArray (fun n => [.lit (.string n)]) (fun s => s.size ≤ maxLen) := fun enc W held cs ⟨n, x, h⟩ => by
  obtain ⟨z, rfl, -, hw⟩ := DataW.trod_string ht h
  exact ⟨z, hw, fun E _ => opn_one (.lit rfl)⟩
theorem opn_slice {t e : TypeId} {k : Nat} {α : Type} [Inhabited α] {f : α → List Dt} {ok : α → Prop} (ht : P.underlying t = some (.slice e)) (hc : P.cellsOf e = k) (h0 : 0 < k) (hk : ∀ a, (f a).length = k) (he : Opn P e α f ok) :
    Opn P t (List α) (fun l => [.sl true (l.map f)]) (fun l => ∀ a ∈ l, ok a) := fun enc W held cs ⟨n, x, h⟩ => by
  rcases open_slice ht h with ⟨rfl, -⟩ | ⟨a, len, cap, m, n', D, Pl, rfl, -, hl, hm, hmm, -, hall⟩
  · refine ⟨[], by simp, fun E _ => opn_one ?_⟩
    exact RD.sl (S := true) (es := []) (k := 0) (cap := 0) (fun _ _ => default) (Nat.le_refl _) (Nat.zero_le _) (by simp) (fun _ => rfl) (fun h => by simp at h) (fun i j c h => by simp [nth2] at h)
  · have hlm : len ≤ m := by rw [hmm]; simp; omega
    have hv : ∀ i, i < len → ∃ y : α, ok y ∧ ∀ E : Env, (∀ b, b < W.heap.size → E.F b) → ∀ (j : Nat) c, (f y)[j]? = some c → ∃ v, W.cell? ((a.add (i * k)).add j) = some v ∧ RD E W c v := fun i hi => by
      obtain ⟨cs', h1, h2⟩ := hall i (by omega)
      rw [hc] at h1
      obtain ⟨-, g1, g2⟩ := World.cells?_some h1
      obtain ⟨y, y1, y2⟩ := he enc W held cs' ⟨_, _, h2⟩
      refine ⟨y, y1, fun E hE j c hj => ?_⟩
      have hjk : j < k := by rw [← hk y]; exact (List.getElem?_eq_some_iff.1 hj).1
      have hv : cs'[j]? = some cs'[j] := List.getElem?_eq_getElem _
      exact ⟨cs'[j], by rw [g2 j hjk, hv], y2 E hE j c _ hj hv⟩
    obtain ⟨g, hg⟩ := choose_lt hv
    have hlen : ((List.range len).map g).length = len := by simp
    refine ⟨(List.range len).map g, ?_, fun E hE => opn_one ?_⟩
    · intro y hy
      obtain ⟨i, hi, rfl⟩ := List.mem_map.1 hy
      exact (hg i (List.mem_range.1 hi)).1
    have hn2 : ∀ i j c, nth2 (((List.range len).map g).map f) i j = some c → i < len ∧ (f (g i))[j]? = some c := fun i j c h => by
      by_cases hi : i < len
      · simp [nth2, hi] at h
        exact ⟨hi, h⟩
      · simp [nth2, hi] at h
    have hsp : 0 < len → a.spot = none ∧ a.block < W.heap.size := fun hp => by
      obtain ⟨cs', h1, -⟩ := hall 0 (by omega)
      rw [hc] at h1
      obtain ⟨-, g1, g2⟩ := World.cells?_some h1
      have q0 := g2 0 h0
      rw [List.getElem?_eq_getElem (by omega)] at q0
      obtain ⟨ab, ao, sp⟩ := a
      have hs := World.cell?_spot q0
      have hb := World.block_lt_of_cell? W _ q0
      cases sp with
      | none => exact ⟨rfl, by simpa [Addr.add] using hb⟩
      | some s => simp [Addr.add] at hs
    have key : ∀ i j c, nth2 (((List.range len).map g).map f) i j = some c → ∃ v, W.cell? ⟨a.block, a.off + i * k + j, none⟩ = some v ∧ ∀ E : Env, (∀ b, b < W.heap.size → E.F b) → ∃ v', W.cell? ⟨a.block, a.off + i * k + j, none⟩ = some v' ∧ RD E W c v' := fun i j c h => by
      obtain ⟨hi, hj⟩ := hn2 i j c h
      obtain ⟨s1, -⟩ := hsp (by omega)
      have e : (a.add (i * k)).add j = ⟨a.block, a.off + i * k + j, none⟩ := by
        obtain ⟨ab, ao, sp⟩ := a
        simp at s1
        subst s1
        by_cases z1 : j = 0
        · by_cases z2 : i * k = 0
          · simp [Addr.add, z1, z2]
          · simp [Addr.add, z1, z2]
        · by_cases z2 : i * k = 0
          · simp [Addr.add, z1, z2]
          · simp [Addr.add, z1, z2]
      have hq := (hg i hi).2
      obtain ⟨v, q1, -⟩ := hq ⟨fun _ => True, fun _ => True⟩ (fun _ _ => trivial) j c hj
      rw [e] at q1
      exact ⟨v, q1, fun E hE => by
        obtain ⟨v', q2, q3⟩ := hq E hE j c hj
        rw [e] at q2
        exact ⟨v', q2, q3⟩⟩
    have hX : ∀ i j c, nth2 (((List.range len).map g).map f) i j = some c → W.cell? ⟨a.block, a.off + i * k + j, none⟩ = some ((W.cell? ⟨a.block, a.off + i * k + j, none⟩).getD default) := fun i j c h => by
      obtain ⟨v, q, -⟩ := key i j c h
      rw [q]; rfl
    have hrd := RD.sl (E := E) (w := W) (S := true) (es := ((List.range len).map g).map f) (A := some a) (cap := cap) (k := k) (fun i j => (W.cell? ⟨a.block, a.off + i * k + j, none⟩).getD default)
      (by rw [List.length_map, hlen]; exact hl) hm (fun e he => by obtain ⟨y, -, rfl⟩ := List.mem_map.1 he; exact hk y) (fun h => by cases h)
      (fun hp => by
        rw [List.length_map, hlen] at hp
        obtain ⟨s1, s2⟩ := hsp hp
        exact ⟨a.block, a.off, by obtain ⟨ab, ao, sp⟩ := a; simp at s1; subst s1; rfl, .inl (hE _ s2), hX⟩)
      (fun i j c h => by
        obtain ⟨v, -, hq⟩ := key i j c h
        obtain ⟨v', q1, q2⟩ := hq E.solid hE
        rw [q1]
        exact q2)
    rw [List.length_map, hlen] at hrd
    exact hrd
theorem opnF_nil {off : Nat} : OpnF P [] off Unit (fun _ => []) (fun _ => True) := fun _ _ _ _ _ => ⟨(), trivial, fun _ _ j c v h => by simp at h⟩
theorem opnF_cons {fl : Field} {fs : List Field} {off k : Nat} {α β : Type} {f : α → List Dt} {ok : α → Prop} {g : β → List Dt} {ok' : β → Prop} (ho : fl.offset = off) (hc : P.cellsOf fl.type = k) (hk : ∀ a, (f a).length = k)
    (h1 : Opn P fl.type α f ok) (h2 : OpnF P fs (off + k) β g ok') : OpnF P (fl :: fs) off (α × β) (fun x => f x.1 ++ g x.2) (fun x => ok x.1 ∧ ok' x.2) := fun enc W held cs h => by
  obtain ⟨a, a1, a2⟩ := h1 enc W held _ (h fl (List.mem_cons_self ..))
  obtain ⟨b, b1, b2⟩ := h2 enc W held cs fun x hx => h x (List.mem_cons_of_mem _ hx)
  refine ⟨(a, b), ⟨a1, b1⟩, fun E hE j c v hj hv => ?_⟩
  simp only at hj
  by_cases hjk : j < k
  · rw [List.getElem?_append_left (by rw [hk]; exact hjk)] at hj
    refine a2 E hE j c v hj ?_
    rw [ho, hc, List.getElem?_take_of_lt hjk, List.getElem?_drop]
    exact hv
  · rw [List.getElem?_append_right (by rw [hk]; omega), hk] at hj
    refine b2 E hE (j - k) c v hj ?_
    rw [show off + k + (j - k) = off + j by omega]
    exact hv
theorem opn_struct {t : TypeId} {fs : Array Field} {α : Type} {f : α → List Dt} {ok : α → Prop} (ht : P.underlying t = some (.struct fs)) (hf : OpnF P fs.toList 0 α f ok) : Opn P t α f ok := fun enc W held cs ⟨n, x, h⟩ => by
  obtain ⟨xs, n', -, -, -, hl, hx⟩ := DataW.trod_struct ht h
  obtain ⟨a, a1, a2⟩ := hf enc W held cs fun fl hfl => by
    obtain ⟨i, hi, rfl⟩ := List.getElem_of_mem hfl
    have hi' : i < fs.size := by simpa using hi
    have := hx i fs[i] (by simp [hi'])
    rw [List.getElem?_eq_getElem (by omega)] at this
    exact ⟨n', _, by simpa using this⟩
  exact ⟨a, a1, fun E hE j c v hj hv => a2 E hE j c v hj (by rw [Nat.zero_add]; exact hv)⟩
theorem Opn.map {t : TypeId} {α β : Type} {f : α → List Dt} {ok : α → Prop} {g : β → List Dt} {ok' : β → Prop} (h : Opn P t α f ok) (e : α → β) (h1 : ∀ a, g (e a) = f a) (h2 : ∀ a, ok a → ok' (e a)) : Opn P t β g ok' := fun enc W held cs hc => by
  obtain ⟨a, a1, a2⟩ := h enc W held cs hc
  exact ⟨e a, h2 a a1, by rw [h1]; exact a2⟩
end Go.Proofs.YtalippdhfkpbmaaDoor
/- Package code: a program that came in as an argument. -/
namespace Go.Proofs.YtalippdhfkpbmaaDoor
open Go.RowKit Go
instance : Inhabited GIns := ⟨⟨0, 0, 0, 0, 0⟩⟩
instance : Inhabited GFn := ⟨⟨0, 0, false, [], []⟩⟩
instance : Inhabited GVal := ⟨⟨0, 0⟩⟩
instance : Inhabited ByteArray := ⟨⟨#[]⟩⟩
theorem opn_op {t : TypeId} (ht : Tryd.prog.underlying t = some (.int .i64)) : Opn Tryd.prog t Int (fun n => [eI n]) (fun _ => True) := Opn.map (opn_int ht) id (fun _ => rfl) (fun _ _ => trivial)
theorem opn_ins : Opn Tryd.prog 43 GIns eIns (fun _ => True) :=
  Opn.map (opn_struct Tryd.underlying43 (opnF_cons (k := 1) rfl (by kernel_rfl) (fun _ => rfl) (opn_op (by kernel_rfl)) (opnF_cons (k := 1) rfl (by kernel_rfl) (fun _ => rfl) (opn_op (by kernel_rfl)) (opnF_cons (k := 1) rfl (by kernel_rfl) (fun _ => rfl) (opn_op (by kernel_rfl)) (opnF_cons (k := 1) rfl (by kernel_rfl) (fun _ => rfl) (opn_op (by kernel_rfl)) (opnF_cons (k := 1) rfl (by kernel_rfl) (fun _ => rfl) (opn_op (by kernel_rfl)) opnF_nil))))))
    (fun x => ⟨x.1, x.2.1, x.2.2.1, x.2.2.2.1, x.2.2.2.2.1⟩) (fun _ => rfl) (fun _ _ => trivial)
theorem opn_val : Opn Tryd.prog 23 GVal eVal (fun _ => True) :=
  Opn.map (opn_struct Tryd.underlying23 (opnF_cons (k := 1) rfl (by kernel_rfl) (fun _ => rfl) (opn_op (by kernel_rfl)) (opnF_cons (k := 1) rfl (by kernel_rfl) (fun _ => rfl) (opn_op (by kernel_rfl)) opnF_nil)))
    (fun x => ⟨x.1, x.2.1⟩) (fun _ => rfl) (fun _ _ => trivial)
theorem opn_ints : Opn Tryd.prog 44 (List Int) (fun l => [.sl true (l.map eInt)]) (fun _ => True) := Opn.map (opn_slice (e := 3) (k := 1) (f := eInt) (by kernel_rfl) (by kernel_rfl) (by decide) (fun _ => rfl) (Opn.map (opn_int (by kernel_rfl)) id (fun _ => rfl) (fun _ _ => trivial) : Opn _ _ Int eInt (fun _ => True))) id (fun _ => rfl) (fun _ _ => trivial)
theorem opn_code : Opn Tryd.prog 45 (List GIns) (fun l => [.sl true (l.map eIns)]) (fun _ => True) := Opn.map (opn_slice (e := 43) (k := 5) (f := eIns) (by kernel_rfl) (by kernel_rfl) (by decide) (fun _ => rfl) opn_ins) id (fun _ => rfl) (fun _ _ => trivial)
theorem opn_fn : Opn Tryd.prog 47 GFn eFn (fun _ => True) :=
  Opn.map (opn_struct Tryd.underlying47 (opnF_cons (k := 1) rfl (by kernel_rfl) (fun _ => rfl) (opn_op (by kernel_rfl)) (opnF_cons (k := 1) rfl (by kernel_rfl) (fun _ => rfl) (opn_op (by kernel_rfl)) (opnF_cons (k := 1) rfl (by kernel_rfl) (fun _ => rfl) (opn_bool (by kernel_rfl)) (opnF_cons (k := 1) rfl (by kernel_rfl) (fun _ => rfl) opn_ints (opnF_cons (k := 1) rfl (by kernel_rfl) (fun _ => rfl) opn_code opnF_nil))))))
    (fun x => ⟨x.1, x.2.1, x.2.2.1, x.2.2.2.1, x.2.2.2.2.1⟩) (fun _ => rfl) (fun _ _ => trivial)
theorem opn_fns : Opn Tryd.prog 32 (List GFn) (fun l => [.sl true (l.map eFn)]) (fun _ => True) := Opn.map (opn_slice (e := 47) (k := 5) (f := eFn) (by kernel_rfl) (by kernel_rfl) (by decide) (fun _ => rfl) opn_fn) id (fun _ => rfl) (fun _ _ => trivial)
theorem opn_vals : Opn Tryd.prog 33 (List GVal) (fun l => [.sl true (l.map eVal)]) (fun _ => True) := Opn.map (opn_slice (e := 23) (k := 2) (f := eVal) (by kernel_rfl) (by kernel_rfl) (by decide) (fun _ => rfl) opn_val) id (fun _ => rfl) (fun _ _ => trivial)
theorem opn_texts : Opn Tryd.prog 29 (List ByteArray) (fun l => [.sl true (l.map eStr)]) (fun l => ∀ s ∈ l, s.size ≤ maxLen) := Opn.map (opn_slice (e := 9) (k := 1) (f := eStr) (by kernel_rfl) (by kernel_rfl) (by decide) (fun _ => rfl) (Opn.map (opn_string (by kernel_rfl)) id (fun _ => rfl) (fun _ h => h) : Opn _ _ ByteArray eStr (fun s => s.size ≤ maxLen))) id (fun _ => rfl) (fun _ h => h)
theorem opn_prog : Opn Tryd.prog 35 GProg eProg okP :=
  Opn.map (opn_struct Tryd.underlying35 (opnF_cons (k := 1) rfl (by kernel_rfl) (fun _ => rfl) opn_fns (opnF_cons (k := 1) rfl (by kernel_rfl) (fun _ => rfl) opn_vals (opnF_cons (k := 1) rfl (by kernel_rfl) (fun _ => rfl) opn_texts opnF_nil))))
    (fun x => ⟨x.1, x.2.1, x.2.2.1⟩) (fun _ => rfl) (fun x h => h.2.2.1)
theorem rcs_of {E : Env} {w : World} {ι : Nms} (l : List Dt) : ∀ {xs : List Value}, l.length = xs.length → (∀ (j : Nat) c v, l[j]? = some c → xs[j]? = some v → RD E w c v) → RCs E w ι (l.map .d) xs := by
  induction l with
  | nil =>
    intro xs hl _
    cases xs with
    | nil => rw [List.map_nil, RCs]; trivial
    | cons x xs => cases hl
  | cons d l ih =>
    intro xs hl h
    cases xs with
    | nil => cases hl
    | cons x xs =>
      rw [List.map_cons, RCs, RC]
      exact ⟨h 0 d x (by simp) (by simp), ih (by simpa using hl) fun j c v h1 h2 => h (j + 1) c v (by simpa using h1) (by simpa using h2)⟩
set_option maxRecDepth 20000 in
theorem prog_arg {H : Type} {enc : TypeId × Value → H} {W : World} {held : Bool} {r : Reach} {b0 : Nat} {v : Value} {d : DataW H} {ps : List MemPlace} (hval : Value.okWide Tryd.prog W r b0 35 v) (h : DataW.Trod enc Tryd.prog W 0 (fun _ => true) held 35 v d ps) :
    ∃ p : GProg, okP p ∧ ∀ (B : Nat → Prop) (ι : Nms), RV (Env.mk (fun b => b < W.heap.size) B) W ι (aD (eProg p)) v := by
  obtain ⟨cs, rfl, hsz⟩ := WideShapes.okWide_struct Tryd.underlying35 hval
  rw [show Tryd.prog.cellsOf 35 = 3 by kernel_rfl] at hsz
  obtain ⟨m, hm⟩ := h
  rw [show (Value.agg cs).cells = cs from rfl] at hm
  obtain ⟨p, p1, p2⟩ := opn_prog enc W held cs.toList ⟨m, _, hm⟩
  refine ⟨p, p1, fun B ι => ?_⟩
  rw [RV]
  exact ⟨cs, rfl, rcs_of _ (by simp [hsz]) (p2 _ fun b hb => hb)⟩
end Go.Proofs.YtalippdhfkpbmaaDoor
/- From a law's contract to its row: what a frame needs. -/
namespace Go.Proofs.YtalippdhfkpbmaaDoor
open Go.RowKit Go
theorem law_frame {f : FuncId} {ds : List D} (hD : DPure Tryd.prog f ds fun d _ => d = dB true) {W : World} {vs : List Value} (hgl : GlOk (fun b => b < W.heap.size) W) (hvs : RVs ⟨fun b => b < W.heap.size, fun b => b < W.heap.size⟩ W (fun _ => none) ds vs) :
    Calls Tryd.prog f vs.toArray W fun e w' => e = .returned (.bool true) ∧ Below W.heap.size W w' :=
  (hD.2 _ W vs (fun _ h => h) hgl hvs).mono fun e w' ⟨F', ι, d, fr, v, e1, ho, e3⟩ => by
    subst e1 e3
    have hv := ho.val
    rw [RV] at hv
    exact ⟨by rw [RD.lit_inv hv], ⟨ho.io.1, ho.io.2.2, ho.io.2.1, ho.size, ho.old⟩⟩
/-- what a laid row of plain data says of the variables -/
theorem laid_tail {P : Program} {x : String × DataW Unit} {l : List (String × DataW Unit)} {W : World} (h : laidMet P (x :: l) W) : laidMet P l W := by
  obtain ⟨ps, ⟨g, t, cs, fuel, p, q, -, -, -, -, hq, rfl⟩, hn, hc⟩ := h
  exact ⟨q, hq, (List.nodup_append.1 hn).2.1, fun b off hb => hc b off (List.mem_append_right _ hb)⟩
theorem gl_of_laid {W : World} (h : laidMetH Tryd.prog [("unicode.White_Space", Rows.laid_unicode_White_Space), ("strings.asciiSpace", Rows.laid_strings_asciiSpace)] W) : GlOk (fun b => b < W.heap.size) W := by
  rw [MakeChecks.laidMetH_plain _ _ _ (by kernel_rfl)] at h
  have h2 := laid_tail h
  have hd : Rows.laid_strings_asciiSpace (H := Unit) = Lib.tabData .u8 Lib.asciiSpaceTab := by kernel_rfl
  rw [hd] at h2
  have ht := Lib.tabIs_of_head (g := 1) (by kernel_rfl) (by kernel_rfl) (t := 93) (e := 5) (n := 256) (by kernel_rfl) (by kernel_rfl) (by kernel_rfl) (by kernel_rfl) h2
  intro g arr hm
  obtain ⟨rfl, rfl⟩ : g = 1 ∧ arr = (Lib.asciiSpaceTab.map fun z => Value.int .u8 z).toArray := by
    have := List.mem_singleton.1 hm
    cases this
    exact ⟨rfl, rfl⟩
  unfold Lib.TabIs World.var? at ht
  rw [show Tryd.prog.globalNamed "strings.asciiSpace" = some 1 by kernel_rfl] at ht
  simp only [Option.bind_some] at ht
  split at ht
  · rename_i cs t fz hw
    simp only [Option.some.injEq] at ht
    subst ht
    refine ⟨?_, t, fz, hw⟩
    exact (Array.getElem?_eq_some_iff.1 hw).1
  · cases ht
end Go.Proofs.YtalippdhfkpbmaaDoor
