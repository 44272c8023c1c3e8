/- Several texts in one: CodI, CodJ, Fz, CodK, CodV, CodS, CodT, CodU, CodWa, CodW, CodR, OpsD, OpsF. -/
import Derived.WalkLawsBesides
import Derived.Test.YtalippdhfkpbmaaDoorMa
import Derived.Test.YtalippdhfkpbmaaDoorMb
import Derived.Test.YtalippdhfkpbmaaDoorMc
import Derived.Test.YtalippdhfkpbmaaDoorMd
set_option linter.unusedSimpArgs false
set_option linter.unusedVariables false
/- Package code: function, Check. -/
namespace Go.Proofs.YtalippdhfkpbmaaDoor
open Go.RowKit Go
set_option maxRecDepth 100000 in
set_option maxHeartbeats 2000000 in
theorem function_ok (p : GProg) (f : GFn) (hc2 : f.code.length ≤ 1000) {K : D → List Blk → Prop} (h : K (dB (functionB p f)) []) : DPure Tryd.prog 56 [aD (eProg p), aD (eFn f)] K := by
  refine fn_ok [0,1,2,3,4,5,6,7,10,28,30,31,32,33,41] [] Tryd.func56 rfl (by kernel_rfl) rfl rfl rfl rfl (by kernel_rfl) ?_
  simp
  by_cases c3 : f.regs < f.params
  · have hf : functionB p f = false := by simp [functionB, c3]
    rw [hf] at h
    simp [c3]
    repeat' (first | (refine alt (fun _ => ?_) (fun _ => ?_)) | (intro _) | exact h)
    all_goals first | exact h | (exact ⟨fun _ => h, h⟩) | (intro _; exact h)
  simp [c3]
  refine alt (fun c1 => alt (fun c2 => ?_) (fun c2 => kB h (by simp [functionB, show f.regs < 1 by omega]))) (fun c1 => kB h (by simp [functionB, show f.params < 0 by omega]))
  intro _
  refine loopH_ok (ks := [0,1,2,3,4,5,6,7,10,28,30,31,32,33,41]) (pl := []) (n0 := 50) (α := {x : Nat × Nat // x.1 ≤ f.code.length ∧ ∀ i, i < x.1 → orderB p f i (f.code.getD i dIns) = true}) (fun x => [(32, dI x.1.1)]) (fun H _ => H) (fun x => x.1.2 + 3) (fun x => f.code.length - x.1.1) ⟨(0, 0), by simp⟩ rfl (by kernel_rfl) (Wk.sub (by simp)) ?_
  rintro ⟨⟨k, j⟩, hk, ho⟩
  simp only at hk ho
  by_cases h1 : k < f.code.length
  · simp [h1]
    refine order_ok p f k f.code[k] ?_
    simp
    refine alt (fun c4 => ?_) (fun c4 => kB h ?_)
    · refine ⟨k + 1, by omega, ⟨by omega, fun i hi => ?_⟩, j + 1, (Wk.sub (by simp [wrap_add (show k < 9223372036854775807 by omega)])).trans (Wk.heap fun i y hy => ?_)⟩
      · rcases Nat.lt_or_ge i k with h2 | h2
        · simpa using ho i h2
        · obtain rfl : i = k := by omega
          simpa [List.getElem?_eq_getElem h1] using c4
      · by_cases e : i = j + 3
        · subst e; simp at hy
        · rw [Hp.set_ne _ _ e]; exact hy
    · have : ordersB p f = false := by
        cases hb : ordersB p f with
        | false => rfl
        | true => exact absurd (orders_get hb h1) c4
      simp [functionB, this]
  · simp [h1]
    obtain rfl : k = f.code.length := by omega
    have hord : ordersB p f = true := List.all_eq_true.2 fun i hi => ho i (List.mem_range.1 hi)
    refine tries_ok f (goesAll_of hord) hc2 ?_
    simp
    exact kB h (by simp [functionB, hord, c3, show ¬ f.params < 0 by omega, show ¬ f.regs < 1 by omega])
end Go.Proofs.YtalippdhfkpbmaaDoor
/- Package code: Check. -/
namespace Go.Proofs.YtalippdhfkpbmaaDoor
open Go.RowKit Go
theorem check1_ok (p : GProg) (f : GFn) (hc2 : f.code.length ≤ 1000) {K : D → List Blk → Prop} (h : K (dB (!functionB p f)) []) : DPure Tryd.prog 55 [aD (eFn f), .one (.d (.at_ true (eProg p)))] K := by
  refine fn_ok [0,1,2,3] [] Tryd.func55 rfl (by kernel_rfl) rfl rfl rfl rfl (by kernel_rfl) ?_
  simp
  refine function_ok p f hc2 ?_
  simp
  exact h
/-- what a program that comes in is: memory holds no more -/
def okP (p : GProg) : Prop := (∀ t ∈ p.texts, t.size ≤ maxLen)
theorem check_large {p : GProg} (h : largeB p = true) : checkQ wordsT p = 2 := by rw [checkQ, if_pos h]
theorem check_form {p : GProg} (h : largeB p = false) (h2 : tablesB wordsT p = false ∨ firstB p = false) : checkQ wordsT p = 3 := by rw [checkQ, if_neg (by rw [h]; simp), if_pos h2]
theorem check_fns {p : GProg} (h : largeB p = false) (h2 : tablesB wordsT p = true) (h3 : firstB p = true) : checkQ wordsT p = if p.fns.any (fun f => !functionB p f) = true then 3 else 0 := by rw [checkQ, if_neg (by rw [h]; simp), if_neg (by rw [h2, h3]; simp)]
theorem large_lt {p : GProg} (h : largeB p = false) : p.fns.length ≤ 60 ∧ p.consts.length ≤ 200 ∧ p.texts.length ≤ 200 ∧ ∀ f ∈ p.fns, f.code.length ≤ 600 ∧ f.regs ≤ 60 := by
  unfold largeB at h
  simp only [Bool.or_eq_false_iff, decide_eq_false_iff_not] at h
  refine ⟨by omega, by omega, by omega, fun f hf => ?_⟩
  have := List.any_eq_false.1 h.2 f hf
  unfold fnLargeB at this
  simp only [Bool.or_eq_true, decide_eq_true_eq] at this
  omega
set_option maxRecDepth 100000 in
set_option maxHeartbeats 1000000 in
theorem check_nil  (consts : List GVal) (texts : List ByteArray) (hp : okP ⟨[], consts, texts⟩) {K : D → List Blk → Prop} (h : K (dI (checkQ wordsT ⟨[], consts, texts⟩)) []) : DPure Tryd.prog 25 [aD (eProg ⟨[], consts, texts⟩)] K := by
  refine fn_ok [0,1,2,4,37,41] [] Tryd.func25 rfl (by kernel_rfl) rfl rfl rfl rfl (by kernel_rfl) ?_
  simp
  refine large_ok ⟨[], consts, texts⟩ ?_
  simp
  refine alt (fun c1 => ?_) (fun c1 => ?_)
  · rw [check_large c1] at h
    exact h
  have c1 : largeB ⟨[], consts, texts⟩ = false := by simpa using c1
  have hd := large_lt c1
  refine tables_ok ⟨[], consts, texts⟩ hp (by have := hd.2.2.1; omega) ?_
  simp
  rw [check_form c1 (.inr rfl)] at h
  first | exact h | (intro _; exact h) | trace_state
set_option maxRecDepth 100000 in
set_option maxHeartbeats 1000000 in
theorem check_cons (f0 : GFn) (fs : List GFn) (consts : List GVal) (texts : List ByteArray) (hp : okP ⟨f0 :: fs, consts, texts⟩) {K : D → List Blk → Prop} (h : K (dI (checkQ wordsT ⟨f0 :: fs, consts, texts⟩)) []) : DPure Tryd.prog 25 [aD (eProg ⟨f0 :: fs, consts, texts⟩)] K := by
  refine fn_ok [0,1,2,4,37,41] [] Tryd.func25 rfl (by kernel_rfl) rfl rfl rfl rfl (by kernel_rfl) ?_
  simp
  refine large_ok ⟨f0 :: fs, consts, texts⟩ ?_
  simp
  refine alt (fun c1 => ?_) (fun c1 => ?_)
  · rw [check_large c1] at h
    exact h
  have c1 : largeB ⟨f0 :: fs, consts, texts⟩ = false := by simpa using c1
  have hd := large_lt c1
  refine tables_ok ⟨f0 :: fs, consts, texts⟩ hp (by have := hd.2.2.1; omega) ?_
  simp
  refine alt (fun c2 => ?_) (fun c2 => ?_)
  · have form : firstB ⟨f0 :: fs, consts, texts⟩ = false → K (dI 3) [] := fun e => by rw [check_form c1 (.inr e)] at h; exact h
    intro _
    rw [if_neg (by omega)]
    refine alt (fun c3 => ?_) (fun c3 => form (by simp [firstB, c3]))
    intro _
    refine alt (fun c4 => ?_) (fun c4 => form (by simp [firstB, c4]))
    refine alt (fun c5 => form (by simp [firstB, c5])) (fun c5 => ?_)
    have hfns := check_fns c1 c2 (show firstB ⟨f0 :: fs, consts, texts⟩ = true by simp [firstB, c3, c4, c5])
    refine containsFF_ok true (f0 :: fs) eFn (fun f => aD (eFn f)) (fun f => !functionB ⟨f0 :: fs, consts, texts⟩ f) 55 (fun _ => by simp) rfl [] [.at_ true (eProg ⟨f0 :: fs, consts, texts⟩)] (fun x => ⟨_, _, _, _, _, rfl, rfl⟩) (fun x hx K hK => check1_ok ⟨f0 :: fs, consts, texts⟩ x (by have := (hd.2.2.2 x hx).1; omega) hK) ?_
    rw [hfns] at h
    simp only [eProg] at h ⊢
    generalize hany : ((f0 :: fs).any fun f => !functionB ⟨f0 :: fs, consts, texts⟩ f) = bb at *
    cases bb
    · simpa using h
    · simpa using h
  · rw [check_form c1 (.inl (by simpa using c2))] at h
    exact h
theorem check_ok (p : GProg) (hp : okP p) {K : D → List Blk → Prop} (h : K (dI (checkQ wordsT p)) []) : DPure Tryd.prog 25 [aD (eProg p)] K := by
  obtain ⟨fns, consts, texts⟩ := p
  cases fns with
  | nil => exact check_nil consts texts hp h
  | cons f0 fs => exact check_cons f0 fs consts texts hp h
end Go.Proofs.YtalippdhfkpbmaaDoor
/- A row given up as memory of its own: in a form that is computed. -/
namespace Go.Proofs.YtalippdhfkpbmaaDoor
open Go.RowKit Go
def fzH (H : Hp) (m : Nat) (x : Blk) : Hp := fun i => if i = m then none else (H i).map fun y => ⟨y.t, y.k, y.es.map fun e => e.map (C.fz m x)⟩
theorem Wk.fz {n nx : Nat} {tm : List (Nat × D)} {H : Hp} {m : Nat} {x : Blk} (hx : H m = some x) (hall : ∀ e ∈ x.es, ∀ c ∈ e, c.isD = true) : Wk ⟨n, tm, H, nx⟩ ⟨n, fzT m x tm, fzH H m x, nx⟩ := by
  have := Wk.fzR ⟨n, tm, H, nx⟩ m
  simp only [St.fzR, hx] at this
  rw [if_pos (by simpa [List.all_eq_true] using hall)] at this
  exact this
theorem fz_id {m : Nat} {x y : Blk} (h : ∀ e ∈ y.es, ∀ c ∈ e, c.isD = true) : (⟨y.t, y.k, y.es.map fun e => e.map (C.fz m x)⟩ : Blk) = y := by
  obtain ⟨t, k, es⟩ := y
  congr 1
  refine (List.map_congr_left fun e he => ?_).trans (List.map_id _)
  refine (List.map_congr_left fun c hc => ?_).trans (List.map_id _)
  have := h e he c hc
  cases c <;> first | rfl | cases this
theorem fzH_id {H : Hp} {m : Nat} {x y : Blk} {i : Nat} (hi : i ≠ m) (hy : H i = some y) (h : ∀ e ∈ y.es, ∀ c ∈ e, c.isD = true) : fzH H m x i = some y := by
  unfold fzH
  rw [if_neg hi, hy, Option.map_some, fz_id h]
/-- a heap that shows less -/
theorem Wk.lessH {n nx : Nat} {tm : List (Nat × D)} {H H' : Hp} (hl : ∀ i y, H' i = some y → ∃ x, H i = some x ∧ x.less y) : Wk ⟨n, tm, H, nx⟩ ⟨n, tm, H', nx⟩ := fun β F ι a w h => ⟨F, ι, h.good, h.defers, h.size, h.tm, h.heap.less hl⟩
theorem Blk.less.refl {x : Blk} (h : ∀ e ∈ x.es, e.length = x.k) : x.less x := ⟨rfl, rfl, rfl, h, fun _ _ c hc => ⟨c, hc, .inl rfl⟩⟩
/-- one block shows less -/
theorem Wk.less1 {n nx : Nat} {tm : List (Nat × D)} {H : Hp} {m : Nat} {x y : Blk} (hx : H m = some x) (hxy : x.less y) : Wk ⟨n, tm, H, nx⟩ ⟨n, tm, H.set m (some y), nx⟩ := fun β F ι a w h => by
  have hh : HpOk β F w ι H nx := h.heap
  have hn : ∀ i, (H.set m (some y)) i ≠ none → H i ≠ none := fun i hi => by
    by_cases e : i = m
    · subst e; rw [hx]; simp
    · rwa [Hp.set_ne _ _ e] at hi
  refine ⟨F, ι, h.good, h.defers, h.size, h.tm, ⟨hh.size, hh.keep, hh.Flt, hh.Fof, hh.F0, fun i z hz => ?_, fun i b cap hi => hh.own i b cap (hn i hi), fun i j b c c' hi hj => hh.inj i j b c c' (hn i hi) (hn j hj), hh.nx, hh.nm, hh.io⟩⟩
  replace hz : (H.set m (some y)) i = some z := hz
  by_cases e : i = m
  · subst e
    simp only [Hp.set_same, Option.some.injEq] at hz
    subst hz
    obtain ⟨b, cap, p1, p2, p3, p4⟩ := hh.blk i x hx
    refine ⟨b, cap, p1, by rw [← hxy.len]; exact p2, hxy.row, fun hc => ?_⟩
    obtain ⟨arr, r1, r2, r3, r4⟩ := p4 hc
    refine ⟨arr, by rw [← hxy.t]; exact r1, by rw [← hxy.k]; exact r2, r3, fun i j c' hc' => ?_⟩
    obtain ⟨c, g1, g2⟩ := hxy.c i j c' hc'
    obtain ⟨v, g3, g4⟩ := r4 i j c g1
    exact ⟨v, by rw [← hxy.k]; exact g3, g4.less g2⟩
  · rw [Hp.set_ne _ _ e] at hz
    exact hh.blk i z hz
end Go.Proofs.YtalippdhfkpbmaaDoor
/- Package code: Tries. -/
namespace Go.Proofs.YtalippdhfkpbmaaDoor
open Go.RowKit Go
theorem check_zero {p : GProg} (h : checkQ wordsT p = 0) : largeB p = false ∧ tablesB wordsT p = true ∧ firstB p = true ∧ ∀ f ∈ p.fns, functionB p f = true := by
  unfold checkQ at h
  split at h
  · cases h
  rename_i h1
  split at h
  · cases h
  rename_i h2
  split at h
  · cases h
  rename_i h3
  refine ⟨by simpa using h1, by simp at h2; exact h2.1, by simp at h2; exact h2.2, fun f hf => ?_⟩
  simp at h3
  exact h3 f hf
theorem tryRow_isD {L : List (List GTry)} : ∀ x ∈ L.map (fun l => [C.d (Dt.sl true (l.map eTry))]), ∀ c ∈ x, c.isD = true := fun x hx c hc => by
  obtain ⟨b, -, rfl⟩ := List.mem_map.1 hx
  obtain rfl := List.mem_singleton.1 hc
  rfl
theorem fn_in {p : GProg} (h : checkQ wordsT p = 0) {f : GFn} (hf : f ∈ p.fns) : functionB p f = true ∧ ordersB p f = true ∧ goesAll f ∧ f.code.length ≤ 600 ∧ (triesQ f).bad = false := by
  obtain ⟨h1, -, -, h4⟩ := check_zero h
  have h5 := h4 f hf
  have h6 := h5
  simp only [functionB, Bool.and_eq_true, Bool.not_eq_true'] at h6
  exact ⟨h5, h6.1.2, goesAll_of h6.1.2, ((large_lt h1).2.2.2 f hf).1, h6.2⟩
theorem comeQ_short {f : GFn} {q : Wlk} {m : Int} {l : List GTry} (h : ∀ x ∈ q.out, x.length ≤ 20) : ∀ x ∈ (comeQ f q m l).out, x.length ≤ 20 := by
  unfold comeQ
  by_cases h1 : (f.code.length : Int) ≤ m ∨ 20 < l.length
  · rw [if_pos h1]; exact h
  rw [if_neg h1]
  split
  · intro x hx
    rcases List.mem_or_eq_of_mem_set hx with hx | rfl
    · exact h x hx
    · omega
  split <;> exact h
theorem comesQ_short {f : GFn} : ∀ (xs : List (Int × List GTry)) {q : Wlk}, (∀ x ∈ q.out, x.length ≤ 20) → ∀ x ∈ (comesQ f q xs).out, x.length ≤ 20
  | [], _, h => h
  | z :: xs, q, h => comesQ_short xs (q := comeQ f q z.1 z.2) (comeQ_short h)
theorem runQ_short {f : GFn} : ∀ (n : Nat) {q : Wlk}, (∀ x ∈ q.out, x.length ≤ 20) → ∀ x ∈ (runQ f n q).out, x.length ≤ 20
  | 0, _, h => h
  | n + 1, q, h => by
    unfold runQ
    split
    · exact h
    · refine runQ_short n ?_
      unfold stepQ
      rw [fromQ_eq]
      split
      · exact h
      · exact comesQ_short _ (q := { q with todo := q.todo.dropLast }) h
theorem triesQ_short (f : GFn) : ∀ x ∈ (triesQ f).out, x.length ≤ 20 := runQ_short _ (comeQ_short fun x hx => by
  simp only [initQ] at hx
  rw [List.eq_of_mem_replicate hx]; simp)
theorem fz_clone (L : List (List GTry)) (i : Nat) (hi : i < L.length) (m : Nat) (t : BT) : (((L.map fun l => [C.d (Dt.sl true (l.map eTry))]).set i [C.own m 2 L[i].length]).map fun e => e.map (C.fz m ⟨t, 2, L[i].map ((fun e => e.map C.d) ∘ eTry)⟩)) = L.map fun l => [C.d (Dt.sl true (l.map eTry))] := by
  rw [List.map_set]
  have e1 : (L.map fun l => [C.d (Dt.sl true (l.map eTry))]).map (fun e => e.map (C.fz m ⟨t, 2, L[i].map ((fun e => e.map C.d) ∘ eTry)⟩)) = L.map fun l => [C.d (Dt.sl true (l.map eTry))] := by
    rw [List.map_map]; rfl
  have e2 : [C.own m 2 L[i].length].map (C.fz m ⟨t, 2, L[i].map ((fun e => e.map C.d) ∘ eTry)⟩) = [C.d (Dt.sl true (L[i].map eTry))] := by
    simp [C.fz, Function.comp_def]
  rw [e1, e2]
  have := @List.set_getElem_self _ (L.map fun l => [C.d (Dt.sl true (l.map eTry))]) i (by simpa using hi)
  simpa using this
set_option maxRecDepth 100000 in
set_option maxHeartbeats 1000000 in
theorem triesC_ok (p : GProg) (fn : Int) (hp : okP p) {K : D → List Blk → Prop} (h0 : checkQ wordsT p ≠ 0 → K (.tup [.one (.d .emp), .one (.d .emp), dI (checkQ wordsT p)]) []) (h1 : checkQ wordsT p = 0 → (fn < 0 ∨ (p.fns.length : Int) ≤ fn) → K (.tup [.one (.d .emp), .one (.d .emp), dI 1]) [])
    (h2 : checkQ wordsT p = 0 → ∀ (f : GFn) (k : Nat), fn = k → p.fns[k]? = some f → K (.tup [.one (.own 0 1 f.code.length), .one (.own 1 1 f.code.length), dI 0]) [⟨.c 49, 1, (triesQ f).out.map fun l => [.d (.sl true (l.map eTry))]⟩, ⟨.c 4, 1, (triesQ f).seen.map fun b => [.d (eB b)]⟩]) : DPure Tryd.prog 19 [aD (eProg p), dI fn] K := by
  refine fn_ok [0,1,2,4,5,6,7,8,9,11,15,25,37,38,39] [] Tryd.func19 rfl (by kernel_rfl) rfl rfl rfl rfl (by kernel_rfl) ?_
  simp
  refine ⟨_, rfl, Wk.refl _, ?_⟩
  simp [vcC0]
  refine check_ok p hp ?_
  simp
  refine alt (fun c1 => ?_) (fun c1 => h0 c1)
  refine alt (fun c2 => ?_) (fun c2 => h1 c1 (.inl (by omega)))
  intro _
  refine alt (fun c3 => h1 c1 (.inr (by omega))) (fun c3 => ?_)
  obtain ⟨k, rfl⟩ : ∃ k : Nat, fn = k := ⟨fn.toNat, by omega⟩
  have hk : k < p.fns.length := by omega
  obtain ⟨f1, f2, f3, f4, f5⟩ := fn_in c1 (List.getElem_mem hk)
  have h2 := h2 c1 p.fns[k] k rfl (List.getElem?_eq_getElem hk)
  generalize hF : p.fns[k] = f at *
  simp [List.getElem?_eq_getElem hk, hF]
  refine tries_ok f f3 (by omega) ?_
  simp
  intro _
  have hlo : (triesQ f).out.length = f.code.length := (triesQ_ok f3).1.lo
  refine loopH_ok (ks := [0,1,2,4,5,6,7,8,9,11,15,25,37,38,39]) (pl := []) (n0 := 52) (α := {x : Nat × Nat // x.1 ≤ f.code.length}) (fun x => [(38, dI x.1.1)]) (fun H _ => H) (fun x => x.1.2 + 3) (fun x => f.code.length - x.1.1) ⟨(0, 0), by simp⟩ rfl (by kernel_rfl) (Wk.sub (by simp)) ?_
  rintro ⟨⟨i, j⟩, hi⟩
  simp only at hi
  by_cases h3 : i < f.code.length
  · have h3' : i < (triesQ f).out.length := by omega
    simp [h3, List.getElem?_eq_getElem h3']
    refine cloneT_ok true ((triesQ f).out[i].map eTry) (by simp) (by simp) ?_ ?_
    · have hl := triesQ_short f _ (List.getElem_mem h3')
      simp
      omega
    simp [h3, h3', List.getElem?_eq_getElem h3']
    refine ⟨i + 1, by omega, by omega, j + 1, (Wk.fz (m := j + 3) (x := ⟨.c 51, 2, (triesQ f).out[i].map ((fun e => e.map C.d) ∘ eTry)⟩) (by simp) (fun e he c hc => ?_)).trans ((Wk.sub (by simp [fzT, D.fz, C.fz, wrap_add (show i < 9223372036854775807 by omega)])).trans (Wk.heap fun a y hy => ?_))⟩
    · obtain ⟨t, -, rfl⟩ := List.mem_map.1 he
      simp at hc
      rcases hc with rfl | rfl <;> rfl
    · by_cases e2 : a = 2
      · subst e2; simp at hy; subst hy
        exact fzH_id (by omega) (by simp) boolRow_isD
      by_cases e1 : a = 1
      · subst e1; simp at hy; subst hy
        unfold fzH
        rw [if_neg (by omega), Hp.set_same, Option.map_some]
        congr 2
        exact fz_clone _ i h3' _ _
      by_cases e0 : a = 0
      · subst e0; simp at hy; subst hy
        exact fzH_id (by omega) (by simp) (by simp)
      · simp [e0, e1, e2] at hy
  · simp [h3]
    rw [if_pos boolRow_isD]
    exact h2
end Go.Proofs.YtalippdhfkpbmaaDoor
/- The document's answer: what is known of a function's orders, plainly. -/
namespace Go.Proofs.YtalippdhfkpbmaaDoor
open Go.RowKit Go
structure Kn where
  is : Bool
  tries : List GTry
def dKn : Kn := ⟨false, []⟩
def kRow (x : Kn) : List Dt := [eB x.is, .sl true (x.tries.map eTry)]
attribute [simp] kRow
def cntK (l : List Kn) : Nat := l.countP (fun x => !x.is)
/-- all is known that place k leads to -/
def ClosedAt (f : GFn) (all : List Kn) (k : Nat) : Prop := ∀ (hk : k < f.code.length), (all.getD k dKn).is = true → ¬ stuck f.code[k] (all.getD k dKn).tries ∧
  ∀ m l, (m, l) ∈ succs f.code[k] k (all.getD k dKn).tries → 0 ≤ m ∧ m < f.code.length ∧ l.length ≤ 20 ∧ (all.getD m.toNat dKn).is = true ∧ (all.getD m.toNat dKn).tries = l
structure KInv (f : GFn) (all : List Kn) : Prop where
  len : all.length = f.code.length
  sound : ∀ k < f.code.length, (all.getD k dKn).is = true → Rch f k (all.getD k dKn).tries ∧ (all.getD k dKn).tries.length ≤ 20
  no : ∀ k < f.code.length, (all.getD k dKn).is = false → (all.getD k dKn).tries = []
  zero : all.getD 0 dKn = ⟨true, []⟩
/-- one place is told: what it may not be -/
def badK (n : Nat) (all : List Kn) (m : Int) (l : List GTry) : Prop := (n : Int) ≤ m ∨ 20 < l.length ∨ ((all.getD m.toNat dKn).is = true ∧ ¬ (all.getD m.toNat dKn).tries = l)
theorem KInv.bad {f : GFn} {all : List Kn} (h : KInv f all) {m : Int} {l : List GTry} (hr : Rch f m l) (hm : 0 ≤ m) (hb : badK f.code.length all m l) : ¬ Fine f := fun hf => by
  obtain ⟨h1, h2, h3, -⟩ := hf m l hr
  rcases hb with hb | hb | ⟨hb, hb2⟩
  · omega
  · omega
  · have hk : m.toNat < f.code.length := by omega
    obtain ⟨hs, -⟩ := h.sound _ hk hb
    rw [show ((m.toNat : Nat) : Int) = m by omega] at hs
    exact hb2 (h3 _ hs)
theorem KInv.set {f : GFn} {all : List Kn} (h : KInv f all) {m : Int} {l : List GTry} (hr : Rch f m l) (hm : 0 ≤ m) (hb : ¬ badK f.code.length all m l) : KInv f (all.set m.toNat ⟨true, l⟩) := by
  unfold badK at hb
  have hk : m.toNat < all.length := by rw [h.len]; omega
  refine ⟨by rw [List.length_set]; exact h.len, fun k hkl hk2 => ?_, fun k hkl hk2 => ?_, ?_⟩
  · rw [getD_set] at hk2 ⊢
    by_cases e : m.toNat = k
    · subst e
      rw [if_pos ⟨rfl, hk⟩]
      refine ⟨?_, by show l.length ≤ 20; omega⟩
      show Rch f _ l
      rw [show ((m.toNat : Nat) : Int) = m by omega]; exact hr
    · rw [if_neg (fun h => e h.1)] at hk2 ⊢
      exact h.sound k hkl hk2
  · rw [getD_set] at hk2 ⊢
    by_cases e : m.toNat = k
    · subst e
      rw [if_pos ⟨rfl, hk⟩] at hk2
      cases hk2
    · rw [if_neg (fun h => e h.1)] at hk2 ⊢
      exact h.no k hkl hk2
  · rw [getD_set]
    split
    · rename_i e
      have hz := h.zero
      by_cases e2 : l = []
      · rw [e2]
      · refine absurd (.inr (.inr ?_)) hb
        rw [e.1, hz]
        exact ⟨rfl, fun e3 => e2 e3.symm⟩
    · exact h.zero
/-- what is told anew changes nothing -/
theorem set_same {f : GFn} {all : List Kn} (h : KInv f all) {m : Int} {l : List GTry} (hm : 0 ≤ m) (hb : ¬ badK f.code.length all m l) (hs : (all.getD m.toNat dKn).is = true) : all.set m.toNat ⟨true, l⟩ = all := by
  unfold badK at hb
  have hk : m.toNat < all.length := by rw [h.len]; omega
  have hl : (all.getD m.toNat dKn).tries = l := by
    by_cases e : (all.getD m.toNat dKn).tries = l
    · exact e
    · exact absurd (.inr (.inr ⟨hs, e⟩)) hb
  have he : all.getD m.toNat dKn = all[m.toNat] := by rw [List.getD_eq_getElem?_getD, List.getElem?_eq_getElem hk]; rfl
  rw [he] at hs hl
  have : (⟨true, l⟩ : Kn) = all[m.toNat] := by
    cases hx : all[m.toNat] with
    | mk a b => rw [hx] at hs hl; simp only at hs hl; rw [hs, hl]
  rw [this]
  exact List.set_getElem_self hk
theorem cnt_set {all : List Kn} {m : Nat} {l : List GTry} (hk : m < all.length) : cntK (all.set m ⟨true, l⟩) + (if (all.getD m dKn).is = true then 0 else 1) = cntK all := by
  have he : all.getD m dKn = all[m] := by rw [List.getD_eq_getElem?_getD, List.getElem?_eq_getElem hk]; rfl
  rw [he]
  unfold cntK
  rw [List.countP_set hk]
  by_cases hs : all[m].is = true
  · simp [hs]
  · have : 0 < all.countP (fun x => !x.is) := List.countP_pos_iff.2 ⟨_, List.getElem_mem hk, by simpa using hs⟩
    simp [hs]; omega
/-- what is known in the end -/
structure KnOk (f : GFn) (all : List Kn) : Prop extends KInv f all where
  closed : ∀ k, ClosedAt f all k
theorem KnOk.reach {f : GFn} {all : List Kn} (h : KnOk f all) (hn : 0 < f.code.length) {m : Int} {l : List GTry} (hr : Rch f m l) : 0 ≤ m ∧ m < f.code.length ∧ l.length ≤ 20 ∧ (all.getD m.toNat dKn).is = true ∧ (all.getD m.toNat dKn).tries = l := by
  induction hr with
  | start => exact ⟨by omega, by omega, by simp, by rw [show (0 : Int).toNat = 0 from rfl, h.zero], by rw [show (0 : Int).toNat = 0 from rfl, h.zero]⟩
  | @step k l m l' hr hk hs ih =>
    rw [Int.toNat_natCast] at ih
    obtain ⟨-, -, -, i1, i2⟩ := ih
    have hc := h.closed k hk i1
    rw [i2] at hc
    exact hc.2 _ _ hs
theorem KnOk.fine {f : GFn} {all : List Kn} (h : KnOk f all) (hn : 0 < f.code.length) : Fine f := fun m l hr => by
  obtain ⟨h1, h2, h3, h4, h5⟩ := h.reach hn hr
  refine ⟨h2, h3, fun l' hr' => ?_, fun k hk e hst => ?_⟩
  · rw [← h5, (h.reach hn hr').2.2.2.2]
  · subst e
    rw [Int.toNat_natCast] at h4 h5
    have hc := (h.closed k hk h4).1
    rw [h5] at hc
    exact hc hst
/-- what no way leads to has no tries -/
def NoOut (q : Wlk) : Prop := q.seen.length = q.out.length ∧ ∀ k, q.seen.getD k false = false → q.out.getD k [] = []
theorem NoOut.come {f : GFn} {q : Wlk} (h : NoOut q) (m : Int) (l : List GTry) : NoOut (comeQ f q m l) := by
  unfold comeQ
  by_cases h1 : (f.code.length : Int) ≤ m ∨ 20 < l.length
  · rw [if_pos h1]; exact h
  rw [if_neg h1]
  split
  · refine ⟨by simp [h.1], fun k hk => ?_⟩
    simp only [getD_set] at hk ⊢
    by_cases e : m.toNat = k ∧ m.toNat < q.seen.length
    · rw [if_pos e] at hk; cases hk
    · rw [if_neg e] at hk
      rw [if_neg (by rw [← h.1]; exact e)]
      exact h.2 k hk
  · split <;> exact h
theorem NoOut.comes {f : GFn} : ∀ (xs : List (Int × List GTry)) {q : Wlk}, NoOut q → NoOut (comesQ f q xs)
  | [], _, h => h
  | x :: xs, _, h => NoOut.comes xs (h.come x.1 x.2)
theorem NoOut.run {f : GFn} : ∀ (n : Nat) {q : Wlk}, NoOut q → NoOut (runQ f n q)
  | 0, _, h => h
  | n + 1, q, h => by
    unfold runQ
    split
    · exact h
    · refine NoOut.run n ?_
      unfold stepQ
      rw [fromQ_eq]
      split
      · exact h
      · exact NoOut.comes _ (q := { q with todo := q.todo.dropLast }) h
theorem tries_no (f : GFn) : NoOut (triesQ f) := NoOut.run _ (NoOut.come ⟨by simp [initQ], fun k hk => by
  simp only [initQ, List.getD_eq_getElem?_getD, List.getElem?_replicate]
  split <;> rfl⟩ _ _)
/-- what is known is what the walk told -/
theorem KnOk.eq {f : GFn} {all : List Kn} (h : KnOk f all) (hg : goesAll f) (hn : 0 < f.code.length) {k : Nat} (hk : k < f.code.length) : (all.getD k dKn).is = (triesQ f).seen.getD k false ∧ (all.getD k dKn).tries = (triesQ f).out.getD k [] := by
  have hb : (triesQ f).bad = false := by
    cases hb : (triesQ f).bad with
    | false => rfl
    | true => exact absurd (h.fine hn) ((tries_bad hg).1 hb)
  cases hs : (triesQ f).seen.getD k false with
  | true =>
    have hr := (tries_seen hg hb k _).2 ⟨hs, rfl⟩
    have := h.reach hn hr
    rw [Int.toNat_natCast] at this
    exact ⟨this.2.2.2.1, this.2.2.2.2⟩
  | false =>
    have hi : (all.getD k dKn).is = false := by
      cases hi : (all.getD k dKn).is with
      | false => rfl
      | true =>
        have := (tries_seen hg hb k _).1 (h.sound k hk hi).1
        rw [hs] at this
        cases this.1
    refine ⟨hi, ?_⟩
    rw [h.no k hk hi, (tries_no f).2 k hs]
end Go.Proofs.YtalippdhfkpbmaaDoor
/- The document's answer: what an order names, and whether it is right. -/
namespace Go.Proofs.YtalippdhfkpbmaaDoor
open Go.RowKit Go
set_option linter.unusedSimpArgs false
/-- the document's letters -/
def toR (c : UInt8) : UInt8 := if c = 45 then 46 else if c = 97 then 112 else if c = 99 then 114 else c
def formR (op : Int) : UInt8 × UInt8 × UInt8 := (toR (formA op).1, toR (formA op).2.1, toR (formA op).2.2)
set_option maxRecDepth 100000 in
set_option maxHeartbeats 4000000 in
theorem orderForm_ok (op : Int) {K : D → List Blk → Prop} (h0 : ¬ isOp op → K (dS ⟨#[]⟩) []) (h : isOp op → K (dS (formS (formR op))) []) : DPure Tryd.prog 75 [dI op] K := by
  refine fn_ok [0,2,3,4,6,15,26,29,32,41,43,45,47,49,51,53] [] Tryd.func75 rfl (by kernel_rfl) rfl rfl rfl rfl (by kernel_rfl) ?_
  by_cases c : isOp op
  · have c1 : op = 1 ∨ op = 2 ∨ op = 3 ∨ op = 4 ∨ op = 5 ∨ op = 6 ∨ op = 7 ∨ op = 8 ∨ op = 9 ∨ op = 10 ∨ op = 11 ∨ op = 12 ∨ op = 13 ∨ op = 14 ∨ op = 15 ∨ op = 16 ∨ op = 17 ∨ op = 18 ∨ op = 19 ∨ op = 20 ∨ op = 21 ∨ op = 22 ∨ op = 23 ∨ op = 24 ∨ op = 25 ∨ op = 26 ∨ op = 27 ∨ op = 28 ∨ op = 29 ∨ op = 30 ∨ op = 31 ∨ op = 32 ∨ op = 33 ∨ op = 34 ∨ op = 35 ∨ op = 36 ∨ op = 37 ∨ op = 38 := by have := c.1; have := c.2; omega
    replace h := h c
    clear h0 c
    rcases c1 with rfl | rfl | rfl | rfl | rfl | rfl | rfl | rfl | rfl | rfl | rfl | rfl | rfl | rfl | rfl | rfl | rfl | rfl | rfl | rfl | rfl | rfl | rfl | rfl | rfl | rfl | rfl | rfl | rfl | rfl | rfl | rfl | rfl | rfl | rfl | rfl | rfl | rfl
    all_goals
      simp
      exact h
  · replace h := h0 c
    have c' : op < 1 ∨ 39 ≤ op := by unfold isOp at c; omega
    simp [show op ≠ 1 by omega, show op ≠ 2 by omega, show op ≠ 3 by omega, show op ≠ 4 by omega, show op ≠ 5 by omega, show op ≠ 6 by omega, show op ≠ 7 by omega, show op ≠ 8 by omega, show op ≠ 9 by omega, show op ≠ 10 by omega, show op ≠ 11 by omega, show op ≠ 12 by omega, show op ≠ 13 by omega, show op ≠ 14 by omega, show op ≠ 15 by omega, show op ≠ 16 by omega, show op ≠ 17 by omega, show op ≠ 18 by omega, show op ≠ 19 by omega, show op ≠ 20 by omega, show op ≠ 21 by omega, show op ≠ 22 by omega, show op ≠ 23 by omega, show op ≠ 24 by omega, show op ≠ 25 by omega, show op ≠ 26 by omega, show op ≠ 27 by omega, show op ≠ 28 by omega, show op ≠ 29 by omega, show op ≠ 30 by omega, show op ≠ 31 by omega, show op ≠ 32 by omega, show op ≠ 33 by omega, show op ≠ 34 by omega, show op ≠ 35 by omega, show op ≠ 36 by omega, show op ≠ 37 by omega, show op ≠ 38 by omega]
    exact h
/-- how many there are of what letter c names -/
def mostR (p : GProg) (f : GFn) (c : Int) : Int :=
  if c = 114 then f.regs else if c = 107 then lenI p.consts else if c = 116 then lenI p.texts else if c = 112 then lenI f.code else if c = 117 then lenI f.caught else if c = 102 then lenI p.fns else if c = 108 ∨ c = 110 then wr (f.regs + 1) else 1
set_option maxRecDepth 100000 in
set_option maxHeartbeats 1000000 in
theorem orderMost_ok (p : GProg) (f : GFn) (c : Int) {K : D → List Blk → Prop} (h : K (dI (mostR p f c)) []) : DPure Tryd.prog 76 [aD (eProg p), aD (eFn f), dU c] K := by
  refine fn_ok [0,1,2,3,4,6,7,8,12,17,22,27,32,37] [] Tryd.func76 rfl (by kernel_rfl) rfl rfl rfl rfl (by kernel_rfl) ?_
  simp
  repeat' (first | (refine alt (fun _ => ?_) (fun _ => ?_)) | intro _)
  all_goals simp_all [mostR]
set_option maxRecDepth 100000 in
set_option maxHeartbeats 1000000 in
theorem sameTries_ok (S T : Bool) (L M : List GTry) {K : D → List Blk → Prop} (h : K (dB (decide (L = M))) []) : DPure Tryd.prog 58 [dL S (L.map eTry), dL T (M.map eTry)] K := by
  refine fn_ok [0,1,4,5,10,12,13,14,24] [(6, [0,0,3,7,0,0,48,112,255], (.seg 0 (.seg 1 (.seg 2 (.seg 3 (.seg 4 (.seg 5 (.seg 6 (.seg 7 (.seg 8 .last))))))))))] Tryd.func58 rfl (by kernel_rfl) rfl rfl rfl rfl (by kernel_rfl) ?_
  simp
  intro hl hm
  refine alt (fun he => ?_) (fun hne => kB h (by simp; rintro rfl; exact hne rfl))
  have he : L.length = M.length := by omega
  intro _
  refine loop_ok (ks := [0,1,4,5,10,12,13,14,24]) (pl := [(6, [0,0,3,7,0,0,48,112,255], (.seg 0 (.seg 1 (.seg 2 (.seg 3 (.seg 4 (.seg 5 (.seg 6 (.seg 7 (.seg 8 .last))))))))))]) (n0 := 26) (fun x : {k : Nat // k ≤ L.length ∧ L.take k = M.take k} => [(13, dI x.1)]) (fun x => L.length - x.1) ⟨0, by simp⟩ rfl (by kernel_rfl) (Wk.sub (by simp)) ?_
  rintro ⟨k, hk, ht⟩
  by_cases h1 : k < L.length
  · have h2 : k < M.length := by omega
    simp [h1, h2]
    refine alt (fun hne => kB h (by simp; rintro rfl; simp at hne)) (fun hc => ?_)
    simp at hc; obtain ⟨e1, e2⟩ := hc
    exact ⟨k + 1, by omega, ⟨by omega, take_eq_succ ht h1 h2 (by cases hx : L[k]; cases hy : M[k]; simp_all)⟩, Wk.sub (by simp [wrap_add (show k < 9223372036854775807 by omega)])⟩
  · simp [h1]
    obtain rfl : k = L.length := by omega
    rw [List.take_length, he, List.take_length] at ht
    exact kB h (by simpa using ht)
end Go.Proofs.YtalippdhfkpbmaaDoor
/- The document's answer: is an order right? -/
namespace Go.Proofs.YtalippdhfkpbmaaDoor
open Go.RowKit Go
set_option linter.unusedSimpArgs false
def letB (p : GProg) (f : GFn) (c : UInt8) (n : Int) : Bool := btw n 0 (wr (mostR p f c.toNat - 1)) && !(decide (c.toNat = 102) && decide (n = 0))
theorem letB_eq {p : GProg} {f : GFn} (hr : 1 ≤ f.regs) (hr2 : f.regs ≤ 60) (hl : p.fns.length ≤ 60) {c : UInt8} (n : Int) (hc : c ∈ [(114 : UInt8), 107, 116, 97, 117, 102, 108, 110, 45]) : letB p f (toR c) n = nameB p f c.toNat n := by
  have e1 : wr (f.regs + 1) = f.regs + 1 := wr_in (by omega) (by omega)
  have e2 : wr f.regs = f.regs := wr_in (by omega) (by omega)
  have e3 : wr (lenI p.fns - 1) = lenI p.fns - 1 := wr_in (by simp only [lenI]; omega) (by simp only [lenI]; omega)
  have e4 : wr 0 = 0 := by kernel_rfl
  simp only [List.mem_cons, List.not_mem_nil, or_false] at hc
  rcases hc with rfl | rfl | rfl | rfl | rfl | rfl | rfl | rfl | rfl
  all_goals simp [letB, toR, nameB, mostR, e1, e2, e3, e4, btw]
  · rw [Bool.eq_iff_iff]; simp; omega
  · rw [Bool.eq_iff_iff]; simp; omega
theorem formT_let : ∀ t ∈ formT.drop 1, t.1 ∈ [(114 : UInt8), 107, 116, 97, 117, 102, 108, 110, 45] ∧ (t = (114, 99, 110) ∨ t.2.1 ∈ [(114 : UInt8), 107, 116, 97, 117, 102, 108, 110, 45]) ∧ t.2.2 ∈ [(114 : UInt8), 107, 116, 97, 117, 102, 108, 110, 45] := by decide
theorem formT_27 : ∀ k < 38, formT.getD (k + 1) (0, 0, 0) = (114, 99, 110) → k + 1 = 27 := by decide
theorem formA_in {op : Int} (h : isOp op) : formA op ∈ formT.drop 1 := by
  obtain ⟨k, rfl⟩ : ∃ k : Nat, op = ((k + 1 : Nat) : Int) := ⟨op.toNat - 1, by have := h.1; omega⟩
  have hk : k < 38 := by have := h.2; omega
  have hl : (formT.drop 1).length = 38 := rfl
  unfold formA
  rw [Int.toNat_natCast]
  have : formT.getD (k + 1) (0, 0, 0) = (formT.drop 1)[k]'(by omega) := by
    rw [List.getD_eq_getElem?_getD, List.getElem_drop, List.getElem?_eq_getElem (by have : formT.length = 39 := rfl; omega)]
    simp [Nat.add_comm]
  rw [this]
  exact List.getElem_mem _
theorem formA_27 {op : Int} (h : isOp op) (e : formA op = (114, 99, 110)) : op = 27 := by
  obtain ⟨k, rfl⟩ : ∃ k : Nat, op = ((k + 1 : Nat) : Int) := ⟨op.toNat - 1, by have := h.1; omega⟩
  have hk : k < 38 := by have := h.2; omega
  unfold formA at e
  rw [Int.toNat_natCast] at e
  have := formT_27 k hk e
  omega
/-- the document's test -/
def orderKR (p : GProg) (f : GFn) (at_ : Int) (i : GIns) : Bool :=
  if i.op = 14 then decide (i.a ≤ at_) else if i.op = 19 then decide (wr (i.b + i.c) ≤ f.regs) else if i.op = 27 then decide (wr (i.b + i.c) < f.regs)
  else if i.op = 32 then f.gen else if i.op = 26 then (p.fns.getD i.b.toNat ⟨0, 0, false, [], []⟩).caught.all (fun c => decide (c < f.regs) && decide (wr (0 - lenI f.caught) ≤ c)) else true
def orderRB (p : GProg) (f : GFn) (at_ : Int) (i : GIns) : Bool :=
  decide (isOp i.op) && btw i.line 0 2000 && letB p f (formR i.op).1 i.a && letB p f (formR i.op).2.1 i.b && letB p f (formR i.op).2.2 i.c && orderKR p f at_ i
theorem orderRB_eq {p : GProg} {f : GFn} (hr : 1 ≤ f.regs) (hr2 : f.regs ≤ 60) (hl : p.fns.length ≤ 60) (hc : f.caught.length ≤ 9223372036854775807) (at_ : Int) (i : GIns) : orderRB p f at_ i = orderB p f at_ i := by
  unfold orderRB orderB
  by_cases h0 : isOp i.op
  case neg => simp [h0]
  obtain ⟨l1, l2, l3⟩ := formT_let _ (formA_in h0)
  have k1 : letB p f (formR i.op).1 i.a = nameB p f (formA i.op).1.toNat i.a := letB_eq hr hr2 hl _ l1
  have k3 : letB p f (formR i.op).2.2 i.c = nameB p f (formA i.op).2.2.toNat i.c := letB_eq hr hr2 hl _ l3
  rw [k1, k3]
  have er : wr (f.regs - 1) = f.regs - 1 := wr_in (by omega) (by omega)
  have ek : i.op ≠ 27 → orderKR p f at_ i = orderK p f at_ i := fun h27 => by
    unfold orderKR orderK
    by_cases e1 : i.op = 14
    · rw [if_pos e1, if_pos e1]
    rw [if_neg e1, if_neg e1]
    by_cases e2 : i.op = 19
    · rw [if_pos e2, if_pos e2]
    rw [if_neg e2, if_neg e2, if_neg h27, if_neg h27]
    by_cases e3 : i.op = 26
    · have h32 : i.op ≠ 32 := by omega
      rw [if_neg h32, if_pos e3, if_pos e3]
      unfold caughtB
      rw [Bool.eq_iff_iff]
      simp only [List.all_eq_true, Bool.not_eq_true', List.any_eq_false, Bool.and_eq_true, decide_eq_true_eq, caught1B, er, btw]
      have hn : wr (0 - lenI f.caught) = 0 - lenI f.caught := wr_in (by simp only [lenI]; omega) (by simp only [lenI]; omega)
      rw [hn]
      constructor
      · intro h c hc
        have := h c hc
        simp only [Bool.not_eq_true', Bool.and_eq_false_iff, decide_eq_false_iff_not]
        omega
      · intro h c hc
        have := h c hc
        simp only [Bool.not_eq_true', Bool.and_eq_false_iff, decide_eq_false_iff_not] at this
        have hp : 0 ≤ lenI f.caught := by simp only [lenI]; omega
        omega
    · by_cases e4 : i.op = 32
      · rw [if_pos e4, if_neg e3, if_pos e4]
      · rw [if_neg e4, if_neg e3, if_neg e3, if_neg e4]
  rcases l2 with l2 | l2
  · have h27 := formA_27 h0 l2
    have hR : formR i.op = (114, 114, 110) := by rw [h27]; rfl
    rw [l2, hR]
    have kr : nameB p f ((114, 99, 110) : UInt8 × UInt8 × UInt8).2.1.toNat i.b = btw i.b 0 f.regs := by simp [nameB]
    have kl : letB p f ((114, 114, 110) : UInt8 × UInt8 × UInt8).2.1 i.b = btw i.b 0 (f.regs - 1) := by simp [letB, mostR, er]
    have kc : nameB p f ((114, 99, 110) : UInt8 × UInt8 × UInt8).2.2.toNat i.c = btw i.c 0 f.regs := by simp [nameB]
    rw [kr, kl, kc]
    unfold orderKR orderK
    rw [if_neg (by omega), if_neg (by omega), if_pos h27, if_neg (by omega), if_neg (by omega), if_pos h27, er]
    rw [Bool.eq_iff_iff]
    simp only [Bool.and_eq_true, decide_eq_true_eq, btw]
    constructor
    · rintro ⟨⟨⟨⟨⟨a1, a2⟩, a3⟩, a4⟩, a5⟩, a6⟩
      rw [wr_in (by omega) (by omega)] at a6 ⊢
      exact ⟨⟨⟨⟨⟨a1, a2⟩, a3⟩, by omega⟩, a5⟩, by omega⟩
    · rintro ⟨⟨⟨⟨⟨a1, a2⟩, a3⟩, a4⟩, a5⟩, a6⟩
      rw [wr_in (by omega) (by omega)] at a6 ⊢
      exact ⟨⟨⟨⟨⟨a1, a2⟩, a3⟩, by omega⟩, a5⟩, by omega⟩
  · have k2 : letB p f (formR i.op).2.1 i.b = nameB p f (formA i.op).2.1.toNat i.b := letB_eq hr hr2 hl _ l2
    rw [k2]
    by_cases h27 : i.op = 27
    · have : formA i.op = (114, 99, 110) := by rw [h27]; rfl
      rw [this] at l2
      exact absurd l2 (by decide)
    · rw [ek h27]
end Go.Proofs.YtalippdhfkpbmaaDoor
/- The document's answer: orderRight, walked. -/
namespace Go.Proofs.YtalippdhfkpbmaaDoor
open Go.RowKit Go
set_option linter.unusedSimpArgs false
set_option maxRecDepth 100000 in
set_option maxHeartbeats 4000000 in
theorem orderRight_ok (p : GProg) (f : GFn) (at_ : Int) (i : GIns) (hr : 1 ≤ f.regs) (hr2 : f.regs ≤ 60) (hl : p.fns.length ≤ 60) {K : D → List Blk → Prop} (h : K (dB (orderRB p f at_ i)) []) : DPure Tryd.prog 57 [aD (eProg p), aD (eFn f), dI at_, aD (eIns i)] K := by
  obtain ⟨op, a, b, c, line⟩ := i
  refine fn_ok [0,1,2,3,4,5,7,8,9,10,11,12,14,25,32,33,34,57,60,61,67,77,87,91,99,100,101,102,116] [(7, [0,0,0,0,12,31,63], (.seg 0 (.seg 1 (.seg 2 (.seg 3 (.seg 4 (.eff 5 [] (.seg 6 .last))))))))] Tryd.func57 rfl (by kernel_rfl) rfl rfl rfl rfl (by kernel_rfl) ?_
  simp
  refine orderForm_ok _ (fun e => ?_) (fun e => ?_)
  · simp
    exact kB h (by simp [orderRB, e])
  generalize hF : formR op = t at *
  obtain ⟨x, y, z⟩ := t
  simp [formS]
  refine between_ok _ _ _ ?_
  simp
  refine alt (fun h1 => ?_) (fun h1 => kB h (by simp [orderRB, h1]))
  refine loop_ok (ks := [0,1,2,3,4,5,7,8,9,10,11,12,14,25,32,33,34,57,60,61,67,77,87,91,99,100,101,102,116]) (pl := [(7, [0,0,0,0,12,31,63], (.seg 0 (.seg 1 (.seg 2 (.seg 3 (.seg 4 (.eff 5 [] (.seg 6 .last))))))))]) (n0 := 118) (fun q : {k : Nat // k ≤ 3 ∧ (0 < k → letB p f x a = true) ∧ (1 < k → letB p f y b = true) ∧ (2 < k → letB p f z c = true)} => [(33, dI q.1)]) (fun q => 3 - q.1) ⟨0, by simp⟩ rfl (by kernel_rfl) (Wk.sub (by simp)) ?_
  rintro ⟨k, hk, q1, q2, q3⟩
  have hk' : k = 0 ∨ k = 1 ∨ k = 2 ∨ k = 3 := by omega
  have w1 : IntKind.i64.wrap 1 = 1 := by kernel_rfl
  have w2 : IntKind.i64.wrap 2 = 2 := by kernel_rfl
  have w3 : IntKind.i64.wrap 3 = 3 := by kernel_rfl
  rcases hk' with rfl | rfl | rfl | rfl
  · simp
    refine orderMost_ok p f _ ?_
    simp
    refine between_ok _ _ _ ?_
    simp
    refine alt (fun g1 => ?_) (fun g1 => kB h (by simp [orderRB, hF, letB, g1]))
    refine alt (fun g2 => ?_) (fun g2 => ⟨1, by omega, ⟨by omega, fun _ => by simp [letB, g1, show ¬ x.toNat = 102 by omega], fun e => by omega, fun e => by omega⟩, Wk.sub (by simp [w1])⟩)
    refine alt (fun g3 => kB h (by simp [orderRB, hF, letB, show x.toNat = 102 by omega, g3])) (fun g3 => ⟨1, by omega, ⟨by omega, fun _ => by simp [letB, g1, g3], fun e => by omega, fun e => by omega⟩, Wk.sub (by simp [w1])⟩)
  · simp
    refine orderMost_ok p f _ ?_
    simp
    refine between_ok _ _ _ ?_
    simp
    refine alt (fun g1 => ?_) (fun g1 => kB h (by simp [orderRB, hF, letB, g1]))
    refine alt (fun g2 => ?_) (fun g2 => ⟨2, by omega, ⟨by omega, fun _ => q1 (by omega), fun _ => by simp [letB, g1, show ¬ y.toNat = 102 by omega], fun e => by omega⟩, Wk.sub (by simp [w2])⟩)
    refine alt (fun g3 => kB h (by simp [orderRB, hF, letB, show y.toNat = 102 by omega, g3])) (fun g3 => ⟨2, by omega, ⟨by omega, fun _ => q1 (by omega), fun _ => by simp [letB, g1, g3], fun e => by omega⟩, Wk.sub (by simp [w2])⟩)
  · simp
    refine orderMost_ok p f _ ?_
    simp
    refine between_ok _ _ _ ?_
    simp
    refine alt (fun g1 => ?_) (fun g1 => kB h (by simp [orderRB, hF, letB, g1]))
    refine alt (fun g2 => ?_) (fun g2 => ⟨3, by omega, ⟨by omega, fun _ => q1 (by omega), fun _ => q2 (by omega), fun _ => by simp [letB, g1, show ¬ z.toNat = 102 by omega]⟩, Wk.sub (by simp [w3])⟩)
    refine alt (fun g3 => kB h (by simp [orderRB, hF, letB, show z.toNat = 102 by omega, g3])) (fun g3 => ⟨3, by omega, ⟨by omega, fun _ => q1 (by omega), fun _ => q2 (by omega), fun _ => by simp [letB, g1, g3]⟩, Wk.sub (by simp [w3])⟩)
  simp
  have o1 := q1 (by omega)
  have o2 := q2 (by omega)
  have o3 := q3 (by omega)
  have hR : orderRB p f at_ ⟨op, a, b, c, line⟩ = orderKR p f at_ ⟨op, a, b, c, line⟩ := by simp only [orderRB, hF, h1, o1, o2, o3, e, decide_true, Bool.true_and]
  rw [hR] at h
  refine alt (fun e => kB h (by simp [orderKR, *])) (fun e1 => ?_)
  refine alt (fun e => kB h (by simp [orderKR, *])) (fun e2 => ?_)
  refine alt (fun e => kB h (by simp [orderKR, *])) (fun e3 => ?_)
  refine alt (fun e => kB h (by simp [orderKR, *])) (fun e4 => ?_)
  refine alt (fun e5 => ?_) (fun e5 => kB h (by simp [orderKR, *]))
  have hy : y = 102 := by
    rw [e5] at hF
    have : formR 26 = (114, 102, 46) := by kernel_rfl
    rw [this] at hF
    simp at hF
    exact hF.2.1.symm
  subst hy
  have e3' : wr (lenI p.fns - 1) = lenI p.fns - 1 := wr_in (by simp only [lenI]; omega) (by simp only [lenI]; omega)
  simp [letB, mostR, btw, e3'] at o2
  have hlt : b.toNat < p.fns.length := by have : lenI p.fns = p.fns.length := rfl; omega
  refine ⟨by omega, ?_⟩
  simp [List.getElem?_eq_getElem hlt]
  intro hcl
  generalize hg : p.fns[b.toNat] = g at *
  have hgd : p.fns.getD b.toNat ⟨0, 0, false, [], []⟩ = g := by rw [List.getD_eq_getElem?_getD, List.getElem?_eq_getElem hlt, hg]; rfl
  have hK : orderKR p f at_ ⟨op, a, b, c, line⟩ = g.caught.all (fun c => decide (c < f.regs) && decide (wr (0 - lenI f.caught) ≤ c)) := by
    simp only [orderKR]
    rw [if_neg e1, if_neg e2, if_neg e3, if_neg e4, if_pos e5, hgd]
  refine loop_ok (ks := [0,1,2,3,4,5,7,8,9,10,11,12,14,25,32,33,34,57,60,61,67,77,87,91,99,100,101,102,116]) (pl := [(7, [0,0,0,0,12,31,63], (.seg 0 (.seg 1 (.seg 2 (.seg 3 (.seg 4 (.eff 5 [] (.seg 6 .last))))))))]) (n0 := 118) (fun q : {k : Nat // k ≤ g.caught.length ∧ ∀ j (hj : j < g.caught.length), j < k → g.caught[j] < f.regs ∧ wr (0 - lenI f.caught) ≤ g.caught[j]} => [(101, dI q.1)]) (fun q => g.caught.length - q.1) ⟨0, by simp⟩ rfl (by kernel_rfl) (Wk.sub (by simp)) ?_
  rintro ⟨k, hk, q⟩
  by_cases hk1 : k < g.caught.length
  · simp [hk1]
    have bad : ¬ (g.caught[k] < f.regs ∧ wr (0 - lenI f.caught) ≤ g.caught[k]) → K (dB false) [] := fun hb => kB h (by
      rw [hK, Bool.eq_false_iff]
      intro ha
      have := List.all_eq_true.1 ha _ (List.getElem_mem hk1)
      simp only [Bool.and_eq_true, decide_eq_true_eq] at this
      exact hb this)
    refine alt (fun r1 => ?_) (fun r1 => bad fun hb => by omega)
    intro hl2
    have hnl : wr (0 - lenI f.caught) = IntKind.i64.wrap (-(f.caught.length : Int)) := by rw [Int.zero_sub]
    refine alt (fun r2 => bad fun hb => by rw [hnl] at hb; omega) (fun r2 => ?_)
    refine ⟨k + 1, by omega, ⟨by omega, fun j hj hjk => ?_⟩, Wk.sub (by simp [wrap_add (show k < 9223372036854775807 by omega)])⟩
    by_cases ej : j = k
    · subst ej
      exact ⟨r1, by rw [Int.zero_sub] at hnl; rw [hnl]; omega⟩
    · have := q j hj (by omega)
      rw [Int.zero_sub] at this
      exact this
  · simp [hk1]
    exact kB h (by
      rw [hK, List.all_eq_true]
      intro x hx
      obtain ⟨j, hj, rfl⟩ := List.getElem_of_mem hx
      have := q j hj (by omega)
      simp only [Bool.and_eq_true, decide_eq_true_eq]
      exact this)
theorem RVs.mem {E : Env} {w : World} {ι : Nms} : ∀ {ds : List D} {vs : List Value}, RVs E w ι ds vs → ∀ d ∈ ds, ∃ v, RV E w ι d v
  | _ :: _, v :: _, h, d, hd => by
    rw [RVs] at h
    rcases List.mem_cons.1 hd with rfl | hd
    · exact ⟨v, h.1⟩
    · exact RVs.mem h.2 d hd
  | [], _, _, d, hd => by cases hd
  | _ :: _, [], h, _, _ => by simp [RVs] at h
/-- a slice that is handed on is no longer than memory holds -/
theorem DPure.bnd {P : Program} {f : FuncId} {ds : List D} {K : D → List Blk → Prop} {S : Bool} {es : List (List Dt)} {cs : List C} (hg : goFn P f = true) (h1 : D.agg cs ∈ ds) (h2 : C.d (.sl S es) ∈ cs) (h : es.length ≤ maxLen → DPure P f ds K) : DPure P f ds K :=
  ⟨hg, fun F w vs a b c => by
    obtain ⟨v, hv⟩ := c.mem _ h1
    rw [RV] at hv
    obtain ⟨xs, -, hx⟩ := hv
    obtain ⟨j, hj⟩ := List.getElem?_of_mem h2
    obtain ⟨y, -, hy⟩ := hx.get hj
    have hb : es.length ≤ maxLen := by
      cases hy with
      | sl X q1 q2 => omega
    exact (h hb).2 F w vs a b c⟩
theorem orderRight2_ok (p : GProg) (f : GFn) (at_ : Int) (i : GIns) (hr : 1 ≤ f.regs) (hr2 : f.regs ≤ 60) (hl : p.fns.length ≤ 60) {K : D → List Blk → Prop} (h : K (dB (orderB p f at_ i)) []) : DPure Tryd.prog 57 [aD (eProg p), aD (eFn f), dI at_, aD (eIns i)] K := by
  refine DPure.bnd (S := true) (es := f.caught.map eInt) (cs := (eFn f).map .d) (by kernel_rfl) (by simp) (by simp) fun hb => ?_
  refine orderRight_ok p f at_ i hr hr2 hl ?_
  rw [orderRB_eq hr hr2 hl (by rw [List.length_map] at hb; exact Nat.le_trans hb (by decide))]
  exact h
end Go.Proofs.YtalippdhfkpbmaaDoor
/- The document's answer: what is known of a function's orders: the loop over where an order leads to. -/
namespace Go.Proofs.YtalippdhfkpbmaaDoor
open Go.RowKit Go
set_option linter.unusedSimpArgs false
def knRows (all : List Kn) : List (List C) := all.map fun x => [.d (eB x.is), .d (.sl true (x.tries.map eTry))]
@[simp] theorem knRows_len (all : List Kn) : (knRows all).length = all.length := by simp [knRows]
@[simp] theorem knRows_get (all : List Kn) (k : Nat) : (knRows all)[k]? = (all[k]?).map fun x => [.d (eB x.is), .d (.sl true (x.tries.map eTry))] := by simp [knRows]
theorem knRows_isD {all : List Kn} : ∀ e ∈ knRows all, ∀ c ∈ e, c.isD = true := by simp [knRows]
theorem kn_less (n : Nat) : (⟨.c 63, 2, (List.replicate n [C.d (Dt.lit (Value.bool false)), C.d Dt.emp]).set 0 [C.d (Dt.lit (Value.bool true)), C.d Dt.emp]⟩ : Blk).less ⟨.c 63, 2, knRows ((List.replicate n dKn).set 0 ⟨true, []⟩)⟩ := by
  refine ⟨rfl, rfl, by simp, fun e he => ?_, fun i j c' h => ?_⟩
  · simp only [knRows] at he
    obtain ⟨x, -, rfl⟩ := List.mem_map.1 he
    rfl
  · unfold nth2 at h ⊢
    rw [knRows_get] at h
    by_cases hi : i < n
    · by_cases h0 : i = 0
      · subst h0
        rw [List.getElem?_set_self (by simpa using hi)] at h ⊢
        match j with
        | 0 => exact ⟨_, rfl, .inl (Option.some.inj h)⟩
        | 1 => exact ⟨_, rfl, .inr ⟨rfl, true, (Option.some.inj h).symm⟩⟩
        | _ + 2 => simp at h
      · rw [List.getElem?_set_ne (by omega), List.getElem?_replicate, if_pos hi] at h ⊢
        match j with
        | 0 => exact ⟨_, rfl, .inl (Option.some.inj h)⟩
        | 1 => exact ⟨_, rfl, .inr ⟨rfl, true, (Option.some.inj h).symm⟩⟩
        | _ + 2 => simp [dKn] at h
    · rw [List.getElem?_eq_none (by simp; omega)] at h
      simp at h
theorem kinv_init {f : GFn} (hn : 0 < f.code.length) : KInv f ((List.replicate f.code.length dKn).set 0 ⟨true, []⟩) := by
  have hg : ∀ k, ((List.replicate f.code.length dKn).set 0 ⟨true, []⟩).getD k dKn = if k = 0 then ⟨true, []⟩ else dKn := fun k => by
    rw [getD_set]
    by_cases h : k = 0
    · subst h; rw [if_pos ⟨rfl, by simpa using hn⟩, if_pos rfl]
    · rw [if_neg (by omega), if_neg h, List.getD_eq_getElem?_getD, List.getElem?_replicate]
      split <;> rfl
  refine ⟨by simp, fun k hk h => ?_, fun k hk h => ?_, by rw [hg, if_pos rfl]⟩
  · rw [hg] at h ⊢
    by_cases e : k = 0
    · subst e; rw [if_pos rfl]; exact ⟨.start, by simp⟩
    · rw [if_neg e] at h; cases h
  · rw [hg] at h ⊢
    by_cases e : k = 0
    · rw [if_pos e] at h; cases h
    · rw [if_neg e]; rfl
@[simp] theorem knRows_getE (all : List Kn) (k : Nat) (h : k < (knRows all).length) : (knRows all)[k] = [.d (eB (all[k]'(by simpa using h)).is), .d (.sl true ((all[k]'(by simpa using h)).tries.map eTry))] := by simp [knRows]
@[simp] theorem knRows_set (all : List Kn) (k : Nat) (x : Kn) : knRows (all.set k x) = (knRows all).set k [.d (eB x.is), .d (.sl true (x.tries.map eTry))] := by simp [knRows, List.map_set]
structure KS where
  k : Nat
  all : List Kn
  more : Bool
  nx : Nat
structure KA (f : GFn) (c0 k : Nat) (all : List Kn) (more : Bool) : Prop where
  inv : KInv f all
  le : cntK all ≤ c0
  lt : more = true → cntK all < c0
  cl : more = false → ∀ j < k, ClosedAt f all j
/-- how the walk stands in the loop over where an order leads to -/
def toT (f : GFn) (k : Nat) (xs : List (Int × List GTry)) (x : KS) (e : List (Nat × D)) : List (Nat × D) := [(0, aD (eFn f)), (1, .one (.ptr 0 5 0 0)), (2, .one (.d .emp)), (3, dB false), (4, dI f.code.length), (5, .one (.own 1 2 f.code.length)), (6, dB x.more), (12, dL true (xs.map fun x => [.sl true (x.2.map eTry)])), (21, dB false), (25, dB true),
  (27, dL true (f.code.map eIns)), (28, dI f.code.length), (29, dI k), (108, dL true (xs.map fun x => [eI x.1])), (109, dI xs.length), (110, dI x.k)] ++ e
def toH (f : GFn) (x : KS) : Hp := (Hp.none.set 0 (some ⟨.c 47, 5, [(eFn f).map .d]⟩)).set 1 (some ⟨.c 63, 2, knRows x.all⟩)
def toS (f : GFn) (k : Nat) (xs : List (Int × List GTry)) (x : KS) : St := ⟨166, toT f k xs x [], toH f x, x.nx + 2⟩
def toE (f : GFn) (k : Nat) (xs : List (Int × List GTry)) (x : KS) : St := ⟨166, toT f k xs x [(111, dB false)], toH f x, x.nx + 2⟩
theorem KA.next {f : GFn} {c0 k : Nat} {all : List Kn} {more : Bool} (h : KA f c0 k all more) (hc : more = false → ClosedAt f all k) : KA f c0 (k + 1) all more :=
  ⟨h.inv, h.le, h.lt, fun hm j hj => by
    by_cases e : j = k
    · subst e; exact hc hm
    · exact h.cl hm j (by omega)⟩
theorem heap2 {x0 x1 : Option Blk} {H : Hp} (h0 : H 0 = x0) (h1 : H 1 = x1) : ∀ i y, ((Hp.none.set 0 x0).set 1 x1) i = some y → H i = some y := fun i y hy => by
  by_cases e1 : i = 1
  · subst e1; rw [Hp.set_same] at hy; rw [h1, hy]
  · rw [Hp.set_ne _ _ e1] at hy
    by_cases e0 : i = 0
    · subst e0; rw [Hp.set_same] at hy; rw [h0, hy]
    · rw [Hp.set_ne _ _ e0] at hy; cases hy
@[simp] theorem fz_d (m : Nat) (x : Blk) (y : Dt) : C.fz m x (.d y) = .d y := rfl
theorem toWk2 {tm tm' : List (Nat × D)} {H : Hp} {nx a b : Nat} {x y x0 x1 : Blk} (hx : H a = some x) (ix : ∀ e ∈ x.es, ∀ c ∈ e, c.isD = true) (hy : H b = some y) (iy : ∀ e ∈ y.es, ∀ c ∈ e, c.isD = true) (ha : 2 ≤ a) (hb : 2 ≤ b) (hab : b ≠ a)
    (h0 : H 0 = some x0) (i0 : ∀ e ∈ x0.es, ∀ c ∈ e, c.isD = true) (h1 : H 1 = some x1) (i1 : ∀ e ∈ x1.es, ∀ c ∈ e, c.isD = true) (ht : keepT (fzT b y (fzT a x tm)) (tm'.map (·.1)) = tm') : Wk ⟨166, tm, H, nx⟩ ⟨166, tm', (Hp.none.set 0 (some x0)).set 1 (some x1), nx⟩ :=
  (Wk.fz hx ix).trans ((Wk.fz (fzH_id hab hy iy) iy).trans ((Wk.sub ht).trans (Wk.heap (heap2 (fzH_id (by omega) (fzH_id (by omega) h0 i0) i0) (fzH_id (by omega) (fzH_id (by omega) h1 i1) i1)))))
theorem toWk3 {tm tm' : List (Nat × D)} {H : Hp} {nx a b c : Nat} {x y z z' x0 x1 : Blk} (hx : H a = some x) (ix : ∀ e ∈ x.es, ∀ c ∈ e, c.isD = true) (hy : H b = some y) (iy : ∀ e ∈ y.es, ∀ c ∈ e, c.isD = true) (hz : H c = some z) (hz' : (⟨z.t, z.k, z.es.map fun e => e.map (C.fz a x)⟩ : Blk) = z') (iz : ∀ e ∈ z'.es, ∀ c ∈ e, c.isD = true)
    (ha : 2 ≤ a) (hb : 2 ≤ b) (hc : 2 ≤ c) (hab : b ≠ a) (hac : c ≠ a) (hbc : c ≠ b)
    (h0 : H 0 = some x0) (i0 : ∀ e ∈ x0.es, ∀ c ∈ e, c.isD = true) (h1 : H 1 = some x1) (i1 : ∀ e ∈ x1.es, ∀ c ∈ e, c.isD = true) (ht : keepT (fzT c z' (fzT b y (fzT a x tm))) (tm'.map (·.1)) = tm') : Wk ⟨166, tm, H, nx⟩ ⟨166, tm', (Hp.none.set 0 (some x0)).set 1 (some x1), nx⟩ := by
  have g1 : fzH H a x c = some z' := by unfold fzH; rw [if_neg hac, hz, Option.map_some, hz']
  exact (Wk.fz hx ix).trans ((Wk.fz (fzH_id hab hy iy) iy).trans ((Wk.fz (fzH_id hbc g1 iz) iz).trans ((Wk.sub ht).trans (Wk.heap (heap2 (fzH_id (by omega) (fzH_id (by omega) (fzH_id (by omega) h0 i0) i0) i0) (fzH_id (by omega) (fzH_id (by omega) (fzH_id (by omega) h1 i1) i1) i1))))))
structure KB (f : GFn) (c0 : Nat) (all0 : List Kn) (more0 : Bool) (xs : List (Int × List GTry)) (j : Nat) (all : List Kn) (more : Bool) : Prop where
  inv : KInv f all
  le : cntK all ≤ c0
  lt : more = true → cntK all < c0
  same : more = false → all = all0 ∧ more0 = false
  told : more = false → ∀ m l, (m, l) ∈ xs.take j → 0 ≤ m ∧ m < f.code.length ∧ l.length ≤ 20 ∧ (all0.getD m.toNat dKn).is = true ∧ (all0.getD m.toNat dKn).tries = l
theorem KA.to {f : GFn} {c0 k : Nat} {all : List Kn} {more : Bool} (h : KA f c0 k all more) (xs : List (Int × List GTry)) : KB f c0 all more xs 0 all more :=
  ⟨h.inv, h.le, h.lt, fun e => ⟨rfl, e⟩, fun _ m l hm => by simp at hm⟩
theorem KB.step {f : GFn} {c0 : Nat} {all0 all : List Kn} {more0 more : Bool} {xs : List (Int × List GTry)} {j : Nat} (h : KB f c0 all0 more0 xs j all more) (hj : j < xs.length) (hr : Rch f xs[j].1 xs[j].2) (hm : 0 ≤ xs[j].1) (hb : ¬ badK f.code.length all xs[j].1 xs[j].2) :
    KB f c0 all0 more0 xs (j + 1) (all.set xs[j].1.toNat ⟨true, xs[j].2⟩) (more || !(all.getD xs[j].1.toNat dKn).is) := by
  have hlt : xs[j].1.toNat < all.length := by rw [h.inv.len]; unfold badK at hb; omega
  have hcn := cnt_set (l := xs[j].2) hlt
  refine ⟨h.inv.set hr hm hb, ?_, fun e => ?_, fun e => ?_, fun e m l hml => ?_⟩
  · have := h.le; omega
  · cases hi : (all.getD xs[j].1.toNat dKn).is with
    | true =>
      rw [hi] at e
      simp at e
      have := h.lt e
      omega
    | false =>
      rw [hi] at hcn
      have := h.le
      simp at hcn; omega
  · simp only [Bool.or_eq_false_iff, Bool.not_eq_false'] at e
    rw [set_same h.inv hm hb e.2]
    exact h.same e.1
  · simp only [Bool.or_eq_false_iff, Bool.not_eq_false'] at e
    rw [List.take_succ_eq_append_getElem hj] at hml
    rcases List.mem_append.1 hml with hml | hml
    · exact h.told e.1 m l hml
    · obtain ⟨h1, -⟩ := h.same e.1
      have hx := List.mem_singleton.1 hml
      rw [← hx] at hb hm e
      rw [h1] at e hb
      unfold badK at hb
      simp only at hb hm e
      refine ⟨hm, by omega, by omega, e.2, ?_⟩
      by_cases e3 : (all0.getD m.toNat dKn).tries = l
      · exact e3
      · exact absurd (.inr (.inr ⟨e.2, e3⟩)) hb
theorem KB.done {f : GFn} {c0 k : Nat} {all0 all : List Kn} {more0 more : Bool} {xs : List (Int × List GTry)} (h : KB f c0 all0 more0 xs xs.length all more) (hA : KA f c0 k all0 more0) (hk : k < f.code.length) (hst : ¬ stuck f.code[k] (all0.getD k dKn).tries) (hx : xs = succs f.code[k] k (all0.getD k dKn).tries) : KA f c0 (k + 1) all more :=
  ⟨h.inv, h.le, h.lt, fun hm j hj => by
    obtain ⟨rfl, h2⟩ := h.same hm
    by_cases e : j = k
    · subst e
      intro hj2 _
      refine ⟨hst, fun m l hml => ?_⟩
      rw [← hx] at hml
      have := h.told hm m l (by rw [List.take_length]; exact hml)
      exact this
    · exact hA.cl h2 j (by omega)⟩
/-- a part of a code -/
def codeAt (c : Code) : List Nat → Code
  | [] => c
  | n :: l => match c with
    | .seq a b => codeAt (if n = 0 then a else b) l
    | .cond _ a b => codeAt (if n = 0 then a else b) l
    | .block _ a => codeAt a l
    | .loop a => codeAt a l
    | c => c
noncomputable def knLoop : Code := codeAt (Tryd.f28.body.getD .skip) [1, 1, 1, 1, 1, 0, 1, 0, 0, 1, 0, 1, 1, 0, 0, 1, 1, 0, 0, 1, 1, 1, 1, 1, 1, 1, 1, 0]
set_option maxRecDepth 100000 in
set_option maxHeartbeats 4000000 in
theorem to_ok {f : GFn} (hl6 : f.code.length ≤ 600) (hn : 0 < f.code.length) {c0 k : Nat} {all1 : List Kn} {more : Bool} (hA : KA f c0 k all1 more) (xs : List (Int × List GTry)) (hpos : ∀ m l, (m, l) ∈ xs → 0 ≤ m) (hRs : ∀ m l, (m, l) ∈ xs → Rch f m l) (hx2 : xs.length ≤ 2) (K5 : Exit → St → Prop) (st : St) (nx0 : Nat)
    (hw : Wk st (toS f k xs ⟨0, all1, more, nx0⟩)) (hret : ¬ Fine f → ∀ tm H nx, K5 .ret ⟨166, (0, aD (eFn f)) :: (1, .one (.ptr 0 5 0 0)) :: (2, .one (.d .emp)) :: (3, dB false) :: tm, H, nx⟩)
    (hex : ∀ all2 more2, KB f c0 all1 more xs xs.length all2 more2 → K5 (.exit 5) (toE f k xs ⟨xs.length, all2, more2, nx0⟩)) : vc Tryd.prog [(27, [0,0,3,0,8,0,32,120,248,511,1023], (.seg 1 (.seg 3 (.seg 5 (.fork 0 [3, 5] (.fork 2 [3, 5] (.fork 4 [5] (.eff 6 [] (.seg 7 (.eff 8 [] (.eff 9 [] (.seg 10 .last))))) (.eff 6 [3] (.eff 4 [] (.seg 7 (.eff 8 [] (.eff 9 [] (.seg 10 .last))))))) (.fork 4 [5] (.fork 2 [3, 5] (.eff 6 [] (.seg 7 (.eff 8 [] (.eff 9 [] (.seg 10 .last))))) (.eff 6 [] (.seg 7 (.fork 2 [3, 5, 7] (.eff 8 [] (.eff 9 [] (.seg 10 .last))) (.eff 8 [] (.eff 2 [3, 5, 7] (.eff 9 [] (.seg 10 .last)))))))) (.eff 6 [3] (.fork 2 [3, 5] (.eff 4 [] (.seg 7 (.eff 8 [] (.eff 9 [] (.seg 10 .last))))) (.eff 4 [] (.seg 7 (.fork 2 [3, 5, 7] (.eff 8 [] (.eff 9 [] (.seg 10 .last))) (.eff 8 [] (.eff 2 [3, 5, 7] (.eff 9 [] (.seg 10 .last))))))))))) (.fork 4 [5] (.fork 0 [3, 5] (.fork 2 [3, 5] (.eff 6 [] (.seg 7 (.eff 8 [] (.eff 9 [] (.seg 10 .last))))) (.eff 6 [] (.seg 7 (.fork 2 [3, 5, 7] (.eff 8 [] (.eff 9 [] (.seg 10 .last))) (.eff 8 [] (.eff 2 [3, 5, 7] (.eff 9 [] (.seg 10 .last)))))))) (.eff 6 [] (.seg 7 (.fork 0 [3, 5, 7] (.fork 2 [3, 5, 7] (.eff 8 [] (.eff 9 [] (.seg 10 .last))) (.eff 8 [] (.eff 2 [3, 5, 7] (.eff 9 [] (.seg 10 .last))))) (.eff 8 [] (.eff 0 [3, 5, 7] (.eff 2 [3, 5, 7] (.eff 9 [] (.seg 10 .last))))))))) (.eff 6 [3] (.fork 0 [3, 5] (.fork 2 [3, 5] (.eff 4 [] (.seg 7 (.eff 8 [] (.eff 9 [] (.seg 10 .last))))) (.eff 4 [] (.seg 7 (.fork 2 [3, 5, 7] (.eff 8 [] (.eff 9 [] (.seg 10 .last))) (.eff 8 [] (.eff 2 [3, 5, 7] (.eff 9 [] (.seg 10 .last)))))))) (.eff 4 [] (.seg 7 (.fork 0 [3, 5, 7] (.fork 2 [3, 5, 7] (.eff 8 [] (.eff 9 [] (.seg 10 .last))) (.eff 8 [] (.eff 2 [3, 5, 7] (.eff 9 [] (.seg 10 .last))))) (.eff 8 [] (.eff 0 [3, 5, 7] (.eff 2 [3, 5, 7] (.eff 9 [] (.seg 10 .last)))))))))))))))), (32, [0,1,3,0,0,16,48,120,248,7,1023], (.seg 0 (.seg 1 (.seg 3 (.seg 4 (.seg 5 (.seg 6 (.seg 7 (.fork 2 [5, 6, 7] (.seg 9 (.eff 8 [1] (.seg 10 .last))) (.eff 8 [1] (.eff 2 [5, 6, 7] (.seg 9 (.seg 10 .last))))))))))))), (36, [0,0,3,7,15,15,63,127,255,511,1023,2047,4095,4095,16383,32767,65535,131071,262143,262143,1048575,2097151,4194303,262143,262143,25427967,58982399,134217727,268435455,536870911,1073741823], (.seg 0 (.seg 1 (.seg 2 (.seg 3 (.seg 4 (.seg 5 (.seg 6 (.seg 7 (.seg 8 (.seg 9 (.seg 10 (.seg 11 (.seg 12 (.seg 13 (.seg 14 (.seg 15 (.seg 16 (.seg 17 (.seg 18 (.seg 19 (.seg 20 (.seg 21 (.seg 22 (.seg 23 (.seg 24 (.seg 25 (.seg 26 (.eff 27 [] (.seg 28 (.seg 29 (.seg 30 .last))))))))))))))))))))))))))))))))] 166 [0,1,2,3,4,5,6,7,8,9,10,11,12,13,14,21,25,27,28,29,30,39,47,53,56,64,74,94,98,108,109,110,111,145] knLoop K5 st := by
    simp only [knLoop, Tryd.f28, Option.getD_some, codeAt, if_true, if_false, Nat.one_ne_zero]
    obtain ⟨stn, sttm, stH, stx⟩ := st
    rw [vc_loop]
    refine loopS_ok (ks := [0,1,2,3,4,5,6,7,8,9,10,11,12,13,14,21,25,27,28,29,30,39,47,53,56,64,74,94,98,108,109,110,111,145]) (pl := [(27, [0,0,3,0,8,0,32,120,248,511,1023], (.seg 1 (.seg 3 (.seg 5 (.fork 0 [3, 5] (.fork 2 [3, 5] (.fork 4 [5] (.eff 6 [] (.seg 7 (.eff 8 [] (.eff 9 [] (.seg 10 .last))))) (.eff 6 [3] (.eff 4 [] (.seg 7 (.eff 8 [] (.eff 9 [] (.seg 10 .last))))))) (.fork 4 [5] (.fork 2 [3, 5] (.eff 6 [] (.seg 7 (.eff 8 [] (.eff 9 [] (.seg 10 .last))))) (.eff 6 [] (.seg 7 (.fork 2 [3, 5, 7] (.eff 8 [] (.eff 9 [] (.seg 10 .last))) (.eff 8 [] (.eff 2 [3, 5, 7] (.eff 9 [] (.seg 10 .last)))))))) (.eff 6 [3] (.fork 2 [3, 5] (.eff 4 [] (.seg 7 (.eff 8 [] (.eff 9 [] (.seg 10 .last))))) (.eff 4 [] (.seg 7 (.fork 2 [3, 5, 7] (.eff 8 [] (.eff 9 [] (.seg 10 .last))) (.eff 8 [] (.eff 2 [3, 5, 7] (.eff 9 [] (.seg 10 .last))))))))))) (.fork 4 [5] (.fork 0 [3, 5] (.fork 2 [3, 5] (.eff 6 [] (.seg 7 (.eff 8 [] (.eff 9 [] (.seg 10 .last))))) (.eff 6 [] (.seg 7 (.fork 2 [3, 5, 7] (.eff 8 [] (.eff 9 [] (.seg 10 .last))) (.eff 8 [] (.eff 2 [3, 5, 7] (.eff 9 [] (.seg 10 .last)))))))) (.eff 6 [] (.seg 7 (.fork 0 [3, 5, 7] (.fork 2 [3, 5, 7] (.eff 8 [] (.eff 9 [] (.seg 10 .last))) (.eff 8 [] (.eff 2 [3, 5, 7] (.eff 9 [] (.seg 10 .last))))) (.eff 8 [] (.eff 0 [3, 5, 7] (.eff 2 [3, 5, 7] (.eff 9 [] (.seg 10 .last))))))))) (.eff 6 [3] (.fork 0 [3, 5] (.fork 2 [3, 5] (.eff 4 [] (.seg 7 (.eff 8 [] (.eff 9 [] (.seg 10 .last))))) (.eff 4 [] (.seg 7 (.fork 2 [3, 5, 7] (.eff 8 [] (.eff 9 [] (.seg 10 .last))) (.eff 8 [] (.eff 2 [3, 5, 7] (.eff 9 [] (.seg 10 .last)))))))) (.eff 4 [] (.seg 7 (.fork 0 [3, 5, 7] (.fork 2 [3, 5, 7] (.eff 8 [] (.eff 9 [] (.seg 10 .last))) (.eff 8 [] (.eff 2 [3, 5, 7] (.eff 9 [] (.seg 10 .last))))) (.eff 8 [] (.eff 0 [3, 5, 7] (.eff 2 [3, 5, 7] (.eff 9 [] (.seg 10 .last)))))))))))))))), (32, [0,1,3,0,0,16,48,120,248,7,1023], (.seg 0 (.seg 1 (.seg 3 (.seg 4 (.seg 5 (.seg 6 (.seg 7 (.fork 2 [5, 6, 7] (.seg 9 (.eff 8 [1] (.seg 10 .last))) (.eff 8 [1] (.eff 2 [5, 6, 7] (.seg 9 (.seg 10 .last))))))))))))), (36, [0,0,3,7,15,15,63,127,255,511,1023,2047,4095,4095,16383,32767,65535,131071,262143,262143,1048575,2097151,4194303,262143,262143,25427967,58982399,134217727,268435455,536870911,1073741823], (.seg 0 (.seg 1 (.seg 2 (.seg 3 (.seg 4 (.seg 5 (.seg 6 (.seg 7 (.seg 8 (.seg 9 (.seg 10 (.seg 11 (.seg 12 (.seg 13 (.seg 14 (.seg 15 (.seg 16 (.seg 17 (.seg 18 (.seg 19 (.seg 20 (.seg 21 (.seg 22 (.seg 23 (.seg 24 (.seg 25 (.seg 26 (.eff 27 [] (.seg 28 (.seg 29 (.seg 30 .last))))))))))))))))))))))))))))))))]) (n0 := 166) (α := {x : KS // x.k ≤ xs.length ∧ x.nx = nx0 ∧ KB f c0 all1 more xs x.k x.all x.more}) (fun x => toS f k xs x.1) (fun x => xs.length - x.1.k) ⟨⟨0, all1, more, nx0⟩, by simp, rfl, hA.to xs⟩ rfl (by kernel_rfl) hw ?_
    rintro ⟨⟨j, all2, more2, nx2⟩, hj, rfl, hB⟩
    simp only at hj hB
    unfold toS toT toH
    by_cases hj1 : j < xs.length
    · have hlen2 := hB.inv.len
      have hm := hpos xs[j].1 xs[j].2 (List.getElem_mem hj1)
      have hr := hRs xs[j].1 xs[j].2 (List.getElem_mem hj1)
      have hbd := hB.inv.bad hr hm
      have hst := hB.step hj1 hr hm
      generalize hxj : xs[j] = mw at *
      obtain ⟨m, w⟩ := mw
      obtain ⟨mi, rfl⟩ : ∃ mi : Nat, m = mi := ⟨m.toNat, by omega⟩
      simp only [Int.toNat_natCast] at hst
      by_cases q1 : f.code.length ≤ mi
      · simp [hj1, hxj, q1]
        exact hret (hbd (.inl (by simp; omega))) _ _ _
      by_cases q2 : 20 < w.length
      · have q2i : ¬ (w.length : Int) ≤ 20 := by omega
        simp [hj1, hxj, q1, q2i]
        intro _
        exact hret (hbd (.inr (.inl q2))) _ _ _
      have q2i : (w.length : Int) ≤ 20 := by omega
      have hmi : mi < f.code.length := by omega
      have hmi2 : mi < all2.length := by omega
      have hg2 : all2.getD mi dKn = all2[mi] := by rw [List.getD_eq_getElem?_getD, List.getElem?_eq_getElem hmi2]; rfl
      rw [hg2] at hst
      cases q3 : all2[mi].is with
      | true =>
        simp [hj1, hxj, q1, q2i, q3, hmi, hmi2]
        intro _
        refine sameTries_ok true true _ _ ?_
        by_cases q4 : all2[mi].tries = w
        · have hnb : ¬ badK f.code.length all2 mi w := by unfold badK; rw [Int.toNat_natCast, hg2]; rintro (h | h | ⟨-, h⟩) <;> first | omega | exact h q4
          have hB2 := hst hnb
          rw [q3] at hB2
          cases more2 with
          | true =>
            simp [hj1, hxj, q1, q2i, q3, q4, hmi, hmi2]
            exact ⟨⟨j + 1, all2.set mi ⟨true, w⟩, true, nx2⟩, by simp; omega, ⟨by simp; omega, rfl, by simpa using hB2⟩, Wk.subH (by simp [wrap_add (show j < 9223372036854775807 by omega)]) (by simp)⟩
          | false =>
            simp [hj1, hxj, q1, q2i, q3, q4, hmi, hmi2]
            exact ⟨⟨j + 1, all2.set mi ⟨true, w⟩, false, nx2⟩, by simp; omega, ⟨by simp; omega, rfl, by simpa using hB2⟩, Wk.subH (by simp [wrap_add (show j < 9223372036854775807 by omega)]) (by simp)⟩
        · simp [hj1, hxj, q1, q2i, q3, q4, hmi, hmi2]
          exact hret (hbd (.inr (.inr ⟨by rw [Int.toNat_natCast, hg2]; exact q3, by rw [Int.toNat_natCast, hg2]; exact q4⟩))) _ _ _
      | false =>
        have hnb : ¬ badK f.code.length all2 mi w := by unfold badK; rw [Int.toNat_natCast, hg2, q3]; rintro (h | h | ⟨h, -⟩) <;> first | omega | cases h
        have hB2 := hst hnb
        rw [q3] at hB2
        simp [hj1, hxj, q1, q2i, q3, hmi, hmi2]
        intro _
        exact ⟨⟨j + 1, all2.set mi ⟨true, w⟩, true, nx2⟩, by simp; omega, ⟨by simp; omega, rfl, by simpa using hB2⟩, Wk.subH (by simp [wrap_add (show j < 9223372036854775807 by omega)]) (by simp)⟩
    · obtain rfl : j = xs.length := by omega
      simp
      exact hex _ _ hB
end Go.Proofs.YtalippdhfkpbmaaDoor
/- The document's answer: what is known of a function's orders, walked. -/
namespace Go.Proofs.YtalippdhfkpbmaaDoor
open Go.RowKit Go
set_option linter.unusedSimpArgs false
set_option maxRecDepth 100000 in
set_option maxHeartbeats 4000000 in
theorem known_ok (f : GFn) (hg : goesAll f) (hl6 : f.code.length ≤ 600) {K : D → List Blk → Prop} (hbad : ¬ Fine f → K (.tup [.one (.d .emp), dB false]) [])
    (hok : ∀ all : List Kn, KnOk f all → 0 < f.code.length → K (.tup [.one (.own 0 2 f.code.length), dB true]) [⟨.c 63, 2, knRows all⟩]) : DPure Tryd.prog 28 [aD (eFn f)] K := by
  refine fn_ok [0,1,2,3,4,5,6,7,8,9,10,11,12,13,14,21,25,27,28,29,30,39,47,53,56,64,74,94,98,108,109,110,111,145] [(27, [0,0,3,0,8,0,32,120,248,511,1023], (.seg 1 (.seg 3 (.seg 5 (.fork 0 [3, 5] (.fork 2 [3, 5] (.fork 4 [5] (.eff 6 [] (.seg 7 (.eff 8 [] (.eff 9 [] (.seg 10 .last))))) (.eff 6 [3] (.eff 4 [] (.seg 7 (.eff 8 [] (.eff 9 [] (.seg 10 .last))))))) (.fork 4 [5] (.fork 2 [3, 5] (.eff 6 [] (.seg 7 (.eff 8 [] (.eff 9 [] (.seg 10 .last))))) (.eff 6 [] (.seg 7 (.fork 2 [3, 5, 7] (.eff 8 [] (.eff 9 [] (.seg 10 .last))) (.eff 8 [] (.eff 2 [3, 5, 7] (.eff 9 [] (.seg 10 .last)))))))) (.eff 6 [3] (.fork 2 [3, 5] (.eff 4 [] (.seg 7 (.eff 8 [] (.eff 9 [] (.seg 10 .last))))) (.eff 4 [] (.seg 7 (.fork 2 [3, 5, 7] (.eff 8 [] (.eff 9 [] (.seg 10 .last))) (.eff 8 [] (.eff 2 [3, 5, 7] (.eff 9 [] (.seg 10 .last))))))))))) (.fork 4 [5] (.fork 0 [3, 5] (.fork 2 [3, 5] (.eff 6 [] (.seg 7 (.eff 8 [] (.eff 9 [] (.seg 10 .last))))) (.eff 6 [] (.seg 7 (.fork 2 [3, 5, 7] (.eff 8 [] (.eff 9 [] (.seg 10 .last))) (.eff 8 [] (.eff 2 [3, 5, 7] (.eff 9 [] (.seg 10 .last)))))))) (.eff 6 [] (.seg 7 (.fork 0 [3, 5, 7] (.fork 2 [3, 5, 7] (.eff 8 [] (.eff 9 [] (.seg 10 .last))) (.eff 8 [] (.eff 2 [3, 5, 7] (.eff 9 [] (.seg 10 .last))))) (.eff 8 [] (.eff 0 [3, 5, 7] (.eff 2 [3, 5, 7] (.eff 9 [] (.seg 10 .last))))))))) (.eff 6 [3] (.fork 0 [3, 5] (.fork 2 [3, 5] (.eff 4 [] (.seg 7 (.eff 8 [] (.eff 9 [] (.seg 10 .last))))) (.eff 4 [] (.seg 7 (.fork 2 [3, 5, 7] (.eff 8 [] (.eff 9 [] (.seg 10 .last))) (.eff 8 [] (.eff 2 [3, 5, 7] (.eff 9 [] (.seg 10 .last)))))))) (.eff 4 [] (.seg 7 (.fork 0 [3, 5, 7] (.fork 2 [3, 5, 7] (.eff 8 [] (.eff 9 [] (.seg 10 .last))) (.eff 8 [] (.eff 2 [3, 5, 7] (.eff 9 [] (.seg 10 .last))))) (.eff 8 [] (.eff 0 [3, 5, 7] (.eff 2 [3, 5, 7] (.eff 9 [] (.seg 10 .last)))))))))))))))), (32, [0,1,3,0,0,16,48,120,248,7,1023], (.seg 0 (.seg 1 (.seg 3 (.seg 4 (.seg 5 (.seg 6 (.seg 7 (.fork 2 [5, 6, 7] (.seg 9 (.eff 8 [1] (.seg 10 .last))) (.eff 8 [1] (.eff 2 [5, 6, 7] (.seg 9 (.seg 10 .last))))))))))))), (36, [0,0,3,7,15,15,63,127,255,511,1023,2047,4095,4095,16383,32767,65535,131071,262143,262143,1048575,2097151,4194303,262143,262143,25427967,58982399,134217727,268435455,536870911,1073741823], (.seg 0 (.seg 1 (.seg 2 (.seg 3 (.seg 4 (.seg 5 (.seg 6 (.seg 7 (.seg 8 (.seg 9 (.seg 10 (.seg 11 (.seg 12 (.seg 13 (.seg 14 (.seg 15 (.seg 16 (.seg 17 (.seg 18 (.seg 19 (.seg 20 (.seg 21 (.seg 22 (.seg 23 (.seg 24 (.seg 25 (.seg 26 (.eff 27 [] (.seg 28 (.seg 29 (.seg 30 .last))))))))))))))))))))))))))))))))] Tryd.func28 rfl (by kernel_rfl) rfl rfl rfl rfl (by kernel_rfl) ?_
  simp
  intro _
  by_cases hne : f.code = []
  · simp [hne]
    exact hbad fun hf => by have := (hf 0 [] .start).1; rw [hne] at this; simp at this
  have hn : 0 < f.code.length := List.length_pos_iff.2 hne
  simp [hne, hn]
  refine ⟨by omega, ?_⟩
  refine loopH_ok (ks := [0,1,2,3,4,5,6,7,8,9,10,11,12,13,14,21,25,27,28,29,30,39,47,53,56,64,74,94,98,108,109,110,111,145]) (pl := [(27, [0,0,3,0,8,0,32,120,248,511,1023], (.seg 1 (.seg 3 (.seg 5 (.fork 0 [3, 5] (.fork 2 [3, 5] (.fork 4 [5] (.eff 6 [] (.seg 7 (.eff 8 [] (.eff 9 [] (.seg 10 .last))))) (.eff 6 [3] (.eff 4 [] (.seg 7 (.eff 8 [] (.eff 9 [] (.seg 10 .last))))))) (.fork 4 [5] (.fork 2 [3, 5] (.eff 6 [] (.seg 7 (.eff 8 [] (.eff 9 [] (.seg 10 .last))))) (.eff 6 [] (.seg 7 (.fork 2 [3, 5, 7] (.eff 8 [] (.eff 9 [] (.seg 10 .last))) (.eff 8 [] (.eff 2 [3, 5, 7] (.eff 9 [] (.seg 10 .last)))))))) (.eff 6 [3] (.fork 2 [3, 5] (.eff 4 [] (.seg 7 (.eff 8 [] (.eff 9 [] (.seg 10 .last))))) (.eff 4 [] (.seg 7 (.fork 2 [3, 5, 7] (.eff 8 [] (.eff 9 [] (.seg 10 .last))) (.eff 8 [] (.eff 2 [3, 5, 7] (.eff 9 [] (.seg 10 .last))))))))))) (.fork 4 [5] (.fork 0 [3, 5] (.fork 2 [3, 5] (.eff 6 [] (.seg 7 (.eff 8 [] (.eff 9 [] (.seg 10 .last))))) (.eff 6 [] (.seg 7 (.fork 2 [3, 5, 7] (.eff 8 [] (.eff 9 [] (.seg 10 .last))) (.eff 8 [] (.eff 2 [3, 5, 7] (.eff 9 [] (.seg 10 .last)))))))) (.eff 6 [] (.seg 7 (.fork 0 [3, 5, 7] (.fork 2 [3, 5, 7] (.eff 8 [] (.eff 9 [] (.seg 10 .last))) (.eff 8 [] (.eff 2 [3, 5, 7] (.eff 9 [] (.seg 10 .last))))) (.eff 8 [] (.eff 0 [3, 5, 7] (.eff 2 [3, 5, 7] (.eff 9 [] (.seg 10 .last))))))))) (.eff 6 [3] (.fork 0 [3, 5] (.fork 2 [3, 5] (.eff 4 [] (.seg 7 (.eff 8 [] (.eff 9 [] (.seg 10 .last))))) (.eff 4 [] (.seg 7 (.fork 2 [3, 5, 7] (.eff 8 [] (.eff 9 [] (.seg 10 .last))) (.eff 8 [] (.eff 2 [3, 5, 7] (.eff 9 [] (.seg 10 .last)))))))) (.eff 4 [] (.seg 7 (.fork 0 [3, 5, 7] (.fork 2 [3, 5, 7] (.eff 8 [] (.eff 9 [] (.seg 10 .last))) (.eff 8 [] (.eff 2 [3, 5, 7] (.eff 9 [] (.seg 10 .last))))) (.eff 8 [] (.eff 0 [3, 5, 7] (.eff 2 [3, 5, 7] (.eff 9 [] (.seg 10 .last)))))))))))))))), (32, [0,1,3,0,0,16,48,120,248,7,1023], (.seg 0 (.seg 1 (.seg 3 (.seg 4 (.seg 5 (.seg 6 (.seg 7 (.fork 2 [5, 6, 7] (.seg 9 (.eff 8 [1] (.seg 10 .last))) (.eff 8 [1] (.eff 2 [5, 6, 7] (.seg 9 (.seg 10 .last))))))))))))), (36, [0,0,3,7,15,15,63,127,255,511,1023,2047,4095,4095,16383,32767,65535,131071,262143,262143,1048575,2097151,4194303,262143,262143,25427967,58982399,134217727,268435455,536870911,1073741823], (.seg 0 (.seg 1 (.seg 2 (.seg 3 (.seg 4 (.seg 5 (.seg 6 (.seg 7 (.seg 8 (.seg 9 (.seg 10 (.seg 11 (.seg 12 (.seg 13 (.seg 14 (.seg 15 (.seg 16 (.seg 17 (.seg 18 (.seg 19 (.seg 20 (.seg 21 (.seg 22 (.seg 23 (.seg 24 (.seg 25 (.seg 26 (.eff 27 [] (.seg 28 (.seg 29 (.seg 30 .last))))))))))))))))))))))))))))))))]) (n0 := 166) (α := {x : KS // KInv f x.all ∧ (x.more = false → ∀ k, ClosedAt f x.all k)}) (fun x => [(6, dB x.1.more)]) (fun H x => H.set 1 (some ⟨.c 63, 2, knRows x.1.all⟩)) (fun x => x.1.nx + 2) (fun x => 2 * cntK x.1.all + (if x.1.more = true then 1 else 0))
    ⟨⟨0, (List.replicate f.code.length dKn).set 0 ⟨true, []⟩, true, 0⟩, ?init⟩ rfl (by kernel_rfl) ?wk ?_
  case init => exact ⟨kinv_init hn, fun h => by cases h⟩
  case wk =>
    exact Wk.less1 (m := 1) (by simp) (kn_less _)
  rintro ⟨⟨_, all, more, nx⟩, hi, hc⟩
  simp only at hi hc
  have hlen := hi.len
  cases more with
  | false =>
    simp
    rw [if_pos knRows_isD]
    exact hok all ⟨hi, hc rfl⟩ hn
  | true =>
  simp
  intro _
  refine loopH_ok (ks := [0,1,2,3,4,5,6,7,8,9,10,11,12,13,14,21,25,27,28,29,30,39,47,53,56,64,74,94,98,108,109,110,111,145]) (pl := [(27, [0,0,3,0,8,0,32,120,248,511,1023], (.seg 1 (.seg 3 (.seg 5 (.fork 0 [3, 5] (.fork 2 [3, 5] (.fork 4 [5] (.eff 6 [] (.seg 7 (.eff 8 [] (.eff 9 [] (.seg 10 .last))))) (.eff 6 [3] (.eff 4 [] (.seg 7 (.eff 8 [] (.eff 9 [] (.seg 10 .last))))))) (.fork 4 [5] (.fork 2 [3, 5] (.eff 6 [] (.seg 7 (.eff 8 [] (.eff 9 [] (.seg 10 .last))))) (.eff 6 [] (.seg 7 (.fork 2 [3, 5, 7] (.eff 8 [] (.eff 9 [] (.seg 10 .last))) (.eff 8 [] (.eff 2 [3, 5, 7] (.eff 9 [] (.seg 10 .last)))))))) (.eff 6 [3] (.fork 2 [3, 5] (.eff 4 [] (.seg 7 (.eff 8 [] (.eff 9 [] (.seg 10 .last))))) (.eff 4 [] (.seg 7 (.fork 2 [3, 5, 7] (.eff 8 [] (.eff 9 [] (.seg 10 .last))) (.eff 8 [] (.eff 2 [3, 5, 7] (.eff 9 [] (.seg 10 .last))))))))))) (.fork 4 [5] (.fork 0 [3, 5] (.fork 2 [3, 5] (.eff 6 [] (.seg 7 (.eff 8 [] (.eff 9 [] (.seg 10 .last))))) (.eff 6 [] (.seg 7 (.fork 2 [3, 5, 7] (.eff 8 [] (.eff 9 [] (.seg 10 .last))) (.eff 8 [] (.eff 2 [3, 5, 7] (.eff 9 [] (.seg 10 .last)))))))) (.eff 6 [] (.seg 7 (.fork 0 [3, 5, 7] (.fork 2 [3, 5, 7] (.eff 8 [] (.eff 9 [] (.seg 10 .last))) (.eff 8 [] (.eff 2 [3, 5, 7] (.eff 9 [] (.seg 10 .last))))) (.eff 8 [] (.eff 0 [3, 5, 7] (.eff 2 [3, 5, 7] (.eff 9 [] (.seg 10 .last))))))))) (.eff 6 [3] (.fork 0 [3, 5] (.fork 2 [3, 5] (.eff 4 [] (.seg 7 (.eff 8 [] (.eff 9 [] (.seg 10 .last))))) (.eff 4 [] (.seg 7 (.fork 2 [3, 5, 7] (.eff 8 [] (.eff 9 [] (.seg 10 .last))) (.eff 8 [] (.eff 2 [3, 5, 7] (.eff 9 [] (.seg 10 .last)))))))) (.eff 4 [] (.seg 7 (.fork 0 [3, 5, 7] (.fork 2 [3, 5, 7] (.eff 8 [] (.eff 9 [] (.seg 10 .last))) (.eff 8 [] (.eff 2 [3, 5, 7] (.eff 9 [] (.seg 10 .last))))) (.eff 8 [] (.eff 0 [3, 5, 7] (.eff 2 [3, 5, 7] (.eff 9 [] (.seg 10 .last)))))))))))))))), (32, [0,1,3,0,0,16,48,120,248,7,1023], (.seg 0 (.seg 1 (.seg 3 (.seg 4 (.seg 5 (.seg 6 (.seg 7 (.fork 2 [5, 6, 7] (.seg 9 (.eff 8 [1] (.seg 10 .last))) (.eff 8 [1] (.eff 2 [5, 6, 7] (.seg 9 (.seg 10 .last))))))))))))), (36, [0,0,3,7,15,15,63,127,255,511,1023,2047,4095,4095,16383,32767,65535,131071,262143,262143,1048575,2097151,4194303,262143,262143,25427967,58982399,134217727,268435455,536870911,1073741823], (.seg 0 (.seg 1 (.seg 2 (.seg 3 (.seg 4 (.seg 5 (.seg 6 (.seg 7 (.seg 8 (.seg 9 (.seg 10 (.seg 11 (.seg 12 (.seg 13 (.seg 14 (.seg 15 (.seg 16 (.seg 17 (.seg 18 (.seg 19 (.seg 20 (.seg 21 (.seg 22 (.seg 23 (.seg 24 (.seg 25 (.seg 26 (.eff 27 [] (.seg 28 (.seg 29 (.seg 30 .last))))))))))))))))))))))))))))))))]) (n0 := 166) (α := {x : KS // x.k ≤ f.code.length ∧ KA f (cntK all) x.k x.all x.more}) (fun x => [(6, dB x.1.more), (29, dI x.1.k)]) (fun H x => H.set 1 (some ⟨.c 63, 2, knRows x.1.all⟩)) (fun x => x.1.nx + 2) (fun x => f.code.length - x.1.k)
    ⟨⟨0, all, false, nx⟩, Nat.zero_le _, hi, Nat.le_refl _, fun h => by simp at h, fun _ j hj => absurd hj (Nat.not_lt_zero _)⟩ rfl (by kernel_rfl) (Wk.of_eq (by simp)) ?_
  rintro ⟨⟨k, all1, more, nx1⟩, hk, hA⟩
  simp only at hk hA
  by_cases h1 : k < f.code.length
  case neg =>
    obtain rfl : k = f.code.length := by omega
    cases more with
    | false =>
      simp
      exact ⟨⟨0, all1, false, nx1⟩, ⟨⟨hA.inv, fun _ j hj => hA.cl rfl j hj hj⟩, by have := hA.le; simp; omega⟩, Wk.sub (by simp)⟩
    | true =>
      simp
      exact ⟨⟨0, all1, true, nx1⟩, ⟨⟨hA.inv, fun h => by cases h⟩, by have := hA.lt rfl; simp; omega⟩, Wk.sub (by simp)⟩
  have hlen1 := hA.inv.len
  have hk1 : k < all1.length := by omega
  have hgk : all1.getD k dKn = all1[k] := by rw [List.getD_eq_getElem?_getD, List.getElem?_eq_getElem hk1]; rfl
  have next : ∀ {tm tm' : List (Nat × D)} {H : Hp} {x0 : Option Blk}, keepT tm (tm'.map (·.1)) = tm' → H 0 = x0 → H 1 = some ⟨.c 63, 2, knRows all1⟩ → Wk ⟨166, tm, H, nx1 + 3⟩ ⟨166, tm', (Hp.none.set 0 x0).set 1 (some ⟨.c 63, 2, knRows all1⟩), nx1 + 3⟩ := fun h h0 h1 => (Wk.sub h).trans (Wk.heap (heap2 h0 h1))
  cases his : all1[k].is with
  | false =>
    simp [h1, hk1, his]
    exact ⟨⟨k + 1, all1, more, nx1 + 1⟩, by simp; omega, ⟨by simp; omega, hA.next fun _ _ hi => by rw [hgk, his] at hi; cases hi⟩, next (by simp [wrap_add (show k < 9223372036854775807 by omega)]) (by simp) (by simp)⟩
  | true =>
  generalize hLC : Code.loop _ = LC
  have hgo := hg _ (List.getElem_mem h1)
  have hRs := fun m l h => Rch.step (m := m) (l' := l) (hA.inv.sound k h1 (by rw [hgk]; exact his)).1 h1 h
  have hdone := fun xs all2 more2 (h : KB f (cntK all) all1 more xs xs.length all2 more2) => h.done hA h1
  have hstk := fun (hs : stuck f.code[k] (all1.getD k dKn).tries) => hbad fun hf => (hf _ _ (hA.inv.sound k h1 (by rw [hgk]; exact his)).1).2.2.2 k h1 rfl hs
  have hL20 := (hA.inv.sound k h1 (by rw [hgk]; exact his)).2
  rw [hgk] at hRs hdone hstk hL20
  have hpos : ∀ m l, (m, l) ∈ succs f.code[k] k all1[k].tries → 0 ≤ m := fun m l h => succs_pos hgo h
  have hnx : ¬ stuck f.code[k] all1[k].tries → succs f.code[k] k all1[k].tries = [] → KA f (cntK all) (k + 1) all1 more := fun hs he => hA.next fun _ _ _ => by
    rw [hgk, he]
    exact ⟨hs, fun m l hm => by cases hm⟩
  generalize hI : f.code[k] = i at *
  obtain ⟨op, ia, ib, ic, il⟩ := i
  generalize hL : all1[k].tries = L at *
  have hLCe : LC = knLoop := by rw [← hLC]; kernel_rfl
  clear hLC
  subst hLCe
  have toL : ∀ (xs : List (Int × List GTry)) (K5 : Exit → St → Prop) (st : St) (nx0 : Nat), xs = succs ⟨op, ia, ib, ic, il⟩ k L → xs.length ≤ 2 →
      Wk st (toS f k xs ⟨0, all1, more, nx0⟩) → (¬ Fine f → ∀ tm H nx, K5 .ret ⟨166, (0, aD (eFn f)) :: (1, .one (.ptr 0 5 0 0)) :: (2, .one (.d .emp)) :: (3, dB false) :: tm, H, nx⟩) →
      (∀ all2 more2, KB f (cntK all) all1 more xs xs.length all2 more2 → K5 (.exit 5) (toE f k xs ⟨xs.length, all2, more2, nx0⟩)) → vc Tryd.prog [(27, [0,0,3,0,8,0,32,120,248,511,1023], (.seg 1 (.seg 3 (.seg 5 (.fork 0 [3, 5] (.fork 2 [3, 5] (.fork 4 [5] (.eff 6 [] (.seg 7 (.eff 8 [] (.eff 9 [] (.seg 10 .last))))) (.eff 6 [3] (.eff 4 [] (.seg 7 (.eff 8 [] (.eff 9 [] (.seg 10 .last))))))) (.fork 4 [5] (.fork 2 [3, 5] (.eff 6 [] (.seg 7 (.eff 8 [] (.eff 9 [] (.seg 10 .last))))) (.eff 6 [] (.seg 7 (.fork 2 [3, 5, 7] (.eff 8 [] (.eff 9 [] (.seg 10 .last))) (.eff 8 [] (.eff 2 [3, 5, 7] (.eff 9 [] (.seg 10 .last)))))))) (.eff 6 [3] (.fork 2 [3, 5] (.eff 4 [] (.seg 7 (.eff 8 [] (.eff 9 [] (.seg 10 .last))))) (.eff 4 [] (.seg 7 (.fork 2 [3, 5, 7] (.eff 8 [] (.eff 9 [] (.seg 10 .last))) (.eff 8 [] (.eff 2 [3, 5, 7] (.eff 9 [] (.seg 10 .last))))))))))) (.fork 4 [5] (.fork 0 [3, 5] (.fork 2 [3, 5] (.eff 6 [] (.seg 7 (.eff 8 [] (.eff 9 [] (.seg 10 .last))))) (.eff 6 [] (.seg 7 (.fork 2 [3, 5, 7] (.eff 8 [] (.eff 9 [] (.seg 10 .last))) (.eff 8 [] (.eff 2 [3, 5, 7] (.eff 9 [] (.seg 10 .last)))))))) (.eff 6 [] (.seg 7 (.fork 0 [3, 5, 7] (.fork 2 [3, 5, 7] (.eff 8 [] (.eff 9 [] (.seg 10 .last))) (.eff 8 [] (.eff 2 [3, 5, 7] (.eff 9 [] (.seg 10 .last))))) (.eff 8 [] (.eff 0 [3, 5, 7] (.eff 2 [3, 5, 7] (.eff 9 [] (.seg 10 .last))))))))) (.eff 6 [3] (.fork 0 [3, 5] (.fork 2 [3, 5] (.eff 4 [] (.seg 7 (.eff 8 [] (.eff 9 [] (.seg 10 .last))))) (.eff 4 [] (.seg 7 (.fork 2 [3, 5, 7] (.eff 8 [] (.eff 9 [] (.seg 10 .last))) (.eff 8 [] (.eff 2 [3, 5, 7] (.eff 9 [] (.seg 10 .last)))))))) (.eff 4 [] (.seg 7 (.fork 0 [3, 5, 7] (.fork 2 [3, 5, 7] (.eff 8 [] (.eff 9 [] (.seg 10 .last))) (.eff 8 [] (.eff 2 [3, 5, 7] (.eff 9 [] (.seg 10 .last))))) (.eff 8 [] (.eff 0 [3, 5, 7] (.eff 2 [3, 5, 7] (.eff 9 [] (.seg 10 .last)))))))))))))))), (32, [0,1,3,0,0,16,48,120,248,7,1023], (.seg 0 (.seg 1 (.seg 3 (.seg 4 (.seg 5 (.seg 6 (.seg 7 (.fork 2 [5, 6, 7] (.seg 9 (.eff 8 [1] (.seg 10 .last))) (.eff 8 [1] (.eff 2 [5, 6, 7] (.seg 9 (.seg 10 .last))))))))))))), (36, [0,0,3,7,15,15,63,127,255,511,1023,2047,4095,4095,16383,32767,65535,131071,262143,262143,1048575,2097151,4194303,262143,262143,25427967,58982399,134217727,268435455,536870911,1073741823], (.seg 0 (.seg 1 (.seg 2 (.seg 3 (.seg 4 (.seg 5 (.seg 6 (.seg 7 (.seg 8 (.seg 9 (.seg 10 (.seg 11 (.seg 12 (.seg 13 (.seg 14 (.seg 15 (.seg 16 (.seg 17 (.seg 18 (.seg 19 (.seg 20 (.seg 21 (.seg 22 (.seg 23 (.seg 24 (.seg 25 (.seg 26 (.eff 27 [] (.seg 28 (.seg 29 (.seg 30 .last))))))))))))))))))))))))))))))))] 166 [0,1,2,3,4,5,6,7,8,9,10,11,12,13,14,21,25,27,28,29,30,39,47,53,56,64,74,94,98,108,109,110,111,145] knLoop K5 st := by
    intro xs K5 st nx0 hx hx2 hw hret hex
    exact to_ok hl6 hn hA xs (fun m l h => hpos m l (by rw [← hx]; exact h)) (fun m l h => hRs m l (by rw [← hx]; exact h)) hx2 K5 st nx0 hw hret hex
  by_cases d1 : op = 28
  · simp [h1, hk1, his, hI, hL, d1]
    exact ⟨⟨k + 1, all1, more, nx1 + 1⟩, by simp; omega, ⟨by simp; omega, hnx (by simp [stuck, d1]) (by simp [succs, d1])⟩, next (by simp [wrap_add (show k < 9223372036854775807 by omega)]) (by simp) (by simp)⟩
  by_cases d2 : op = 29
  · simp [h1, hk1, his, hI, hL, d1, d2]
    exact ⟨⟨k + 1, all1, more, nx1 + 1⟩, by simp; omega, ⟨by simp; omega, hnx (by simp [stuck, d2]) (by simp [succs, d2])⟩, next (by simp [wrap_add (show k < 9223372036854775807 by omega)]) (by simp) (by simp)⟩
  by_cases d3 : op = 13
  · simp [h1, hk1, his, hI, hL, d1, d2, d3]
    have hw := wrap_add (show k < 9223372036854775807 by omega)
    refine toL [(ia, L)] _ _ (nx1 + 3) (by simp [succs, d3]) (by simp) (toWk2 (a := nx1 + 3) (b := nx1 + 4) (by simp; rfl) (by simp) (by simp; rfl) (by simp) (by omega) (by omega) (by omega) (by simp) (by simp) (by simp) knRows_isD (by simp [fzT, D.fz, C.fz, toT, hw])) (fun hnf tm H nx => ?_) (fun all2 more2 hB => ?_)
    · simp
      exact hbad hnf
    · simp [toE, toT, toH]
      exact ⟨⟨k + 1, all2, more2, nx1 + 3⟩, by simp; omega, ⟨by simp; omega, hdone _ _ _ hB (by simp [stuck, d3]) (by simp [succs, d3])⟩, Wk.subH (by simp [wrap_add (show k < 9223372036854775807 by omega)]) (by simp)⟩
  by_cases d4 : op = 14
  · simp [h1, hk1, his, hI, hL, d1, d2, d3, d4]
    have hw := wrap_add (show k < 9223372036854775807 by omega)
    refine toL [(ia, L)] _ _ (nx1 + 3) (by simp [succs, d4]) (by simp) (toWk2 (a := nx1 + 3) (b := nx1 + 4) (by simp; rfl) (by simp) (by simp; rfl) (by simp) (by omega) (by omega) (by omega) (by simp) (by simp) (by simp) knRows_isD (by simp [fzT, D.fz, C.fz, toT, hw])) (fun hnf tm H nx => ?_) (fun all2 more2 hB => ?_)
    · simp
      exact hbad hnf
    · simp [toE, toT, toH]
      exact ⟨⟨k + 1, all2, more2, nx1 + 3⟩, by simp; omega, ⟨by simp; omega, hdone _ _ _ hB (by simp [stuck, d4]) (by simp [succs, d4])⟩, Wk.subH (by simp [wrap_add (show k < 9223372036854775807 by omega)]) (by simp)⟩
  by_cases d5 : op = 15
  · simp [h1, hk1, his, hI, hL, d1, d2, d3, d4, d5]
    have hw := wrap_add (show k < 9223372036854775807 by omega)
    refine toL [(ib, L), ((k : Int) + 1, L)] _ _ (nx1 + 3) (by simp [succs, d5]) (by simp) (toWk2 (a := nx1 + 3) (b := nx1 + 4) (by simp; rfl) (by simp) (by simp; rfl) (by simp) (by omega) (by omega) (by omega) (by simp) (by simp) (by simp) knRows_isD (by simp [fzT, D.fz, C.fz, toT, hw])) (fun hnf tm H nx => ?_) (fun all2 more2 hB => ?_)
    · simp
      exact hbad hnf
    · simp [toE, toT, toH]
      exact ⟨⟨k + 1, all2, more2, nx1 + 3⟩, by simp; omega, ⟨by simp; omega, hdone _ _ _ hB (by simp [stuck, d5]) (by simp [succs, d5])⟩, Wk.subH (by simp [wrap_add (show k < 9223372036854775807 by omega)]) (by simp)⟩
  by_cases d6 : op = 30
  · simp [h1, hk1, his, hI, hL, d1, d2, d3, d4, d5, d6]
    have hw := wrap_add (show k < 9223372036854775807 by omega)
    repeat' (with_reducible constructor)
    all_goals first
      | omega
      | (intro a b e hb; subst e; simp at hb; subst hb; exact ⟨rfl, rfl⟩)
      | skip
    all_goals
      refine toL [(ib, L), ((k : Int) + 1, L ++ [⟨ia, ib⟩])] _ _ (nx1 + 6) (by simp [succs, d6]) (by simp) (toWk3 (a := nx1 + 5) (b := nx1 + 6) (c := nx1 + 7) (z' := ⟨.c 49, 1, [[.d (.sl true (L.map eTry))], [.d (.sl true ((L ++ [(⟨ia, ib⟩ : GTry)]).map eTry))]]⟩) (by simp; rfl) (by simp [or_imp, forall_and]) (by simp; rfl) (by simp) (by simp; rfl) (by simp [C.fz, List.take_of_length_le, Function.comp_def]) (by simp) (by omega) (by omega) (by omega) (by omega) (by omega) (by omega) (by simp) (by simp) (by simp) knRows_isD (by simp [fzT, D.fz, C.fz, toT, hw])) (fun hnf tm H nx => ?_) (fun all2 more2 hB => ?_)
      · simp
        exact hbad hnf
      · simp [toE, toT, toH]
        exact ⟨⟨k + 1, all2, more2, nx1 + 6⟩, by simp; omega, ⟨by simp; omega, hdone _ _ _ hB (by simp [stuck, d6]) (by simp [succs, d6])⟩, Wk.subH (by simp [wrap_add (show k < 9223372036854775807 by omega)]) (by simp)⟩
  by_cases d7 : op = 31
  · by_cases hLe : L = []
    · simp [h1, hk1, his, hI, hL, d1, d2, d3, d4, d5, d6, d7, hLe]
      exact hstk ⟨d7, hLe⟩
    · have hL0 : 0 < L.length := List.length_pos_iff.2 hLe
      have hw1 : IntKind.i64.wrap ((L.length : Int) - 1) = ((L.length - 1 : Nat) : Int) := by rw [wrap_id (by omega) (by omega)]; omega
      have hw := wrap_add (show k < 9223372036854775807 by omega)
      have hdl : List.take (L.length - 1) (List.map eTry L) = List.map eTry L.dropLast := by rw [List.dropLast_eq_take, List.map_take]
      simp [h1, hk1, his, hI, hL, d1, d2, d3, d4, d5, d6, d7, hLe, hL0, hw1, hdl]
      intro _
      constructor
      all_goals
       refine toL [((k : Int) + 1, L.dropLast)] _ _ (nx1 + 3) (by simp [succs, d7]) (by simp) (toWk2 (a := nx1 + 3) (b := nx1 + 4) (by simp; rfl) (by simp) (by simp; rfl) (by simp) (by omega) (by omega) (by omega) (by simp) (by simp) (by simp) knRows_isD (by simp [fzT, D.fz, C.fz, toT, hw])) (fun hnf tm H nx => ?_) (fun all2 more2 hB => ?_)
       · simp
         exact hbad hnf
       · simp [toE, toT, toH]
         exact ⟨⟨k + 1, all2, more2, nx1 + 3⟩, by simp; omega, ⟨by simp; omega, hdone _ _ _ hB (by simp [stuck, hLe]) (by simp [succs, d7])⟩, Wk.subH (by simp [wrap_add (show k < 9223372036854775807 by omega)]) (by simp)⟩
  simp [h1, hk1, his, hI, hL, d1, d2, d3, d4, d5, d6, d7]
  have hw := wrap_add (show k < 9223372036854775807 by omega)
  refine toL [((k : Int) + 1, L)] _ _ (nx1 + 3) (by simp [succs, d1, d2, d3, d4, d5, d6, d7]) (by simp) (toWk2 (a := nx1 + 3) (b := nx1 + 4) (by simp; rfl) (by simp) (by simp; rfl) (by simp) (by omega) (by omega) (by omega) (by simp) (by simp) (by simp) knRows_isD (by simp [fzT, D.fz, C.fz, toT, hw])) (fun hnf tm H nx => ?_) (fun all2 more2 hB => ?_)
  · simp
    exact hbad hnf
  · simp [toE, toT, toH]
    exact ⟨⟨k + 1, all2, more2, nx1 + 3⟩, by simp; omega, ⟨by simp; omega, hdone _ _ _ hB (by simp [stuck, d1, d2, d3, d4, d5, d6, d7]) (by simp [succs, d1, d2, d3, d4, d5, d6, d7])⟩, Wk.subH (by simp [wrap_add (show k < 9223372036854775807 by omega)]) (by simp)⟩
end Go.Proofs.YtalippdhfkpbmaaDoor
/- Package code, plainly: programs with an order that no way leads to, or with more, are as right as they were. -/
namespace Go.Proofs.YtalippdhfkpbmaaDoor
open Go.RowKit Go
theorem ordersB_same {p p' : GProg} (h1 : p.fns.map (·.caught) = p'.fns.map (·.caught)) (h2 : p.consts.length = p'.consts.length) (h3 : p.texts.length = p'.texts.length) (f : GFn) : ordersB p f = ordersB p' f := by
  unfold ordersB
  congr 1
  funext k
  exact orderB_congr h1 h2 h3 rfl rfl rfl rfl _ _
theorem functionB_same {p p' : GProg} (h1 : p.fns.map (·.caught) = p'.fns.map (·.caught)) (h2 : p.consts.length = p'.consts.length) (h3 : p.texts.length = p'.texts.length) (f : GFn) : functionB p f = functionB p' f := by
  unfold functionB
  rw [ordersB_same h1 h2 h3]
theorem check_mk {p : GProg} (h1 : largeB p = false) (h2 : tablesB wordsT p = true) (h3 : firstB p = true) (h4 : ∀ f ∈ p.fns, functionB p f = true) : checkQ wordsT p = 0 := by
  rw [check_fns h1 h2 h3, if_neg]
  simp only [List.any_eq_true, not_exists, not_and]
  intro f hf
  rw [h4 f hf]
  simp
def deadFn (f : GFn) (m : Nat) : GFn := ⟨f.params, f.regs, f.gen, f.caught, f.code.set m endIns⟩
theorem deadFn_ok {p p' : GProg} (h1 : p.fns.map (·.caught) = p'.fns.map (·.caught)) (h2 : p.consts.length = p'.consts.length) (h3 : p.texts.length = p'.texts.length) {f : GFn} {m : Nat} (h : functionB p f = true) (hs : (triesQ f).seen.getD m false = false) : functionB p' (deadFn f m) = true := by
  simp only [functionB, Bool.and_eq_true, Bool.not_eq_true'] at h ⊢
  obtain ⟨⟨h4, h5⟩, h6⟩ := h
  have hl : f.code.length = (deadFn f m).code.length := by simp [deadFn]
  have hne : ∀ k, k ≠ m → f.code.getD k dIns = (deadFn f m).code.getD k dIns := fun k hk => by
    simp only [deadFn, getD_set]
    rw [if_neg (by omega)]
  refine ⟨⟨h4, ?_⟩, by rw [triesQ_other (goesAll_of h5) hl m hne hs]; exact h6⟩
  unfold ordersB at h5 ⊢
  rw [List.all_eq_true] at h5 ⊢
  intro k hk
  rw [← hl] at hk
  have h7 := h5 k hk
  rw [← orderB_congr h1 h2 h3 (f := f) (f' := deadFn f m) rfl rfl rfl hl]
  by_cases e : k = m
  · subst e
    have hk' : k < f.code.length := List.mem_range.1 hk
    have : (deadFn f k).code.getD k dIns = endIns := by simp [deadFn, getD_set, hk']
    rw [this]
    exact end_order p f k
  · rw [← hne k e]; exact h7
theorem dead_check {f0 : GFn} {fs : List GFn} {cs : List GVal} {ts : List ByteArray} (h : checkQ wordsT ⟨f0 :: fs, cs, ts⟩ = 0) {m : Nat} (hs : (triesQ f0).seen.getD m false = false) : checkQ wordsT ⟨deadFn f0 m :: fs, cs, ts⟩ = 0 := by
  obtain ⟨h1, h2, h3, h4⟩ := check_zero h
  have hc : (⟨f0 :: fs, cs, ts⟩ : GProg).fns.map (·.caught) = (⟨deadFn f0 m :: fs, cs, ts⟩ : GProg).fns.map (·.caught) := rfl
  refine check_mk ?_ h2 h3 fun f hf => ?_
  · rw [← h1]; simp [largeB, fnLargeB, deadFn]
  · rcases List.mem_cons.1 hf with rfl | hf
    · exact deadFn_ok hc rfl rfl (h4 f0 (List.mem_cons_self ..)) hs
    · rw [← functionB_same hc rfl rfl]
      exact h4 f (List.mem_cons_of_mem _ hf)
/-! ### More -/
theorem constBad_more {p p' : GProg} (h : p.texts.length ≤ p'.texts.length) {v : GVal} (hb : constBadB p v = false) : constBadB p' v = false := by
  simp only [constBadB, Bool.or_eq_false_iff, Bool.and_eq_false_iff, decide_eq_false_iff_not] at hb ⊢
  refine ⟨hb.1, hb.2.imp id fun h2 => ?_⟩
  omega
theorem tables_more {p p' : GProg} {xs : List ByteArray} {cs : List GVal} (h : tablesB wordsT p = true) (ht : p'.texts = p.texts ++ xs) (hn : (p.texts ++ xs).Nodup) (hc : p'.consts = p.consts ++ cs) (hcs : ∀ v ∈ cs, constBadB p' v = false) : tablesB wordsT p' = true := by
  simp only [tablesB, Bool.and_eq_true, decide_eq_true_eq, Bool.not_eq_true', List.any_eq_false] at h ⊢
  obtain ⟨⟨h1, h2⟩, h3⟩ := h
  refine ⟨⟨?_, by rw [ht]; exact hn⟩, fun v hv => ?_⟩
  · rw [ht]
    have hl : wordsT.length ≤ p.texts.length := by
      have := congrArg List.length h1
      rw [List.length_take] at this; omega
    rw [List.take_append_of_le_length hl]; exact h1
  · rw [hc] at hv
    have : constBadB p' v = false := by
      rcases List.mem_append.1 hv with hv | hv
      · exact constBad_more (p := p) (by rw [ht]; simp) (by simpa using h3 v hv)
      · exact hcs v hv
    rw [this]; simp
theorem more_ok {p p' : GProg} {f f' : GFn} (h : functionB p f = true) (hf : f.regs ≤ f'.regs) (hg : f.gen = f'.gen) (hc : f.caught = f'.caught) (hp : f.params = f'.params) (hk : f.code = f'.code) (hr : f'.regs ≤ 100000)
    (h1 : p.consts.length ≤ p'.consts.length) (h2 : p.texts.length ≤ p'.texts.length) (h3 : p.fns.length ≤ p'.fns.length) (hs : ∀ k, k < p.fns.length → (p'.fns.getD k ⟨0, 0, false, [], []⟩).caught = (p.fns.getD k ⟨0, 0, false, [], []⟩).caught)
    (b1 : p'.consts.length ≤ 100000) (b2 : p'.texts.length ≤ 100000) (b3 : p'.fns.length ≤ 100000) : functionB p' f' = true := by
  have h0 := h
  simp only [functionB, Bool.and_eq_true, Bool.not_eq_true', Bool.or_eq_false_iff, decide_eq_false_iff_not] at h0
  exact functionB_more ⟨h1, h2, h3, hs, hf, by omega, hg, hc, hk, b1, b2, b3, hr⟩ hp h
theorem large_iff {p : GProg} : largeB p = false ↔ p.fns.length ≤ 60 ∧ p.consts.length ≤ 200 ∧ p.texts.length ≤ 200 ∧ (∀ t ∈ p.texts, t.size ≤ 200) ∧ ∀ f ∈ p.fns, f.code.length ≤ 600 ∧ f.regs ≤ 60 := by
  unfold largeB fnLargeB
  simp only [Bool.or_eq_false_iff, decide_eq_false_iff_not, List.any_eq_false, Bool.or_eq_true, decide_eq_true_eq]
  constructor
  · rintro ⟨⟨⟨⟨a, b⟩, c⟩, d⟩, e⟩
    exact ⟨by omega, by omega, by omega, fun t ht => by have := d t ht; omega, fun f hf => by have := e f hf; omega⟩
  · rintro ⟨a, b, c, d, e⟩
    exact ⟨⟨⟨⟨by omega, by omega⟩, by omega⟩, fun t ht => by have := d t ht; omega⟩, fun f hf => by have := e f hf; omega⟩
def seventySeven : GVal := ⟨2, 77⟩
theorem more_const {f0 : GFn} {fs : List GFn} {cs : List GVal} {ts : List ByteArray} (h : checkQ wordsT ⟨f0 :: fs, cs, ts⟩ = 0) (hb : cs.length ≤ 190) : checkQ wordsT ⟨f0 :: fs, cs ++ [seventySeven], ts⟩ = 0 := by
  obtain ⟨h1, h2, h3, h4⟩ := check_zero h
  have hl := large_iff.1 h1
  simp only [] at hl
  refine check_mk (large_iff.2 ⟨hl.1, by simp; omega, hl.2.2.1, hl.2.2.2⟩) (tables_more (p := ⟨f0 :: fs, cs, ts⟩) (xs := []) (cs := [seventySeven]) h2 (by simp) ?_ rfl fun v hv => ?_) h3 fun f hf => ?_
  · simp only [tablesB, Bool.and_eq_true, decide_eq_true_eq] at h2
    simpa using h2.1.2
  · obtain rfl := List.mem_singleton.1 hv
    simp [constBadB, seventySeven, rightB]
  · have hr := hl.2.2.2.2 f hf
    exact more_ok (h4 f hf) (Int.le_refl _) rfl rfl rfl rfl (by omega) (by simp) (Nat.le_refl _) (Nat.le_refl _) (fun _ _ => rfl) (by simp; omega) (by show ts.length ≤ _; omega) (by show (f0 :: fs).length ≤ _; omega)
theorem more_text {f0 : GFn} {fs : List GFn} {cs : List GVal} {ts : List ByteArray} (h : checkQ wordsT ⟨f0 :: fs, cs, ts⟩ = 0) (hb : ts.length ≤ 190) {w : ByteArray} (hw : w.size ≤ 200) (hn : ¬ w ∈ ts) : checkQ wordsT ⟨f0 :: fs, cs, ts ++ [w]⟩ = 0 := by
  obtain ⟨h1, h2, h3, h4⟩ := check_zero h
  have hl := large_iff.1 h1
  simp only [] at hl
  refine check_mk (large_iff.2 ⟨hl.1, hl.2.1, by simp; omega, fun t ht => ?_, hl.2.2.2.2⟩) (tables_more (p := ⟨f0 :: fs, cs, ts⟩) (xs := [w]) (cs := []) h2 rfl ?_ (by simp) fun v hv => by cases hv) h3 fun f hf => ?_
  · rcases List.mem_append.1 ht with ht | ht
    · exact hl.2.2.2.1 t ht
    · obtain rfl := List.mem_singleton.1 ht; exact hw
  · simp only [tablesB, Bool.and_eq_true, decide_eq_true_eq] at h2
    refine List.nodup_append.2 ⟨h2.1.2, by simp, fun a ha b hb => ?_⟩
    obtain rfl := List.mem_singleton.1 hb
    rintro rfl
    exact hn ha
  · have hr := hl.2.2.2.2 f hf
    exact more_ok (h4 f hf) (Int.le_refl _) rfl rfl rfl rfl (by omega) (Nat.le_refl _) (by simp) (Nat.le_refl _) (fun _ _ => rfl) (by show cs.length ≤ _; omega) (by simp; omega) (by show (f0 :: fs).length ≤ _; omega)
def moreReg (f : GFn) : GFn := ⟨f.params, f.regs + 1, f.gen, f.caught, f.code⟩
theorem more_reg {f0 : GFn} {fs : List GFn} {cs : List GVal} {ts : List ByteArray} (h : checkQ wordsT ⟨f0 :: fs, cs, ts⟩ = 0) (hb : f0.regs ≤ 50) : checkQ wordsT ⟨moreReg f0 :: fs, cs, ts⟩ = 0 := by
  obtain ⟨h1, h2, h3, h4⟩ := check_zero h
  have hl := large_iff.1 h1
  simp only [] at hl
  have hs : ∀ k, k < (⟨f0 :: fs, cs, ts⟩ : GProg).fns.length → ((⟨moreReg f0 :: fs, cs, ts⟩ : GProg).fns.getD k ⟨0, 0, false, [], []⟩).caught = ((⟨f0 :: fs, cs, ts⟩ : GProg).fns.getD k ⟨0, 0, false, [], []⟩).caught := fun k _ => by
    cases k <;> rfl
  refine check_mk (large_iff.2 ⟨hl.1, hl.2.1, hl.2.2.1, hl.2.2.2.1, fun f hf => ?_⟩) h2 h3 fun f hf => ?_
  · rcases List.mem_cons.1 hf with rfl | hf
    · exact ⟨(hl.2.2.2.2 f0 (List.mem_cons_self ..)).1, by simp only [moreReg]; omega⟩
    · exact hl.2.2.2.2 f (List.mem_cons_of_mem _ hf)
  · rcases List.mem_cons.1 hf with rfl | hf
    · exact more_ok (f := f0) (f' := moreReg f0) (p := ⟨f0 :: fs, cs, ts⟩) (h4 f0 (List.mem_cons_self ..)) (by simp only [moreReg]; omega) rfl rfl rfl rfl (by simp only [moreReg]; omega) (Nat.le_refl _) (Nat.le_refl _) (Nat.le_refl _) hs (by show cs.length ≤ _; omega) (by show ts.length ≤ _; omega) (by show (f0 :: fs).length ≤ _; omega)
    · have hr := hl.2.2.2.2 f (List.mem_cons_of_mem _ hf)
      exact more_ok (p := ⟨f0 :: fs, cs, ts⟩) (h4 f (List.mem_cons_of_mem _ hf)) (Int.le_refl _) rfl rfl rfl rfl (by omega) (Nat.le_refl _) (Nat.le_refl _) (Nat.le_refl _) hs (by show cs.length ≤ _; omega) (by show ts.length ≤ _; omega) (by show (f0 :: fs).length ≤ _; omega)
def oneFn : GFn := ⟨0, 1, false, [], [⟨28, 0, 0, 0, 0⟩]⟩
theorem oneFn_ok (p : GProg) : functionB p oneFn = true := by
  have h1 : (triesQ oneFn).bad = false := by kernel_rfl
  have hf : formA 28 = (114, 45, 45) := by kernel_rfl
  have hw : wr 0 = 0 := by kernel_rfl
  unfold functionB
  rw [h1]
  simp [oneFn, ordersB, orderB, isOp, hf, nameB, orderK, btw, hw]
theorem more_fn {f0 : GFn} {fs : List GFn} {cs : List GVal} {ts : List ByteArray} (h : checkQ wordsT ⟨f0 :: fs, cs, ts⟩ = 0) (hb : fs.length ≤ 50) : checkQ wordsT ⟨f0 :: (fs ++ [oneFn]), cs, ts⟩ = 0 := by
  obtain ⟨h1, h2, h3, h4⟩ := check_zero h
  have hl := large_iff.1 h1
  simp only [] at hl
  have hs : ∀ k, k < (⟨f0 :: fs, cs, ts⟩ : GProg).fns.length → ((⟨f0 :: (fs ++ [oneFn]), cs, ts⟩ : GProg).fns.getD k ⟨0, 0, false, [], []⟩).caught = ((⟨f0 :: fs, cs, ts⟩ : GProg).fns.getD k ⟨0, 0, false, [], []⟩).caught := fun k hk => by
    have hk : k < (f0 :: fs).length := hk
    show (((f0 :: fs) ++ [oneFn]).getD k ⟨0, 0, false, [], []⟩).caught = ((f0 :: fs).getD k ⟨0, 0, false, [], []⟩).caught
    rw [List.getD_eq_getElem?_getD, List.getD_eq_getElem?_getD, List.getElem?_append_left hk]
  have hc : ∀ f ∈ (f0 :: (fs ++ [oneFn])), f ∈ f0 :: fs ∨ f = oneFn := fun f hf => by
    rw [← List.cons_append] at hf
    rcases List.mem_append.1 hf with hf | hf
    · exact .inl hf
    · exact .inr (List.mem_singleton.1 hf)
  refine check_mk (large_iff.2 ⟨by simp; omega, hl.2.1, hl.2.2.1, hl.2.2.2.1, fun f hf => ?_⟩) h2 h3 fun f hf => ?_
  · rcases hc f hf with hf | rfl
    · exact hl.2.2.2.2 f hf
    · simp [oneFn]
  · rcases hc f hf with hf | rfl
    · have hr := hl.2.2.2.2 f hf
      exact more_ok (p := ⟨f0 :: fs, cs, ts⟩) (h4 f hf) (Int.le_refl _) rfl rfl rfl rfl (by omega) (Nat.le_refl _) (Nat.le_refl _) (by simp) hs (by show cs.length ≤ _; omega) (by show ts.length ≤ _; omega) (by simp; omega)
    · exact oneFn_ok _
end Go.Proofs.YtalippdhfkpbmaaDoor
/- The operators: the walks, on. -/
namespace Go.Proofs.YtalippdhfkpbmaaDoor
open Go.RowKit
theorem taken_any (k n : Int) (w : World) :
    Calls Tryd.prog 33 #[.agg #[.int .i64 k, .int .i64 n]] w fun e w' => e = .returned (.agg #[.int .i64 (takK k n), .int .i64 (takN k n)]) ∧ Below w.heap.size w w' := by
  cases hr : rightB k n
  · go_enter Tryd.func33, Tryd.ntmps33
    go_wp2_with (go_at_call 12; go_must (refine (right_any _ _ _).mono ?_; rintro e w1 ⟨rfl, hb1⟩; obtain ⟨hc1, hf1⟩ := bcell hb1; have hz1_0 : w.heap.size < w1.heap.size := (by have hq := hb1.size; (try simp at hq); omega); have k1_0_0 := hc1 (w.heap.size) 0 (by first | omega | (simp; done) | (simp; omega)); (try simp [go_sem, *, -hc1, -hf1] at k1_0_0); have f1_0_0 := hf1 (w.heap.size) 0 (by first | omega | (simp; done) | (simp; omega)); (try simp [go_sem, *, -hc1, -hf1] at f1_0_0); have k1_0_1 := hc1 (w.heap.size) 1 (by first | omega | (simp; done) | (simp; omega)); (try simp [go_sem, *, -hc1, -hf1] at k1_0_1); have f1_0_1 := hf1 (w.heap.size) 1 (by first | omega | (simp; done) | (simp; omega)); (try simp [go_sem, *, -hc1, -hf1] at f1_0_1); have hz1_1 : w.heap.size + 1 < w1.heap.size := (by have hq := hb1.size; (try simp at hq); omega); have k1_1_0 := hc1 (w.heap.size + 1) 0 (by first | omega | (simp; done) | (simp; omega)); (try simp [go_sem, *, -hc1, -hf1] at k1_1_0); have f1_1_0 := hf1 (w.heap.size + 1) 0 (by first | omega | (simp; done) | (simp; omega)); (try simp [go_sem, *, -hc1, -hf1] at f1_1_0); have k1_1_1 := hc1 (w.heap.size + 1) 1 (by first | omega | (simp; done) | (simp; omega)); (try simp [go_sem, *, -hc1, -hf1] at k1_1_1); have f1_1_1 := hf1 (w.heap.size + 1) 1 (by first | omega | (simp; done) | (simp; omega)); (try simp [go_sem, *, -hc1, -hf1] at f1_1_1); clear hc1 hf1))
    refine bodyPost_ret (v := .agg #[.int .i64 0, .int .i64 0]) (by simp [results, Tryd.results33, go_sem, *] <;> rfl) rfl ?_
    exact ⟨by simp [takK, takN, hr], (by repeat' (first | exact Below.refl _ _ | (refine Below.via ?_ (by assumption) ?_) | refine Below.setCell ?_ ?_ _ | refine Below.alloc ?_ ?_ _ | refine Below.drew ?_ | omega | (simp; omega) | (simp; done)))⟩
  · go_enter Tryd.func33, Tryd.ntmps33
    go_wp2_with (go_at_call 12; go_must (refine (right_any _ _ _).mono ?_; rintro e w1 ⟨rfl, hb1⟩; obtain ⟨hc1, hf1⟩ := bcell hb1; have hz1_0 : w.heap.size < w1.heap.size := (by have hq := hb1.size; (try simp at hq); omega); have k1_0_0 := hc1 (w.heap.size) 0 (by first | omega | (simp; done) | (simp; omega)); (try simp [go_sem, *, -hc1, -hf1] at k1_0_0); have f1_0_0 := hf1 (w.heap.size) 0 (by first | omega | (simp; done) | (simp; omega)); (try simp [go_sem, *, -hc1, -hf1] at f1_0_0); have k1_0_1 := hc1 (w.heap.size) 1 (by first | omega | (simp; done) | (simp; omega)); (try simp [go_sem, *, -hc1, -hf1] at k1_0_1); have f1_0_1 := hf1 (w.heap.size) 1 (by first | omega | (simp; done) | (simp; omega)); (try simp [go_sem, *, -hc1, -hf1] at f1_0_1); have hz1_1 : w.heap.size + 1 < w1.heap.size := (by have hq := hb1.size; (try simp at hq); omega); have k1_1_0 := hc1 (w.heap.size + 1) 0 (by first | omega | (simp; done) | (simp; omega)); (try simp [go_sem, *, -hc1, -hf1] at k1_1_0); have f1_1_0 := hf1 (w.heap.size + 1) 0 (by first | omega | (simp; done) | (simp; omega)); (try simp [go_sem, *, -hc1, -hf1] at f1_1_0); have k1_1_1 := hc1 (w.heap.size + 1) 1 (by first | omega | (simp; done) | (simp; omega)); (try simp [go_sem, *, -hc1, -hf1] at k1_1_1); have f1_1_1 := hf1 (w.heap.size + 1) 1 (by first | omega | (simp; done) | (simp; omega)); (try simp [go_sem, *, -hc1, -hf1] at f1_1_1); clear hc1 hf1))
    refine bodyPost_ret (v := .agg #[.int .i64 k, .int .i64 n]) (by simp [results, Tryd.results33, go_sem, *] <;> rfl) rfl ?_
    exact ⟨by simp [takK, takN, hr], (by repeat' (first | exact Below.refl _ _ | (refine Below.via ?_ (by assumption) ?_) | refine Below.setCell ?_ ?_ _ | refine Below.alloc ?_ ?_ _ | refine Below.drew ?_ | omega | (simp; omega) | (simp; done)))⟩
theorem orderedI_any (op a b : Int) (w : World) :
    Calls Tryd.prog 63 #[.int .i64 op, .int .i64 a, .int .i64 b] w fun e w' => e = .returned (.tuple #[.agg #[.int .i64 (orderedI op a b).1, .int .i64 (orderedI op a b).2.1], .int .i64 (orderedI op a b).2.2]) ∧ Below w.heap.size w w' := by
  rcases (by omega : op = 9 ∨ op = 10 ∨ (op ≠ 9 ∧ op ≠ 10)) with rfl | rfl | ⟨h1, h2⟩
  · go_enter Tryd.func63, Tryd.ntmps63
    go_wp2_with (go_at_call 34; go_must (refine (truth_any _ _).mono ?_; rintro e w1 ⟨rfl, hb1⟩; obtain ⟨hc1, hf1⟩ := bcell hb1; have hz1_0 : w.heap.size < w1.heap.size := (by have hq := hb1.size; (try simp at hq); omega); have k1_0_0 := hc1 (w.heap.size) 0 (by first | omega | (simp; done) | (simp; omega)); (try simp [go_sem, *, -hc1, -hf1] at k1_0_0); have f1_0_0 := hf1 (w.heap.size) 0 (by first | omega | (simp; done) | (simp; omega)); (try simp [go_sem, *, -hc1, -hf1] at f1_0_0); have k1_0_1 := hc1 (w.heap.size) 1 (by first | omega | (simp; done) | (simp; omega)); (try simp [go_sem, *, -hc1, -hf1] at k1_0_1); have f1_0_1 := hf1 (w.heap.size) 1 (by first | omega | (simp; done) | (simp; omega)); (try simp [go_sem, *, -hc1, -hf1] at f1_0_1); clear hc1 hf1))
    refine bodyPost_ret (v := .tuple #[.agg #[.int .i64 1, .int .i64 (bit (decide (a < b)))], .int .i64 (-1)]) (by simp [results, Tryd.results63, go_sem, *] <;> rfl) rfl ?_
    exact ⟨by simp [orderedI], (by repeat' (first | exact Below.refl _ _ | (refine Below.via ?_ (by assumption) ?_) | refine Below.setCell ?_ ?_ _ | refine Below.alloc ?_ ?_ _ | refine Below.drew ?_ | omega | (simp; omega) | (simp; done)))⟩
  · go_enter Tryd.func63, Tryd.ntmps63
    go_wp2_with (go_at_call 34; go_must (refine (truth_any _ _).mono ?_; rintro e w1 ⟨rfl, hb1⟩; obtain ⟨hc1, hf1⟩ := bcell hb1; have hz1_0 : w.heap.size < w1.heap.size := (by have hq := hb1.size; (try simp at hq); omega); have k1_0_0 := hc1 (w.heap.size) 0 (by first | omega | (simp; done) | (simp; omega)); (try simp [go_sem, *, -hc1, -hf1] at k1_0_0); have f1_0_0 := hf1 (w.heap.size) 0 (by first | omega | (simp; done) | (simp; omega)); (try simp [go_sem, *, -hc1, -hf1] at f1_0_0); have k1_0_1 := hc1 (w.heap.size) 1 (by first | omega | (simp; done) | (simp; omega)); (try simp [go_sem, *, -hc1, -hf1] at k1_0_1); have f1_0_1 := hf1 (w.heap.size) 1 (by first | omega | (simp; done) | (simp; omega)); (try simp [go_sem, *, -hc1, -hf1] at f1_0_1); clear hc1 hf1))
    refine bodyPost_ret (v := .tuple #[.agg #[.int .i64 1, .int .i64 (bit (decide (a ≤ b)))], .int .i64 (-1)]) (by simp [results, Tryd.results63, go_sem, *] <;> rfl) rfl ?_
    exact ⟨by simp [orderedI], (by repeat' (first | exact Below.refl _ _ | (refine Below.via ?_ (by assumption) ?_) | refine Below.setCell ?_ ?_ _ | refine Below.alloc ?_ ?_ _ | refine Below.drew ?_ | omega | (simp; omega) | (simp; done)))⟩
  · have e1 : (op == 9) = false := by simp [h1]
    have e2 : (op == 10) = false := by simp [h2]
    go_enter Tryd.func63, Tryd.ntmps63
    go_wp2_with (go_at_call 38; go_must (refine (fail_any _ _).mono ?_; rintro e w1 ⟨rfl, hb1⟩; obtain ⟨hc1, hf1⟩ := bcell hb1; have hz1_0 : w.heap.size < w1.heap.size := (by have hq := hb1.size; (try simp at hq); omega); have k1_0_0 := hc1 (w.heap.size) 0 (by first | omega | (simp; done) | (simp; omega)); (try simp [go_sem, *, -hc1, -hf1] at k1_0_0); have f1_0_0 := hf1 (w.heap.size) 0 (by first | omega | (simp; done) | (simp; omega)); (try simp [go_sem, *, -hc1, -hf1] at f1_0_0); have k1_0_1 := hc1 (w.heap.size) 1 (by first | omega | (simp; done) | (simp; omega)); (try simp [go_sem, *, -hc1, -hf1] at k1_0_1); have f1_0_1 := hf1 (w.heap.size) 1 (by first | omega | (simp; done) | (simp; omega)); (try simp [go_sem, *, -hc1, -hf1] at f1_0_1); clear hc1 hf1))
    refine bodyPost_ret (v := .tuple #[.agg #[.int .i64 0, .int .i64 0], .int .i64 0]) (by simp [results, Tryd.results63, go_sem, *] <;> rfl) rfl ?_
    exact ⟨by simp [orderedI, h1, h2], (by repeat' (first | exact Below.refl _ _ | (refine Below.via ?_ (by assumption) ?_) | refine Below.setCell ?_ ?_ _ | refine Below.alloc ?_ ?_ _ | refine Below.drew ?_ | omega | (simp; omega) | (simp; done)))⟩
theorem orderedF_any (op : Int) (a b : Nat) (w : World) :
    Calls Tryd.prog 62 #[.int .i64 op, .float .f64 a, .float .f64 b] w fun e w' => e = .returned (.tuple #[.agg #[.int .i64 (orderedF op a b).1, .int .i64 (orderedF op a b).2.1], .int .i64 (orderedF op a b).2.2]) ∧ Below w.heap.size w w' := by
  rcases (by omega : op = 9 ∨ op = 10 ∨ (op ≠ 9 ∧ op ≠ 10)) with rfl | rfl | ⟨h1, h2⟩
  · go_enter Tryd.func62, Tryd.ntmps62
    go_wp2_with (go_at_call 34; go_must (refine (truth_any _ _).mono ?_; rintro e w1 ⟨rfl, hb1⟩; obtain ⟨hc1, hf1⟩ := bcell hb1; have hz1_0 : w.heap.size < w1.heap.size := (by have hq := hb1.size; (try simp at hq); omega); have k1_0_0 := hc1 (w.heap.size) 0 (by first | omega | (simp; done) | (simp; omega)); (try simp [go_sem, *, -hc1, -hf1] at k1_0_0); have f1_0_0 := hf1 (w.heap.size) 0 (by first | omega | (simp; done) | (simp; omega)); (try simp [go_sem, *, -hc1, -hf1] at f1_0_0); have k1_0_1 := hc1 (w.heap.size) 1 (by first | omega | (simp; done) | (simp; omega)); (try simp [go_sem, *, -hc1, -hf1] at k1_0_1); have f1_0_1 := hf1 (w.heap.size) 1 (by first | omega | (simp; done) | (simp; omega)); (try simp [go_sem, *, -hc1, -hf1] at f1_0_1); clear hc1 hf1))
    refine bodyPost_ret (v := .tuple #[.agg #[.int .i64 1, .int .i64 (bit (less a b))], .int .i64 (-1)]) (by simp [results, Tryd.results62, go_sem, *] <;> rfl) rfl ?_
    exact ⟨by simp [orderedF], (by repeat' (first | exact Below.refl _ _ | (refine Below.via ?_ (by assumption) ?_) | refine Below.setCell ?_ ?_ _ | refine Below.alloc ?_ ?_ _ | refine Below.drew ?_ | omega | (simp; omega) | (simp; done)))⟩
  · go_enter Tryd.func62, Tryd.ntmps62
    go_wp2_with (go_at_call 34; go_must (refine (truth_any _ _).mono ?_; rintro e w1 ⟨rfl, hb1⟩; obtain ⟨hc1, hf1⟩ := bcell hb1; have hz1_0 : w.heap.size < w1.heap.size := (by have hq := hb1.size; (try simp at hq); omega); have k1_0_0 := hc1 (w.heap.size) 0 (by first | omega | (simp; done) | (simp; omega)); (try simp [go_sem, *, -hc1, -hf1] at k1_0_0); have f1_0_0 := hf1 (w.heap.size) 0 (by first | omega | (simp; done) | (simp; omega)); (try simp [go_sem, *, -hc1, -hf1] at f1_0_0); have k1_0_1 := hc1 (w.heap.size) 1 (by first | omega | (simp; done) | (simp; omega)); (try simp [go_sem, *, -hc1, -hf1] at k1_0_1); have f1_0_1 := hf1 (w.heap.size) 1 (by first | omega | (simp; done) | (simp; omega)); (try simp [go_sem, *, -hc1, -hf1] at f1_0_1); clear hc1 hf1))
    refine bodyPost_ret (v := .tuple #[.agg #[.int .i64 1, .int .i64 (bit (less a b || same a b))], .int .i64 (-1)]) (by simp [results, Tryd.results62, go_sem, *] <;> rfl) rfl ?_
    exact ⟨by simp [orderedF], (by repeat' (first | exact Below.refl _ _ | (refine Below.via ?_ (by assumption) ?_) | refine Below.setCell ?_ ?_ _ | refine Below.alloc ?_ ?_ _ | refine Below.drew ?_ | omega | (simp; omega) | (simp; done)))⟩
  · have e1 : (op == 9) = false := by simp [h1]
    have e2 : (op == 10) = false := by simp [h2]
    go_enter Tryd.func62, Tryd.ntmps62
    go_wp2_with (go_at_call 38; go_must (refine (fail_any _ _).mono ?_; rintro e w1 ⟨rfl, hb1⟩; obtain ⟨hc1, hf1⟩ := bcell hb1; have hz1_0 : w.heap.size < w1.heap.size := (by have hq := hb1.size; (try simp at hq); omega); have k1_0_0 := hc1 (w.heap.size) 0 (by first | omega | (simp; done) | (simp; omega)); (try simp [go_sem, *, -hc1, -hf1] at k1_0_0); have f1_0_0 := hf1 (w.heap.size) 0 (by first | omega | (simp; done) | (simp; omega)); (try simp [go_sem, *, -hc1, -hf1] at f1_0_0); have k1_0_1 := hc1 (w.heap.size) 1 (by first | omega | (simp; done) | (simp; omega)); (try simp [go_sem, *, -hc1, -hf1] at k1_0_1); have f1_0_1 := hf1 (w.heap.size) 1 (by first | omega | (simp; done) | (simp; omega)); (try simp [go_sem, *, -hc1, -hf1] at f1_0_1); clear hc1 hf1))
    refine bodyPost_ret (v := .tuple #[.agg #[.int .i64 0, .int .i64 0], .int .i64 0]) (by simp [results, Tryd.results62, go_sem, *] <;> rfl) rfl ?_
    exact ⟨by simp [orderedF, h1, h2], (by repeat' (first | exact Below.refl _ _ | (refine Below.via ?_ (by assumption) ?_) | refine Below.setCell ?_ ?_ _ | refine Below.alloc ?_ ?_ _ | refine Below.drew ?_ | omega | (simp; omega) | (simp; done)))⟩
end Go.Proofs.YtalippdhfkpbmaaDoor
/- Floats, plainly: order, the one NaN, bits there and back. -/
namespace Go.Proofs.YtalippdhfkpbmaaDoor
open Go.RowKit
theorem dbl_sign : Ieee.double.signWeight = 9223372036854775808 := by decide
theorem dbl_bin : Ieee.double.binade = 4503599627370496 := by decide
theorem dbl_inf : Ieee.double.infRung = 9218868437227405312 := by decide
theorem read_nan {b : Nat} (h : 9218868437227405312 < b % 9223372036854775808) : ∃ s f, Ieee.double.read b = .nan s f := by
  unfold Ieee.Format.read
  rw [dbl_sign, dbl_bin, dbl_inf]
  simp only []
  rw [if_neg (by omega), if_neg (by omega), if_neg (by omega)]
  exact ⟨_, _, rfl⟩
theorem order_nan {x y : Nat} (h : 9218868437227405312 < x % 9223372036854775808) : Ieee.double.order x y = none := by
  obtain ⟨s, f, e⟩ := read_nan h
  unfold Ieee.Format.order
  rw [e]
  rfl
theorem same_nan {x y : Nat} (h : 9218868437227405312 < x % 9223372036854775808) : same x y = false := by
  unfold same
  rw [order_nan h]
  rfl
theorem ord_swap (x y : Ieee.Datum) : y.order x = (x.order y).map Ordering.swap := by
  cases x <;> cases y <;> simp only [Ieee.Datum.order, Option.map_none, Option.map_some, Option.some.injEq]
  case number.number s m i t n j =>
    rw [Int.min_comm j i]
    exact (Std.OrientedCmp.eq_swap (cmp := (compare : Int → Int → Ordering)))
  case number.infinity s m i t => cases t <;> rfl
  case infinity.number s t n j => cases s <;> rfl
  case infinity.infinity s t => cases s <;> cases t <;> rfl
theorem order_swap (x y : Nat) : Ieee.double.order y x = (Ieee.double.order x y).map Ordering.swap := ord_swap _ _
theorem same_comm (x y : Nat) : same x y = same y x := by
  unfold same
  rw [order_swap x y]
  cases Ieee.double.order x y with
  | none => rfl
  | some o => cases o <;> rfl
/-- At most one of less, the other way less, same. -/
theorem one_of (x y : Nat) : (bit (less x y) + bit (less y x) + bit (same x y)) ≤ 1 := by
  unfold less same
  rw [order_swap x y]
  cases Ieee.double.order x y with
  | none => decide
  | some o => cases o <;> decide
theorem flt_lt (n : Int) : flt n < 18446744073709551616 := by
  unfold flt
  rw [IntKind.wrap_u64]
  omega
theorem flt_wrap {b : Nat} (h : b < 18446744073709551616) : flt (wrap64 b) = b := by
  unfold flt wrap64
  rw [IntKind.wrap_u64]
  omega
theorem neg_lt {b : Nat} (h : b < 18446744073709551616) : Op.negFloat .f64 b < 18446744073709551616 := by
  unfold Op.negFloat
  exact Nat.xor_lt_two_pow (n := 64) h (by decide)
theorem right_of {b : Nat} (h : b < 18446744073709551616) : rightB 3 (ofN b) = true := by
  unfold ofN
  cases hs : same b b
  · simp [rightB]
  · simp [rightB, flt_wrap h, hs]
theorem add_b {x y r : Nat} (h : Ieee.double.add x y = some r) : r < 18446744073709551616 := Ieee.double.add_lt h
theorem sub_b {x y r : Nat} (h : Ieee.double.sub x y = some r) : r < 18446744073709551616 := Ieee.double.sub_lt h
theorem mul_b {x y r : Nat} (h : Ieee.double.mul x y = some r) : r < 18446744073709551616 := Ieee.double.mul_lt h
theorem div_b {x y r : Nat} (h : Ieee.double.div x y = some r) : r < 18446744073709551616 := Ieee.double.div_lt h
theorem run_float_nan {P : Program} (op : BinOp) (t : TypeId) (x y : Nat) (w : World) (h : floatBits op .f64 x y = none) (ho : op = .add ∨ op = .sub ∨ op = .mul ∨ op = .quo) :
    ∃ b : Nat, same b b = false ∧ (binOp op t (.float .f64 x) (.float .f64 y)).run P w = .ok (.float .f64 b) w.drew := by
  refine ⟨(Question.nanBits .f64 x y).cut (w.tape w.drawn (.nanBits .f64 x y)), ?_, ?_⟩
  · have key : ∀ t : Nat, same ((t % 2) * 2 ^ 63 + 0x7ff0000000000000 + 1 + (t / 2) % (2 ^ 52 - 1)) ((t % 2) * 2 ^ 63 + 0x7ff0000000000000 + 1 + (t / 2) % (2 ^ 52 - 1)) = false := by
      intro t
      apply same_nan
      have h1 : t % 2 < 2 := Nat.mod_lt _ (by decide)
      have h2 : (t / 2) % (2 ^ 52 - 1) < 4503599627370495 := Nat.mod_lt _ (by decide)
      generalize t % 2 = s at h1
      generalize (t / 2) % (2 ^ 52 - 1) = r at h2
      rcases (by omega : s = 0 ∨ s = 1) with rfl | rfl <;> omega
    exact key _
  · unfold floatBits at h
    rcases ho with rfl | rfl | rfl | rfl <;> simp only at h <;> simp [binOp, Op.floatArith, h, choose, Sem.run, Question.forced] <;> rfl
end Go.Proofs.YtalippdhfkpbmaaDoor
