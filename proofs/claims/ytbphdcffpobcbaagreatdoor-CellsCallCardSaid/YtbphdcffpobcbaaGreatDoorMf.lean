/- Several texts in one. -/
import Derived.DeepKeys4
import Derived.Test.YtbphdcffpobcbaaGreatDoorMc
import Derived.Test.YtbphdcffpobcbaaGreatDoorMd
import Derived.Test.YtbphdcffpobcbaaGreatDoorMe
set_option linter.unusedSimpArgs false
set_option linter.unusedVariables false
set_option maxRecDepth 100000
set_option maxHeartbeats 16000000
namespace Go.Proofs.YtbphdcffpobcbaaGreatDoor
section
open Go.RowKit Go
def idxQ {α : Type} [DecidableEq α] (L : List α) (v : α) : Int := match L.findIdx? (fun x => decide (v = x)) with
  | some k => k
  | none => -1
theorem idxQ_at {α : Type} [DecidableEq α] {L : List α} {v : α} {k : Nat} (hk : k < L.length) (h : ∀ j (_ : j < L.length), j < k → v ≠ L[j]) (e : v = L[k]) : idxQ L v = k := by
  unfold idxQ
  rw [List.findIdx?_eq_some_iff_getElem.2 ⟨hk, by simpa using e, fun j hj => by simpa using h j (by omega) hj⟩]
theorem idxQ_no {α : Type} [DecidableEq α] {L : List α} {v : α} (h : ∀ j (_ : j < L.length), v ≠ L[j]) : idxQ L v = -1 := by
  unfold idxQ
  rw [List.findIdx?_eq_none_iff.2 fun x hx => ?_]
  obtain ⟨j, hj, rfl⟩ := List.getElem_of_mem hx
  simpa using h j hj
theorem idxQ_in {α : Type} [DecidableEq α] {L : List α} {v : α} : 0 ≤ idxQ L v ↔ v ∈ L := by
  unfold idxQ
  cases h : L.findIdx? (fun x => decide (v = x)) with
  | none =>
    rw [List.findIdx?_eq_none_iff] at h
    simp only
    refine ⟨fun h0 => by omega, fun hm => ?_⟩
    have := h v hm
    simp at this
  | some k =>
    simp only
    refine ⟨fun _ => ?_, fun _ => by omega⟩
    obtain ⟨hk, h1, -⟩ := List.findIdx?_eq_some_iff_getElem.1 h
    rw [of_decide_eq_true h1]
    exact List.getElem_mem hk
theorem indexS_ok (S : Bool) (L : List ByteArray) (v : ByteArray) {K : D → List Blk → Prop} (h : K (dI (idxQ L v)) []) : DPure Tryz.prog 132 [dL S (L.map (fun b => [eS b])), .one (.d (eS v))] K := by
  refine fn_ok [0,1,4,5,7,8,9,16] [] Tryz.func132 rfl (by kernel_rfl) rfl rfl rfl rfl (by kernel_rfl) ?_
  simp
  intro hl
  refine loop_ok (ks := [0,1,4,5,7,8,9,16]) (pl := []) (n0 := 19) (fun x : {k : Nat // k ≤ L.length ∧ ∀ j (_ : j < L.length), j < k → v ≠ L[j]} => [(8, dI x.1)]) (fun x => L.length - x.1) ⟨0, by simp⟩ rfl (by kernel_rfl) (Wk.sub (by simp)) ?_
  rintro ⟨k, hk, ht⟩
  by_cases h1 : k < L.length
  · simp [h1]
    refine alt (fun hb => ?_) (fun hb => ?_)
    · rw [← idxQ_at h1 ht hb]; exact h
    · refine ⟨k + 1, by omega, ⟨by omega, fun j hj hjk => ?_⟩, Wk.sub (by simp [wrap_add (show k < 9223372036854775807 by omega)])⟩
      by_cases e : j = k
      · subst e; exact hb
      · exact ht j hj (by omega)
  · simp [h1]
    obtain rfl : k = L.length := by omega
    rw [← idxQ_no fun j hj => ht j hj hj]
    exact h
theorem indexI_ok (S : Bool) (L : List Int) (v : Int) {K : D → List Blk → Prop} (h : K (dI (idxQ L v)) []) : DPure Tryz.prog 216 [dL S (L.map (fun b => [eI b])), .one (.d (eI v))] K := by
  refine fn_ok [0,1,4,5,7,8,9,16] [] Tryz.func216 rfl (by kernel_rfl) rfl rfl rfl rfl (by kernel_rfl) ?_
  simp
  intro hl
  refine loop_ok (ks := [0,1,4,5,7,8,9,16]) (pl := []) (n0 := 19) (fun x : {k : Nat // k ≤ L.length ∧ ∀ j (_ : j < L.length), j < k → v ≠ L[j]} => [(8, dI x.1)]) (fun x => L.length - x.1) ⟨0, by simp⟩ rfl (by kernel_rfl) (Wk.sub (by simp)) ?_
  rintro ⟨k, hk, ht⟩
  by_cases h1 : k < L.length
  · simp [h1]
    refine alt (fun hb => ?_) (fun hb => ?_)
    · rw [← idxQ_at h1 ht hb]; exact h
    · refine ⟨k + 1, by omega, ⟨by omega, fun j hj hjk => ?_⟩, Wk.sub (by simp [wrap_add (show k < 9223372036854775807 by omega)])⟩
      by_cases e : j = k
      · subst e; exact hb
      · exact ht j hj (by omega)
  · simp [h1]
    obtain rfl : k = L.length := by omega
    rw [← idxQ_no fun j hj => ht j hj hj]
    exact h
theorem containsI_ok (S : Bool) (L : List Int) (v : Int) {K : D → List Blk → Prop} (h : K (dB (decide (0 ≤ idxQ L v))) []) : DPure Tryz.prog 176 [dL S (L.map (fun b => [eI b])), .one (.d (eI v))] K := by
  refine fn_ok [0,1,4] [] Tryz.func176 rfl (by kernel_rfl) rfl rfl rfl rfl (by kernel_rfl) ?_
  simp
  refine indexI_ok S L v ?_
  simp
  exact h
theorem any_in {L : List Int} {n : Int} {k : Nat} (hk : k < L.length) (hn : n ∉ L.take k) (h : L[k] ≠ n) : n ∉ L.take (k + 1) := by
  rw [List.take_succ_eq_append_getElem hk]
  intro hm
  rcases List.mem_append.1 hm with hm | hm
  · exact hn hm
  · exact h (List.mem_singleton.1 hm).symm
theorem hasInt_ok (S : Bool) (L : List Int) (n : Int) {K : D → List Blk → Prop} (h : K (dB (decide (n ∈ L))) []) : DPure Tryz.prog 50 [dL S (L.map eInt), dI n] K := by
  refine fn_ok [0,1,4,6,7,8,9,10,15] [] Tryz.func50 rfl (by kernel_rfl) rfl rfl rfl rfl (by kernel_rfl) ?_
  simp
  intro _
  refine loop_ok (ks := [0,1,4,6,7,8,9,10,15]) (pl := []) (n0 := 17) (fun x : {k : Nat // k ≤ L.length ∧ n ∉ L.take k} => [(9, dI x.1)]) (fun x => L.length - x.1) ⟨0, by simp⟩ rfl (by kernel_rfl) (Wk.sub (by simp)) ?_
  rintro ⟨k, hk, hn⟩
  by_cases h1 : k < L.length
  · have hs := any_in (n := n) h1 hn
    simp [h1]
    refine alt (fun e => kB h (by simp [← e])) (fun e => ⟨k + 1, by omega, ⟨by omega, hs fun e2 => e (by first | exact e2 | exact e2.symm)⟩, Wk.sub (by simp [wrap_add (show k < 9223372036854775807 by omega)])⟩)
  · obtain rfl : k = L.length := by omega
    rw [List.take_length] at hn
    simp
    exact kB h (by simp [hn])
theorem shapeNames_ok (S : Bool) (L : List Shp) (hl : L.length ≤ 100000) : ∀ (s : Nat), Ahead L s → s < L.length → ∀ {K : D → List Blk → Prop}, K (.one (.own 0 1 (namesP L s).length)) [⟨.c 3, 1, iRows (namesP L s)⟩] → DPure Tryz.prog 33 [dL S (L.map eShape), dI s] K := by
  intro s
  induction s using Nat.strongRecOn with
  | _ s ih =>
  intro ha hs K h
  refine DPure.own 3 1 ?_
  refine fn_ok [0,1,4,6] [(3, [0,0,0,6,14,30,63,0,0,384,896,1920,3968,8191,16383], (.seg 0 (.seg 1 (.seg 2 (.seg 3 (.seg 4 (.seg 5 (.seg 7 (.seg 8 (.seg 9 (.seg 10 (.seg 11 (.fork 6 [9, 10, 11] (.eff 12 [3, 4, 5] (.eff 13 [] (.seg 14 .last))) (.eff 12 [3, 4, 5] (.eff 6 [9, 10, 11] (.eff 13 [] (.seg 14 .last)))))))))))))))))] Tryz.func33 rfl (by kernel_rfl) rfl rfl rfl rfl (by kernel_rfl) ?_
  by_cases h0 : s = 0
  · subst h0
    simp
    exact .inr (by simpa [namesP_zero, iRows] using h)
  · have hu := ha s (by omega) (Nat.le_refl _)
    have hst := namesP_step ha (by omega)
    have hfn : (((fstD L s).toNat : Nat) : Int) = fstD L s := by omega
    have h0' : ¬ (s : Int) ≤ 0 := by omega
    simp [h0, h0', shp_get hs]
    rw [← hfn]
    repeat' (with_reducible constructor)
    all_goals
      refine ih (fstD L s).toNat (by omega) (ha.to (by omega)) (by omega) ?_
      have hlen := namesP_len (ha.to (show (fstD L s).toNat ≤ s by omega))
      simp
      refine ⟨fun a b e hb => ?_, by omega, ?_⟩
      · subst e
        simp at hb
        subst hb
        exact ⟨rfl, rfl⟩
      · rw [List.take_of_length_le (by simp), iRows_app, if_pos iRows_isD, ← hst]
        have : (namesP L (fstD L s).toNat).length + 1 = (namesP L s).length := by rw [hst]; simp
        rw [this]
        exact h
end
section
open Go.RowKit Go Go.Maps
def InI (n : Int) : Prop := -9223372036854775808 ≤ n ∧ n ≤ 9223372036854775807
def InS (p : Shp) : Prop := InI p.1 ∧ InI p.2
theorem wfI {n : Int} (h : InI n) : (Lit.int .i64 n).wf = true := WalkArith.wf_i64 h
theorem sk_laidOut : laidOutB Tryz.prog = true := by kernel_rfl
theorem sk_int : Tryz.prog.underlying 3 = some (.int .i64) := by kernel_rfl
theorem sk_wide : (match Tryz.prog.underlying 118 with | some (.array _ _) | some (.struct _) => true | _ => false) = true := by
  rw [Tryz.underlying118]
theorem sk_key2 : Tryz.prog.keyTypeAt 2 118 = true := by kernel_rfl
theorem sk_law : Go.WideMaps.KeyLaw Tryz.prog 118 := deep_law_laid sk_laidOut (m := 2) (by omega) (of_decide_eq_true (by kernel_rfl)) sk_key2 sk_wide
theorem sk_keyed : Keyed Tryz.prog 118 := Keyed.of_law sk_law
def kl (p : Shp) : Lit := .string (keyBytes [.int .i64 p.1, .int .i64 p.2])
theorem sk_kt : Tryz.prog.keyType 118 = true := by kernel_rfl
theorem sk_c2 : Tryz.prog.cellsOf 118 = 2 := by kernel_rfl
theorem sk_c1 : Tryz.prog.cellsOf 3 = 1 := by kernel_rfl
theorem sk_key {p : Shp} (h : InS p) : keyOf Tryz.prog 118 (.agg #[.int .i64 p.1, .int .i64 p.2]) = some (kl p) := by
  unfold keyOf
  simp only [Tryz.underlying118]
  rw [if_pos (by simp [sk_kt, Value.formed, Tryz.underlying118, sk_c2]), show Tryz.prog.types.size = (Tryz.prog.types.size - 1) + 1 from by kernel_rfl]
  unfold Program.keyLits
  simp only [Tryz.underlying118, Value.cells]
  rw [if_pos ⟨by rw [sk_c2]; rfl, by simp⟩]
  have hk : ∀ (d : Nat) (n : Int), InI n → Tryz.prog.keyLits (d + 1) 3 [.int .i64 n] = some [.int .i64 n] := fun d n hn => by
    unfold Program.keyLits
    simp only [sk_int, wfI hn, and_self, if_true]
  have hs : ∃ d, Tryz.prog.types.size - 1 = d + 1 := ⟨Tryz.prog.types.size - 2, by kernel_rfl⟩
  obtain ⟨d, hd⟩ := hs
  simp only [hd, List.mapM_cons, List.mapM_nil, sk_c1, List.drop, List.take]
  rw [hk (d + 1) p.1 h.1, hk (d + 1) p.2 h.2]
  rfl
theorem keyin_shape {p : Shp} (h : InS p) : KeyIn 118 (.agg #[.int .i64 p.1, .int .i64 p.2]) := ⟨_, sk_key h⟩
attribute [simp] sk_keyed
end
section
open Go.RowKit Go
attribute [simp] sk_keyed
structure KC where
  k : Nat
  nx : Nat
def shV (p : Shp) : Value := .agg #[.int .i64 p.1, .int .i64 p.2]
open Classical in
noncomputable def seenS (L : List Shp) (k : Nat) : Value → Int := fun v => if v ∈ (L.take k).map shV then 1 else 0
theorem seenS_zero (L : List Shp) : seenS L 0 = fun _ => 0 := by funext v; simp [seenS]
@[simp] theorem iRows_takeL (L : List Int) : (iRows L).take L.length = iRows L := List.take_of_length_le (by simp)
@[simp] theorem iRows_allD (L : List Int) : (∀ e ∈ iRows L, ∀ c ∈ e, c.isD = true) ↔ True := ⟨fun _ => trivial, fun _ => iRows_isD⟩
@[simp] theorem iRows_dt (L : List Int) : (iRows L).map (fun e => e.map C.dt) = L.map fun b => [eI b] := by simp [iRows]
theorem shV_inj {p q : Shp} (h : shV p = shV q) : p = q := by
  obtain ⟨a, b⟩ := p
  obtain ⟨c, d⟩ := q
  simpa [shV] using h
theorem seenS_get (L : List Shp) (k : Nat) {p : Shp} : seenS L k (shV p) = 1 ↔ p ∈ L.take k := by
  unfold seenS
  have e : shV p ∈ (L.take k).map shV ↔ p ∈ L.take k := by
    rw [List.mem_map]
    exact ⟨fun ⟨x, hx, e⟩ => by rw [← shV_inj e]; exact hx, fun h => ⟨_, h, rfl⟩⟩
  by_cases h : p ∈ L.take k
  · rw [if_pos (e.2 h)]; simp [h]
  · rw [if_neg (fun h' => h (e.1 h'))]; simp [h]
theorem seenS_next (L : List Shp) {k : Nat} (hk : k < L.length) : (fun v => if v = shV L[k] then 1 else seenS L k v) = seenS L (k + 1) := by
  funext v
  unfold seenS
  have e : (L.take (k + 1)).map shV = (L.take k).map shV ++ [shV L[k]] := by rw [List.take_succ_eq_append_getElem hk, List.map_append]; rfl
  rw [e]
  by_cases h : v = shV L[k]
  · rw [if_pos h, if_pos (by rw [h]; simp)]
  · rw [if_neg h]
    by_cases h2 : v ∈ (L.take k).map shV
    · rw [if_pos h2, if_pos (List.mem_append_left _ h2)]
    · rw [if_neg h2, if_neg (fun hm => by
        rcases List.mem_append.1 hm with hm | hm
        · exact h2 hm
        · exact h (List.mem_singleton.1 hm))]
theorem shapeCheck_ok (S : Bool) (L : List Shp) (hin : ∀ x ∈ L, InS x) {K : D → List Blk → Prop} (h : K (dI (faultP L)) []) : DPure Tryz.prog 115 [dL S (L.map eShape)] K := by
  refine fn_ok [0,2,3,4,5,8,18,21,22,23,24,56] [(9, [0,1,3,7,15,31,15,127,255,511,1023,2047,4095,8191,16383,32767,32767,131071,262143,524287,1048575,2097151,2097151,6291455,16777215,2097151,35651583,134217727,268435455], (.seg 0 (.seg 1 (.seg 2 (.seg 3 (.seg 4 (.seg 5 (.seg 6 (.seg 7 (.seg 8 (.seg 9 (.seg 10 (.seg 11 (.seg 12 (.seg 13 (.seg 14 (.seg 15 (.seg 16 (.seg 17 (.seg 18 (.seg 19 (.seg 20 (.seg 21 (.seg 22 (.seg 23 (.seg 25 (.seg 26 (.eff 24 [25, 26] (.eff 27 [] (.seg 28 .last))))))))))))))))))))))))))))))] Tryz.func115 rfl (by kernel_rfl) rfl rfl rfl rfl (by kernel_rfl) ?_
  cases L with
  | nil =>
    have : faultP [] = 3 := fault_bad (by simp) fun h => by have := h.1; simp at this
    rw [this] at h
    simp
    exact h
  | cons x L =>
  by_cases h1 : 100 < L.length + 1
  · have : faultP (x :: L) = 2 := by unfold faultP; rw [if_pos (by simpa using h1)]
    rw [this] at h
    simp
    intro _
    rw [if_pos (by omega)]
    exact h
  simp
  intro _
  rw [if_neg (by omega)]
  intro _
  rw [if_neg (by omega)]
  refine alt (fun c => ?_) (fun c => ?_)
  · have : faultP (x :: L) = 3 := fault_bad (by simp; omega) fun h => by
      have h2 : x = (-1, -1) := h.2.1
      rw [h2] at c
      simp at c
    rw [this] at h
    exact h
  refine ⟨by omega, fun a b d _ e => by rw [← e]; rfl, fun _ => ?_⟩
  have hroot : (x :: L).getD 0 (0, 0) = (-1, -1) := by
    obtain ⟨a, b⟩ := x
    simp at c
    show (a, b) = (-1, -1)
    rw [Prod.mk.injEq]; omega
  refine loopH_ok (ks := [0,2,3,4,5,8,18,21,22,23,24,56]) (pl := [(9, [0,1,3,7,15,31,15,127,255,511,1023,2047,4095,8191,16383,32767,32767,131071,262143,524287,1048575,2097151,2097151,6291455,16777215,2097151,35651583,134217727,268435455], (.seg 0 (.seg 1 (.seg 2 (.seg 3 (.seg 4 (.seg 5 (.seg 6 (.seg 7 (.seg 8 (.seg 9 (.seg 10 (.seg 11 (.seg 12 (.seg 13 (.seg 14 (.seg 15 (.seg 16 (.seg 17 (.seg 18 (.seg 19 (.seg 20 (.seg 21 (.seg 22 (.seg 23 (.seg 25 (.seg 26 (.eff 24 [25, 26] (.eff 27 [] (.seg 28 .last))))))))))))))))))))))))))))))]) (n0 := 60) (α := {x' : KC // x'.k ≤ L.length ∧ okTo (x :: L) (x'.k + 1)}) (fun y => [(23, dI y.1.k)]) (fun _ y => Hp.none.set 0 (some ⟨.m 118 (seenS L y.1.k) y.1.k, 0, []⟩)) (fun y => y.1.nx + 1) (fun y => L.length - y.1.k) ⟨⟨0, 0⟩, Nat.zero_le _, fun j h0 h1 => by simp at h1; omega⟩ rfl (by kernel_rfl) (Wk.subH (by simp) (by rw [← seenS_zero L])) ?_
  rintro ⟨⟨k, nx⟩, hk, ho⟩
  simp only at hk ho
  by_cases h3 : k < L.length
  · have hs : L[k] = (fstD (x :: L) (k + 1), sndD (x :: L) (k + 1)) := by
      simp [fstD, sndD, List.getD_eq_getElem?_getD, List.getElem?_eq_getElem h3]
    have bad : ¬ fits (x :: L) (k + 1) → K (dI 3) [] := fun hn => by
      have : faultP (x :: L) = 3 := fault_fit (by simp; omega) (by omega) (by simp; omega) hn
      rw [this] at h; exact h
    have hInS := hin _ (List.mem_cons_of_mem _ (List.getElem_mem h3))
    generalize hu : fstD (x :: L) (k + 1) = u at *
    generalize hv : sndD (x :: L) (k + 1) = v at *
    by_cases a1 : u < 0
    · simp [h3, hs, a1]
      exact bad fun hf => by have := hf.1; omega
    by_cases a2 : (k : Int) < u
    · simp [h3, hs, a1, a2]
      exact bad fun hf => by have := hf.2.1; omega
    by_cases a3 : v < 0
    · simp [h3, hs, a1, a2, a3]
      exact bad fun hf => by have := hf.2.2.1; omega
    have hk3 := keyin_shape (p := (u, v)) (by rw [hs] at hInS; exact hInS)
    simp at hk3
    obtain ⟨t, rfl⟩ : ∃ t : Nat, u = t := ⟨u.toNat, by omega⟩
    have hP : (v ∈ namesP (x :: L) t) = (v ∈ namesP (x :: L) (fstD (x :: L) (k + 1)).toNat) := by rw [hu]; rfl
    have hlen := namesP_len (ho.ahead (show t < k + 1 by omega))
    have hsv := seenS_get L k (p := ((t : Int), v))
    have hsn := seenS_next L h3
    rw [hs] at hsn
    simp [h3, hs, a1, a2, a3, hk3]
    refine alt (fun c4 => ?_) (fun c4 => ?_)
    · refine bad fun hf => ?_
      have h5 := fits_seen (L := x :: L) (by simp) hf
      rw [hu, hv] at h5
      exact h5 (hsv.1 c4)
    refine names1_ok S (x :: L) t (ho.ahead (by omega)) (by simp; omega) (by simp; omega) ?_
    simp
    refine containsI_ok false (namesP (x :: L) t) v ?_
    simp
    refine alt (fun c5 => bad fun hf => ?_) (fun c5 => ?_)
    · have h5 := hf.2.2.2.1
      rw [hu, hv] at h5
      exact h5 (idxQ_in.1 c5)
    · rw [idxQ_in, hP] at c5
      have hfit : fits (x :: L) (k + 1) := fits_mk (by simp) (by rw [fstD, hroot]) (by omega) (by omega) (by omega) (by rw [hu, hv]; exact fun hm => c4 (hsv.2 hm)) (by rw [hv]; exact c5)
      exact ⟨hk3, by kernel_rfl, by omega, ⟨k + 1, nx + 2⟩, by simp; omega, ⟨by simp; omega, ho.step hfit⟩, Wk.sub1 (by simp [wrap_add (show k < 9223372036854775807 by omega)]) (by simp [← hsn, shV]; congr)⟩
  · obtain rfl : k = L.length := by omega
    have : faultP (x :: L) = 0 := fault_ok (by simp; omega) ⟨by simp, hroot, by simpa using ho⟩
    rw [this] at h
    simp
    exact h
theorem celAll1_ok (s : GState) (v : GVal) {K : D → List Blk → Prop} (h : K (dB (!fitsB s v)) []) : DPure Tryz.prog 129 [aD (eVal v), .one (.d (.at_ true [.at_ true (eState s)]))] K := by
  refine fn_ok [0,1,2,3] [] Tryz.func129 rfl (by kernel_rfl) rfl rfl rfl rfl (by kernel_rfl) ?_
  simp
  refine fits_ok true s v ?_
  simp
  exact h
theorem celAll_ok (S : Bool) (s : GState) (l : List GVal) {K : D → List Blk → Prop} (h : K (dB (l.all (fitsB s))) []) : DPure Tryz.prog 62 [pS true s, dL S (l.map eVal)] K := by
  refine fn_ok [0,1,2,4] [] Tryz.func62 rfl (by kernel_rfl) rfl rfl rfl rfl (by kernel_rfl) ?_
  simp
  refine containsFV_ok S l eVal (fun v => aD (eVal v)) (fun v => !fitsB s v) 129 (fun _ => by simp) rfl [] [.at_ true [.at_ true (eState s)]] (fun x => ⟨_, _, rfl, rfl⟩) (fun x _ K hK => celAll1_ok s x hK) ?_
  have e : l.all (fitsB s) = !l.any fun v => !fitsB s v := by simp [List.all_eq_not_any_not]
  rw [e] at h
  generalize (l.any fun v => !fitsB s v) = b at h ⊢
  simp
  exact h
theorem is_names {s : GState} {v : GVal} {kind : Int} (hk : kind ≠ 0) : namesB s v kind = (fitsB s v && decide (v.kind = 5) && decide ((cellAt s v.n).kind = kind)) := by
  rw [Bool.eq_iff_iff]
  obtain ⟨k, n⟩ := v
  by_cases e : k = 5
  · subst e
    simp [namesB, fitsB, rightB]
    exact fun c _ _ => by rw [c]; exact hk
  · simp [namesB, e]
theorem celIs_ok (S : Bool) (s : GState) (v : GVal) (kind : Int) (hk : kind ≠ 0) {K : D → List Blk → Prop} (h : K (dB (namesB s v kind)) []) : DPure Tryz.prog 128 [pS S s, aD (eVal v), dI kind] K := by
  rw [is_names hk] at h
  refine fn_ok [0,1,2,4,6] [(1, [0,0,3,7,15,31,63,127,255,511,1023,2047,4095,511,8703,32767,65535,131071,511,524287,1048575,2097151], (.seg 0 (.seg 1 (.eff 2 [] (.seg 3 (.seg 4 (.seg 5 (.seg 6 (.seg 7 (.seg 8 (.seg 9 (.seg 10 (.seg 11 (.seg 12 (.seg 13 (.seg 14 (.seg 15 (.seg 16 (.seg 17 (.seg 18 (.seg 19 (.seg 20 (.seg 21 .last)))))))))))))))))))))))] Tryz.func128 rfl (by kernel_rfl) rfl rfl rfl rfl (by kernel_rfl) ?_
  simp
  refine fits_ok S s v ?_
  cases hf : fitsB s v with
  | false =>
    simp
    exact kB h (by rw [hf]; rfl)
  | true =>
    rw [hf] at h
    by_cases e : v.kind = 5
    · have hr : rightB v.kind v.n = true := by simp only [fitsB, Bool.and_eq_true] at hf; exact hf.1
      have h0 := right_nonneg hr e
      have h1 : v.n < s.cells.length := by
        simp only [fitsB, Bool.and_eq_true] at hf
        have := hf.2
        rw [if_neg (by omega), if_pos e] at this
        simp at this; exact this.1
      simp [e, h0, h1, cell_get h0 h1]
      exact kB h (by simp [e, cellAt_eq h0 h1])
    · simp [e]
      exact kB h (by simp [e])
theorem celCell1_ok (s : GState) (v : GVal) {K : D → List Blk → Prop} (h : K (dB (!namesB s v 3)) []) : DPure Tryz.prog 181 [aD (eVal v), .one (.d (.at_ true [.at_ true (eState s)]))] K := by
  refine fn_ok [0,1,2,3] [] Tryz.func181 rfl (by kernel_rfl) rfl rfl rfl rfl (by kernel_rfl) ?_
  simp
  refine celIs_ok true s v 3 (by decide) ?_
  simp
  exact h
theorem celCell2_ok (s : GState) (f : GFrame) {K : D → List Blk → Prop} (h : K (dB (!frameFits s f)) []) : DPure Tryz.prog 184 [aD (eFrame f), .one (.d (.at_ true [.at_ true (eState s)]))] K := by
  refine fn_ok [0,1,2,3] [] Tryz.func184 rfl (by kernel_rfl) rfl rfl rfl rfl (by kernel_rfl) ?_
  simp
  refine celAll_ok true s f.regs ?_
  cases h1 : f.regs.all (fitsB s) with
  | false =>
    simp
    exact kB h (by simp [frameFits, h1])
  | true =>
    simp
    refine fits_ok true s f.self ?_
    simp
    exact kB h (by simp [frameFits, h1])

theorem fresh_lt {H : Hp} {nx n : Nat} {x : Blk} (hf : ∀ i, nx ≤ i → H i = none) (h : H n = some x) : n < nx := by
  by_cases hl : n < nx
  · exact hl
  · rw [hf n (by omega)] at h; cases h
theorem Wk.back {n nx nx' : Nat} {tm tm' : List (Nat × D)} {H H' : Hp} (hf : ∀ i, nx ≤ i → H i = none) (h : ∀ i, i < nx → H' i = H i) (ht : keepT tm (tm'.map (·.1)) = tm') : Wk ⟨n, tm, H', nx'⟩ ⟨n, tm', H, nx'⟩ :=
  (Wk.sub ht).trans (Wk.heap fun i y hy => by rw [h i (Nat.lt_of_not_le fun hl => by rw [hf i hl] at hy; cases hy)]; exact hy)



structure KL where
  k : Nat
  nx : Nat


structure KR where
  k : Nat
  nx : Nat
def CsS (H : Hp) (N : Nat → Prop) : List C → List Dt → Prop
  | [], [] => True
  | c :: cs, d :: ds => Shw H N c d ∧ CsS H N cs ds
  | _, _ => False
def RsS (H : Hp) (N : Nat → Prop) : List (List C) → List (List Dt) → Prop
  | [], [] => True
  | c :: cs, d :: ds => CsS H N c d ∧ RsS H N cs ds
  | _, _ => False
theorem CsS.get {H : Hp} {N : Nat → Prop} : ∀ {cs : List C} {ds : List Dt}, CsS H N cs ds → cs.length = ds.length ∧ ∀ (j : Nat) d, ds[j]? = some d → ∃ c, cs[j]? = some c ∧ Shw H N c d
  | [], [], _ => ⟨rfl, fun j d h => by simp at h⟩
  | c :: cs, e :: ds, h => by
    have ih := CsS.get h.2
    refine ⟨by simp [ih.1], fun j d hd => ?_⟩
    cases j with
    | zero => simp at hd; subst hd; exact ⟨c, rfl, h.1⟩
    | succ j => obtain ⟨c', g1, g2⟩ := ih.2 j d (by simpa using hd); exact ⟨c', by simpa using g1, g2⟩
  | [], _ :: _, h => h.elim
  | _ :: _, [], h => h.elim
theorem RsS.get {H : Hp} {N : Nat → Prop} : ∀ {cs : List (List C)} {ds : List (List Dt)}, RsS H N cs ds → cs.length = ds.length ∧ ∀ (j : Nat) d, ds[j]? = some d → ∃ c, cs[j]? = some c ∧ CsS H N c d
  | [], [], _ => ⟨rfl, fun j d h => by simp at h⟩
  | c :: cs, e :: ds, h => by
    have ih := RsS.get h.2
    refine ⟨by simp [ih.1], fun j d hd => ?_⟩
    cases j with
    | zero => simp at hd; subst hd; exact ⟨c, rfl, h.1⟩
    | succ j => obtain ⟨c', g1, g2⟩ := ih.2 j d (by simpa using hd); exact ⟨c', by simpa using g1, g2⟩
  | [], _ :: _, h => h.elim
  | _ :: _, [], h => h.elim
theorem Shw.rows {H : Hp} {N : Nat → Prop} {n k l : Nat} {t : BT} {rs : List (List C)} {es : List (List Dt)} (hn : N n) (hx : H n = some ⟨t, k, rs⟩) (hl : es.length = l) (hk : ∀ e ∈ es, e.length = k) (hr : RsS H N rs es) : Shw H N (.own n k l) (.sl true es) := by
  obtain ⟨g1, g2⟩ := RsS.get hr
  have key : ∀ i j d, nth2 es i j = some d → ∃ c, nth2 rs i j = some c ∧ Shw H N c d := fun i j d hd => by
    unfold nth2 at hd ⊢
    cases he : es[i]? with
    | none => simp [he] at hd
    | some e =>
      simp only [he, Option.bind_some] at hd
      obtain ⟨c, h1, h2⟩ := g2 i e he
      obtain ⟨c', h3, h4⟩ := (CsS.get h2).2 j d hd
      exact ⟨c', by simp [h1, h3], h4⟩
  refine Shw.own (x := ⟨t, k, rs⟩) (fun i j => (nth2 rs i j).getD .any) hn hx rfl hl (by show l ≤ rs.length; omega) hk (fun i j d hd => ?_) (fun i j d hd => ?_)
  · obtain ⟨c, h1, h2⟩ := key i j d hd; rw [h1]; rfl
  · obtain ⟨c, h1, h2⟩ := key i j d hd; rw [h1]; exact h2
theorem CsRel.refl {H : Hp} {N : Nat → Prop} : ∀ l : List C, CsRel H N l l
  | [] => trivial
  | _ :: l => ⟨.inl rfl, CsRel.refl l⟩
theorem DRel.refl {H : Hp} {N : Nat → Prop} : ∀ d : D, DRel H N d d
  | .top => trivial
  | .one _ => .inl rfl
  | .agg l => CsRel.refl l
  | .tup _ => rfl
theorem CsRel.get {H : Hp} {N : Nat → Prop} : ∀ {cs cs' : List C}, CsRel H N cs cs' → ∀ (j : Nat) c', cs'[j]? = some c' → ∃ c, cs[j]? = some c ∧ CRel H N c c'
  | [], [], _, j, c', hc => by simp at hc
  | [], _ :: _, h, _, _, _ => h.elim
  | _ :: _, [], h, _, _, _ => h.elim
  | c :: cs, d :: ds, h, 0, c', hc => by simp at hc; subst hc; exact ⟨c, rfl, h.1⟩
  | c :: cs, d :: ds, h, j + 1, c', hc => CsRel.get h.2 j c' (by simpa using hc)
theorem Wk.row1 {n nx : Nat} {tm tm' : List (Nat × D)} {H : Hp} {m k : Nat} {t : BT} {cs cs' : List C} (hm : H m = some ⟨t, k, [cs]⟩) (hk : cs'.length = k) (hr : CsRel H (fun i => i ≠ m) cs cs') (ht : keepT tm (tm'.map (·.1)) = tm') : Wk ⟨n, tm, H, nx⟩ ⟨n, tm', Hp.none.set m (some ⟨t, k, [cs']⟩), nx⟩ := by
  refine (Wk.sub ht).trans (Wk.deep (fun i => i ≠ m) (fun t => DRel.refl _) fun i y hy => ?_)
  by_cases e : i = m
  · subst e
    simp at hy
    subst hy
    refine ⟨by simp, _, hm, ⟨rfl, rfl, by simp, by simpa using hk, fun i j c' hc => ?_⟩⟩
    cases i with
    | succ i => simp [nth2] at hc
    | zero =>
      have hc : cs'[j]? = some c' := by simpa [nth2] using hc
      obtain ⟨c, h1, h2⟩ := CsRel.get hr j c' hc
      exact ⟨c, by simpa [nth2] using h1, h2⟩
  · simp [Hp.set, e, Hp.none] at hy
def TRel (H : Hp) (N : Nat → Prop) : List (Nat × D) → List (Nat × D) → Prop
  | [], [] => True
  | x :: l, y :: m => x.1 = y.1 ∧ DRel H N x.2 y.2 ∧ TRel H N l m
  | _, _ => False
theorem TRel.lk {H : Hp} {N : Nat → Prop} : ∀ {l m : List (Nat × D)}, TRel H N l m → ∀ t, DRel H N (Go.Proofs.YtbphdcffpobcbaaGreatDoor.lk l t) (Go.Proofs.YtbphdcffpobcbaaGreatDoor.lk m t)
  | [], [], _, _ => trivial
  | x :: l, y :: m, h, t => by
    simp only [Go.Proofs.YtbphdcffpobcbaaGreatDoor.lk]
    rw [h.1]
    split
    · exact h.2.1
    · exact TRel.lk h.2.2 t
  | [], _ :: _, h, _ => h.elim
  | _ :: _, [], h, _ => h.elim
def BOk (H : Hp) (N : Nat → Prop) (x y : Blk) : Prop := x.t = y.t ∧ x.k = y.k ∧ x.es.length = y.es.length ∧ (∀ e ∈ y.es, e.length = y.k) ∧ ∀ (i : Nat) (e' : List C), y.es[i]? = some e' → ∃ e, x.es[i]? = some e ∧ CsRel H N e e'
theorem BOk.rel {H : Hp} {N : Nat → Prop} {x y : Blk} (h : BOk H N x y) : BRel H N x y := by
  obtain ⟨h1, h2, h3, h4, h5⟩ := h
  refine ⟨h1, h2, by omega, h4, fun i j c' hc => ?_⟩
  unfold nth2 at hc ⊢
  cases he : y.es[i]? with
  | none => simp [he] at hc
  | some e' =>
    simp only [he, Option.bind_some] at hc
    obtain ⟨e, g1, g2⟩ := h5 i e' he
    obtain ⟨c, g3, g4⟩ := CsRel.get g2 j c' hc
    exact ⟨c, by simp [g1, g3], g4⟩
theorem BOk.refl {H : Hp} {N : Nat → Prop} {x : Blk} (h : ∀ e ∈ x.es, e.length = x.k) : BOk H N x x := ⟨rfl, rfl, rfl, h, fun _ e' h' => ⟨e', h', CsRel.refl _⟩⟩
theorem BOk.one {H : Hp} {N : Nat → Prop} {t : BT} {k : Nat} {cs cs' : List C} (h : CsRel H N cs cs') (hk : cs'.length = k) : BOk H N ⟨t, k, [cs]⟩ ⟨t, k, [cs']⟩ := by
  refine ⟨rfl, rfl, rfl, by simpa using hk, fun i e' h' => ?_⟩
  cases i with
  | zero => simp at h'; subst h'; exact ⟨cs, rfl, h⟩
  | succ i => simp at h'
noncomputable def seenW (l : List GVal) (j : Nat) : Value → Int := fun v => if v ∈ (List.range j).map (fun i => Value.int .i64 (valAt l (2 * i)).n) then 1 else 0
theorem seenW_zero (l : List GVal) : seenW l 0 = fun _ => 0 := by funext v; simp [seenW]
theorem seenW_next (l : List GVal) (j : Nat) : (fun v => if v = Value.int .i64 (valAt l (2 * j)).n then 1 else seenW l j v) = seenW l (j + 1) := by
  funext v
  unfold seenW
  rw [List.range_succ, List.map_append]
  by_cases h : v = Value.int .i64 (valAt l (2 * j)).n
  · rw [if_pos h, if_pos (by rw [h]; simp)]
  · rw [if_neg h]
    by_cases h2 : v ∈ (List.range j).map (fun i => Value.int .i64 (valAt l (2 * i)).n)
    · rw [if_pos h2, if_pos (List.mem_append_left _ h2)]
    · rw [if_neg h2, if_neg (fun hm => by
        rcases List.mem_append.1 hm with hm | hm
        · exact h2 hm
        · exact h (by simpa using hm))]
theorem seenW_get (l : List GVal) (j : Nat) (n : Int) : seenW l j (.int .i64 n) = 1 ↔ ∃ i < j, (valAt l (2 * i)).n = n := by
  unfold seenW
  have e : Value.int .i64 n ∈ (List.range j).map (fun i => Value.int .i64 (valAt l (2 * i)).n) ↔ ∃ i < j, (valAt l (2 * i)).n = n := by
    simp
  by_cases h : ∃ i < j, (valAt l (2 * i)).n = n
  · rw [if_pos (e.2 h)]; simp [h]
  · rw [if_neg (fun h' => h (e.1 h'))]; simp only [h, iff_false]; decide
theorem keyB_iff {l : List GVal} {j : Nat} : keyB l j = true ↔ (valAt l (2 * j)).kind = 5 ∧ ¬ ∃ i < j, (valAt l (2 * i)).n = (valAt l (2 * j)).n := by
  simp [keyB]
theorem wrap_add2 {n : Nat} (h : n < 100000000) : IntKind.i64.wrap ((n : Int) + 2) = ((n : Int) + 2) := wrap_id (by omega) (by omega)
structure KW where
  j : Nat
  k : Nat
theorem celWeak_ok (S : Bool) (st : D) (l : List GVal) (hin : ∀ v ∈ l, InI v.n) (hl : l.length ≤ 100000) {K : D → List Blk → Prop} (h : K (dB (weakB l)) []) : DPure Tryz.prog 182 [st, dL S (l.map eVal)] K := by
  refine fn_ok [1,4,5,6,11,29] [] Tryz.func182 rfl (by kernel_rfl) rfl rfl rfl rfl (by kernel_rfl) ?_
  simp
  refine loopH_ok (ks := [1,4,5,6,11,29]) (pl := []) (n0 := 40) (α := {x : KW // x.k = 2 * x.j ∧ x.k ≤ l.length + 1 ∧ ∀ i < x.j, keyB l i = true}) (fun x => [(6, dI x.1.k)]) (fun H x => H.set 0 (some ⟨.m 3 (seenW l x.1.j) x.1.j, 0, []⟩)) (fun _ => 1) (fun x => l.length + 1 - x.1.k) ⟨⟨0, 0⟩, rfl, by simp⟩ rfl (by kernel_rfl) (Wk.subH (by simp) (by rw [Hp.set_set, seenW_zero])) ?_
  rintro ⟨⟨j, k⟩, hkj, hj, hk⟩
  simp only at hkj hj hk
  by_cases h3 : k < l.length
  · have hv : l[k] = valAt l k := by simp [valAt, List.getD_eq_getElem?_getD, List.getElem?_eq_getElem h3]
    have hI := hin _ (List.getElem_mem h3)
    rw [hv] at hI
    have hkb : keyB l j = true ↔ (valAt l k).kind = 5 ∧ ¬ ∃ i < j, (valAt l (2 * i)).n = (valAt l k).n := by rw [hkj]; exact keyB_iff
    have hsg := seenW_get l j (valAt l k).n
    have hsn := seenW_next l j
    rw [← hkj] at hsn
    generalize valAt l k = v at *
    obtain ⟨vk, vn⟩ := v
    simp only at hI hkb hsg hsn
    have hbad : keyB l j = false → K (dB false) [] := fun e => kB h (by
      unfold weakB
      rw [Bool.and_eq_false_iff]
      exact .inr (by rw [List.all_eq_false]; exact ⟨j, List.mem_range.2 (by omega), by rw [e]; simp⟩))
    by_cases e5 : vk = 5
    · simp [h3, hv, e5, keyin3 hI]
      intro _
      refine alt (fun c => hbad ?_) (fun c => ?_)
      · cases hq : keyB l j with
        | false => rfl
        | true => exact absurd (hsg.1 c) (hkb.1 hq).2
      · have hq : keyB l j = true := hkb.2 ⟨e5, fun e => c (hsg.2 e)⟩
        refine ⟨by kernel_rfl, by omega, ⟨j + 1, k + 2⟩, by simp; omega, ⟨by simp; omega, by simp; omega, fun i hi => ?_⟩, Wk.subH (by simp; exact wrap_add2 (by omega)) (by simp [← hsn])⟩
        by_cases e : i = j
        · rw [e]; exact hq
        · exact hk i (by simp at hi; omega)
    · simp [h3, hv, e5]
      intro _
      exact hbad (by
        cases hq : keyB l j with
        | false => rfl
        | true => exact absurd (hkb.1 hq).1 e5)
  · simp [h3]
    intro _
    have hm : ((l.length : Int).tmod 2 = 0) ↔ l.length % 2 = 0 := by
      rw [Int.tmod_eq_emod_of_nonneg (by omega)]; omega
    refine kB h ?_
    unfold weakB
    rw [Bool.eq_iff_iff, Bool.and_eq_true, decide_eq_true_eq, decide_eq_true_eq, hm, List.all_eq_true]
    exact ⟨fun e => e.1, fun e => ⟨e, fun i hi => hk i (by have := List.mem_range.1 hi; omega)⟩⟩
end
end Go.Proofs.YtbphdcffpobcbaaGreatDoor
