/- Several texts in one. -/
import Derived.Test.YtnkndnbepdadhaaGreatDoorNn
set_option linter.unusedSimpArgs false
set_option linter.unusedVariables false
set_option maxRecDepth 100000
set_option maxHeartbeats 16000000
namespace Go.Proofs.YtnkndnbepdadhaaGreatDoor
open Go.RowKit Go
def bareR (c : GCell) : List C := if c.kind = 7 then [.d (eI c.kind), .d (eI c.num), .d .emp, .d (.sl true (c.frames.map eFrame))] else (eCell c).map .d
def bareK (s : GState) (k : Nat) : List (List C) := s.cells.mapIdx fun i c => if i < k then bareR c else (eCell c).map .d
theorem bareK_zero (s : GState) : bareK s 0 = s.cells.map fun c => (eCell c).map .d := by
  unfold bareK
  exact List.ext_getElem (by simp) fun n h1 h2 => by simp
theorem bareK_all (s : GState) : bareK s s.cells.length = s.cells.map bareR := by
  unfold bareK
  exact List.ext_getElem (by simp) fun n h1 h2 => by
    simp at h1
    simp [h1]
theorem bareK_len (s : GState) (k : Nat) : (bareK s k).length = s.cells.length := by simp [bareK]
theorem bareK_at {s : GState} {k : Nat} (hk : k < s.cells.length) : (bareK s k)[k]? = some ((eCell s.cells[k]).map .d) := by
  rw [List.getElem?_eq_getElem (by rw [bareK_len]; exact hk)]; simp [bareK]
theorem bareK_next {s : GState} {k : Nat} (hk : k < s.cells.length) : bareK s (k + 1) = (bareK s k).set k (bareR s.cells[k]) := by
  unfold bareK
  exact List.ext_getElem (by simp) fun n h1 h2 => by
    rw [List.getElem_set]
    by_cases e : k = n
    · subst e; simp
    · rw [if_neg e]
      simp only [List.getElem_mapIdx]
      have : n < k + 1 ↔ n < k := by omega
      simp only [this]
theorem bareK_same {s : GState} {k : Nat} (hk : k < s.cells.length) (h : s.cells[k].kind ≠ 7) : bareK s (k + 1) = bareK s k := by
  rw [bareK_next hk, bareR, if_neg h]
  exact List.ext_getElem (by simp) fun n h1 h2 => by
    rw [List.getElem_set]
    by_cases e : k = n
    · subst e; simp [bareK]
    · rw [if_neg e]
theorem bareR_rel {H : Hp} {N : Nat → Prop} (c : GCell) : CsS H N (bareR c) (eCell (bareC c)) := by
  unfold bareR bareC
  split
  · exact ⟨.d rfl, .d rfl, .emp, .d rfl, trivial⟩
  · exact CsS.dat (l := eCell c) (by simp)
theorem bare_rows {H : Hp} {N : Nat → Prop} : ∀ l : List GCell, RsS H N (l.map bareR) ((l.map bareC).map eCell)
  | [] => trivial
  | c :: l => ⟨bareR_rel c, bare_rows l⟩
structure BkS where
  k : Nat
  H : Hp
  nx : Nat
structure BkI (s : GState) (H : Hp) (x : BkS) : Prop where
  k : x.k ≤ s.cells.length
  n : 4 ≤ x.nx
  ce : x.H 3 = some ⟨.c 53, 4, bareK s x.k⟩
  low : ∀ i, i < 3 → x.H i = H i
structure BwS where
  q : Nat
  H : Hp
  nx : Nat
def kH0 (p : GProg) (s : GState) : Hp := ((((Hp.none.set 0 (some ⟨.c 26, 3, [(eProg p).map .d]⟩)).set 1 (some ⟨.c 32, 8, [(eState s).map .d]⟩)).set 2 (some ⟨.c 32, 8, [(eState s).map .d]⟩)).set 3 (some ⟨.c 53, 4, s.cells.map fun c => (eCell c).map .d⟩)).set 2 (some ⟨.c 32, 8, [.own 3 4 s.cells.length :: ((eState s).map C.d).drop 1]⟩)
theorem reachKeys_ok (p : GProg) (hp : okP p) (s : GState) (hs : okSt s) : DPure Tryz.prog 4 [aD (eProg p), aD (eState s)] fun d _ => d = dB true := by
  refine fn_ok [0,1,2,3,4,5,6,7,8,9,10,11,12,13,15,27,35,36,37,38,44,53,58,86,94,95,96,97,103] [] Tryz.func4 rfl (by kernel_rfl) rfl rfl rfl rfl (by kernel_rfl) ?_
  simp
  refine ⟨_, rfl, Wk.refl _, ?_⟩; simp [vcC0]
  by_cases q1 : stateQ wordsT p s = 0
  case neg =>
    refine of_ok p hp s hs (fun _ => ?_) (fun e => absurd e q1)
    simp
    refine reachLives_ok ?_
    simp [q1]
    refine reachLives_ok ?_
    simp
  refine of_ok p hp s hs (fun e => absurd q1 e) (fun _ b hb => ?_)
  simp
  refine reachLives_ok ?_
  have hz := sized_of q1
  have hg := goodS_of q1
  simp
  refine cloneCe_ok true (s.cells.map eCell) (by simp) (by simp) (by simp; have := hz.cells; omega) ?_
  simp
  intro hlen
  have z0 : kH0 p s 0 = some ⟨.c 26, 3, [(eProg p).map .d]⟩ := by simp [kH0, Hp.set]
  have z2 : kH0 p s 2 = some ⟨.c 32, 8, [.own 3 4 s.cells.length :: ((eState s).map C.d).drop 1]⟩ := by simp [kH0, Hp.set]
  have z3 : kH0 p s 3 = some ⟨.c 53, 4, s.cells.map fun c => (eCell c).map .d⟩ := by simp [kH0, Hp.set]
  refine loopH_ok (ks := [0,1,2,3,4,5,6,7,8,9,10,11,12,13,15,27,35,36,37,38,44,53,58,86,94,95,96,97,103]) (pl := []) (n0 := 107) (α := {x : BkS // BkI s (kH0 p s) x}) (fun x => [(37, dI x.1.k)]) (fun _ x => x.1.H) (fun x => x.1.nx) (fun x => s.cells.length - x.1.k) ⟨⟨0, kH0 p s, 4⟩, ⟨Nat.zero_le _, Nat.le_refl _, by rw [bareK_zero]; exact z3, fun _ _ => rfl⟩⟩ rfl (by kernel_rfl) (Wk.sub (by simp)) ?_
  rintro ⟨⟨k, H2, nx2⟩, ⟨hk, hn, hce, low2⟩⟩
  simp only at hk hn hce low2
  have y2 := low2 2 (by omega)
  rw [z2] at y2
  by_cases h1 : k < s.cells.length
  case neg =>
    obtain rfl : k = s.cells.length := by omega
    rw [bareK_all] at hce
    have y0 := low2 0 (by omega)
    rw [z0] at y0
    simp [y2, y0]
    have q2 := bare_state q1
    have hrel : CsRel H2 (fun i => i = 3) (.own 3 4 s.cells.length :: ((eState s).map C.d).drop 1) ((eState (bareS s)).map C.d) :=
      ⟨.inr ⟨_, rfl, Shw.rows rfl hce (by simp [bareS]) (rowsLen (f := eCell) fun _ => rfl) (bare_rows s.cells)⟩, .inl rfl, .inl rfl, .inl rfl, .inl rfl, .inl rfl, .inl rfl, .inl rfl, trivial⟩
    refine ⟨⟨107, [(4, dB false), (5, dL true ((ofL b).map eInt)), (89, aD (eProg p)), (90, aD (eState (bareS s)))], Hp.none, nx2⟩, rfl,
      Wk.deepT (fun i => i = 3) (tm1 := [(4, dB false), (5, dL true ((ofL b).map eInt)), (89, aD (eProg p)), (90, .agg (.own 3 4 s.cells.length :: ((eState s).map C.d).drop 1))]) rfl
        ⟨rfl, DRel.refl _, rfl, DRel.refl _, rfl, DRel.refl _, rfl, hrel, trivial⟩ (fun i y hy => by simp [Hp.none] at hy), ?_⟩
    simp [vcC0]
    refine of_ok p hp (bareS s) (okSt_bare hs) (fun e => absurd q2 e) (fun _ b2 hb2 => ?_)
    simp
    intro hlen2
    refine loop_ok (ks := [0,1,2,3,4,5,6,7,8,9,10,11,12,13,15,27,35,36,37,38,44,53,58,86,94,95,96,97,103]) (pl := []) (n0 := 107) (fun x : {k : Nat // k ≤ (ofL b2).length} => [(96, dI x.1)]) (fun x => (ofL b2).length - x.1) ⟨0, by simp⟩ rfl (by kernel_rfl) (Wk.sub (by simp)) ?_
    rintro ⟨k, hk⟩
    by_cases h1 : k < (ofL b2).length
    · have hm : (ofL b2)[k] ∈ ofL b := by
        obtain ⟨m, e1, e2⟩ := ofL_mem.1 (List.getElem_mem h1)
        rw [e1]
        exact ofL_mem.2 ⟨m, rfl, (hb.iff m).2 (got_bare ((hb2.iff m).1 e2))⟩
      simp [h1, eInt]
      refine containsI_ok true (ofL b) _ ?_
      simp [idxQ_in.2 hm]
      exact ⟨k + 1, by omega, by omega, Wk.sub (by simp [wrap_add (show k < 9223372036854775807 by omega)])⟩
    · obtain rfl : k = (ofL b2).length := by omega
      simp
  have e2 : ¬ 2 = nx2 := by omega
  have e3 : ¬ 3 = nx2 := by omega
  have r1 := bareK_at h1
  obtain ⟨r2, r3⟩ := List.getElem?_eq_some_iff.1 r1
  have hat : cellAt s (k : Int) = s.cells[k] := at_nat h1
  by_cases c7 : s.cells[k].kind = 7
  case neg =>
    simp [h1, y2, e2, e3, c7]
    exact ⟨⟨k + 1, H2.set nx2 (some ⟨.c 53, 4, [(eCell s.cells[k]).map .d]⟩), nx2 + 1⟩, by simp only; omega, ⟨by simp only; omega, by simp only; omega, by simp only; rw [bareK_same h1 c7, Hp.set_ne _ _ e3]; exact hce, fun i hi => by simp only; rw [Hp.set_ne _ _ (by omega)]; exact low2 i hi⟩, Wk.sub (by simp [wrap_add (show k < 9223372036854775807 by omega)])⟩
  have hnx := bareK_next h1
  rw [bareR, if_pos c7, c7] at hnx
  simp [h1, y2, e2, e3, c7, hce, r1, r2, r3]
  refine containsI_ok true (ofL b) _ ?_
  obtain ⟨c, hc⟩ : ∃ c, c = s.cells[k] := ⟨_, rfl⟩
  simp only [← hc] at *
  have hkI : BkI s (kH0 p s) ⟨k + 1, (H2.set nx2 (some ⟨.c 53, 4, [[C.d (eI 7), C.d (eI c.num), C.d (.sl true (c.vals.map eVal)), C.d (.sl true (c.frames.map eFrame))]]⟩)).set 3 (some ⟨.c 53, 4, (bareK s k).set k [C.d (eI 7), C.d (eI c.num), C.d Dt.emp, C.d (.sl true (c.frames.map eFrame))]⟩), nx2 + 1⟩ :=
    ⟨by simp only; omega, by simp only; omega, by simp only; rw [Hp.set_same, hnx], fun i hi => by simp only; rw [Hp.set_ne _ _ (by omega), Hp.set_ne _ _ (by omega)]; exact low2 i hi⟩
  have e4 : ¬ nx2 = 3 := by omega
  by_cases hG : Got s k
  case neg =>
    have hno : ¬ (k : Int) ∈ ofL b := fun h => by
      obtain ⟨m, q1, q2⟩ := ofL_mem.1 h
      obtain rfl : m = k := by omega
      exact hG ((hb.iff m).1 q2)
    have hno2 : ¬ 0 ≤ idxQ (ofL b) (k : Int) := fun h => hno (idxQ_in.1 h)
    simp [hno2]
    exact ⟨⟨k + 1, _, nx2 + 1⟩, by simp only; omega, hkI, Wk.sub (by simp [wrap_add (show k < 9223372036854775807 by omega)])⟩
  have hyes : (k : Int) ∈ ofL b := ofL_mem.2 ⟨k, rfl, (hb.iff k).2 hG⟩
  simp [idxQ_in.2 hyes, e4]
  obtain ⟨ps, hps⟩ := good_pairs hg h1 (by rw [hat]; exact c7)
  rw [hat] at hps
  have hvl := hg.vl k h1
  obtain ⟨-, hkey⟩ := hg.weak k h1 (by rw [hat]; exact c7)
  rw [hat] at hvl hkey
  have hvlen : c.vals.length = 2 * ps.length := by rw [hps, unp_len]
  generalize hHk : (H2.set nx2 (some ⟨.c 53, 4, [[C.d (eI 7), C.d (eI c.num), C.d (.sl true (c.vals.map eVal)), C.d (.sl true (c.frames.map eFrame))]]⟩)).set 3 (some ⟨.c 53, 4, (bareK s k).set k [C.d (eI 7), C.d (eI c.num), C.d Dt.emp, C.d (.sl true (c.frames.map eFrame))]⟩) = Hk at *
  have yc : Hk nx2 = some ⟨.c 53, 4, [[C.d (eI 7), C.d (eI c.num), C.d (.sl true (c.vals.map eVal)), C.d (.sl true (c.frames.map eFrame))]]⟩ := by rw [← hHk, Hp.set_ne _ _ e4, Hp.set_same]
  refine loopH_ok (ks := [0,1,2,3,4,5,6,7,8,9,10,11,12,13,15,27,35,36,37,38,44,53,58,86,94,95,96,97,103]) (pl := []) (n0 := 107) (α := {x : BwS // x.q % 2 = 0 ∧ x.q ≤ c.vals.length ∧ nx2 < x.nx ∧ ∀ i, i ≤ nx2 → x.H i = Hk i}) (fun x => [(10, dI x.1.q)]) (fun _ x => x.1.H) (fun x => x.1.nx) (fun x => c.vals.length - x.1.q) ⟨⟨0, Hk, nx2 + 1⟩, rfl, Nat.zero_le _, by simp only; omega, fun _ _ => rfl⟩ rfl (by kernel_rfl) (Wk.sub (by simp)) ?_
  rintro ⟨⟨q, H4, nx4⟩, hq, hql, hn4, low4⟩
  simp only at hq hql hn4 low4
  have yc4 := low4 nx2 (Nat.le_refl _)
  rw [yc] at yc4
  by_cases h2 : q < c.vals.length
  case neg =>
    obtain rfl : q = c.vals.length := by omega
    simp [yc4]
    intro _
    exact ⟨⟨k + 1, H4, nx4⟩, by simp only; omega, ⟨hkI.k, by simp only; omega, by simp only; rw [low4 3 (by omega)]; exact hkI.ce, fun i hi => (low4 i (by omega)).trans (hkI.low i hi)⟩, Wk.sub (by simp [wrap_add (show k < 9223372036854775807 by omega)])⟩
  obtain ⟨j, hj⟩ : ∃ j, q = 2 * j := ⟨q / 2, by omega⟩
  have hjp : j < ps.length := by omega
  have a2 : q + 1 < c.vals.length := by omega
  have v1 : c.vals[q] = ps[j].1 := by
    have := (unp_at ps j).1
    rw [← hps, ← hj, List.getElem?_eq_getElem h2, List.getElem?_eq_getElem hjp] at this
    simpa using this
  have v2 : c.vals[q + 1] = ps[j].2 := by
    have := (unp_at ps j).2
    rw [← hps, ← hj, List.getElem?_eq_getElem a2, List.getElem?_eq_getElem hjp] at this
    simpa using this
  have gp := fun h1 h2 => got_pair (s := s) (m := k) hG (by rw [hat]; exact c7) (by rw [hat]; exact hps) (List.getElem_mem hjp) h1 h2
  have hkid : ∀ v ∈ c.vals, In s.cells.length v := fun v hv => hg.kid k h1 v (by rw [hat]; exact List.mem_append_left _ hv)
  have k5 := hkey j (by omega)
  rw [hps, (unp_val hjp).1] at k5
  have hin1 := hkid ps[j].1 (by rw [hps, unp_mem]; exact ⟨_, List.getElem_mem hjp, .inl rfl⟩) k5
  have hin2 := hkid ps[j].2 (by rw [hps, unp_mem]; exact ⟨_, List.getElem_mem hjp, .inr rfl⟩)
  obtain ⟨key, hke⟩ : ∃ key, key = ps[j].1 := ⟨_, rfl⟩
  obtain ⟨val, hve⟩ : ∃ val, val = ps[j].2 := ⟨_, rfl⟩
  rw [← hke] at v1 gp hin1
  rw [← hve] at v2 gp hin2
  have hw1 : IntKind.i64.wrap ((q : Int) + 1) = (q : Int) + 1 := wrap_id (by omega) (by omega)
  have hw2 : IntKind.i64.wrap ((q : Int) + 2) = ((q + 2 : Nat) : Int) := by rw [wrap_id (by omega) (by omega)]; simp
  have f1 : ¬ nx2 = nx4 := by omega
  simp [yc4, h2, a2, hw1, v1, v2, f1]
  intro _
  refine ⟨by omega, ?_⟩
  refine containsI_ok true (ofL b) _ ?_
  by_cases c1 : Got s key.n.toNat
  case neg =>
    have hno : ¬ 0 ≤ idxQ (ofL b) key.n := fun h => by
      obtain ⟨m, q1, q2⟩ := ofL_mem.1 (idxQ_in.1 h)
      rw [q1, Int.toNat_natCast] at c1
      exact c1 ((hb.iff m).1 q2)
    simp [hno]
    exact ⟨⟨q + 2, H4.set nx4 (some ⟨.c 34, 2, [[C.d (eI val.kind), C.d (eI val.n)]]⟩), nx4 + 1⟩, by simp only; omega, ⟨by simp only; omega, by simp only; omega, by simp only; omega, fun i hi => by simp only; rw [Hp.set_ne _ _ (by omega)]; exact low4 i hi⟩, Wk.sub (by simp [hw2])⟩
  have hyes1 : 0 ≤ idxQ (ofL b) key.n := idxQ_in.2 (ofL_mem.2 ⟨key.n.toNat, by omega, (hb.iff _).2 c1⟩)
  by_cases c5 : val.kind = 5
  case neg =>
    simp [hyes1, c5]
    exact ⟨⟨q + 2, H4.set nx4 (some ⟨.c 34, 2, [[C.d (eI val.kind), C.d (eI val.n)]]⟩), nx4 + 1⟩, by simp only; omega, ⟨by simp only; omega, by simp only; omega, by simp only; omega, fun i hi => by simp only; rw [Hp.set_ne _ _ (by omega)]; exact low4 i hi⟩, Wk.sub (by simp [hw2])⟩
  have hyes2 : 0 ≤ idxQ (ofL b) val.n := idxQ_in.2 (ofL_mem.2 ⟨val.n.toNat, by have := hin2 c5; omega, (hb.iff _).2 (gp c1 c5)⟩)
  simp [hyes1, c5]
  refine containsI_ok true (ofL b) _ ?_
  simp [hyes2]
  exact ⟨⟨q + 2, H4.set nx4 (some ⟨.c 34, 2, [[C.d (eI 5), C.d (eI val.n)]]⟩), nx4 + 1⟩, by simp only; omega, ⟨by simp only; omega, by simp only; omega, by simp only; omega, fun i hi => by simp only; rw [Hp.set_ne _ _ (by omega)]; exact low4 i hi⟩, Wk.sub (by simp [hw2])⟩
end Go.Proofs.YtnkndnbepdadhaaGreatDoor
