/- Several texts in one. -/
import Derived.Test.YtjbkinmdcaegcaaGreatDoorMd
import Derived.Test.YtjbkinmdcaegcaaGreatDoorMm
import Derived.Test.YtjbkinmdcaegcaaGreatDoorMu
set_option linter.unusedSimpArgs false
set_option linter.unusedVariables false
set_option maxRecDepth 100000
set_option maxHeartbeats 16000000
namespace Go.Proofs.YtjbkinmdcaegcaaGreatDoor
open Go.RowKit Go
theorem CsS.rel {H : Hp} {N : Nat → Prop} : ∀ {cs : List C} {ds : List Dt}, CsS H N cs ds → CsRel H N cs (ds.map .d)
  | [], [], _ => trivial
  | _ :: _, _ :: _, h => ⟨.inr ⟨_, rfl, h.1⟩, CsS.rel h.2⟩
  | [], _ :: _, h => h.elim
  | _ :: _, [], h => h.elim
theorem yielded_ok (s : GState) (hz : Sized s) (th : Nat) (v : GVal) (e : GEvent) (he : e.b = 0 ∧ e.old = ⟨0, 0⟩) (hth : th < s.threads.length) {m : Nat} (hn : s.threads[th].frames.length = m + 1) (hm : 0 < m) (hl : s.threads[th].frames.length ≤ 30)
    {f : GFrame} (hf : s.threads[th].frames[m]? = some f) {g : Nat} (hg : f.gen = g) (hgl : g < s.cells.length) (hk : s.cells[g].kind = 5) (hv : s.cells[g].vals = []) (hto : ∀ h : m - 1 < s.threads[th].frames.length, f.to < s.threads[th].frames[m - 1].regs.length)
    {K : D → List Blk → Prop} (h : K (.tup [aD (eState (outS s th v)), dL true ([genE e 15 g v].map eEvent)]) []) : DPure Tryz.prog 43 [aD (eState s), dI th, aD (eVal v), aD (eEvent e)] K := by
  refine DPure.ofI ?_
  refine fni_ok [0,1,2,3,4,6,7,8,9,10,11,12,13] [(4, [0,1,0,4,3,31], (.seg 0 (.seg 1 (.seg 2 (.seg 3 (.seg 4 (.seg 5 .last))))))), (6, [0,1,0,0,0,16,48,120,255,511,1023], (.seg 0 (.seg 1 (.seg 2 (.seg 3 (.seg 4 (.seg 5 (.seg 6 (.seg 7 (.seg 8 (.seg 9 (.eff 10 [] .last)))))))))))), (8, [0,0,0,0,15,0,0,0,0,511,1023,1023,4095], (.seg 0 (.seg 1 (.seg 2 (.seg 3 (.seg 5 (.seg 6 (.seg 7 (.seg 8 (.eff 4 [5, 7, 8] (.eff 9 [5, 7] (.fork 10 [] (.eff 11 [] (.seg 12 .last)) (.eff 11 [] (.eff 10 [] (.seg 12 .last)))))))))))))))] Tryz.func43 rfl (by kernel_rfl) rfl rfl rfl rfl (by kernel_rfl) ?_
  simp
  refine copiedO_ic s hz ?_ (fun H1 A n1 hn1 low1 high1 sol1 hO => ?_)
  · repeat' (first | exact HSol.nil | exact HSol.zero | refine HSol.set ?_ ?_ | (simp; done))
  have g0 : H1 0 = some ⟨.c 32, 8, [(eState s).map .d]⟩ := by rw [low1 _ (by omega)]; simp [Hp.set]
  have g1 : H1 1 = some ⟨.c 50, 2, [[.d (eI v.kind), .d (eI v.n)]]⟩ := by rw [low1 _ (by omega)]; simp [Hp.set]
  have g2 : H1 2 = some ⟨.c 76, 12, [[C.d (eI e.kind), C.d (eI e.step), C.d (eI e.thread), C.d (eI e.fn), C.d (eI e.at_), C.d (eI e.line), C.d (eI e.a), C.d (eI e.b), C.d (eI e.val.kind), C.d (eI e.val.n), C.d (eI e.old.kind), C.d (eI e.old.n)]]⟩ := by rw [low1 _ (by omega)]; simp [Hp.set]
  have g3 : H1 3 = some ⟨.c 32, 8, [[.d .emp, .d .emp, .d .emp, .d .emp, .d .emp, .d .emp, .d (eI 0), .d (eI 0)]]⟩ := by rw [low1 _ (by omega)]; simp [Hp.set]
  clear low1
  have n0 : ∀ x, Live s x → 4 ≤ A x ∧ A x < n1 := fun x hx => ⟨hO.lo x hx, hO.lt high1 hx⟩
  have hn1' : m < s.threads[th].frames.length := by omega
  have hfe : s.threads[th].frames[m] = f := by
    rw [List.getElem?_eq_getElem hn1', Option.some.injEq] at hf; exact hf
  obtain ⟨R, r1, r2, r3⟩ := hO.th
  obtain ⟨r4, r5⟩ := List.getElem?_eq_some_iff.1 (r3 th hth)
  rw [oTh, thR, hn] at r5
  obtain ⟨FR, f1, f2, f3⟩ := (hO.tf th hth).blk
  obtain ⟨f4, f5⟩ := List.getElem?_eq_some_iff.1 (f3 m hn1')
  rw [hfe, frRow] at f5
  obtain ⟨Q, c1, c2, c3⟩ := hO.ce
  obtain ⟨c4, c5⟩ := List.getElem?_eq_some_iff.1 (c3 g hgl)
  rw [oCe, ceR] at c5
  have m1 := n0 .t trivial
  have m2 := n0 (.tf th) hth
  have m3 := n0 .c trivial
  have e1 : ¬ A .t = 0 := by omega
  have e2 : ¬ A (.tf th) = 0 := by omega
  have e3 : ¬ A .c = 0 := by omega
  have e4 : ¬ A .t = n1 := by omega
  have e5 : ¬ A .c = n1 := by omega
  have e6 : ¬ A (.tf th) = n1 := by omega
  have e7 : ¬ 0 = n1 := by omega
  have e8 : ¬ 1 = n1 := by omega
  have e9 : ¬ 2 = n1 := by omega
  have e10 : ¬ 3 = n1 := by omega
  have e11 : ¬ n1 = A .t := by omega
  have e12 : ¬ n1 = A .c := by omega
  have e13 : ¬ 0 = A .t := by omega
  have e14 : ¬ 0 = A .c := by omega
  have e15 : ¬ A .c = A .t := hO.ne (x := .c) (y := .t) trivial trivial (fun e => by cases e)
  have e16 : ¬ A .t = A .c := hO.ne (x := .t) (y := .c) trivial trivial (fun e => by cases e)
  have e17 : ¬ A .t = n1 + 1 := by omega
  have e18 : ¬ A .c = n1 + 1 := by omega
  have e19 : ¬ 0 = n1 + 1 := by omega
  have e20 : ¬ 1 = n1 + 1 := by omega
  have e21 : ¬ 2 = n1 + 1 := by omega
  have e22 : ¬ 3 = n1 + 1 := by omega
  have e23 : ¬ 1 = A .t := by omega
  have e24 : ¬ 1 = A .c := by omega
  have e25 : ¬ 2 = A .t := by omega
  have e26 : ¬ 2 = A .c := by omega
  have e27 : ¬ n1 = 0 := by omega
  have e28 : ¬ n1 = 1 := by omega
  have e29 : ¬ n1 = 2 := by omega
  have hw : IntKind.i64.wrap (m : Int) = m := wrap_id (by omega) (by omega)
  have O1 := ((hO.set_low (some ⟨.c 32, 8, [oRow A s]⟩) fun x hx => (by have := n0 x hx; omega : A x ≠ 0)).set_low (some ⟨.c 61, 8, [[C.d (eI f.fn), C.d (eI f.at_), C.d (eI (-1)), C.d (eI (-1)), C.d (eI f.self.kind), C.d (eI f.self.n), C.own (A (Ad.tr th m)) 2 f.regs.length, C.own (A (Ad.tt th m)) 2 f.tries.length]]⟩) fun x hx => (by have := n0 x hx; omega : A x ≠ n1))
  have r6 : ((H1.set 0 (some ⟨.c 32, 8, [oRow A s]⟩)).set n1 (some ⟨.c 61, 8, [[C.d (eI f.fn), C.d (eI f.at_), C.d (eI (-1)), C.d (eI (-1)), C.d (eI f.self.kind), C.d (eI f.self.n), C.own (A (Ad.tr th m)) 2 f.regs.length, C.own (A (Ad.tt th m)) 2 f.tries.length]]⟩)) (A .t) = some ⟨.c 56, 5, R⟩ := by rw [Hp.set_ne _ _ e4, Hp.set_ne _ _ e1]; exact r1
  have O2 := O1.thRow hth (t' := ⟨s.threads[th].frames.take m, s.threads[th].state, s.threads[th].on, s.threads[th].val⟩) m rfl r6 (e := [C.own (A (Ad.tf th)) 8 m, C.d (eI s.threads[th].state), C.d (eI s.threads[th].on), C.d (eI s.threads[th].val.kind), C.d (eI s.threads[th].val.n)]) (by simp [oTh, thR]; omega)
  obtain ⟨s1, hs1⟩ : ∃ s1, s1 = s.setT th ⟨s.threads[th].frames.take m, s.threads[th].state, s.threads[th].on, s.threads[th].val⟩ := ⟨_, rfl⟩
  rw [← hs1] at O2
  have hc1 : s1.cells = s.cells := by rw [hs1]; rfl
  have hl1 : ∀ x, Live s1 x → Live s x := fun x hx => by
    rw [hs1] at hx
    exact live_lessT hth (by simp; omega) hx
  obtain ⟨X0, hX0⟩ : ∃ X0, X0 = (((H1.set 0 (some ⟨.c 32, 8, [oRow A s]⟩)).set n1 (some ⟨.c 61, 8, [[C.d (eI f.fn), C.d (eI f.at_), C.d (eI (-1)), C.d (eI (-1)), C.d (eI f.self.kind), C.d (eI f.self.n), C.own (A (Ad.tr th m)) 2 f.regs.length, C.own (A (Ad.tt th m)) 2 f.tries.length]]⟩)).set (A .t) (some ⟨.c 56, 5, R.set th [C.own (A (Ad.tf th)) 8 m, C.d (eI s.threads[th].state), C.d (eI s.threads[th].on), C.d (eI s.threads[th].val.kind), C.d (eI s.threads[th].val.n)]⟩)) := ⟨_, rfl⟩
  rw [← hX0] at O2
  have x0 : ∀ q, q ≠ 0 → q ≠ n1 → q ≠ A .t → X0 q = H1 q := fun q h1 h2 h3 => by rw [hX0, Hp.set_ne _ _ h3, Hp.set_ne _ _ h2, Hp.set_ne _ _ h1]
  have xc : X0 (A .c) = some ⟨.c 48, 4, Q⟩ := by rw [x0 _ e3 e5 e15]; exact c1
  have ltr := live_tr hth hn1'
  have ltt := live_tt hth hn1'
  have hnl : ¬ Live s1 (.tr th m) ∧ ¬ Live s1 (.tt th m) := by
    constructor
    all_goals
      rintro ⟨c, y1, y2⟩
      rw [hs1] at y1
      simp only [GState.setT] at y1
      rw [List.getElem?_set_self hth, Option.some.injEq] at y1
      subst y1
      simp at y2
      omega
  have xs : ∀ x, Live s x → x ≠ .t → X0 (A x) = H1 (A x) := fun x hx hne => x0 _ (by have := n0 x hx; omega) (by have := n0 x hx; omega) (hO.ne hx (y := .t) trivial hne)
  have O3 : OwnS ((((X0.set (n1 + 1) (some ⟨.c 61, 8, [[C.d (eI f.fn), C.d (eI f.at_), C.d (eI (-1)), C.d (eI (-1)), C.d (eI f.self.kind), C.d (eI f.self.n), C.own (A (Ad.tr th m)) 2 f.regs.length, C.own (A (Ad.tt th m)) 2 f.tries.length]]⟩)).set (A .c) (some ⟨.c 48, 4, Q.set g [C.d (eI 5), C.d (eI 0), C.d .emp, C.own (n1 + 1) 8 1]⟩)).set (A .c) (some ⟨.c 48, 4, (Q.set g [C.d (eI 5), C.d (eI 0), C.d .emp, C.own (n1 + 1) 8 1]).set g ([C.d (eI 5), C.d (eI 0), C.d .emp, C.own (n1 + 1) 8 1].set 2 (.own (n1 + 2) 2 0))⟩)).set (n1 + 2) (some ⟨.c 50, 2, []⟩)) 4 (withC A g (n1 + 2) (n1 + 1) (fun _ => A (.tr th m)) (fun _ => A (.tt th m))) (s1.setC g ⟨5, 0, [], [⟨f.fn, f.at_, -1, -1, f.self, f.regs, f.tries⟩]⟩) := by
    have w0 : ∀ q, q ≠ n1 + 1 → q ≠ A .c → q ≠ n1 + 2 → ((((X0.set (n1 + 1) (some ⟨.c 61, 8, [[C.d (eI f.fn), C.d (eI f.at_), C.d (eI (-1)), C.d (eI (-1)), C.d (eI f.self.kind), C.d (eI f.self.n), C.own (A (Ad.tr th m)) 2 f.regs.length, C.own (A (Ad.tt th m)) 2 f.tries.length]]⟩)).set (A .c) (some ⟨.c 48, 4, Q.set g [C.d (eI 5), C.d (eI 0), C.d .emp, C.own (n1 + 1) 8 1]⟩)).set (A .c) (some ⟨.c 48, 4, (Q.set g [C.d (eI 5), C.d (eI 0), C.d .emp, C.own (n1 + 1) 8 1]).set g ([C.d (eI 5), C.d (eI 0), C.d .emp, C.own (n1 + 1) 8 1].set 2 (.own (n1 + 2) 2 0))⟩)).set (n1 + 2) (some ⟨.c 50, 2, []⟩)) q = X0 q := fun q h1 h2 h3 => by
      rw [Hp.set_ne _ _ h3, Hp.set_ne _ _ h2, Hp.set_ne _ _ h2, Hp.set_ne _ _ h1]
    have hb : ∀ x, Live s1 x → A x ≠ n1 + 1 ∧ A x ≠ n1 + 2 := fun x hx => by have := n0 x (hl1 x hx); omega
    have hb2 : ∀ x, Live s x → A x ≠ n1 + 1 ∧ A x ≠ n1 + 2 := fun x hx => by have := n0 x hx; omega
    refine O2.newC (by rw [hc1]; exact hgl) (n1 + 2) (n1 + 1) _ _ (fun x hx h1 h2 => w0 _ (hb x hx).1 (O2.ne hx (y := .c) trivial h2) (hb x hx).2) xc ?_ ⟨[], Hp.set_same _ _ _⟩ ?_ (by omega) (fun j _ => ⟨(hb2 _ ltr).2.symm, (hb2 _ ltt).2.symm⟩) ⟨fun j _ => ⟨(hb2 _ ltr).1.symm, (hb2 _ ltt).1.symm⟩, fun j k _ _ => hO.ne ltr ltt (fun e => by cases e), fun j k hj hk _ => by simp at hj hk; omega, fun j k hj hk _ => by simp at hj hk; omega⟩
      (fun x hx h1 => ⟨(hb x hx).2, (hb x hx).1, fun j _ => ⟨hO.ne (hl1 x hx) ltr (fun e => hnl.1 (by rw [← e]; exact hx)), hO.ne (hl1 x hx) ltt (fun e => hnl.2 (by rw [← e]; exact hx))⟩⟩) ⟨by omega, by omega, fun j _ => ⟨(n0 _ ltr).1, (n0 _ ltt).1⟩⟩
    · rw [Hp.set_ne _ _ (by omega), Hp.set_same, List.set_set]; rfl
    · obtain ⟨ys, h1⟩ := (hO.tf th hth).regs m hn1'
      obtain ⟨zs, h2⟩ := (hO.tf th hth).tries m hn1'
      rw [hfe] at h1 h2
      refine ⟨⟨_, by rw [Hp.set_ne _ _ (by omega), Hp.set_ne _ _ (by omega), Hp.set_ne _ _ (by omega), Hp.set_same], fun e' he c hc => ?_, fun j hj => ?_⟩, fun j hj => ?_, fun j hj => ?_⟩
      · rw [List.mem_singleton] at he
        subst he
        simp at hc
        rcases hc with rfl | rfl | rfl | rfl | rfl | rfl | rfl | rfl <;> rfl
      · obtain rfl : j = 0 := by simpa using hj
        rfl
      · obtain rfl : j = 0 := by simpa using hj
        exact ⟨ys, by rw [w0 _ (hb2 _ ltr).1 (hO.ne ltr (y := .c) trivial (fun e => by cases e)) (hb2 _ ltr).2, xs _ ltr (fun e => by cases e)]; exact h1⟩
      · obtain rfl : j = 0 := by simpa using hj
        exact ⟨zs, by rw [w0 _ (hb2 _ ltt).1 (hO.ne ltt (y := .c) trivial (fun e => by cases e)) (hb2 _ ltt).2, xs _ ltt (fun e => by cases e)]; exact h2⟩
  rw [oRow]
  simp [g0, g1, g2, g3, r1, r4, r5, f1, f4, f5, c1, c4, c5, hg, hgl, e1, e2, e3, e4, e5, e6, e7, e8, e9, e10, e11, e12, e13, e14, e15, e16, e17, e18, e19, e20, e21, e22, e23, e24, e25, e26, e27, e28, e29, hw, hth]
  intro _
  refine ⟨by omega, ?_⟩
  have hsh := O3.shw (N := fun q => 4 ≤ q) fun x hx => O3.lo x hx
  have hrow : oRow (withC A g (n1 + 2) (n1 + 1) (fun _ => A (.tr th m)) (fun _ => A (.tt th m))) (s1.setC g ⟨5, 0, [], [⟨f.fn, f.at_, -1, -1, f.self, f.regs, f.tries⟩]⟩) = oRow A s := by rw [hs1]; simp [oRow, withC, GState.setT, GState.setC]
  rw [hrow] at hsh
  have hS2 : (s1.setC g ⟨5, 0, [], [⟨f.fn, f.at_, -1, -1, f.self, f.regs, f.tries⟩]⟩).threads[th]? = some ⟨s.threads[th].frames.take m, s.threads[th].state, s.threads[th].on, s.threads[th].val⟩ := by rw [hs1]; simp only [GState.setT, GState.setC]; exact List.getElem?_set_self hth
  have hout : (s1.setC g ⟨5, 0, [], [⟨f.fn, f.at_, -1, -1, f.self, f.regs, f.tries⟩]⟩).setT th (intoT ⟨s.threads[th].frames.take m, s.threads[th].state, s.threads[th].on, s.threads[th].val⟩ f.to v) = outS s th v := by
    have h1 : dTh s th = s.threads[th] := by simp [dTh, List.getD_eq_getElem?_getD, hth]
    have h2 : lastF s.threads[th].frames = f := by rw [lastF, hn, Nat.add_sub_cancel, List.getD_eq_getElem?_getD, hf]; rfl
    have h3 : dGC s g = s.cells[g] := by simp [dGC, List.getD_eq_getElem?_getD, hgl]
    rw [outS, h1, h2, hg, Int.toNat_natCast, h3, List.dropLast_eq_take, hn, Nat.add_sub_cancel, hs1, hk, hv]
    simp [GState.setT, GState.setC]
  have hz2 : Sized (s1.setC g ⟨5, 0, [], [⟨f.fn, f.at_, -1, -1, f.self, f.regs, f.tries⟩]⟩) := by
    obtain ⟨z1, z2, z3, z4, z5, z6, z7, z8⟩ := hz
    have hfm := (z8 _ (List.getElem_mem hth)).2 f (by rw [← hfe]; exact List.getElem_mem hn1')
    rw [hs1]
    refine ⟨by simpa [GState.setT, GState.setC] using z1, z2, z3, by simpa [GState.setT, GState.setC] using z4, z5, z6, fun c hc => ?_, fun t ht => ?_⟩
    · rcases List.mem_or_eq_of_mem_set hc with hc | rfl
      · exact z7 c hc
      · refine ⟨by simp, by simp, fun f' hf' => ?_⟩
        rw [List.mem_singleton] at hf'
        subst hf'
        exact hfm
    · rcases List.mem_or_eq_of_mem_set ht with ht | rfl
      · exact z8 t ht
      · obtain ⟨y1, y2⟩ := z8 _ (List.getElem_mem hth)
        exact ⟨by simp; omega, fun f' hf' => y2 f' (List.mem_of_mem_take hf')⟩
  generalize s1.setC g ⟨5, 0, [], [⟨f.fn, f.at_, -1, -1, f.self, f.regs, f.tries⟩]⟩ = S2 at *
  clear O3 O2 x0 xc xs O1
  subst hX0
  have g3' : ∀ (X : Hp), (∀ q, q ≠ 0 → q ≠ n1 → q ≠ A .t → q ≠ n1 + 1 → q ≠ A .c → q ≠ n1 + 2 → X q = H1 q) → X 3 = some ⟨.c 32, 8, [[.d .emp, .d .emp, .d .emp, .d .emp, .d .emp, .d .emp, .d (eI 0), .d (eI 0)]]⟩ := fun X hX => by rw [hX 3 (by omega) (by omega) (by omega) (by omega) (by omega) (by omega)]; exact g3
  refine ⟨⟨62, [(1, dI th), (8, .one (.ptr 3 8 0 0)), (12, dI g), (51, aD (eState S2)), (52, dI th), (53, .one (.d (eI f.to))), (54, .agg [.d (eI v.kind), .d (eI v.n)]), (56, .agg [C.d (eI e.kind), C.d (eI e.step), C.d (eI e.thread), C.d (eI e.fn), C.d (eI e.at_), C.d (eI e.line), C.d (eI e.a), C.d (eI e.b), C.d (eI e.val.kind), C.d (eI e.val.n), C.d (eI e.old.kind), C.d (eI e.old.n)]), (57, .one (.d (eI g))), (58, .agg [.d (eI v.kind), .d (eI v.n)]), (59, .agg [.d (eI 0), .d (eI 0)])],
      Hp.none.set 3 (some ⟨.c 32, 8, [[.d .emp, .d .emp, .d .emp, .d .emp, .d .emp, .d .emp, .d (eI 0), .d (eI 0)]]⟩), n1 + 2 + 1⟩, rfl,
    (Wk.ownC 50 2 (m := A .c) (t := .c 48) (k := 4) (R := Q.set g [C.d (eI 5), C.d (eI 0), C.d .emp, C.own (n1 + 1) 8 1]) (row := [C.d (eI 5), C.d (eI 0), C.d .emp, C.own (n1 + 1) 8 1]) (i := g) (j := 2) (Hp.set_same _ _ _) (List.getElem?_set_self c4) rfl).trans
    (Wk.deepT (fun q => 4 ≤ q) (tm1 := [(1, dI th), (8, .one (.ptr 3 8 0 0)), (12, dI g), (51, .agg (oRow A s)), (52, dI th), (53, .one (.d (eI f.to))), (54, .agg [.d (eI v.kind), .d (eI v.n)]), (56, .agg [C.d (eI e.kind), C.d (eI e.step), C.d (eI e.thread), C.d (eI e.fn), C.d (eI e.at_), C.d (eI e.line), C.d (eI e.a), C.d (eI e.b), C.d (eI e.val.kind), C.d (eI e.val.n), C.d (eI e.old.kind), C.d (eI e.old.n)]), (57, .one (.d (eI g))), (58, .agg [.d (eI v.kind), .d (eI v.n)]), (59, .agg [.d (eI 0), .d (eI 0)])]) rfl
      ⟨rfl, DRel.refl _, rfl, DRel.refl _, rfl, DRel.refl _, rfl, hsh.rel, rfl, DRel.refl _, rfl, DRel.refl _, rfl, DRel.refl _, rfl, DRel.refl _, rfl, DRel.refl _, rfl, DRel.refl _, rfl, DRel.refl _, trivial⟩ (fun i y hy => ?_)), ?_⟩
  · by_cases i3 : i = 3
    · subst i3
      rw [Hp.set_same, Option.some.injEq] at hy
      subst hy
      exact ⟨by omega, _, g3' _ fun q h1 h2 h3 h4 h5 h6 => by rw [Hp.set_ne _ _ h6, Hp.set_ne _ _ h5, Hp.set_ne _ _ h5, Hp.set_ne _ _ h4, Hp.set_ne _ _ h3, Hp.set_ne _ _ h2, Hp.set_ne _ _ h1], BOk.refl (by simp)⟩
    · rw [Hp.set_ne _ _ i3] at hy; cases hy
  simp [vcC0]
  obtain ⟨hS2l, hS2e⟩ := List.getElem?_eq_some_iff.1 hS2
  refine regSet_ok S2 hz2 th hS2l f.to v (fun _ => ⟨m - 1, by rw [hS2e]; simp; omega, by rw [hS2e]; simp; omega, ?_⟩) (by rw [hS2e]; simp; omega) ?_
  · simp only [hS2e]
    rw [List.getElem_take]; exact hto (by omega)
  rw [hS2e, hout]
  simp
  refine evTold_ok e 15 g 0 v ⟨0, 0⟩ ?_
  simp [e27]
  have hge : genE e 15 g v = ⟨15, e.step, e.thread, e.fn, e.at_, e.line, g, 0, v, ⟨0, 0⟩⟩ := by simp [genE, he]
  rw [hge] at h
  have fin : ∀ X : Hp, X (n1 + 3) = some ⟨.c 76, 12, [evRow ⟨15, e.step, e.thread, e.fn, e.at_, e.line, g, 0, v, ⟨0, 0⟩⟩]⟩ → ∃ d', DShw X (fun _ => True) (.tup [aD (eState (outS s th v)), .one (.own (n1 + 3) 12 1)]) d' ∧ K d' [] := fun X hX =>
    ⟨.tup [aD (eState (outS s th v)), dL true ([(⟨15, e.step, e.thread, e.fn, e.at_, e.line, g, 0, v, ⟨0, 0⟩⟩ : GEvent)].map eEvent)], ⟨CsS.csShw (CsS.dat (l := eState (outS s th v)) (by simp)), ⟨_, rfl, Shw.row trivial hX rfl rfl rfl (by simp) (by simp)⟩, trivial⟩, h⟩
  with_reducible refine ⟨?_, ?_⟩
  all_goals
    refine ⟨?_, fin _ ?_⟩
    · repeat' (first | exact HSol.nil | exact HSol.zero | refine HSol.set ?_ ?_ | (simp; done))
    · repeat (first | rw [Hp.set_same] | rw [Hp.set_ne _ _ (by omega)])
      try rfl

theorem threadAsked_ok (p : GProg) (hp : okP p) (s : GState) (hs : okSt s) (th : Int) {K : D → List Blk → Prop} (h : K (dI (askE p s th)) []) : DPure Tryz.prog 42 [aD (eProg p), aD (eState s), dI th] K := by
  refine fn_ok [0,1,2,3,4,6,7,11,14,22] [] Tryz.func42 rfl (by kernel_rfl) rfl rfl rfl rfl (by kernel_rfl) ?_
  simp
  refine stateFault_ok p hp s hs ?_
  unfold askE at h
  by_cases q1 : stateQ wordsT p s = 0
  case neg =>
    rw [if_pos q1] at h
    simp [q1]
    exact h
  rw [if_neg (by simpa using q1)] at h
  have hz := (sized_of q1).threads
  simp [q1]
  intro _
  refine between_ok _ _ _ ?_
  rw [wrap_id (by omega) (by omega)]
  by_cases c1 : th < 0 ∨ (s.threads.length : Int) ≤ th
  · rw [if_pos c1] at h
    have hb : btw th 0 ((s.threads.length : Int) - 1) = false := by simp [btw]; omega
    rw [hb]
    simp
    exact h
  have hb : btw th 0 ((s.threads.length : Int) - 1) = true := by simp [btw]; omega
  rw [if_neg c1] at h
  obtain ⟨t, rfl⟩ : ∃ t : Nat, th = t := ⟨th.toNat, by omega⟩
  have ht : t < s.threads.length := by omega
  have hd : dTh s t = s.threads[t] := by simp [dTh, List.getD_eq_getElem?_getD, ht]
  rw [Int.toNat_natCast, hd] at h
  rw [hb]
  by_cases c3 : s.threads[t].state = 0
  · rw [if_neg (by simpa using c3)] at h
    simp [ht, c3]
    exact h
  · rw [if_pos c3] at h
    simp [ht, c3]
    exact h
theorem genYields_ok (p : GProg) (hp : okP p) (s : GState) (hs : okSt s) (th : Int) (v : GVal) : DPure Tryz.prog 9 [aD (eProg p), aD (eState s), dI th, aD (eVal v)] fun d _ => d = dB true := by
  refine fn_ok [0,1,2,3,4,5,7,8,9,10,11,12,13,14,15,16,31,44,49,75] [(8, [0,1,3,7,15,31,63,127,255,511,1023,511,2559,8191,16383,32767,511,66047,197119,524287,1048575,2097151,4194303,8388607,16777215], (.seg 0 (.seg 1 (.seg 2 (.seg 3 (.seg 4 (.seg 5 (.seg 6 (.seg 7 (.seg 8 (.seg 9 (.seg 10 (.seg 11 (.seg 12 (.seg 13 (.seg 14 (.seg 15 (.seg 16 (.seg 17 (.seg 18 (.seg 19 (.seg 20 (.seg 21 (.seg 22 (.seg 23 (.seg 24 .last)))))))))))))))))))))))))), (12, [0,0,0,0,0,0,56,127,255,511,511,0,3071,8191], (.seg 0 (.seg 1 (.seg 2 (.seg 3 (.seg 4 (.seg 5 (.fork 6 [0, 2] (.fork 7 [] (.seg 8 (.seg 9 (.seg 10 (.eff 11 [] (.eff 12 [] (.seg 13 .last)))))) (.eff 11 [0, 2] (.eff 7 [] (.seg 8 (.seg 9 (.seg 10 (.eff 12 [] (.seg 13 .last)))))))) (.eff 11 [0, 2, 3, 4] (.eff 6 [0, 2] (.eff 7 [] (.seg 8 (.seg 9 (.seg 10 (.eff 12 [] (.seg 13 .last))))))))))))))))] Tryz.func9 rfl (by kernel_rfl) rfl rfl rfl rfl (by kernel_rfl) ?_
  simp
  have hsol : HSol (((Hp.none.set 0 (some ⟨.c 26, 3, [(eProg p).map .d]⟩)).set 1 (some ⟨.c 32, 8, [(eState s).map .d]⟩)).set 2 (some ⟨.c 50, 2, [[.d (eI v.kind), .d (eI v.n)]]⟩)) := by
    refine HSol.set (HSol.set (HSol.set HSol.zero ?_) ?_) ?_ <;> simp
  have hn : ∀ E w ι vs, RVs E w ι [aD (eState noS), .agg [.d .emp, .d .emp, .d .emp, .d .emp, .d .emp, .d .emp, .d (eI 0), .d (eI 0)]] vs → RVs E w ι [aD (eState noS), aD (eState noS)] vs := no_arg (es := (eState noS).map .d) ⟨.inr ⟨rfl, rfl⟩, .inr ⟨rfl, rfl⟩, .inr ⟨rfl, rfl⟩, .inr ⟨rfl, rfl⟩, .inr ⟨rfl, rfl⟩, .inr ⟨rfl, rfl⟩, .inl rfl, .inl rfl, trivial⟩
  by_cases q0 : askE p s th = 0
  case neg =>
    have q2 : yieldE p s th v = askE p s th := by unfold yieldE; rw [if_pos q0]
    refine yield_ok p hp s hs th v hsol (fun h0 => ?_) (fun h1 => absurd (q2 ▸ h1) q0)
    rw [q2]
    simp
    refine threadAsked_ok p hp s hs th ?_
    simp [q0]
    refine DPure.args hn ?_
    refine sameStates_ok noS noS ?_
    simp
  obtain ⟨q1, t, rfl, ht, c2, c3⟩ := ask_zero q0
  have hd : dTh s t = s.threads[t] := by simp [dTh, List.getD_eq_getElem?_getD, ht]
  have q2 : yieldE p s t v = if fitsB s v = false then 1 else if (lastF s.threads[t].frames).gen < 0 ∨ (lastF s.threads[t].frames).at_ = 0 ∨ ((fnAt p (lastF s.threads[t].frames).fn).code.getD ((lastF s.threads[t].frames).at_ - 1).toNat dIns).op ≠ 32 then 8 else 0 := by
    unfold yieldE; rw [if_neg (by simpa using q0), Int.toNat_natCast, hd]
  have hz := sized_of q1
  have b30 := (state_thread q1 (List.getElem_mem ht)).2
  obtain ⟨m, hm⟩ : ∃ m, s.threads[t].frames.length = m + 1 := ⟨_, (Nat.succ_pred_eq_of_pos (List.length_pos_iff.2 c3)).symm⟩
  have hml : m < s.threads[t].frames.length := by omega
  have hw : IntKind.i64.wrap (m : Int) = m := wrap_id (by omega) (by omega)
  have hlast : lastF s.threads[t].frames = s.threads[t].frames[m] := by simp [lastF, hm, List.getD_eq_getElem?_getD]
  have hmem : lastF s.threads[t].frames ∈ s.threads[t].frames := by rw [hlast]; exact List.getElem_mem hml
  have hst := thread_stack (state_thread q1 (List.getElem_mem ht)).1 hml
  have hge : s.threads[t].frames.getD m dFrame = lastF s.threads[t].frames := by rw [hlast, List.getD_eq_getElem?_getD, List.getElem?_eq_getElem hml]; rfl
  obtain ⟨-, -, b3, b4, b5, b6⟩ := frame_bnd (stateQ_iff.1 q1).1 (thread_frames q1 (List.getElem_mem ht) hmem)
  have hgens := thread_gens q1 (List.getElem_mem ht) hmem
  have hdt : s.threads.getD t dThread = s.threads[t] := placeE_len ht
  have hev : ∀ {K : D → List Blk → Prop}, K (aD (eEvent (placeE p s t))) [] → DPure Tryz.prog 38 [aD (eProg p), aD (eState s), dI t] K := fun hK =>
    eventAt_ok p s t ht (by have := hz.threads; omega) (by rw [hdt]; exact c3) (by rw [hdt]; omega) (by rw [hdt]; exact b3) (by rw [hdt]; exact b4) (by rw [hdt]; exact b5) (by rw [hdt]; exact b6) hK
  generalize hF : lastF s.threads[t].frames = f at *
  have hfa := fn_at b3 b4
  by_cases c4 : fitsB s v = true
  case neg =>
    rw [Bool.not_eq_true] at c4
    have q3 : yieldE p s t v = 1 := by rw [q2, if_pos c4]
    refine yield_ok p hp s hs t v hsol (fun h0 => ?_) (fun h1 => absurd (q3 ▸ h1) (by decide))
    rw [q3]
    simp
    refine threadAsked_ok p hp s hs t ?_
    simp [q0, ht, hm, hw]
    intro _
    refine fitsIn_ok s v ?_
    simp [c4]
    refine DPure.args hn ?_
    refine sameStates_ok noS noS ?_
    simp
  rw [if_neg (by rw [c4]; decide)] at q2
  by_cases c5 : f.gen < 0
  · have q3 : yieldE p s t v = 8 := by rw [q2, if_pos (.inl c5)]
    refine yield_ok p hp s hs t v hsol (fun h0 => ?_) (fun h1 => absurd (q3 ▸ h1) (by decide))
    rw [q3]
    simp
    refine threadAsked_ok p hp s hs t ?_
    simp [q0, ht, hm, hw, ← hlast]
    intro _
    refine fitsIn_ok s v ?_
    simp [c4, c5]
    refine DPure.args hn ?_
    refine sameStates_ok noS noS ?_
    simp
  by_cases c6 : f.at_ = 0
  · have q3 : yieldE p s t v = 8 := by rw [q2, if_pos (.inr (.inl c6))]
    refine yield_ok p hp s hs t v hsol (fun h0 => ?_) (fun h1 => absurd (q3 ▸ h1) (by decide))
    rw [q3]
    simp
    refine threadAsked_ok p hp s hs t ?_
    simp [q0, ht, hm, hw, ← hlast]
    intro _
    refine fitsIn_ok s v ?_
    simp [c4, c5, c6]
    refine DPure.args hn ?_
    refine sameStates_ok noS noS ?_
    simp
  have hcl := (large_lt (check_zero (stateQ_iff.1 q1).1).1).2.2.2 _ (fnAt_in b3 b4)
  obtain ⟨j, hj⟩ : ∃ j : Nat, f.at_ = j + 1 := ⟨(f.at_ - 1).toNat, by omega⟩
  have hwj : IntKind.i64.wrap (j : Int) = j := wrap_id (by omega) (by omega)
  have hjn : (f.at_ - 1).toNat = j := by omega
  have hjl : j < (fnAt p f.fn).code.length := by omega
  have hco : (fnAt p f.fn).code[j]? = some ((fnAt p f.fn).code.getD j dIns) := by
    rw [List.getD_eq_getElem?_getD, List.getElem?_eq_getElem hjl]; rfl
  rw [hjn] at q2
  have r9 : ¬ (j : Int) + 1 = 0 := by omega
  generalize hins : (fnAt p f.fn).code.getD j dIns = ins at *
  generalize hfq : fnAt p f.fn = fq at *
  have c5' : 0 ≤ f.gen := by omega
  by_cases c7 : ins.op = 32
  case neg =>
    have q3 : yieldE p s t v = 8 := by rw [q2, if_pos (.inr (.inr c7))]
    refine yield_ok p hp s hs t v hsol (fun h0 => ?_) (fun h1 => absurd (q3 ▸ h1) (by decide))
    rw [q3]
    simp
    refine threadAsked_ok p hp s hs t ?_
    simp [q0, ht, hm, hw, ← hlast]
    intro _
    refine fitsIn_ok s v ?_
    simp [c4, c5, hj, b3, hfa, hwj, hco, c7, r9]
    refine DPure.args hn ?_
    refine sameStates_ok noS noS ?_
    simp
  have q3 : yieldE p s t v = 0 := by rw [q2, if_neg (by omega)]
  obtain ⟨k1, k2, k3, k4⟩ := stack_gen hst (by rw [hge]; exact c5')
  obtain ⟨g, hg⟩ : ∃ g : Nat, f.gen = g := ⟨f.gen.toNat, by omega⟩
  have hgl : g < s.cells.length := by have := hgens c5'; omega
  have hkd : s.cells[g].kind = 5 := by
    rw [hge, hg] at k3
    simp only [namesB, Bool.and_eq_true, decide_eq_true_eq] at k3
    rw [at_nat hgl] at k3
    exact k3.2
  obtain ⟨w1, -⟩ := waits_of q1 hgl hkd
  have hto : ∀ h : m - 1 < s.threads[t].frames.length, f.to < s.threads[t].frames[m - 1].regs.length := fun h => by
    unfold stackB at hst
    simp only [Bool.and_eq_true, decide_eq_true_eq] at hst
    have := hst.1.2
    rw [if_neg (by omega), hge, List.getD_eq_getElem?_getD, List.getElem?_eq_getElem h] at this
    exact this
  have hfm : s.threads[t].frames[m]? = some f := by rw [hlast, List.getElem?_eq_getElem hml]
  have hyl : yieldL p s t v = [genE (placeE p s t) 15 g v] := by simp [yieldL, hd, hF, hg]
  refine yield_ok p hp s hs t v hsol (fun h0 => absurd q3 h0) (fun _ => ?_)
  rw [Int.toNat_natCast, hyl]
  simp
  refine threadAsked_ok p hp s hs t ?_
  simp [q0, ht, hm, hw, ← hlast]
  intro _
  refine fitsIn_ok s v ?_
  simp [c4, c5, hj, b3, hfa, hwj, hco, c7, r9]
  with_reducible refine ⟨?_, ?_⟩
  all_goals
    refine hev ?_
    simp
    repeat' (with_reducible refine And.intro ?_ ?_)
    all_goals
      refine ICall.ofPure (es := [aD (eState s), dI t, aD (eVal v), aD (eEvent (placeE p s t))]) (by simp) ?_
      refine yielded_ok s hz t v (placeE p s t) ⟨rfl, rfl⟩ ht hm k2 b30 hfm hg hgl hkd w1 hto ?_
      simp
      refine sameStates_ok (outS s t v) (outS s t v) ?_
      simp
      refine sameEvents_ok true true [genE (placeE p s t) 15 g v] [genE (placeE p s t) 15 g v] ?_
      simp

end Go.Proofs.YtjbkinmdcaegcaaGreatDoor
