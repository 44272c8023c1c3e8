/- Several texts in one. -/
import Derived.Test.YtjbkinmdcaegcaaGreatDoorMd
import Derived.Test.YtjbkinmdcaegcaaGreatDoorMm
import Derived.Test.YtjbkinmdcaegcaaGreatDoorMu
set_option linter.unusedSimpArgs false
set_option linter.unusedVariables false
set_option maxRecDepth 100000
set_option maxHeartbeats 16000000
namespace Go.Proofs.YtjbkinmdcaegcaaGreatDoor
open Go.RowKit Go

theorem resumed_ok (p : GProg) (s : GState) (hz : Sized s) (th g : Nat) (v : GVal) (to_ : Int) (e : GEvent) (he : e.b = 0 ∧ e.old = ⟨0, 0⟩) (hth : th < s.threads.length) (hg : g < s.cells.length) (hl : s.threads[th].frames.length ≤ 30) (hk : s.cells[g].kind = 5) (hv : s.cells[g].vals = [])
    (hto : 0 ≤ to_ → ∃ k, ∃ hk : k < s.threads[th].frames.length, s.threads[th].frames.length = k + 1 ∧ to_ < s.threads[th].frames[k].regs.length) (hw : s.cells[g].num ≠ 2 → ∃ f, s.cells[g].frames = [f] ∧ GoOk p f) {K : D → List Blk → Prop}
    (h0 : deepB s th g = true → K (.tup [aD (eState s), dL true [], dB false]) []) (h1 : deepB s th g = false → K (.tup [aD (eState (goS p s th g v to_)), dL true ((goL s g v e).map eEvent), dB true]) []) :
    DPure Tryz.prog 46 [aD (eProg p), aD (eState s), dI th, dI g, aD (eVal v), dI to_, aD (eEvent e)] K := by
  have hdT : dTh s th = s.threads[th] := by simp [dTh, List.getD_eq_getElem?_getD, hth]
  have hdC : dGC s g = s.cells[g] := by simp [dGC, List.getD_eq_getElem?_getD, hg]
  refine DPure.ofI ?_
  refine fnwi_ok [0,1,2,3,4,5,6,7,8,11,13,14,15,16,17,24,37,55] [(9, [0,1,0,4,0,16,60,124,252,0,512,1536,4092,8188,16380,0,65535,131071], (.seg 0 (.seg 1 (.seg 2 (.seg 3 (.seg 4 (.seg 5 (.seg 6 (.seg 7 (.seg 8 (.seg 9 (.seg 10 (.seg 11 (.seg 12 (.seg 13 (.seg 14 (.seg 15 (.seg 16 (.eff 17 [] .last))))))))))))))))))), (11, [0,1,0,0,8,0,56,120,248,0,512,2040,4095,8191,16383], (.seg 0 (.seg 2 (.seg 3 (.seg 4 (.seg 5 (.seg 6 (.seg 7 (.seg 8 (.seg 9 (.fork 1 [3, 4, 6, 7, 8, 9] (.eff 10 [3, 4, 6, 7, 8] (.eff 11 [] (.seg 12 (.seg 13 (.eff 14 [] .last))))) (.eff 10 [0, 3, 4, 6, 7, 8] (.fork 1 [3, 4, 6, 7, 8] (.eff 11 [] (.seg 12 (.seg 13 (.eff 14 [] .last)))) (.eff 11 [0] (.eff 1 [] (.seg 12 (.seg 13 (.eff 14 [] .last)))))))))))))))))), (12, [0,0,0,0,0,30,62,63,255,511], (.seg 0 (.seg 1 (.seg 2 (.seg 3 (.seg 4 (.eff 5 [0] (.fork 6 [0] (.eff 7 [] (.seg 8 (.seg 9 .last))) (.eff 7 [] (.eff 6 [] (.seg 8 (.seg 9 .last))))))))))))] Tryz.func46 rfl (by kernel_rfl) rfl rfl rfl rfl (by kernel_rfl) ?_
  by_cases k2 : s.cells[g].num = 2
  · have hd0 : deepB s th g = false := by simp [deepB, hdC, k2]
    simp [hg, k2]
    refine ⟨_, rfl, Wk.refl _, ?_⟩
    simp [vcC0]
    refine regSet_ok s hz th hth to_ ⟨0, 0⟩ hto (by omega) ?_
    simp
    refine ⟨_, Wk.refl _, ?_⟩
    simp [retPI]
    have hgo : goS p s th g v to_ = s.setT th (intoT s.threads[th] to_ ⟨0, 0⟩) := by rw [goS, hdC, if_pos k2, hdT]
    have hgl : goL s g v e = [] := by rw [goL, hdC, if_pos k2]
    have h2 := h1 hd0
    rw [hgo, hgl] at h2
    refine ⟨?_, .tup [aD (eState (s.setT th (intoT s.threads[th] to_ ⟨0, 0⟩))), dL true [], dB true], ⟨CsS.csShw (CsS.dat (l := eState (s.setT th (intoT s.threads[th] to_ ⟨0, 0⟩))) (by simp)), ⟨_, rfl, .emp⟩, ⟨_, rfl, .d rfl⟩, trivial⟩, h2⟩
    repeat' (first | exact HSol.nil | exact HSol.zero | refine HSol.set ?_ ?_ | (simp; done))
  by_cases k3 : s.threads[th].frames.length = 30
  · have hd0 : deepB s th g = true := by simp [deepB, hdC, k2, hdT, k3]
    simp [hg, k2, hth, k3]
    refine ⟨_, Wk.refl _, ?_⟩
    simp [retPI]
    refine ⟨?_, .tup [aD (eState s), dL true [], dB false], ⟨CsS.csShw (CsS.dat (l := eState s) (by simp)), ⟨_, rfl, .emp⟩, ⟨_, rfl, .d rfl⟩, trivial⟩, h0 hd0⟩
    repeat' (first | exact HSol.nil | exact HSol.zero | refine HSol.set ?_ ?_ | (simp; done))
  obtain ⟨f, hf, hgo⟩ := hw k2
  have k4 : ¬ (s.threads[th].frames.length : Int) = 30 := by omega
  have hd0 : deepB s th g = false := by simp [deepB, hdC, hdT]; omega
  simp [hg, k2, hth, k4]
  intro _
  refine copiedO_ic s hz ?_ (fun H1 A n1 hn1 low1 high1 sol1 hO => ?_)
  · repeat' (first | exact HSol.nil | exact HSol.zero | refine HSol.set ?_ ?_ | (simp; done))
  have b0 : H1 0 = some ⟨.c 26, 3, [(eProg p).map .d]⟩ := by rw [low1 _ (by omega)]; simp [Hp.set]
  have b1 : H1 1 = some ⟨.c 32, 8, [(eState s).map .d]⟩ := by rw [low1 _ (by omega)]; simp [Hp.set]
  have b2 : H1 2 = some ⟨.c 50, 2, [[.d (eI v.kind), .d (eI v.n)]]⟩ := by rw [low1 _ (by omega)]; simp [Hp.set]
  have b3 : H1 3 = some ⟨.c 76, 12, [[C.d (eI e.kind), C.d (eI e.step), C.d (eI e.thread), C.d (eI e.fn), C.d (eI e.at_), C.d (eI e.line), C.d (eI e.a), C.d (eI e.b), C.d (eI e.val.kind), C.d (eI e.val.n), C.d (eI e.old.kind), C.d (eI e.old.n)]]⟩ := by rw [low1 _ (by omega)]; simp [Hp.set]
  have b4 : H1 4 = some ⟨.c 32, 8, [[.d .emp, .d .emp, .d .emp, .d .emp, .d .emp, .d .emp, .d (eI 0), .d (eI 0)]]⟩ := by rw [low1 _ (by omega)]; simp [Hp.set]
  clear low1
  have n0 : ∀ x, Live s x → 5 ≤ A x ∧ A x < n1 := fun x hx => ⟨hO.lo x hx, hO.lt high1 hx⟩
  obtain ⟨R, r1, r2, r3⟩ := hO.th
  obtain ⟨r4, r5⟩ := List.getElem?_eq_some_iff.1 (r3 th hth)
  rw [oTh, thR] at r5
  obtain ⟨Q, c1, c2, c3⟩ := hO.ce
  obtain ⟨c4, c5⟩ := List.getElem?_eq_some_iff.1 (c3 g hg)
  rw [oCe, ceR] at c5
  have hfl : s.cells[g].frames.length = 1 := by rw [hf]; rfl
  have hg0 : 0 < s.cells[g].frames.length := by omega
  have hfe : s.cells[g].frames[0] = f := by simp [hf]
  obtain ⟨GR, f1, f2, f3⟩ := (hO.cf g hg).blk
  obtain ⟨f4, f5⟩ := List.getElem?_eq_some_iff.1 (f3 0 hg0)
  rw [hfe, frRow] at f5
  obtain ⟨FR, g1, g2, g3⟩ := (hO.tf th hth).blk
  obtain ⟨ys, y1⟩ := (hO.cf g hg).regs 0 hg0
  obtain ⟨zs, y2⟩ := (hO.cf g hg).tries 0 hg0
  rw [hfe] at y1 y2
  have y3 := y1
  rw [valBlk] at y3
  have m1 := n0 .t trivial
  have m2 := n0 .c trivial
  have m3 := n0 (.cf g) hg
  have m4 := n0 (.tf th) hth
  have m5 := n0 _ (live_cr hg hg0)
  have m6 := n0 _ (live_ct hg hg0)
  have hg01 : (0 : Nat) < GR.length := f4
  have hFl : s.threads[th].frames.length ≤ FR.length := rows_le g3
  have u0 : ¬ A .c = A .t := hO.ne (x := .c) (y := .t) trivial trivial (fun e => by cases e)
  have u1 : ¬ A .c = A (.tf th) := hO.ne (x := .c) (y := .tf th) trivial hth (fun e => by cases e)
  have u2 : ¬ A .c = A (.cr g 0) := hO.ne (x := .c) (y := .cr g 0) trivial (live_cr hg hg0) (fun e => by cases e)
  have u3 : ¬ A .t = A .c := hO.ne (x := .t) (y := .c) trivial trivial (fun e => by cases e)
  have u4 : ¬ A .t = A (.tf th) := hO.ne (x := .t) (y := .tf th) trivial hth (fun e => by cases e)
  have u5 : ¬ A .t = A (.cr g 0) := hO.ne (x := .t) (y := .cr g 0) trivial (live_cr hg hg0) (fun e => by cases e)
  have u6 : ¬ A (.tf th) = A .c := hO.ne (x := .tf th) (y := .c) hth trivial (fun e => by cases e)
  have u7 : ¬ A (.tf th) = A .t := hO.ne (x := .tf th) (y := .t) hth trivial (fun e => by cases e)
  have u8 : ¬ A (.tf th) = A (.cr g 0) := hO.ne (x := .tf th) (y := .cr g 0) hth (live_cr hg hg0) (fun e => by cases e)
  have u9 : ¬ A (.cr g 0) = A .c := hO.ne (x := .cr g 0) (y := .c) (live_cr hg hg0) trivial (fun e => by cases e)
  have u10 : ¬ A (.cr g 0) = A .t := hO.ne (x := .cr g 0) (y := .t) (live_cr hg hg0) trivial (fun e => by cases e)
  have u11 : ¬ A (.cr g 0) = A (.tf th) := hO.ne (x := .cr g 0) (y := .tf th) (live_cr hg hg0) hth (fun e => by cases e)
  have u12 : ¬ n1 = A .c := by omega
  have u13 : ¬ A .c = n1 := by omega
  have u14 : ¬ n1 + 1 = A .c := by omega
  have u15 : ¬ A .c = n1 + 1 := by omega
  have u16 : ¬ n1 + 2 = A .c := by omega
  have u17 : ¬ A .c = n1 + 2 := by omega
  have u18 : ¬ n1 + 3 = A .c := by omega
  have u19 : ¬ A .c = n1 + 3 := by omega
  have u20 : ¬ n1 + 4 = A .c := by omega
  have u21 : ¬ A .c = n1 + 4 := by omega
  have u22 : ¬ n1 + 5 = A .c := by omega
  have u23 : ¬ A .c = n1 + 5 := by omega
  have u24 : ¬ 0 = A .c := by omega
  have u25 : ¬ A .c = 0 := by omega
  have u26 : ¬ 1 = A .c := by omega
  have u27 : ¬ A .c = 1 := by omega
  have u28 : ¬ 2 = A .c := by omega
  have u29 : ¬ A .c = 2 := by omega
  have u30 : ¬ 3 = A .c := by omega
  have u31 : ¬ A .c = 3 := by omega
  have u32 : ¬ 4 = A .c := by omega
  have u33 : ¬ A .c = 4 := by omega
  have u34 : ¬ n1 = A .t := by omega
  have u35 : ¬ A .t = n1 := by omega
  have u36 : ¬ n1 + 1 = A .t := by omega
  have u37 : ¬ A .t = n1 + 1 := by omega
  have u38 : ¬ n1 + 2 = A .t := by omega
  have u39 : ¬ A .t = n1 + 2 := by omega
  have u40 : ¬ n1 + 3 = A .t := by omega
  have u41 : ¬ A .t = n1 + 3 := by omega
  have u42 : ¬ n1 + 4 = A .t := by omega
  have u43 : ¬ A .t = n1 + 4 := by omega
  have u44 : ¬ n1 + 5 = A .t := by omega
  have u45 : ¬ A .t = n1 + 5 := by omega
  have u46 : ¬ 0 = A .t := by omega
  have u47 : ¬ A .t = 0 := by omega
  have u48 : ¬ 1 = A .t := by omega
  have u49 : ¬ A .t = 1 := by omega
  have u50 : ¬ 2 = A .t := by omega
  have u51 : ¬ A .t = 2 := by omega
  have u52 : ¬ 3 = A .t := by omega
  have u53 : ¬ A .t = 3 := by omega
  have u54 : ¬ 4 = A .t := by omega
  have u55 : ¬ A .t = 4 := by omega
  have u56 : ¬ n1 = A (.tf th) := by omega
  have u57 : ¬ A (.tf th) = n1 := by omega
  have u58 : ¬ n1 + 1 = A (.tf th) := by omega
  have u59 : ¬ A (.tf th) = n1 + 1 := by omega
  have u60 : ¬ n1 + 2 = A (.tf th) := by omega
  have u61 : ¬ A (.tf th) = n1 + 2 := by omega
  have u62 : ¬ n1 + 3 = A (.tf th) := by omega
  have u63 : ¬ A (.tf th) = n1 + 3 := by omega
  have u64 : ¬ n1 + 4 = A (.tf th) := by omega
  have u65 : ¬ A (.tf th) = n1 + 4 := by omega
  have u66 : ¬ n1 + 5 = A (.tf th) := by omega
  have u67 : ¬ A (.tf th) = n1 + 5 := by omega
  have u68 : ¬ 0 = A (.tf th) := by omega
  have u69 : ¬ A (.tf th) = 0 := by omega
  have u70 : ¬ 1 = A (.tf th) := by omega
  have u71 : ¬ A (.tf th) = 1 := by omega
  have u72 : ¬ 2 = A (.tf th) := by omega
  have u73 : ¬ A (.tf th) = 2 := by omega
  have u74 : ¬ 3 = A (.tf th) := by omega
  have u75 : ¬ A (.tf th) = 3 := by omega
  have u76 : ¬ 4 = A (.tf th) := by omega
  have u77 : ¬ A (.tf th) = 4 := by omega
  have u78 : ¬ n1 = A (.cr g 0) := by omega
  have u79 : ¬ A (.cr g 0) = n1 := by omega
  have u80 : ¬ n1 + 1 = A (.cr g 0) := by omega
  have u81 : ¬ A (.cr g 0) = n1 + 1 := by omega
  have u82 : ¬ n1 + 2 = A (.cr g 0) := by omega
  have u83 : ¬ A (.cr g 0) = n1 + 2 := by omega
  have u84 : ¬ n1 + 3 = A (.cr g 0) := by omega
  have u85 : ¬ A (.cr g 0) = n1 + 3 := by omega
  have u86 : ¬ n1 + 4 = A (.cr g 0) := by omega
  have u87 : ¬ A (.cr g 0) = n1 + 4 := by omega
  have u88 : ¬ n1 + 5 = A (.cr g 0) := by omega
  have u89 : ¬ A (.cr g 0) = n1 + 5 := by omega
  have u90 : ¬ 0 = A (.cr g 0) := by omega
  have u91 : ¬ A (.cr g 0) = 0 := by omega
  have u92 : ¬ 1 = A (.cr g 0) := by omega
  have u93 : ¬ A (.cr g 0) = 1 := by omega
  have u94 : ¬ 2 = A (.cr g 0) := by omega
  have u95 : ¬ A (.cr g 0) = 2 := by omega
  have u96 : ¬ 3 = A (.cr g 0) := by omega
  have u97 : ¬ A (.cr g 0) = 3 := by omega
  have u98 : ¬ 4 = A (.cr g 0) := by omega
  have u99 : ¬ A (.cr g 0) = 4 := by omega
  have u100 : ¬ n1 = A (.cf g) := by omega
  have u101 : ¬ A (.cf g) = n1 := by omega
  have u102 : ¬ n1 + 1 = A (.cf g) := by omega
  have u103 : ¬ A (.cf g) = n1 + 1 := by omega
  have u104 : ¬ n1 + 2 = A (.cf g) := by omega
  have u105 : ¬ A (.cf g) = n1 + 2 := by omega
  have u106 : ¬ n1 + 3 = A (.cf g) := by omega
  have u107 : ¬ A (.cf g) = n1 + 3 := by omega
  have u108 : ¬ n1 + 4 = A (.cf g) := by omega
  have u109 : ¬ A (.cf g) = n1 + 4 := by omega
  have u110 : ¬ n1 + 5 = A (.cf g) := by omega
  have u111 : ¬ A (.cf g) = n1 + 5 := by omega
  have u112 : ¬ 0 = A (.cf g) := by omega
  have u113 : ¬ A (.cf g) = 0 := by omega
  have u114 : ¬ 1 = A (.cf g) := by omega
  have u115 : ¬ A (.cf g) = 1 := by omega
  have u116 : ¬ 2 = A (.cf g) := by omega
  have u117 : ¬ A (.cf g) = 2 := by omega
  have u118 : ¬ 3 = A (.cf g) := by omega
  have u119 : ¬ A (.cf g) = 3 := by omega
  have u120 : ¬ 4 = A (.cf g) := by omega
  have u121 : ¬ A (.cf g) = 4 := by omega
  have u122 : ¬ 0 = n1 := by omega
  have u123 : ¬ 0 = n1 + 1 := by omega
  have u124 : ¬ 0 = n1 + 2 := by omega
  have u125 : ¬ 0 = n1 + 3 := by omega
  have u126 : ¬ 0 = n1 + 4 := by omega
  have u127 : ¬ 0 = n1 + 5 := by omega
  have u128 : ¬ n1 = 0 := by omega
  have u129 : ¬ 1 = n1 := by omega
  have u130 : ¬ 1 = n1 + 1 := by omega
  have u131 : ¬ 1 = n1 + 2 := by omega
  have u132 : ¬ 1 = n1 + 3 := by omega
  have u133 : ¬ 1 = n1 + 4 := by omega
  have u134 : ¬ 1 = n1 + 5 := by omega
  have u135 : ¬ n1 = 1 := by omega
  have u136 : ¬ 2 = n1 := by omega
  have u137 : ¬ 2 = n1 + 1 := by omega
  have u138 : ¬ 2 = n1 + 2 := by omega
  have u139 : ¬ 2 = n1 + 3 := by omega
  have u140 : ¬ 2 = n1 + 4 := by omega
  have u141 : ¬ 2 = n1 + 5 := by omega
  have u142 : ¬ n1 = 2 := by omega
  have u143 : ¬ 3 = n1 := by omega
  have u144 : ¬ 3 = n1 + 1 := by omega
  have u145 : ¬ 3 = n1 + 2 := by omega
  have u146 : ¬ 3 = n1 + 3 := by omega
  have u147 : ¬ 3 = n1 + 4 := by omega
  have u148 : ¬ 3 = n1 + 5 := by omega
  have u149 : ¬ n1 = 3 := by omega
  have u150 : ¬ 4 = n1 := by omega
  have u151 : ¬ 4 = n1 + 1 := by omega
  have u152 : ¬ 4 = n1 + 2 := by omega
  have u153 : ¬ 4 = n1 + 3 := by omega
  have u154 : ¬ 4 = n1 + 4 := by omega
  have u155 : ¬ 4 = n1 + 5 := by omega
  have u156 : ¬ n1 = 4 := by omega
  obtain ⟨w1, w2, w3, w4, w5, w6, w7⟩ := hgo
  have hfa := fn_at w1 w2
  have hgS : goS p s th g v to_ = (s.setC g ⟨5, 1, [], []⟩).setT th ⟨s.threads[th].frames ++ [goF p f g v to_], s.threads[th].state, s.threads[th].on, s.threads[th].val⟩ := by
    rw [goS, hdC, if_neg k2, hdT, hf, hk, hv]; rfl
  have hgL : goL s g v e = [⟨16, e.step, e.thread, e.fn, e.at_, e.line, g, 0, v, ⟨0, 0⟩⟩] := by rw [goL, hdC, if_neg k2]; simp [genE, he]
  have h2 := h1 hd0
  rw [hgL] at h2
  clear h1 h0
  have fin : ∀ (Hf : Hp) (n5 n6 : Nat) (at' : Int), at' = f.at_ → n1 + 3 ≤ n5 → n5 < n6 → HSol Hf → (∀ q, 5 ≤ q → q < n1 → q ≠ A .c → q ≠ A .t → q ≠ A (.tf th) → q ≠ A (.cr g 0) → Hf q = H1 q) →
      Hf (A .t) = some ⟨.c 56, 5, R.set th [C.own (n1 + 2) 8 (s.threads[th].frames.length + 1), C.d (eI s.threads[th].state), C.d (eI s.threads[th].on), C.d (eI s.threads[th].val.kind), C.d (eI s.threads[th].val.n)]⟩ →
      Hf (n1 + 2) = some ⟨.c 61, 8, FR.take s.threads[th].frames.length ++ [[C.d (eI f.fn), C.d (eI at'), C.d (eI to_), C.d (eI g), C.d (eI f.self.kind), C.d (eI f.self.n), C.own (A (.cr g 0)) 2 f.regs.length, C.own (A (.ct g 0)) 2 f.tries.length]]⟩ → Hf (A (.cr g 0)) = some (valBlk ((goF p f g v to_).regs ++ ys)) → Hf n5 = some ⟨.c 76, 12, [evRow ⟨16, e.step, e.thread, e.fn, e.at_, e.line, g, 0, v, ⟨0, 0⟩⟩]⟩ →
      HSol ((((Hf.set (A .c) (some ⟨.c 48, 4, Q.set g [C.d (eI 5), C.d (eI 1), C.own n6 2 0, C.d .emp]⟩)).set n6 (some ⟨.c 50, 2, []⟩)).set (A .c) (some ⟨.c 48, 4, Q.set g [C.d (eI 5), C.d (eI 1), C.own n6 2 0, C.own (n6 + 1) 8 0]⟩)).set (n6 + 1) (some ⟨.c 61, 8, []⟩)) ∧ ∃ d', DShw ((((Hf.set (A .c) (some ⟨.c 48, 4, Q.set g [C.d (eI 5), C.d (eI 1), C.own n6 2 0, C.d .emp]⟩)).set n6 (some ⟨.c 50, 2, []⟩)).set (A .c) (some ⟨.c 48, 4, Q.set g [C.d (eI 5), C.d (eI 1), C.own n6 2 0, C.own (n6 + 1) 8 0]⟩)).set (n6 + 1) (some ⟨.c 61, 8, []⟩)) (fun _ => True) (.tup [.agg (oRow A s), .one (.own n5 12 1), dB true]) d' ∧ K d' [] := by
    intro Hf n5 n6 at' hat h5 h56 solf lowf hft hf4 hfr5 hf5
    subst hat
    have hqn : newRs (Q.set g [C.d (eI 5), C.d (eI 1), C.own n6 2 0, C.own (n6 + 1) 8 0]) := c2.set (fun c hc => by simp at hc; rcases hc with rfl | rfl | rfl | rfl <;> rfl)
    have solF : HSol ((((Hf.set (A .c) (some ⟨.c 48, 4, Q.set g [C.d (eI 5), C.d (eI 1), C.own n6 2 0, C.d .emp]⟩)).set n6 (some ⟨.c 50, 2, []⟩)).set (A .c) (some ⟨.c 48, 4, Q.set g [C.d (eI 5), C.d (eI 1), C.own n6 2 0, C.own (n6 + 1) 8 0]⟩)).set (n6 + 1) (some ⟨.c 61, 8, []⟩)) := (((solf.set (c2.set (fun c hc => by simp at hc; rcases hc with rfl | rfl | rfl | rfl <;> rfl)).sol).set (by simp)).set hqn.sol).set (by simp)
    refine ⟨solF, ?_⟩
    have w0 : ∀ q, q ≠ A .c → q ≠ n6 → q ≠ n6 + 1 → ((((Hf.set (A .c) (some ⟨.c 48, 4, Q.set g [C.d (eI 5), C.d (eI 1), C.own n6 2 0, C.d .emp]⟩)).set n6 (some ⟨.c 50, 2, []⟩)).set (A .c) (some ⟨.c 48, 4, Q.set g [C.d (eI 5), C.d (eI 1), C.own n6 2 0, C.own (n6 + 1) 8 0]⟩)).set (n6 + 1) (some ⟨.c 61, 8, []⟩)) q = Hf q := fun q h1 h2 h3 => by rw [Hp.set_ne _ _ h3, Hp.set_ne _ _ h1, Hp.set_ne _ _ h2, Hp.set_ne _ _ h1]
    have w1 : ((((Hf.set (A .c) (some ⟨.c 48, 4, Q.set g [C.d (eI 5), C.d (eI 1), C.own n6 2 0, C.d .emp]⟩)).set n6 (some ⟨.c 50, 2, []⟩)).set (A .c) (some ⟨.c 48, 4, Q.set g [C.d (eI 5), C.d (eI 1), C.own n6 2 0, C.own (n6 + 1) 8 0]⟩)).set (n6 + 1) (some ⟨.c 61, 8, []⟩)) (A .c) = some ⟨.c 48, 4, Q.set g [C.d (eI 5), C.d (eI 1), C.own n6 2 0, C.own (n6 + 1) 8 0]⟩ := by rw [Hp.set_ne _ _ (by omega), Hp.set_same]
    have w2 : ((((Hf.set (A .c) (some ⟨.c 48, 4, Q.set g [C.d (eI 5), C.d (eI 1), C.own n6 2 0, C.d .emp]⟩)).set n6 (some ⟨.c 50, 2, []⟩)).set (A .c) (some ⟨.c 48, 4, Q.set g [C.d (eI 5), C.d (eI 1), C.own n6 2 0, C.own (n6 + 1) 8 0]⟩)).set (n6 + 1) (some ⟨.c 61, 8, []⟩)) (n6 + 1) = some ⟨.c 61, 8, []⟩ := Hp.set_same _ _ _
    have w3 : ((((Hf.set (A .c) (some ⟨.c 48, 4, Q.set g [C.d (eI 5), C.d (eI 1), C.own n6 2 0, C.d .emp]⟩)).set n6 (some ⟨.c 50, 2, []⟩)).set (A .c) (some ⟨.c 48, 4, Q.set g [C.d (eI 5), C.d (eI 1), C.own n6 2 0, C.own (n6 + 1) 8 0]⟩)).set (n6 + 1) (some ⟨.c 61, 8, []⟩)) n6 = some ⟨.c 50, 2, []⟩ := by rw [Hp.set_ne _ _ (by omega), Hp.set_ne _ _ (by omega), Hp.set_same]
    generalize ((((Hf.set (A .c) (some ⟨.c 48, 4, Q.set g [C.d (eI 5), C.d (eI 1), C.own n6 2 0, C.d .emp]⟩)).set n6 (some ⟨.c 50, 2, []⟩)).set (A .c) (some ⟨.c 48, 4, Q.set g [C.d (eI 5), C.d (eI 1), C.own n6 2 0, C.own (n6 + 1) 8 0]⟩)).set (n6 + 1) (some ⟨.c 61, 8, []⟩)) = Z at *
    have x0 : ∀ x, Live s x → A x ≠ n6 ∧ A x ≠ n6 + 1 := fun x hx => by have := n0 x hx; omega
    have z0 : ∀ x, Live s x → x ≠ .c → x ≠ .t → x ≠ .tf th → x ≠ .cr g 0 → Z (A x) = H1 (A x) := fun x hx y1 y2 y3 y4 => by
      rw [w0 _ (hO.ne hx (y := .c) trivial y1) (x0 x hx).1 (x0 x hx).2, lowf _ (n0 x hx).1 (n0 x hx).2 (hO.ne hx (y := .c) trivial y1) (hO.ne hx (y := .t) trivial y2) (hO.ne hx (y := .tf th) hth y3) (hO.ne hx (live_cr hg hg0) y4)]
    have v0 : ∀ q, q ≠ A .c → q ≠ n6 → q ≠ n6 + 1 → (((H1.set (A .c) (some ⟨.c 48, 4, Q.set g [C.d (eI 5), C.d (eI 1), C.own n6 2 0, C.own (n6 + 1) 8 0]⟩)).set n6 (some ⟨.c 50, 2, []⟩)).set (n6 + 1) (some ⟨.c 61, 8, []⟩)) q = H1 q := fun q h1 h2 h3 => by rw [Hp.set_ne _ _ h3, Hp.set_ne _ _ h2, Hp.set_ne _ _ h1]
    have v1 : (((H1.set (A .c) (some ⟨.c 48, 4, Q.set g [C.d (eI 5), C.d (eI 1), C.own n6 2 0, C.own (n6 + 1) 8 0]⟩)).set n6 (some ⟨.c 50, 2, []⟩)).set (n6 + 1) (some ⟨.c 61, 8, []⟩)) (A .c) = some ⟨.c 48, 4, Q.set g [C.d (eI 5), C.d (eI 1), C.own n6 2 0, C.own (n6 + 1) 8 0]⟩ := by rw [Hp.set_ne _ _ (by omega), Hp.set_ne _ _ (by omega), Hp.set_same]
    have v2 : (((H1.set (A .c) (some ⟨.c 48, 4, Q.set g [C.d (eI 5), C.d (eI 1), C.own n6 2 0, C.own (n6 + 1) 8 0]⟩)).set n6 (some ⟨.c 50, 2, []⟩)).set (n6 + 1) (some ⟨.c 61, 8, []⟩)) (n6 + 1) = some ⟨.c 61, 8, []⟩ := Hp.set_same _ _ _
    have v3 : (((H1.set (A .c) (some ⟨.c 48, 4, Q.set g [C.d (eI 5), C.d (eI 1), C.own n6 2 0, C.own (n6 + 1) 8 0]⟩)).set n6 (some ⟨.c 50, 2, []⟩)).set (n6 + 1) (some ⟨.c 61, 8, []⟩)) n6 = some ⟨.c 50, 2, []⟩ := by rw [Hp.set_ne _ _ (by omega), Hp.set_same]
    generalize (((H1.set (A .c) (some ⟨.c 48, 4, Q.set g [C.d (eI 5), C.d (eI 1), C.own n6 2 0, C.own (n6 + 1) 8 0]⟩)).set n6 (some ⟨.c 50, 2, []⟩)).set (n6 + 1) (some ⟨.c 61, 8, []⟩)) = X at *
    have O1 : OwnS X 5 (withC A g n6 (n6 + 1) (fun _ => 0) (fun _ => 0)) (s.setC g ⟨5, 1, [], []⟩) := by
      refine hO.newC hg n6 (n6 + 1) _ _ (fun x hx h1 h2 => v0 _ (hO.ne hx (y := .c) trivial h2) (x0 x hx).1 (x0 x hx).2) c1 v1 ⟨[], v3⟩ ⟨⟨[], v2, (fun e he => by cases he), fun j hj => absurd hj (Nat.not_lt_zero _)⟩, fun j hj => absurd hj (Nat.not_lt_zero _), fun j hj => absurd hj (Nat.not_lt_zero _)⟩ (by omega) (fun j hj => absurd hj (Nat.not_lt_zero _)) ⟨fun j hj => absurd hj (Nat.not_lt_zero _), fun j k hj => absurd hj (Nat.not_lt_zero _), fun j k hj => absurd hj (Nat.not_lt_zero _), fun j k hj => absurd hj (Nat.not_lt_zero _)⟩
        (fun x hx h1 => ⟨(x0 x hx).1, (x0 x hx).2, fun j hj => absurd hj (Nat.not_lt_zero _)⟩) ⟨by omega, by omega, fun j hj => absurd hj (Nat.not_lt_zero _)⟩
    have hl1 : ∀ x, Live (s.setC g ⟨5, 1, [], []⟩) x → Live s x := fun x hx => live_lessC hg (by simp) hx
    have hnc : ∀ j, ¬ Live (s.setC g ⟨5, 1, [], []⟩) (.cr g j) ∧ ¬ Live (s.setC g ⟨5, 1, [], []⟩) (.ct g j) := fun j => by
      have : (s.setC g ⟨5, 1, [], []⟩).cells[g]? = some ⟨5, 1, [], []⟩ := by simp only [GState.setC]; exact List.getElem?_set_self hg
      constructor
      all_goals
        rintro ⟨c, y1, y2⟩
        rw [this, Option.some.injEq] at y1
        subst y1
        exact absurd y2 (Nat.not_lt_zero _)
    have hA1 : ∀ x, Live (s.setC g ⟨5, 1, [], []⟩) x → (x = .cf g ∧ withC A g n6 (n6 + 1) (fun _ => 0) (fun _ => 0) x = n6 + 1) ∨ (x = .cv g ∧ withC A g n6 (n6 + 1) (fun _ => 0) (fun _ => 0) x = n6) ∨ (¬ ofC g x ∧ Live s x ∧ withC A g n6 (n6 + 1) (fun _ => 0) (fun _ => 0) x = A x) := fun x hx => by
      by_cases hc : ofC g x
      · cases x <;> simp only [ofC] at hc
        · subst hc; exact .inr (.inl ⟨rfl, by simp [withC]⟩)
        · subst hc; exact .inl ⟨rfl, by simp [withC]⟩
        · subst hc; exact absurd hx (hnc _).1
        · subst hc; exact absurd hx (hnc _).2
      · exact .inr (.inr ⟨hc, hl1 x hx, withC_out hc⟩)
    have hthl : ∀ j, j < s.threads[th].frames.length → Live s (.tr th j) ∧ Live s (.tt th j) := fun j hj => ⟨live_tr hth hj, live_tt hth hj⟩
    have cr0 := live_cr hg hg0
    have ct0 := live_ct hg hg0
    have hlen2 : (s.threads[th].frames ++ [goF p f g v to_]).length = s.threads[th].frames.length + 1 := by simp
    have hb2 : ∀ j, (if j < s.threads[th].frames.length then A (.tr th j) else A (.cr g 0)) < n1 ∧ (if j < s.threads[th].frames.length then A (.tt th j) else A (.ct g 0)) < n1 := fun j => by
      by_cases y : j < s.threads[th].frames.length
      · simp only [y, if_true]; exact ⟨(n0 _ (hthl j y).1).2, (n0 _ (hthl j y).2).2⟩
      · simp only [y, if_false]; exact ⟨(n0 _ cr0).2, (n0 _ ct0).2⟩
    have hlo3 : ∀ j, 5 ≤ (if j < s.threads[th].frames.length then A (.tr th j) else A (.cr g 0)) ∧ 5 ≤ (if j < s.threads[th].frames.length then A (.tt th j) else A (.ct g 0)) := fun j => by
      by_cases y : j < s.threads[th].frames.length
      · simp only [y, if_true]; exact ⟨hO.lo _ (hthl j y).1, hO.lo _ (hthl j y).2⟩
      · simp only [y, if_false]; exact ⟨hO.lo _ cr0, hO.lo _ ct0⟩
    have hL2 : LocF (s.threads[th].frames ++ [goF p f g v to_]).length (n1 + 2) (fun j => if j < s.threads[th].frames.length then A (.tr th j) else A (.cr g 0)) (fun j => if j < s.threads[th].frames.length then A (.tt th j) else A (.ct g 0)) := by
      refine ⟨fun j hj => ?_, fun j k hj hk => ?_, fun j k hj hk e => ?_, fun j k hj hk e => ?_⟩
      · have := hb2 j
        exact ⟨by omega, by omega⟩
      · by_cases y : j < s.threads[th].frames.length <;> by_cases y' : k < s.threads[th].frames.length <;> simp only [y, y', if_true, if_false]
        · exact hO.ne (hthl j y).1 (hthl k y').2 (fun e => by cases e)
        · exact hO.ne (hthl j y).1 ct0 (fun e => by cases e)
        · exact hO.ne cr0 (hthl k y').2 (fun e => by cases e)
        · exact hO.ne cr0 ct0 (fun e => by cases e)
      · by_cases y : j < s.threads[th].frames.length <;> by_cases y' : k < s.threads[th].frames.length <;> simp only [y, y', if_true, if_false] at e
        · have := hO.inj _ _ (hthl j y).1 (hthl k y').1 e; injection this
        · exact absurd e (hO.ne (hthl j y).1 cr0 (fun e => by cases e))
        · exact absurd e.symm (hO.ne (hthl k y').1 cr0 (fun e => by cases e))
        · omega
      · by_cases y : j < s.threads[th].frames.length <;> by_cases y' : k < s.threads[th].frames.length <;> simp only [y, y', if_true, if_false] at e
        · have := hO.inj _ _ (hthl j y).2 (hthl k y').2 e; injection this
        · exact absurd e (hO.ne (hthl j y).2 ct0 (fun e => by cases e))
        · exact absurd e.symm (hO.ne (hthl k y').2 ct0 (fun e => by cases e))
        · omega
    have hout2 : ∀ x, Live (s.setC g ⟨5, 1, [], []⟩) x → ¬ ofT th x → withC A g n6 (n6 + 1) (fun _ => 0) (fun _ => 0) x ≠ n1 + 2 ∧ ∀ j, j < (s.threads[th].frames ++ [goF p f g v to_]).length → withC A g n6 (n6 + 1) (fun _ => 0) (fun _ => 0) x ≠ (fun j => if j < s.threads[th].frames.length then A (.tr th j) else A (.cr g 0)) j ∧ withC A g n6 (n6 + 1) (fun _ => 0) (fun _ => 0) x ≠ (fun j => if j < s.threads[th].frames.length then A (.tt th j) else A (.ct g 0)) j := fun x hx y1 => by
      rcases hA1 x hx with ⟨-, y3⟩ | ⟨-, y3⟩ | ⟨y5, y7, y3⟩ <;> rw [y3]
      · refine ⟨by omega, fun j hj => ?_⟩
        have := hb2 j
        exact ⟨by simp only; omega, by simp only; omega⟩
      · refine ⟨by omega, fun j hj => ?_⟩
        have := hb2 j
        exact ⟨by simp only; omega, by simp only; omega⟩
      · have y8 := n0 x y7
        refine ⟨by omega, fun j hj => ?_⟩
        simp only
        by_cases y : j < s.threads[th].frames.length <;> simp only [y, if_true, if_false]
        · exact ⟨hO.ne y7 (hthl j y).1 (fun e => y1 (by rw [e]; exact rfl)), hO.ne y7 (hthl j y).2 (fun e => y1 (by rw [e]; exact rfl))⟩
        · exact ⟨hO.ne y7 cr0 (fun e => y5 (by rw [e]; exact rfl)), hO.ne y7 ct0 (fun e => y5 (by rw [e]; exact rfl))⟩
    have hlo2 : 5 ≤ n1 + 2 ∧ ∀ j, j < (s.threads[th].frames ++ [goF p f g v to_]).length → 5 ≤ (fun j => if j < s.threads[th].frames.length then A (.tr th j) else A (.cr g 0)) j ∧ 5 ≤ (fun j => if j < s.threads[th].frames.length then A (.tt th j) else A (.ct g 0)) j := ⟨by omega, fun j _ => hlo3 j⟩
    have O2 := O1.newT (H' := Z) (i := th) (c' := ⟨s.threads[th].frames ++ [goF p f g v to_], s.threads[th].state, s.threads[th].on, s.threads[th].val⟩) hth (n1 + 2) (fun j => if j < s.threads[th].frames.length then A (.tr th j) else A (.cr g 0)) (fun j => if j < s.threads[th].frames.length then A (.tt th j) else A (.ct g 0))
      (fun x hx y1 y2 => by
        rcases hA1 x hx with ⟨-, y3⟩ | ⟨-, y3⟩ | ⟨y5, y7, y3⟩ <;> rw [y3]
        · rw [w2, v2]
        · rw [w3, v3]
        · by_cases y8 : x = .c
          · subst y8
            rw [w1, v1]
          · rw [z0 x y7 y8 y2 (fun e => y1 (by rw [e]; exact rfl)) (fun e => y5 (by rw [e]; exact rfl)), v0 _ (hO.ne y7 (y := .c) trivial y8) (x0 x y7).1 (x0 x y7).2])
      (R := R) (by
        show X (A .t) = _
        rw [v0 _ (hO.ne (x := .t) trivial (y := .c) trivial (fun e => by cases e)) (x0 .t trivial).1 (x0 .t trivial).2]; exact r1)
      (by
        show Z (A .t) = _
        rw [w0 _ (hO.ne (x := .t) trivial (y := .c) trivial (fun e => by cases e)) (x0 .t trivial).1 (x0 .t trivial).2, hft]
        simp [thR])
      (by
        obtain ⟨FR2, a1, a2, a3⟩ := (hO.tf th hth).blk
        rw [g1] at a1
        simp only [Option.some.injEq, Blk.mk.injEq, true_and] at a1
        subst a1
        have htk : (FR.take s.threads[th].frames.length).length = s.threads[th].frames.length := by simp; omega
        refine ⟨⟨_, by rw [w0 _ (by omega) (by omega) (by omega)]; exact hf4, fun e he c hc => ?_, fun j hj => ?_⟩, fun j hj => ?_, fun j hj => ?_⟩
        · rcases List.mem_append.1 he with he | he
          · exact a2 e (List.mem_of_mem_take he) c hc
          · rw [List.mem_singleton] at he
            subst he
            simp at hc
            rcases hc with rfl | rfl | rfl | rfl | rfl | rfl | rfl | rfl <;> rfl
        · rcases Nat.lt_or_ge j s.threads[th].frames.length with hj2 | hj2
          · rw [List.getElem?_append_left (by omega), List.getElem?_take, if_pos hj2, List.getElem_append_left hj2, if_pos hj2, if_pos hj2]
            exact a3 j hj2
          · obtain rfl : j = s.threads[th].frames.length := by simp at hj; omega
            rw [List.getElem?_append_right (by omega), htk, Nat.sub_self, if_neg (by omega), if_neg (by omega)]
            have hgl2 : (goF p f g v to_).regs.length = f.regs.length := by simp only [goF]; split <;> simp
            simp [frRow, goF] at hgl2 ⊢
            exact hgl2.symm
        · rcases Nat.lt_or_ge j s.threads[th].frames.length with hj2 | hj2
          · obtain ⟨us, y1⟩ := (hO.tf th hth).regs j hj2
            simp only [hj2, if_true]
            exact ⟨us, by rw [z0 _ (hthl j hj2).1 (fun e => by cases e) (fun e => by cases e) (fun e => by cases e) (fun e => by cases e), List.getElem_append_left hj2]; exact y1⟩
          · obtain rfl : j = s.threads[th].frames.length := by simp at hj; omega
            simp only [Nat.lt_irrefl, if_false]
            exact ⟨ys, by rw [w0 _ (hO.ne cr0 (y := .c) trivial (fun e => by cases e)) (x0 _ cr0).1 (x0 _ cr0).2]; simpa using hfr5⟩
        · rcases Nat.lt_or_ge j s.threads[th].frames.length with hj2 | hj2
          · obtain ⟨us, y1⟩ := (hO.tf th hth).tries j hj2
            simp only [hj2, if_true]
            exact ⟨us, by rw [z0 _ (hthl j hj2).2 (fun e => by cases e) (fun e => by cases e) (fun e => by cases e) (fun e => by cases e), List.getElem_append_left hj2]; exact y1⟩
          · obtain rfl : j = s.threads[th].frames.length := by simp at hj; omega
            simp only [Nat.lt_irrefl, if_false]
            exact ⟨zs, by rw [z0 _ ct0 (fun e => by cases e) (fun e => by cases e) (fun e => by cases e) (fun e => by cases e)]; simpa [goF] using y2⟩)
      hL2 hout2 hlo2
    rw [← hgS] at O2
    have hsh := O2.shw (N := fun _ => True) fun _ _ => trivial
    have hrow : oRow (withT (withC A g n6 (n6 + 1) (fun _ => 0) (fun _ => 0)) th (n1 + 2) (fun j => if j < s.threads[th].frames.length then A (.tr th j) else A (.cr g 0)) (fun j => if j < s.threads[th].frames.length then A (.tt th j) else A (.ct g 0))) (goS p s th g v to_) = oRow A s := by rw [hgS]; simp [oRow, withT, withC, GState.setT, GState.setC]
    rw [hrow] at hsh
    have hz5 : Z n5 = some ⟨.c 76, 12, [evRow ⟨16, e.step, e.thread, e.fn, e.at_, e.line, g, 0, v, ⟨0, 0⟩⟩]⟩ := by rw [w0 _ (by omega) (by omega) (by omega)]; exact hf5
    exact ⟨.tup [aD (eState (goS p s th g v to_)), dL true ([(⟨16, e.step, e.thread, e.fn, e.at_, e.line, g, 0, v, ⟨0, 0⟩⟩ : GEvent)].map eEvent), dB true], ⟨CsS.csShw hsh, ⟨_, rfl, Shw.row trivial hz5 rfl rfl rfl (by simp) (by simp)⟩, ⟨_, rfl, .d rfl⟩, trivial⟩, h2⟩
  rw [oRow]
  by_cases k5 : 0 < f.at_
  · obtain ⟨w8, w9⟩ := w7 k5
    obtain ⟨j, hj⟩ : ∃ j : Nat, f.at_ = j + 1 := ⟨(f.at_ - 1).toNat, by omega⟩
    have hjn : (f.at_ - 1).toNat = j := by omega
    rw [hjn] at w8 w9
    have hjl : j < (fnAt p f.fn).code.length := by omega
    have hco : (fnAt p f.fn).code[j]? = some ((fnAt p f.fn).code.getD j dIns) := by
      rw [List.getD_eq_getElem?_getD, List.getElem?_eq_getElem hjl]; rfl
    generalize hins : (fnAt p f.fn).code.getD j dIns = ins at *
    obtain ⟨a, ha⟩ : ∃ a : Nat, ins.a = a := ⟨ins.a.toNat, by omega⟩
    have hal : a < f.regs.length := by omega
    have g4 := vrow_get (ys := ys) hal
    have g5 := vrow_set (ys := ys) hal v
    generalize hL : ((f.regs ++ ys).map fun v => (eVal v).map C.d) = L at *
    obtain ⟨g6, g7⟩ := List.getElem?_eq_some_iff.1 g4
    generalize hfq : fnAt p f.fn = fq at *
    have hwj : IntKind.i64.wrap (j : Int) = j := wrap_id (by omega) (by omega)
    have hgr : (goF p f g v to_).regs = f.regs.set a v := by
      simp only [goF]
      rw [if_pos k5, hfq, hjn, hins, ha]; rfl
    simp [b0, b1, b2, b3, b4, r1, r4, r5, c1, c4, c5, hth, hg, hfl, f1, f5, hg01, w1, hfa, hj, hwj, hco, ha, hal, y3, g6, g7, g1, hFl, u0, u1, u2, u3, u4, u5, u6, u7, u8, u9, u10, u11, u12, u13, u14, u15, u16, u17, u18, u19, u20, u21, u22, u23, u24, u25, u26, u27, u28, u29, u30, u31, u32, u33, u34, u35, u36, u37, u38, u39, u40, u41, u42, u43, u44, u45, u46, u47, u48, u49, u50, u51, u52, u53, u54, u55, u56, u57, u58, u59, u60, u61, u62, u63, u64, u65, u66, u67, u68, u69, u70, u71, u72, u73, u74, u75, u76, u77, u78, u79, u80, u81, u82, u83, u84, u85, u86, u87, u88, u89, u90, u91, u92, u93, u94, u95, u96, u97, u98, u99, u100, u101, u102, u103, u104, u105, u106, u107, u108, u109, u110, u111, u112, u113, u114, u115, u116, u117, u118, u119, u120, u121, u122, u123, u124, u125, u126, u127, u128, u129, u130, u131, u132, u133, u134, u135, u136, u137, u138, u139, u140, u141, u142, u143, u144, u145, u146, u147, u148, u149, u150, u151, u152, u153, u154, u155, u156]
    refine ⟨fun m b em hm => ?_, .inl (by omega), ?_⟩
    · subst em
      simp [g1, u0, u1, u2, u3, u4, u5, u6, u7, u8, u9, u10, u11, u12, u13, u14, u15, u16, u17, u18, u19, u20, u21, u22, u23, u24, u25, u26, u27, u28, u29, u30, u31, u32, u33, u34, u35, u36, u37, u38, u39, u40, u41, u42, u43, u44, u45, u46, u47, u48, u49, u50, u51, u52, u53, u54, u55, u56, u57, u58, u59, u60, u61, u62, u63, u64, u65, u66, u67, u68, u69, u70, u71, u72, u73, u74, u75, u76, u77, u78, u79, u80, u81, u82, u83, u84, u85, u86, u87, u88, u89, u90, u91, u92, u93, u94, u95, u96, u97, u98, u99, u100, u101, u102, u103, u104, u105, u106, u107, u108, u109, u110, u111, u112, u113, u114, u115, u116, u117, u118, u119, u120, u121, u122, u123, u124, u125, u126, u127, u128, u129, u130, u131, u132, u133, u134, u135, u136, u137, u138, u139, u140, u141, u142, u143, u144, u145, u146, u147, u148, u149, u150, u151, u152, u153, u154, u155, u156] at hm
      subst hm
      exact ⟨rfl, rfl⟩
    refine evTold_ok e 16 g 0 v ⟨0, 0⟩ ?_
    simp [b4, u0, u1, u2, u3, u4, u5, u6, u7, u8, u9, u10, u11, u12, u13, u14, u15, u16, u17, u18, u19, u20, u21, u22, u23, u24, u25, u26, u27, u28, u29, u30, u31, u32, u33, u34, u35, u36, u37, u38, u39, u40, u41, u42, u43, u44, u45, u46, u47, u48, u49, u50, u51, u52, u53, u54, u55, u56, u57, u58, u59, u60, u61, u62, u63, u64, u65, u66, u67, u68, u69, u70, u71, u72, u73, u74, u75, u76, u77, u78, u79, u80, u81, u82, u83, u84, u85, u86, u87, u88, u89, u90, u91, u92, u93, u94, u95, u96, u97, u98, u99, u100, u101, u102, u103, u104, u105, u106, u107, u108, u109, u110, u111, u112, u113, u114, u115, u116, u117, u118, u119, u120, u121, u122, u123, u124, u125, u126, u127, u128, u129, u130, u131, u132, u133, u134, u135, u136, u137, u138, u139, u140, u141, u142, u143, u144, u145, u146, u147, u148, u149, u150, u151, u152, u153, u154, u155, u156]
    with_reducible refine ⟨?_, ?_⟩
    all_goals
      refine ⟨_, (Wk.ownC 50 2 (m := A .c) (t := .c 48) (k := 4) (R := Q.set g [C.d (eI 5), C.d (eI 1), C.d .emp, C.d .emp]) (row := [C.d (eI 5), C.d (eI 1), C.d .emp, C.d .emp]) (i := g) (j := 2) (by repeat (first | rw [Hp.set_same] | rw [Hp.set_ne _ _ (by first | assumption | omega)])) (List.getElem?_set_self c4) rfl).trans
        (Wk.ownC 61 8 (m := A .c) (t := .c 48) (k := 4) (R := Q.set g [C.d (eI 5), C.d (eI 1), C.own (n1 + 4) 2 0, C.d .emp]) (row := [C.d (eI 5), C.d (eI 1), C.own (n1 + 4) 2 0, C.d .emp]) (i := g) (j := 3) (by rw [Hp.set_ne _ _ (by omega), Hp.set_same, List.set_set]; rfl) (List.getElem?_set_self c4) rfl), ?_⟩
      simp [retPI, u0, u1, u2, u3, u4, u5, u6, u7, u8, u9, u10, u11, u12, u13, u14, u15, u16, u17, u18, u19, u20, u21, u22, u23, u24, u25, u26, u27, u28, u29, u30, u31, u32, u33, u34, u35, u36, u37, u38, u39, u40, u41, u42, u43, u44, u45, u46, u47, u48, u49, u50, u51, u52, u53, u54, u55, u56, u57, u58, u59, u60, u61, u62, u63, u64, u65, u66, u67, u68, u69, u70, u71, u72, u73, u74, u75, u76, u77, u78, u79, u80, u81, u82, u83, u84, u85, u86, u87, u88, u89, u90, u91, u92, u93, u94, u95, u96, u97, u98, u99, u100, u101, u102, u103, u104, u105, u106, u107, u108, u109, u110, u111, u112, u113, u114, u115, u116, u117, u118, u119, u120, u121, u122, u123, u124, u125, u126, u127, u128, u129, u130, u131, u132, u133, u134, u135, u136, u137, u138, u139, u140, u141, u142, u143, u144, u145, u146, u147, u148, u149, u150, u151, u152, u153, u154, u155, u156, Nat.add_assoc]
      refine fin _ (n1 + 3) (n1 + 4) (j + 1) hj.symm (by omega) (by omega) ?_ (fun q q0 q1 q2 q3 q4 q5 => ?_) ?_ ?_ ?_ ?_
      · repeat' (first | exact sol1 | refine HSol.none ?_ | refine HSol.set ?_ ?_ | exact (newRs.set c2 (by simp)).sol | exact (newRs.set r2 (by simp)).sol | exact (newRs.takeApp g2 (by simp)).sol | (simp; done) | (rw [g5]; exact (valBlk_new _).sol))
      · repeat rw [Hp.set_ne _ _ (by first | assumption | omega)]
      all_goals (repeat (first | rw [Hp.set_same] | rw [Hp.set_ne _ _ (by first | assumption | omega)]))
      · rw [hgr, valBlk, ← g5]
      · rfl
  have hgr : (goF p f g v to_).regs = f.regs := by
    simp only [goF]
    rw [if_neg k5]
  simp [b0, b1, b2, b3, b4, r1, r4, r5, c1, c4, c5, hth, hg, hfl, f1, f5, hg01, k5, g1, hFl, u0, u1, u2, u3, u4, u5, u6, u7, u8, u9, u10, u11, u12, u13, u14, u15, u16, u17, u18, u19, u20, u21, u22, u23, u24, u25, u26, u27, u28, u29, u30, u31, u32, u33, u34, u35, u36, u37, u38, u39, u40, u41, u42, u43, u44, u45, u46, u47, u48, u49, u50, u51, u52, u53, u54, u55, u56, u57, u58, u59, u60, u61, u62, u63, u64, u65, u66, u67, u68, u69, u70, u71, u72, u73, u74, u75, u76, u77, u78, u79, u80, u81, u82, u83, u84, u85, u86, u87, u88, u89, u90, u91, u92, u93, u94, u95, u96, u97, u98, u99, u100, u101, u102, u103, u104, u105, u106, u107, u108, u109, u110, u111, u112, u113, u114, u115, u116, u117, u118, u119, u120, u121, u122, u123, u124, u125, u126, u127, u128, u129, u130, u131, u132, u133, u134, u135, u136, u137, u138, u139, u140, u141, u142, u143, u144, u145, u146, u147, u148, u149, u150, u151, u152, u153, u154, u155, u156]
  refine ⟨fun m b em hm => ?_, .inl (by omega), ?_⟩
  · subst em
    simp [g1, u0, u1, u2, u3, u4, u5, u6, u7, u8, u9, u10, u11, u12, u13, u14, u15, u16, u17, u18, u19, u20, u21, u22, u23, u24, u25, u26, u27, u28, u29, u30, u31, u32, u33, u34, u35, u36, u37, u38, u39, u40, u41, u42, u43, u44, u45, u46, u47, u48, u49, u50, u51, u52, u53, u54, u55, u56, u57, u58, u59, u60, u61, u62, u63, u64, u65, u66, u67, u68, u69, u70, u71, u72, u73, u74, u75, u76, u77, u78, u79, u80, u81, u82, u83, u84, u85, u86, u87, u88, u89, u90, u91, u92, u93, u94, u95, u96, u97, u98, u99, u100, u101, u102, u103, u104, u105, u106, u107, u108, u109, u110, u111, u112, u113, u114, u115, u116, u117, u118, u119, u120, u121, u122, u123, u124, u125, u126, u127, u128, u129, u130, u131, u132, u133, u134, u135, u136, u137, u138, u139, u140, u141, u142, u143, u144, u145, u146, u147, u148, u149, u150, u151, u152, u153, u154, u155, u156] at hm
    subst hm
    exact ⟨rfl, rfl⟩
  refine evTold_ok e 16 g 0 v ⟨0, 0⟩ ?_
  simp [b4, u0, u1, u2, u3, u4, u5, u6, u7, u8, u9, u10, u11, u12, u13, u14, u15, u16, u17, u18, u19, u20, u21, u22, u23, u24, u25, u26, u27, u28, u29, u30, u31, u32, u33, u34, u35, u36, u37, u38, u39, u40, u41, u42, u43, u44, u45, u46, u47, u48, u49, u50, u51, u52, u53, u54, u55, u56, u57, u58, u59, u60, u61, u62, u63, u64, u65, u66, u67, u68, u69, u70, u71, u72, u73, u74, u75, u76, u77, u78, u79, u80, u81, u82, u83, u84, u85, u86, u87, u88, u89, u90, u91, u92, u93, u94, u95, u96, u97, u98, u99, u100, u101, u102, u103, u104, u105, u106, u107, u108, u109, u110, u111, u112, u113, u114, u115, u116, u117, u118, u119, u120, u121, u122, u123, u124, u125, u126, u127, u128, u129, u130, u131, u132, u133, u134, u135, u136, u137, u138, u139, u140, u141, u142, u143, u144, u145, u146, u147, u148, u149, u150, u151, u152, u153, u154, u155, u156]
  with_reducible refine ⟨?_, ?_⟩
  all_goals
    refine ⟨_, (Wk.ownC 50 2 (m := A .c) (t := .c 48) (k := 4) (R := Q.set g [C.d (eI 5), C.d (eI 1), C.d .emp, C.d .emp]) (row := [C.d (eI 5), C.d (eI 1), C.d .emp, C.d .emp]) (i := g) (j := 2) (by repeat (first | rw [Hp.set_same] | rw [Hp.set_ne _ _ (by first | assumption | omega)])) (List.getElem?_set_self c4) rfl).trans
      (Wk.ownC 61 8 (m := A .c) (t := .c 48) (k := 4) (R := Q.set g [C.d (eI 5), C.d (eI 1), C.own (n1 + 4) 2 0, C.d .emp]) (row := [C.d (eI 5), C.d (eI 1), C.own (n1 + 4) 2 0, C.d .emp]) (i := g) (j := 3) (by rw [Hp.set_ne _ _ (by omega), Hp.set_same, List.set_set]; rfl) (List.getElem?_set_self c4) rfl), ?_⟩
    simp [retPI, u0, u1, u2, u3, u4, u5, u6, u7, u8, u9, u10, u11, u12, u13, u14, u15, u16, u17, u18, u19, u20, u21, u22, u23, u24, u25, u26, u27, u28, u29, u30, u31, u32, u33, u34, u35, u36, u37, u38, u39, u40, u41, u42, u43, u44, u45, u46, u47, u48, u49, u50, u51, u52, u53, u54, u55, u56, u57, u58, u59, u60, u61, u62, u63, u64, u65, u66, u67, u68, u69, u70, u71, u72, u73, u74, u75, u76, u77, u78, u79, u80, u81, u82, u83, u84, u85, u86, u87, u88, u89, u90, u91, u92, u93, u94, u95, u96, u97, u98, u99, u100, u101, u102, u103, u104, u105, u106, u107, u108, u109, u110, u111, u112, u113, u114, u115, u116, u117, u118, u119, u120, u121, u122, u123, u124, u125, u126, u127, u128, u129, u130, u131, u132, u133, u134, u135, u136, u137, u138, u139, u140, u141, u142, u143, u144, u145, u146, u147, u148, u149, u150, u151, u152, u153, u154, u155, u156, Nat.add_assoc]
    refine fin _ (n1 + 3) (n1 + 4) f.at_ rfl (by omega) (by omega) ?_ (fun q q0 q1 q2 q3 q4 q5 => ?_) ?_ ?_ ?_ ?_
    · repeat' (first | exact sol1 | refine HSol.none ?_ | refine HSol.set ?_ ?_ | exact (newRs.set c2 (by simp)).sol | exact (newRs.set r2 (by simp)).sol | exact (newRs.takeApp g2 (by simp)).sol | (simp; done))
    · repeat rw [Hp.set_ne _ _ (by first | assumption | omega)]
    all_goals (repeat (first | rw [Hp.set_same] | rw [Hp.set_ne _ _ (by first | assumption | omega)]))
    · rw [hgr]; exact y1
    · rfl
theorem threadAsked_ok (p : GProg) (hp : okP p) (s : GState) (hs : okSt s) (th : Int) {K : D → List Blk → Prop} (h : K (dI (askE p s th)) []) : DPure Tryz.prog 42 [aD (eProg p), aD (eState s), dI th] K := by
  refine fn_ok [0,1,2,3,4,6,7,11,14,22] [] Tryz.func42 rfl (by kernel_rfl) rfl rfl rfl rfl (by kernel_rfl) ?_
  simp
  refine stateFault_ok p hp s hs ?_
  unfold askE at h
  by_cases q1 : stateQ wordsT p s = 0
  case neg =>
    rw [if_pos q1] at h
    simp [q1]
    exact h
  rw [if_neg (by simpa using q1)] at h
  have hz := (sized_of q1).threads
  simp [q1]
  intro _
  refine between_ok _ _ _ ?_
  rw [wrap_id (by omega) (by omega)]
  by_cases c1 : th < 0 ∨ (s.threads.length : Int) ≤ th
  · rw [if_pos c1] at h
    have hb : btw th 0 ((s.threads.length : Int) - 1) = false := by simp [btw]; omega
    rw [hb]
    simp
    exact h
  have hb : btw th 0 ((s.threads.length : Int) - 1) = true := by simp [btw]; omega
  rw [if_neg c1] at h
  obtain ⟨t, rfl⟩ : ∃ t : Nat, th = t := ⟨th.toNat, by omega⟩
  have ht : t < s.threads.length := by omega
  have hd : dTh s t = s.threads[t] := by simp [dTh, List.getD_eq_getElem?_getD, ht]
  rw [Int.toNat_natCast, hd] at h
  rw [hb]
  by_cases c3 : s.threads[t].state = 0
  · rw [if_neg (by simpa using c3)] at h
    simp [ht, c3]
    exact h
  · rw [if_pos c3] at h
    simp [ht, c3]
    exact h
theorem genResumes_ok (p : GProg) (hp : okP p) (s : GState) (hs : okSt s) (th : Int) (g v : GVal) (to_ : Int) : DPure Tryz.prog 10 [aD (eProg p), aD (eState s), dI th, aD (eVal g), aD (eVal v), dI to_] fun d _ => d = dB true := by
  refine fn_ok [0,1,2,3,4,5,6,7,9,10,12,13,14,15,16,17,18,19,20,37,44,63,68,78,96] [(15, [0,0,0,0,8,0,0,0,0,0,896,2047,4095,8191,8191,8191,16383,98303,262143], (.seg 0 (.seg 1 (.seg 2 (.seg 3 (.seg 4 (.seg 5 (.seg 6 (.seg 7 (.seg 8 (.seg 9 (.eff 10 [0, 1, 3, 4, 5] (.eff 11 [] (.seg 12 (.seg 13 (.seg 14 (.seg 15 (.eff 16 [] (.seg 17 (.seg 18 .last))))))))))))))))))))] Tryz.func10 rfl (by kernel_rfl) rfl rfl rfl rfl (by kernel_rfl) ?_
  simp
  have hsol : HSol ((((Hp.none.set 0 (some ⟨.c 26, 3, [(eProg p).map .d]⟩)).set 1 (some ⟨.c 32, 8, [(eState s).map .d]⟩)).set 2 (some ⟨.c 50, 2, [[.d (eI g.kind), .d (eI g.n)]]⟩)).set 3 (some ⟨.c 50, 2, [[.d (eI v.kind), .d (eI v.n)]]⟩)) := by
    refine HSol.set (HSol.set (HSol.set (HSol.set HSol.zero ?_) ?_) ?_) ?_ <;> simp
  have hn : ∀ E w ι vs, RVs E w ι [aD (eState noS), .agg [.d .emp, .d .emp, .d .emp, .d .emp, .d .emp, .d .emp, .d (eI 0), .d (eI 0)]] vs → RVs E w ι [aD (eState noS), aD (eState noS)] vs := no_arg (es := (eState noS).map .d) ⟨.inr ⟨rfl, rfl⟩, .inr ⟨rfl, rfl⟩, .inr ⟨rfl, rfl⟩, .inr ⟨rfl, rfl⟩, .inr ⟨rfl, rfl⟩, .inr ⟨rfl, rfl⟩, .inl rfl, .inl rfl, trivial⟩
  have hne : Ds.less [dL true (([] : List GEvent).map eEvent), .one (.d .emp)] [dL true (([] : List GEvent).map eEvent), dL true (([] : List GEvent).map eEvent)] := ⟨D.less.refl _, .inr ⟨rfl, _, rfl⟩, trivial⟩
  by_cases q0 : askE p s th = 0
  case neg =>
    have q2 : resE p s th g v to_ = askE p s th := by unfold resE; rw [if_pos q0]
    refine resume_ok p hp s hs th g v to_ hsol (fun h0 => ?_) (fun h1 => absurd (q2 ▸ h1) q0)
    rw [q2]
    simp
    refine threadAsked_ok p hp s hs th ?_
    simp [q0]
    refine DPure.args hn ?_
    refine sameStates_ok noS noS ?_
    simp
    refine DPure.less hne ?_
    refine sameEvents_ok true true [] [] ?_
    simp
  obtain ⟨q1, t, rfl, ht, c2, c3⟩ := ask_zero q0
  have hd : dTh s t = s.threads[t] := by simp [dTh, List.getD_eq_getElem?_getD, ht]
  have q2 : resE p s t g v to_ = if fitsB s v = false ∨ to_ < -1 ∨ ((lastF s.threads[t].frames).regs.length : Int) ≤ to_ then 1 else if namesB s g 5 = false then 7 else if (dGC s g.n.toNat).num = 1 then 8 else if deepB s t g.n.toNat = true then 2 else 0 := by
    unfold resE; rw [if_neg (by simpa using q0), Int.toNat_natCast, hd]
  have hz := sized_of q1
  have b30 := (state_thread q1 (List.getElem_mem ht)).2
  obtain ⟨m, hm⟩ : ∃ m, s.threads[t].frames.length = m + 1 := ⟨_, (Nat.succ_pred_eq_of_pos (List.length_pos_iff.2 c3)).symm⟩
  have hml : m < s.threads[t].frames.length := by omega
  have hw : IntKind.i64.wrap (m : Int) = m := wrap_id (by omega) (by omega)
  have hlast : lastF s.threads[t].frames = s.threads[t].frames[m] := by simp [lastF, hm, List.getD_eq_getElem?_getD]
  have hmem : lastF s.threads[t].frames ∈ s.threads[t].frames := by rw [hlast]; exact List.getElem_mem hml
  obtain ⟨b1, -, b3, b4, b5, b6⟩ := frame_bnd (stateQ_iff.1 q1).1 (thread_frames q1 (List.getElem_mem ht) hmem)
  have hdt : s.threads.getD t dThread = s.threads[t] := placeE_len ht
  have hev : ∀ {K : D → List Blk → Prop}, K (aD (eEvent (placeE p s t))) [] → DPure Tryz.prog 38 [aD (eProg p), aD (eState s), dI t] K := fun hK =>
    eventAt_ok p s t ht (by have := hz.threads; omega) (by rw [hdt]; exact c3) (by rw [hdt]; omega) (by rw [hdt]; exact b3) (by rw [hdt]; exact b4) (by rw [hdt]; exact b5) (by rw [hdt]; exact b6) hK
  have hwr : IntKind.i64.wrap ((s.threads[t].frames[m].regs.length : Int) - 1) = (s.threads[t].frames[m].regs.length : Int) - 1 := by rw [hlast] at b1; exact wrap_id (by omega) (by omega)
  by_cases c4 : fitsB s v = true
  case neg =>
    rw [Bool.not_eq_true] at c4
    have q3 : resE p s t g v to_ = 1 := by rw [q2, if_pos (.inl c4)]
    refine resume_ok p hp s hs t g v to_ hsol (fun h0 => ?_) (fun h1 => absurd (q3 ▸ h1) (by decide))
    rw [q3]
    simp
    refine threadAsked_ok p hp s hs t ?_
    simp [q0, ht]
    refine fitsIn_ok s v ?_
    simp [c4]
    refine DPure.args hn ?_
    refine sameStates_ok noS noS ?_
    simp
    refine DPure.less hne ?_
    refine sameEvents_ok true true [] [] ?_
    simp
  by_cases c5 : to_ < -1 ∨ (s.threads[t].frames[m].regs.length : Int) ≤ to_
  · have hb : btw to_ (-1) ((s.threads[t].frames[m].regs.length : Int) - 1) = false := by simp [btw]; omega
    have q3 : resE p s t g v to_ = 1 := by rw [q2, if_pos (.inr (by rw [hlast]; exact c5))]
    refine resume_ok p hp s hs t g v to_ hsol (fun h0 => ?_) (fun h1 => absurd (q3 ▸ h1) (by decide))
    rw [q3]
    simp
    refine threadAsked_ok p hp s hs t ?_
    simp [q0, ht]
    refine fitsIn_ok s v ?_
    simp [c4, hm, hw]
    intro _ _
    refine between_ok _ _ _ ?_
    rw [hwr, hb]
    simp
    refine DPure.args hn ?_
    refine sameStates_ok noS noS ?_
    simp
    refine DPure.less hne ?_
    refine sameEvents_ok true true [] [] ?_
    simp
  rw [if_neg (by rw [c4, hlast]; simp; omega)] at q2
  have hb : btw to_ (-1) ((s.threads[t].frames[m].regs.length : Int) - 1) = true := by simp [btw]; omega
  by_cases c6 : namesB s g 5 = true
  case neg =>
    rw [Bool.not_eq_true] at c6
    have q3 : resE p s t g v to_ = 7 := by rw [q2, if_pos c6]
    refine resume_ok p hp s hs t g v to_ hsol (fun h0 => ?_) (fun h1 => absurd (q3 ▸ h1) (by decide))
    rw [q3]
    simp
    refine threadAsked_ok p hp s hs t ?_
    simp [q0, ht]
    refine fitsIn_ok s v ?_
    simp [c4, hm, hw]
    intro _ _
    refine between_ok _ _ _ ?_
    rw [hwr, hb]
    simp
    refine kindIn_ok s g 5 ?_
    simp [c6]
    refine DPure.args hn ?_
    refine sameStates_ok noS noS ?_
    simp
    refine DPure.less hne ?_
    refine sameEvents_ok true true [] [] ?_
    simp
  rw [if_neg (by rw [c6]; decide)] at q2
  obtain ⟨gk, gn⟩ := g
  have hnm := c6
  simp only [namesB, Bool.and_eq_true, decide_eq_true_eq] at hnm
  obtain ⟨⟨⟨rfl, h0n⟩, h1n⟩, hkd⟩ := hnm
  obtain ⟨n, rfl⟩ : ∃ n : Nat, gn = n := ⟨gn.toNat, by omega⟩
  have hnl : n < s.cells.length := by omega
  rw [at_nat hnl] at hkd
  have hdc : dGC s n = s.cells[n] := by simp [dGC, List.getD_eq_getElem?_getD, hnl]
  simp only [Int.toNat_natCast] at q2
  rw [hdc] at q2
  by_cases c7 : s.cells[n].num = 1
  · have q3 : resE p s t ⟨5, n⟩ v to_ = 8 := by rw [q2, if_pos c7]
    refine resume_ok p hp s hs t ⟨5, n⟩ v to_ hsol (fun h0 => ?_) (fun h1 => absurd (q3 ▸ h1) (by decide))
    rw [q3]
    simp
    refine threadAsked_ok p hp s hs t ?_
    simp [q0, ht]
    refine fitsIn_ok s v ?_
    simp [c4, hm, hw]
    intro _ _
    refine between_ok _ _ _ ?_
    rw [hwr, hb]
    simp
    refine kindIn_ok s ⟨5, n⟩ 5 ?_
    simp [c6, hnl, c7]
    refine DPure.args hn ?_
    refine sameStates_ok noS noS ?_
    simp
    refine DPure.less hne ?_
    refine sameEvents_ok true true [] [] ?_
    simp
  rw [if_neg c7] at q2
  obtain ⟨w1, w2, w3, w4⟩ := waits_of q1 hnl hkd
  have hres : ∀ {H : Hp} {nx : Nat} {K : D → Hp → Nat → Prop}, (deepB s t n = true → K (.tup [aD (eState s), dL true [], dB false]) H nx) → (deepB s t n = false → K (.tup [aD (eState (goS p s t n v to_)), dL true ((goL s n v (placeE p s t)).map eEvent), dB true]) H nx) → ICall Tryz.prog 46 [aD (eProg p), aD (eState s), dI t, dI n, aD (eVal v), dI to_, aD (eEvent (placeE p s t))] H nx K := fun y0 y1 => by
    refine ICall.ofPure (es := [aD (eProg p), aD (eState s), dI t, dI n, aD (eVal v), dI to_, aD (eEvent (placeE p s t))]) (by simp) ?_
    refine resumed_ok p s hz t n v to_ (placeE p s t) ⟨rfl, rfl⟩ ht hnl b30 hkd w1 (fun _ => ⟨m, hml, hm, by omega⟩) (fun h2 => ?_) (fun hd0 => ?_) (fun hd0 => ?_)
    · obtain ⟨f, y2, y3⟩ := w4 (by omega)
      exact ⟨f, y2, goOk_of q1 y3⟩
    · exact y0 hd0
    · exact y1 hd0
  by_cases c8 : deepB s t n = true
  · have q3 : resE p s t ⟨5, n⟩ v to_ = 2 := by rw [q2, if_pos c8]
    refine resume_ok p hp s hs t ⟨5, n⟩ v to_ hsol (fun h0 => ?_) (fun h1 => absurd (q3 ▸ h1) (by decide))
    rw [q3]
    simp
    refine threadAsked_ok p hp s hs t ?_
    simp [q0, ht]
    refine fitsIn_ok s v ?_
    simp [c4, hm, hw]
    intro _ _
    refine between_ok _ _ _ ?_
    rw [hwr, hb]
    simp
    refine kindIn_ok s ⟨5, n⟩ 5 ?_
    simp [c6, hnl, c7]
    refine hev ?_
    simp
    refine hres (fun _ => ?_) (fun y => absurd c8 (by rw [y]; decide))
    simp
    refine DPure.args hn ?_
    refine sameStates_ok noS noS ?_
    simp
    refine DPure.less hne ?_
    refine sameEvents_ok true true [] [] ?_
    simp
  rw [if_neg c8] at q2
  refine resume_ok p hp s hs t ⟨5, n⟩ v to_ hsol (fun h0 => absurd q2 h0) (fun _ => ?_)
  simp only [Int.toNat_natCast]
  simp
  refine threadAsked_ok p hp s hs t ?_
  simp [q0, ht]
  refine fitsIn_ok s v ?_
  simp [c4, hm, hw]
  intro _ _
  refine between_ok _ _ _ ?_
  rw [hwr, hb]
  simp
  refine kindIn_ok s ⟨5, n⟩ 5 ?_
  simp [c6, hnl, c7]
  refine hev ?_
  simp
  refine hres (fun y => absurd y c8) (fun _ => ?_)
  simp
  refine sameStates_ok (goS p s t n v to_) (goS p s t n v to_) ?_
  simp
  refine sameEvents_ok true true (goL s n v (placeE p s t)) (goL s n v (placeE p s t)) ?_
  simp
end Go.Proofs.YtjbkinmdcaegcaaGreatDoor
