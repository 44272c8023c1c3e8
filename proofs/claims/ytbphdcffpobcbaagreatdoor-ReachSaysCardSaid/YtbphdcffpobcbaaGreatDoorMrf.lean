/- Several texts in one. -/
import Derived.Test.YtbphdcffpobcbaaGreatDoorMo
import Derived.Test.YtbphdcffpobcbaaGreatDoorMs
set_option linter.unusedSimpArgs false
set_option linter.unusedVariables false
set_option maxRecDepth 100000
set_option maxHeartbeats 16000000
namespace Go.Proofs.YtbphdcffpobcbaaGreatDoor
open Go.RowKit Go
abbrev rD (b0:Nat):Nat->Nat:=fun i=>b0+2+5*i
abbrev tD (b0:Nat):Nat->Nat:=fun i=>b0+3+5*i
abbrev nD (b0 k:Nat):Nat->Prop:=fun q => ∃ i,i<k∧q=b0+3+5*i
theorem newAt.set {H:Hp} {n i:Nat} {y:Option Blk} (h:i≠n->newAt H i) (hy : ∀ b,y=some b->newRs b.es):newAt (H.set n y) i:=fun x hx=>by
 by_cases e:i=n
 ·subst e;rw [Hp.set_same] at hx;exact hy x hx
 ·rw [Hp.set_ne _ _ e] at hx;exact h e x hx
theorem FsAt.app {H H':Hp} {N N':Nat->Prop} {nF nF':Nat} {r t:Nat->Nat} {fs:List GFrame} {f:GFrame} {FR:List (List C)} (h:FsAt H N nF r t fs FR) (hl:FR.length=fs.length) (hN : ∀ q,N q->N' q∧H' q=H q) (hr : ∀ i,i<fs.length->H' (r i)=H (r i))
  (hb:H' nF'=some ⟨.c 100,8,FR++[frRow (r fs.length) (t fs.length) f]⟩) (h1:H' (r fs.length)=some (valBlk f.regs)) (h2:N' (t fs.length)) (h3:H' (t fs.length)=some (tryBlk f.tries)):FsAt H' N' nF' r t (fs++[f]) (FR++[frRow (r fs.length) (t fs.length) f]):=by
 refine ⟨hb,by simp [hl],fun e he x hx => ?_,fun i hi => ?_,fun i hi => ?_,fun i hi => ?_⟩
 ·rcases List.mem_append.1 he with he | he
  ·exact h.new e he x hx
  ·rw [List.mem_singleton] at he
   subst he
   exact frRow_new _ _ _ x hx
 ·rcases Nat.lt_or_ge i fs.length with hi2 | hi2
  ·rw [List.getElem?_append_left (by omega),List.getElem_append_left hi2];exact h.row i hi2
  ·obtain rfl:i=fs.length:=by simp at hi;omega
   rw [List.getElem?_append_right (by omega)];simp [hl]
 ·rcases Nat.lt_or_ge i fs.length with hi2 | hi2
  ·rw [hr i hi2,List.getElem_append_left hi2];exact h.regs i hi2
  ·obtain rfl:i=fs.length:=by simp at hi;omega
   simpa using h1
 ·rcases Nat.lt_or_ge i fs.length with hi2 | hi2
  ·obtain ⟨g1,ys,g2⟩:=h.tries i hi2
   rw [List.getElem_append_left hi2]
   exact ⟨(hN _ g1).1,ys,by rw [(hN _ g1).2];exact g2⟩
  ·obtain rfl:i=fs.length:=by simp at hi;omega
   exact ⟨h2,[],by simpa using h3⟩
structure FrD (H0:Hp) (b0:Nat) (l:List GFrame) (x:HN):Prop where
 hk:x.k≤l.length
 hn:x.nx=b0+1+5*x.k
 fs : ∃ FR,FR.length=x.k∧FsAt x.H (nD b0 x.k) (b0+5*x.k) (rD b0) (tD b0) (l.take x.k) FR
 low : ∀ i,i<b0->x.H i=H0 i
 high : ∀ i,x.nx≤i->x.H i=none
 sol:HSol x.H
 new : ∀ i,b0≤i->newAt x.H i
theorem framesD_ic (S:Bool) (l:List GFrame) (hn:l.length≤30) (hl : ∀ f∈l,f.regs.length≤100000000000∧f.tries.length≤100000000000) {H:Hp} {nx:Nat} (hS:HSol H) {K:D->Hp->Nat->Prop}
  (h : ∀ H' FR,(∀ i,i<nx->H' i=H i)->(∀ i,nx+1+5*l.length≤i->H' i=none)->HSol H'->(∀ i,nx≤i->newAt H' i)->FsAt H' (nD nx l.length) (nx+5*l.length) (rD nx) (tD nx) l FR->K (.one (.own (nx+5*l.length) 8 l.length)) H' (nx+1+5*l.length)):ICall Tryz.prog 109 [dL S (l.map eFrame)] H nx K:=by
 refine ICall.fresh (by kernel_rfl) fun hfr => ?_
 refine fni_ok [0,2,3,5,6,7,8,9] [(5,[0,0,2,7,0,0,32,127,111,511,1023,2047],(.seg 1 (.seg 2 (.seg 5 (.fork 0 [1,2,5] (.fork 3 [5] (.fork 4 [5] (.eff 6 [] (.seg 8 (.eff 7 [8] (.eff 9 [] (.seg 10 (.eff 11 [] .last)))))) (.eff 6 [] (.seg 8 (.eff 4 [8] (.eff 7 [8] (.eff 9 [] (.seg 10 (.eff 11 [] .last)))))))) (.fork 4 [1,2,5] (.fork 3 [5] (.eff 6 [] (.seg 8 (.eff 7 [8] (.eff 9 [] (.seg 10 (.eff 11 [] .last)))))) (.eff 6 [1,2] (.eff 3 [] (.seg 8 (.eff 7 [8] (.eff 9 [] (.seg 10 (.eff 11 [] .last)))))))) (.eff 6 [1,2] (.fork 3 [] (.seg 8 (.eff 4 [8] (.eff 7 [8] (.eff 9 [] (.seg 10 (.eff 11 [] .last)))))) (.eff 4 [1,2] (.eff 3 [] (.seg 8 (.eff 7 [8] (.eff 9 [] (.seg 10 (.eff 11 [] .last))))))))))) (.fork 4 [1,2,5] (.fork 0 [1,2,5] (.fork 3 [5] (.eff 6 [] (.seg 8 (.eff 7 [8] (.eff 9 [] (.seg 10 (.eff 11 [] .last)))))) (.eff 6 [1,2] (.eff 3 [] (.seg 8 (.eff 7 [8] (.eff 9 [] (.seg 10 (.eff 11 [] .last)))))))) (.eff 6 [1,2] (.eff 0 [1,2] (.eff 3 [] (.seg 8 (.eff 7 [8] (.eff 9 [] (.seg 10 (.eff 11 [] .last))))))))) (.eff 6 [1,2] (.fork 0 [1,2] (.fork 3 [] (.seg 8 (.eff 4 [8] (.eff 7 [8] (.eff 9 [] (.seg 10 (.eff 11 [] .last)))))) (.eff 4 [1,2] (.eff 3 [] (.seg 8 (.eff 7 [8] (.eff 9 [] (.seg 10 (.eff 11 [] .last)))))))) (.eff 4 [1,2] (.eff 0 [1,2] (.eff 3 [] (.seg 8 (.eff 7 [8] (.eff 9 [] (.seg 10 (.eff 11 [] .last))))))))))))))))] Tryz.func109 rfl (by kernel_rfl) rfl rfl rfl rfl (by kernel_rfl) ?_
 simp
 intro _
 have hI0:FrD H nx l ⟨0,H.set nx (some ⟨.c 100,8,[]⟩),nx+1⟩:=by
  refine ⟨by simp,by simp,⟨[],rfl,⟨?_,by simp,(fun e he=>by cases he),(fun i hi=>by rw [List.take_zero] at hi;cases hi),(fun i hi=>by rw [List.take_zero] at hi;cases hi),(fun i hi=>by rw [List.take_zero] at hi;cases hi)⟩⟩,fun i hi=>Hp.set_ne _ _ (by omega),fun i hi => ?_,hS.set (by simp),fun i hi => ?_⟩
  ·exact Hp.set_same _ _ _
  ·simp only at hi
   show Hp.set _ _ _ _=_
   rw [Hp.set_ne _ _ (by omega)];exact hfr i (by omega)
  ·exact newAt.set (fun _ x hx=>by rw [hfr i hi] at hx;cases hx) (fun b hb=>by cases hb;exact fun e he=>by cases he)
 refine loopH_ok (ks := [0,2,3,5,6,7,8,9]) (pl := [(5,[0,0,2,7,0,0,32,127,111,511,1023,2047],(.seg 1 (.seg 2 (.seg 5 (.fork 0 [1,2,5] (.fork 3 [5] (.fork 4 [5] (.eff 6 [] (.seg 8 (.eff 7 [8] (.eff 9 [] (.seg 10 (.eff 11 [] .last)))))) (.eff 6 [] (.seg 8 (.eff 4 [8] (.eff 7 [8] (.eff 9 [] (.seg 10 (.eff 11 [] .last)))))))) (.fork 4 [1,2,5] (.fork 3 [5] (.eff 6 [] (.seg 8 (.eff 7 [8] (.eff 9 [] (.seg 10 (.eff 11 [] .last)))))) (.eff 6 [1,2] (.eff 3 [] (.seg 8 (.eff 7 [8] (.eff 9 [] (.seg 10 (.eff 11 [] .last)))))))) (.eff 6 [1,2] (.fork 3 [] (.seg 8 (.eff 4 [8] (.eff 7 [8] (.eff 9 [] (.seg 10 (.eff 11 [] .last)))))) (.eff 4 [1,2] (.eff 3 [] (.seg 8 (.eff 7 [8] (.eff 9 [] (.seg 10 (.eff 11 [] .last))))))))))) (.fork 4 [1,2,5] (.fork 0 [1,2,5] (.fork 3 [5] (.eff 6 [] (.seg 8 (.eff 7 [8] (.eff 9 [] (.seg 10 (.eff 11 [] .last)))))) (.eff 6 [1,2] (.eff 3 [] (.seg 8 (.eff 7 [8] (.eff 9 [] (.seg 10 (.eff 11 [] .last)))))))) (.eff 6 [1,2] (.eff 0 [1,2] (.eff 3 [] (.seg 8 (.eff 7 [8] (.eff 9 [] (.seg 10 (.eff 11 [] .last))))))))) (.eff 6 [1,2] (.fork 0 [1,2] (.fork 3 [] (.seg 8 (.eff 4 [8] (.eff 7 [8] (.eff 9 [] (.seg 10 (.eff 11 [] .last)))))) (.eff 4 [1,2] (.eff 3 [] (.seg 8 (.eff 7 [8] (.eff 9 [] (.seg 10 (.eff 11 [] .last)))))))) (.eff 4 [1,2] (.eff 0 [1,2] (.eff 3 [] (.seg 8 (.eff 7 [8] (.eff 9 [] (.seg 10 (.eff 11 [] .last))))))))))))))))]) (n0:=28) (α := {x:HN//FrD H nx l x}) (fun x=>[(3,.one (.own (nx+5*x.1.k) 8 x.1.k)),(8,dI x.1.k)]) (fun _ x=>x.1.H) (fun x=>x.1.nx) (fun x=>l.length-x.1.k) ⟨_,hI0⟩ rfl (by kernel_rfl) ((Wk.emp (t:=3) 100 8 rfl).trans (Wk.sub (by simp))) ?_
 clear hI0
 rintro ⟨⟨k,H1,n1⟩,hI⟩
 obtain ⟨hk,hn1,⟨FR,hFl,hF⟩,hlow,hhigh,hsol,hnew⟩:=hI
 simp only at hk hn1 hFl hF hlow hhigh hsol hnew
 by_cases h1:k<l.length
 ·obtain ⟨g1,g2⟩:=hl _ (List.getElem_mem h1)
  have hb:=hF.blk
  have e0 : ¬ nx+5*k=n1:=by omega
  have e1 : ¬ nx+5*k=n1+1:=by omega
  have e2 : ¬ nx+5*k=n1+1+1:=by omega
  have e3 : ¬ nx+5*k=n1+1+1+1:=by omega
  have e4 : ¬ n1=n1+1+1:=by omega
  have e5 : ¬ n1=n1+1+1+1:=by omega
  have e6 : ¬ n1+1=n1+1+1+1:=by omega
  simp (config := { maxSteps:=2000000 }) [h1,hb,hFl,e0,e1,e2,e3,e4,e5,e6]
  refine ⟨.inl g1,.inl g2,fun m b e hm => ?_,.inl (by omega),⟨k+1,(((H1.set (n1+1) (some (valBlk l[k].regs))).set (n1+1+1) (some (tryBlk l[k].tries))).set (nx+5*k) none).set (n1+1+1+1+1) (some ⟨.c 100,8,FR++[frRow (rD nx k) (tD nx k) l[k]]⟩),n1+5⟩,by simp;omega,⟨h1,by simp;omega,?_,fun i hi => ?_,fun i hi => ?_,?_,fun i hi => ?_⟩,(Wk.sub (by simp [wrap_add (show k<9223372036854775807 by omega)];omega)).trans (Wk.heap ?_)⟩
  ·subst e
   rw [if_neg (by omega),if_neg (by omega),if_neg (by omega),if_neg (by omega),if_neg (by omega),hb] at hm
   cases hm
   exact ⟨rfl,rfl⟩
  ·have hm:(l.take k).length=k:=by simp;omega
   have ht:l.take (k+1)=l.take k++[l[k]]:=by rw [List.take_add_one,List.getElem?_eq_getElem h1];rfl
   refine ⟨FR++[frRow (rD nx k) (tD nx k) l[k]],by simp [hFl],?_⟩
   simp only
   rw [ht]
   have:=FsAt.app (H':=(((H1.set (n1+1) (some (valBlk l[k].regs))).set (n1+1+1) (some (tryBlk l[k].tries))).set (nx+5*k) none).set (n1+1+1+1+1) (some ⟨.c 100,8,FR++[frRow (rD nx k) (tD nx k) l[k]]⟩)) (N':=nD nx (k+1)) (nF':=nx+5*(k+1)) (f:=l[k]) hF (by rw [hm];exact hFl) (fun q ⟨i,hi,hq⟩=>⟨⟨i,by omega,hq⟩,by
    subst hq
    rw [Hp.set_ne _ _ (by omega),Hp.set_ne _ _ (by omega),Hp.set_ne _ _ (by omega),Hp.set_ne _ _ (by omega)]⟩) (fun i hi=>by
    simp only [rD]
    rw [hm] at hi
    rw [Hp.set_ne _ _ (by omega),Hp.set_ne _ _ (by omega),Hp.set_ne _ _ (by omega),Hp.set_ne _ _ (by omega)])
    (by rw [hm,show nx+5*(k+1)=n1+1+1+1+1 by omega,Hp.set_same]) (by
    rw [hm]
    simp only [rD]
    rw [Hp.set_ne _ _ (by omega),Hp.set_ne _ _ (by omega),Hp.set_ne _ _ (by omega),show nx+2+5*k=n1+1 by omega,Hp.set_same]) ⟨k,by omega,by rw [hm]⟩ (by
    rw [hm]
    simp only [tD]
    rw [Hp.set_ne _ _ (by omega),Hp.set_ne _ _ (by omega),show nx+3+5*k=n1+1+1 by omega,Hp.set_same])
   rw [hm] at this
   exact this
  ·show Hp.set _ _ _ _=_
   rw [Hp.set_ne _ _ (by omega),Hp.set_ne _ _ (by omega),Hp.set_ne _ _ (by omega),Hp.set_ne _ _ (by omega)];exact hlow i hi
  ·simp only at hi
   show Hp.set _ _ _ _=_
   rw [Hp.set_ne _ _ (by omega),Hp.set_ne _ _ (by omega),Hp.set_ne _ _ (by omega),Hp.set_ne _ _ (by omega)];exact hhigh i (by omega)
  ·refine HSol.set (HSol.none (HSol.set (HSol.set hsol (valBlk_sol _)) (tryBlk_sol _))) ?_
   intro e he c hc
   rcases List.mem_append.1 he with he | he
   ·exact hsol _ _ hb e he c hc
   ·rw [List.mem_singleton] at he
    subst he
    exact frRow_sol _ _ _ c hc
  ·refine newAt.set (fun _=>newAt.set (fun _=>newAt.set (fun _=>newAt.set (fun _=>hnew i hi) ?_) ?_) ?_) ?_
   ·intro b hb;cases hb;exact valBlk_new _
   ·intro b hb;cases hb;exact tryBlk_new _
   ·intro b hb;cases hb
   ·intro b hb2
    cases hb2
    intro e he c hc
    rcases List.mem_append.1 he with he | he
    ·exact hF.new e he c hc
    ·rw [List.mem_singleton] at he
     subst he
     exact frRow_new _ _ _ c hc
  ·intro i y hy
   have hr:frRow (rD nx k) (tD nx k) l[k]=[C.d (eI l[k].fn),C.d (eI l[k].at_),C.d (eI l[k].to),C.d (eI l[k].gen),C.d (eI l[k].self.kind),C.d (eI l[k].self.n),C.own (n1+1) 2 l[k].regs.length,C.own (n1+1+1) 2 l[k].tries.length]:=by
    rw [frRow,show rD nx k=n1+1 by simp only [rD];omega,show tD nx k=n1+1+1 by simp only [tD];omega]
   rw [hr] at hy
   simp only at hy
   have htk:List.take k FR=FR:=List.take_of_length_le (by omega)
   rw [htk]
   by_cases i4:i=n1+1+1+1+1
   ·subst i4;rw [Hp.set_same] at hy ⊢; exact hy
   rw [Hp.set_ne _ _ i4] at hy ⊢
   by_cases i0:i=nx+5*k
   ·subst i0;rw [Hp.set_same] at hy;cases hy
   rw [Hp.set_ne _ _ i0] at hy ⊢
   by_cases i2:i=n1+1+1
   ·subst i2
    rw [Hp.set_same] at hy
    rw [Hp.set_ne _ _ (by omega),Hp.set_ne _ _ (by omega),Hp.set_same];exact hy
   rw [Hp.set_ne _ _ i2] at hy
   by_cases i1:i=n1+1
   ·subst i1
    rw [Hp.set_same] at hy
    rw [Hp.set_ne _ _ (by omega),Hp.set_ne _ _ (by omega),Hp.set_ne _ _ (by omega),Hp.set_same];exact hy
   rw [Hp.set_ne _ _ i1] at hy
   have hlt:i<n1:=by
    rcases Nat.lt_or_ge i n1 with h | h
    ·exact h
    ·rw [hhigh i h] at hy;cases hy
   rw [Hp.set_ne _ _ (by omega),Hp.set_ne _ _ (by omega),Hp.set_ne _ _ (by omega),Hp.set_ne _ _ (by omega),Hp.set_ne _ _ (by omega)];exact hy
 ·obtain rfl:k=l.length:=by omega
  simp [hsol]
  subst hn1
  rw [List.take_length] at hF
  exact h H1 FR hlow hhigh hsol hnew hF
structure CeD (H0:Hp) (m:Nat) (s:GState) (x:HN):Prop where
 hk:x.k≤s.cells.length
 hn:m+3≤x.nx
 box:x.H m=some ⟨.c 29,8,[(eState s).map .d]⟩
 res:x.H (m+1)=some ⟨.c 29,8,[nilS]⟩
 ce : ∃ CR,CeAt x.H (fun q=>m+2≤q∧q<x.nx-1) (x.nx-1) (s.cells.take x.k) CR
 low : ∀ i,i<m->x.H i=H0 i
 high : ∀ i,x.nx≤i->x.H i=none
 sol:HSol x.H
abbrev thV (t:GThread):Nat:=4+5*t.frames.length
structure ThD (H0:Hp) (m e:Nat) (s:GState) (x:HN):Prop where
 hk:x.k≤s.threads.length
 he:m+4≤e
 hn:x.nx=e+off thV s.threads x.k
 box:x.H m=some ⟨.c 29,8,[(eState s).map .d]⟩
 res:x.H (m+1)=some ⟨.c 29,8,[nilS]⟩
 ce : ∃ CR,CeAt x.H (fun q=>m+2≤q∧q<e-2) (e-2) s.cells CR
 th : ∃ TR,x.H (x.nx-1)=some ⟨.c 90,5,TR⟩∧TR.length=x.k ∧ ∀ (i:Nat) (h:i<s.threads.length),i<x.k->TR[i]? = some (thR (.own (e+off thV s.threads i+1+5*s.threads[i].frames.length) 8 s.threads[i].frames.length) s.threads[i]) ∧
  ∃ FR,FsAt x.H (nD (e+off thV s.threads i+1) s.threads[i].frames.length) (e+off thV s.threads i+1+5*s.threads[i].frames.length) (rD (e+off thV s.threads i+1)) (tD (e+off thV s.threads i+1)) s.threads[i].frames FR
 low : ∀ i,i<m->x.H i=H0 i
 high : ∀ i,x.nx≤i->x.H i=none
 sol:HSol x.H
structure CopD (H:Hp) (lo:Nat) (s:GState) (th:Nat) (N:Nat->Prop) (nC nT nF:Nat) (r t:Nat->Nat) (c1 c2 c4 c5:C) (CR TR FR:List (List C)):Prop where
 ceA:CeAt H N nC s.cells CR
 thA:ThAt H N th nT nF s.threads (s.threads.getD th dThread) TR
 fsA:FsAt H N nF r t (s.threads.getD th dThread).frames FR
 apt:Apt N nC nT nF r (s.threads.getD th dThread).frames.length
 oth:Shw H N c1 (.sl true (s.shapes.map eShape))∧Shw H N c2 (.sl true (s.texts.map eStr))∧Shw H N c4 (.sl true (s.ends.map eEnd))∧Shw H N c5 (.sl true (s.said.map eVal))
 low : ∀ q,N q->lo≤q
 los:lo≤nC∧lo≤nT∧lo≤nF ∧ ∀ i,i<(s.threads.getD th dThread).frames.length->lo≤r i
def cpF (H2:Hp) (nx m1 m2:Nat) (s:GState):Hp:=(((((((H2.set nx (some ⟨.c 29,8,[[.own m1 4 s.cells.length,.d (.sl true (s.shapes.map eShape)),.d (.sl true (s.texts.map eStr)),.own m2 5 s.threads.length,.d (.sl true (s.ends.map eEnd)),.d (.sl true (s.said.map eVal)),.d (eI s.asked),.d (eI s.steps)]]⟩)).set (m2+1) (some ⟨.c 118,2,s.shapes.map ((fun e=>e.map C.d)∘eShape)⟩)).set (m2+1+1) (some ⟨.c 9,1,s.texts.map ((fun e=>e.map C.d)∘eStr)⟩)).set nx (some ⟨.c 29,8,[[.own m1 4 s.cells.length,.own (m2+1) 2 s.shapes.length,.own (m2+1+1) 1 s.texts.length,.own m2 5 s.threads.length,.d (.sl true (s.ends.map eEnd)),.d (.sl true (s.said.map eVal)),.d (eI s.asked),.d (eI s.steps)]]⟩)).set (m2+1+1+1) (some ⟨.c 88,3,s.ends.map ((fun e=>e.map C.d)∘eEnd)⟩)).set (m2+1+1+1+1) (some ⟨.c 31,2,s.said.map ((fun e=>e.map C.d)∘eVal)⟩)).set nx (some ⟨.c 29,8,[[.own m1 4 s.cells.length,.own (m2+1) 2 s.shapes.length,.own (m2+1+1) 1 s.texts.length,.own m2 5 s.threads.length,.own (m2+1+1+1) 3 s.ends.length,.own (m2+1+1+1+1) 2 s.said.length,.d (eI s.asked),.d (eI s.steps)]]⟩)).set (nx+1) (some ⟨.c 29,8,[[.own m1 4 s.cells.length,.own (m2+1) 2 s.shapes.length,.own (m2+1+1) 1 s.texts.length,.own m2 5 s.threads.length,.own (m2+1+1+1) 3 s.ends.length,.own (m2+1+1+1+1) 2 s.said.length,.d (eI s.asked),.d (eI s.steps)]]⟩)
theorem FsAt.toB {H:Hp} {N:Nat->Prop} {nF:Nat} {r t:Nat->Nat} {fs:List GFrame} {FR:List (List C)} (h:FsAt H N nF r t fs FR):FrB H nF r t fs :=
 ⟨⟨_,h.blk,h.new,h.row⟩,fun j hj=>⟨[],by rw [List.append_nil];exact h.regs j hj⟩,fun j hj=>(h.tries j hj).2⟩
abbrev ceV (c:GCell):Nat:=5+5*c.frames.length
structure CeX (H:Hp) (b nC k:Nat) (cs:List GCell) (CR:List (List C)):Prop where
 blk:H nC=some ⟨.c 75,4,CR⟩
 len:CR.length=k
 new:newRs CR
 row : ∀ (i:Nat) (h:i<cs.length),i<k->CR[i]? = some (ceR (.own (b+off ceV cs i+1) 2 cs[i].vals.length) (.own (b+off ceV cs i+2+5*cs[i].frames.length) 8 cs[i].frames.length) cs[i])
 vals : ∀ (i:Nat) (h:i<cs.length),i<k->H (b+off ceV cs i+1)=some (valBlk cs[i].vals)
 frs : ∀ (i:Nat) (h:i<cs.length),i<k->FrB H (b+off ceV cs i+2+5*cs[i].frames.length) (rD (b+off ceV cs i+2)) (tD (b+off ceV cs i+2)) cs[i].frames
theorem CeX.low {H H':Hp} {b nC k:Nat} {cs:List GCell} {CR:List (List C)} (h:CeX H b nC k cs CR) (hk:k≤cs.length) (hl : ∀ q,b≤q->q<b+off ceV cs k-1->H' q=H q) (hc:H' nC=H nC):CeX H' b nC k cs CR:=by
 have key : ∀ (i:Nat) (hi:i<cs.length),i<k->off ceV cs i+(5+5*cs[i].frames.length)≤off ceV cs k:=fun i hi hk=>off_lt (g:=ceV) hk hi
 refine ⟨by rw [hc];exact h.blk,h.len,h.new,h.row,fun i hi hk => ?_,fun i hi hk => ?_⟩
 ·have:=key i hi hk
  rw [hl _ (by omega) (by omega)];exact h.vals i hi hk
 ·have:=key i hi hk
  exact (h.frs i hi hk).low (hl _ (by omega) (by omega)) (fun j hj=>hl _ (by simp only [rD];omega) (by simp only [rD];omega)) fun j hj=>hl _ (by simp only [tD];omega) (by simp only [tD];omega)
theorem CeX.app {H H':Hp} {b nC nC' k:Nat} {cs:List GCell} {CR:List (List C)} (h:CeX H b nC k cs CR) (hk:k<cs.length) (hl : ∀ q,b≤q->q<b+off ceV cs k-1->H' q=H q)
  (hb:H' nC'=some ⟨.c 75,4,CR++[ceR (.own (b+off ceV cs k+1) 2 cs[k].vals.length) (.own (b+off ceV cs k+2+5*cs[k].frames.length) 8 cs[k].frames.length) cs[k]]⟩) (hv:H' (b+off ceV cs k+1)=some (valBlk cs[k].vals))
  (hf:FrB H' (b+off ceV cs k+2+5*cs[k].frames.length) (rD (b+off ceV cs k+2)) (tD (b+off ceV cs k+2)) cs[k].frames):CeX H' b nC' (k+1) cs (CR++[ceR (.own (b+off ceV cs k+1) 2 cs[k].vals.length) (.own (b+off ceV cs k+2+5*cs[k].frames.length) 8 cs[k].frames.length) cs[k]]):=by
 have key : ∀ (i:Nat) (hi:i<cs.length),i<k->off ceV cs i+(5+5*cs[i].frames.length)≤off ceV cs k:=fun i hi hk=>off_lt (g:=ceV) hk hi
 have hlen:=h.len
 refine ⟨hb,by simp [hlen],fun e he x hx => ?_,fun i hi hik => ?_,fun i hi hik => ?_,fun i hi hik => ?_⟩
 ·rcases List.mem_append.1 he with he | he
  ·exact h.new e he x hx
  ·rw [List.mem_singleton] at he
   subst he
   simp [ceR] at hx
   rcases hx with rfl | rfl | rfl | rfl <;> rfl
 ·by_cases e:i=k
  ·subst e
   rw [List.getElem?_append_right (by omega)];simp [hlen]
  ·rw [List.getElem?_append_left (by omega)];exact h.row i hi (by omega)
 ·by_cases e:i=k
  ·subst e;exact hv
  ·have:=key i hi (by omega)
   rw [hl _ (by omega) (by omega)];exact h.vals i hi (by omega)
 ·by_cases e:i=k
  ·subst e;exact hf
  ·have:=key i hi (by omega)
   exact (h.frs i hi (by omega)).low (hl _ (by omega) (by omega)) (fun j hj=>hl _ (by simp only [rD];omega) (by simp only [rD];omega)) fun j hj=>hl _ (by simp only [tD];omega) (by simp only [tD];omega)
structure CeD2 (H0:Hp) (m:Nat) (s:GState) (x:HN):Prop where
 hk:x.k≤s.cells.length
 hn:x.nx=m+3+off ceV s.cells x.k
 box:x.H m=some ⟨.c 29,8,[(eState s).map .d]⟩
 res:x.H (m+1)=some ⟨.c 29,8,[nilS]⟩
 ce : ∃ CR,CeX x.H (m+3) (x.nx-1) x.k s.cells CR
 low : ∀ i,i<m->x.H i=H0 i
 high : ∀ i,x.nx≤i->x.H i=none
 sol:HSol x.H
structure ThD2 (H0:Hp) (m e:Nat) (s:GState) (x:HN):Prop where
 hk:x.k≤s.threads.length
 he:e=m+4+off ceV s.cells s.cells.length
 hn:x.nx=e+off thV s.threads x.k
 box:x.H m=some ⟨.c 29,8,[(eState s).map .d]⟩
 res:x.H (m+1)=some ⟨.c 29,8,[nilS]⟩
 ce : ∃ CR,CeX x.H (m+3) (e-2) s.cells.length s.cells CR
 th : ∃ TR,x.H (x.nx-1)=some ⟨.c 90,5,TR⟩∧TR.length=x.k ∧ ∀ (i:Nat) (h:i<s.threads.length),i<x.k->TR[i]? = some (thR (.own (e+off thV s.threads i+1+5*s.threads[i].frames.length) 8 s.threads[i].frames.length) s.threads[i]) ∧
  ∃ FR,FsAt x.H (nD (e+off thV s.threads i+1) s.threads[i].frames.length) (e+off thV s.threads i+1+5*s.threads[i].frames.length) (rD (e+off thV s.threads i+1)) (tD (e+off thV s.threads i+1)) s.threads[i].frames FR
 low : ∀ i,i<m->x.H i=H0 i
 high : ∀ i,x.nx≤i->x.H i=none
 sol:HSol x.H
def layD (m m1 m2:Nat) (s:GState):Ad->Nat
 | .c=>m1
 | .sh=>m2+1
 | .tx=>m2+2
 | .t=>m2
 | .en=>m2+3
 | .sa=>m2+4
 | .cv i=>m+3+off ceV s.cells i+1
 | .cf i=>m+3+off ceV s.cells i+2+5*(s.cells.getD i dCell).frames.length
 | .cr i j=>m+3+off ceV s.cells i+2+2+5*j
 | .ct i j=>m+3+off ceV s.cells i+2+3+5*j
 | .tf i=>m1+2+off thV s.threads i+1+5*(s.threads.getD i dThread).frames.length
 | .tr i j=>m1+2+off thV s.threads i+1+2+5*j
 | .tt i j=>m1+2+off thV s.threads i+1+3+5*j
theorem copiedO_fin (s:GState) {H H2:Hp} {nx m1 m2:Nat} {CR TR:List (List C)} {K:D->Hp->Nat->Prop} (hn1:m1=nx+2+off ceV s.cells s.cells.length) (hn2:m2+1=m1+2+off thV s.threads s.threads.length)
  (hce:CeX H2 (nx+3) m1 s.cells.length s.cells CR) (hTb:H2 m2=some ⟨.c 90,5,TR⟩) (hTl:TR.length=s.threads.length)
  (hTh : ∀ (i:Nat) (h:i<s.threads.length),i<s.threads.length->TR[i]? = some (thR (.own (m1+2+off thV s.threads i+1+5*s.threads[i].frames.length) 8 s.threads[i].frames.length) s.threads[i]) ∧
   ∃ FR,FsAt H2 (nD (m1+2+off thV s.threads i+1) s.threads[i].frames.length) (m1+2+off thV s.threads i+1+5*s.threads[i].frames.length) (rD (m1+2+off thV s.threads i+1)) (tD (m1+2+off thV s.threads i+1)) s.threads[i].frames FR)
  (hlow : ∀ i,i<nx->H2 i=H i) (hhigh : ∀ i,m2+1≤i->H2 i=none) (hsol:HSol H2)
  (h : ∀ H' A nx',nx≤nx'->(∀ i,i<nx->H' i=H i)->(∀ i,nx'≤i->H' i=none)->HSol H'->OwnS H' nx A s->K (.agg (oRow A s)) H' nx') :
  HSol (cpF H2 nx m1 m2 s)∧K (.agg [.own m1 4 s.cells.length,.own (m2+1) 2 s.shapes.length,.own (m2+1+1) 1 s.texts.length,.own m2 5 s.threads.length,.own (m2+1+1+1) 3 s.ends.length,.own (m2+1+1+1+1) 2 s.said.length,.d (eI s.asked),.d (eI s.steps)]) (cpF H2 nx m1 m2 s) (m2+1+1+1+1+1):=by
 have x1 : ∀ i,i≠nx->i≠nx+1->i≤m2->cpF H2 nx m1 m2 s i=H2 i:=fun i h1 h2 h3=>by
  unfold cpF
  repeat rw [Hp.set_ne _ _ (by omega)]
 have x2:cpF H2 nx m1 m2 s (m2+1)=some ⟨.c 118,2,s.shapes.map ((fun e=>e.map C.d)∘eShape)⟩:=by
  unfold cpF
  rw [Hp.set_ne _ _ (by omega),Hp.set_ne _ _ (by omega),Hp.set_ne _ _ (by omega),Hp.set_ne _ _ (by omega),Hp.set_ne _ _ (by omega),Hp.set_ne _ _ (by omega),Hp.set_same]
 have x3:cpF H2 nx m1 m2 s (m2+1+1)=some ⟨.c 9,1,s.texts.map ((fun e=>e.map C.d)∘eStr)⟩:=by
  unfold cpF
  rw [Hp.set_ne _ _ (by omega),Hp.set_ne _ _ (by omega),Hp.set_ne _ _ (by omega),Hp.set_ne _ _ (by omega),Hp.set_ne _ _ (by omega),Hp.set_same]
 have x4:cpF H2 nx m1 m2 s (m2+1+1+1)=some ⟨.c 88,3,s.ends.map ((fun e=>e.map C.d)∘eEnd)⟩:=by
  unfold cpF
  rw [Hp.set_ne _ _ (by omega),Hp.set_ne _ _ (by omega),Hp.set_ne _ _ (by omega),Hp.set_same]
 have x5:cpF H2 nx m1 m2 s (m2+1+1+1+1)=some (valBlk s.said):=by
  unfold cpF
  rw [Hp.set_ne _ _ (by omega),Hp.set_ne _ _ (by omega),Hp.set_same]
  rfl
 have xs:HSol (cpF H2 nx m1 m2 s):=by
  refine HSol.set (HSol.set (HSol.set (HSol.set (HSol.set (HSol.set (HSol.set (HSol.set hsol ?_) ?_) ?_) ?_) ?_) ?_) ?_) ?_
  case refine_2 =>
   intro e he c hc
   obtain ⟨v, -, rfl⟩:=List.mem_map.1 he
   simp at hc
   rcases hc with rfl | rfl <;> rfl
  all_goals simp
 refine ⟨xs,?_⟩
 have xh : ∀ i,m2+1+1+1+1+1≤i->cpF H2 nx m1 m2 s i=none:=fun i hi=>by
  unfold cpF
  repeat rw [Hp.set_ne _ _ (by omega)]
  exact hhigh i (by omega)
 generalize cpF H2 nx m1 m2 s=M at *
 have hCl : ∀ i (hi:i<s.cells.length),off ceV s.cells i+(5+5*s.cells[i].frames.length)≤off ceV s.cells s.cells.length:=fun i hi=>off_lt (g:=ceV) hi hi
 have hTl2 : ∀ i (hi:i<s.threads.length),off thV s.threads i+(4+5*s.threads[i].frames.length)≤off thV s.threads s.threads.length:=fun i hi=>off_lt (g:=thV) hi hi
 have hgC : ∀ i (hi:i<s.cells.length),s.cells.getD i dCell=s.cells[i]:=fun i hi=>by simp [List.getD_eq_getElem?_getD,hi]
 have hgT : ∀ i (hi:i<s.threads.length),s.threads.getD i dThread=s.threads[i]:=fun i hi=>by simp [List.getD_eq_getElem?_getD,hi]
 have hce2:=hce.low (H':=M) (Nat.le_refl _) (fun q h1 h2=>x1 q (by omega) (by omega) (by omega)) (x1 _ (by omega) (by omega) (by omega))
 refine h M (layD nx m1 m2 s) _ (by omega) (fun i hi=>by rw [x1 i (by omega) (by omega) (by omega)];exact hlow i hi) xh xs ?_
 refine ⟨⟨CR,hce2.blk,hce2.new,fun i hi=>by rw [hce2.row i hi hi,oCe,layD,layD,hgC i hi]⟩,⟨TR,by rw [layD,x1 _ (by omega) (by omega) (by omega)];exact hTb,?_,fun i hi=>by rw [(hTh i hi hi).1,oTh,layD,hgT i hi]⟩,
  ⟨[],by rw [List.append_nil];exact x2⟩,⟨[],by rw [List.append_nil];exact x3⟩,⟨[],by rw [List.append_nil];exact x4⟩,⟨[],by rw [List.append_nil];exact x5⟩,fun i hi=>⟨[],by rw [List.append_nil];exact hce2.vals i hi hi⟩,fun i hi => ?_,fun i hi => ?_,?_,fun x hx => ?_⟩
 ·intro e he c hc
  obtain ⟨i,hi,rfl⟩:=List.getElem_of_mem he
  obtain ⟨k1, -⟩:=hTh i (by omega) (by omega)
  rw [List.getElem?_eq_getElem hi,Option.some.injEq] at k1
  rw [k1] at hc
  simp [thR] at hc
  rcases hc with rfl | rfl | rfl | rfl | rfl <;> rfl
 ·rw [layD,hgC i hi]
  exact hce2.frs i hi hi
 ·rw [layD,hgT i hi]
  obtain ⟨-, FR,t2⟩:=hTh i hi hi
  have:=hTl2 i hi
  exact t2.toB.low (x1 _ (by omega) (by omega) (by omega)) (fun j hj=>x1 _ (by simp only [rD];omega) (by simp only [rD];omega) (by simp only [rD];omega)) fun j hj=>x1 _ (by simp only [tD];omega) (by simp only [tD];omega) (by simp only [tD];omega)
 ·refine inj_of (fun i=>nx+3+off ceV s.cells i) (fun i=>3+5*(s.cells.getD i dCell).frames.length) (fun i=>m1+2+off thV s.threads i) (fun i=>2+5*(s.threads.getD i dThread).frames.length) ?_ ?_ ?_ ?_ ?_ ?_ ?_ ?_ ?_ ?_
  ·intro x y hx hy e
   cases x <;> cases y <;> first | rfl | (cases hx;done) | (cases hy;done) | (simp only [layD] at e;omega)
  ·intro i x hi h hx
   cases x <;> simp only [ofC] at h <;> subst h <;> simp only [layD,hgC _ hi]
   ·omega
   ·omega
   ·have:=live_c hi hx;omega
   ·have:=live_c hi hx;omega
  ·intro i x hi h hx
   cases x <;> simp only [ofT] at h <;> subst h <;> simp only [layD,hgT _ hi]
   ·omega
   ·have:=live_t hi hx;omega
   ·have:=live_t hi hx;omega
  ·intro i x y hi h1 h2 hx hy e
   cases x <;> simp only [ofC] at h1 <;> subst h1 <;> cases y <;> simp only [ofC] at h2 <;> subst h2 <;> simp only [layD,hgC _ hi] at e <;> first | rfl | (exfalso;omega) | (congr 1;omega) | (exfalso;have:=live_c hi hx;omega) | (exfalso;have:=live_c hi hy;omega)
  ·intro i x y hi h1 h2 hx hy e
   cases x <;> simp only [ofT] at h1 <;> subst h1 <;> cases y <;> simp only [ofT] at h2 <;> subst h2 <;> simp only [layD,hgT _ hi] at e <;> first | rfl | (exfalso;omega) | (congr 1;omega) | (exfalso;have:=live_t hi hx;omega) | (exfalso;have:=live_t hi hy;omega)
  ·intro i k hi hk hne
   have:=off_apart ceV s.cells hi hk hne
   simp only [hgC _ hi,hgC _ hk]
   simp only [ceV] at this
   omega
  ·intro i k hi hk hne
   have:=off_apart thV s.threads hi hk hne
   simp only [hgT _ hi,hgT _ hk]
   simp only [thV] at this
   omega
  ·intro i k hi hk
   have:=hCl i hi
   simp only [hgC _ hi]
   omega
  ·intro x i hx hi
   have:=hCl i hi
   simp only [hgC _ hi]
   cases x <;> first | (cases hx;done) | (simp only [layD];omega)
  ·intro x i hx hi
   have:=hTl2 i hi
   simp only [hgT _ hi]
   cases x <;> first | (cases hx;done) | (simp only [layD];omega)
 ·cases x <;> simp only [layD] <;> omega
theorem copiedO_ic (s:GState) (hz:Sized s) {H:Hp} {nx:Nat} (hS:HSol H) {K:D->Hp->Nat->Prop}
  (h : ∀ H' A nx',nx≤nx'->(∀ i,i<nx->H' i=H i)->(∀ i,nx'≤i->H' i=none)->HSol H'->OwnS H' nx A s->K (.agg (oRow A s)) H' nx') :
  ICall Tryz.prog 58 [aD (eState s)] H nx K:=by
 obtain ⟨z1,z2,z3,z4,z5,z6,z7,z8⟩:=hz
 refine ICall.fresh (by kernel_rfl) fun hfr => ?_
 refine fni_ok [0,1,2,3,4,6,7,9,11,12,13,14,33,34,35,36] [(6,[0,0,2,7,0,0,32,127,111,511,1023,2047],(.seg 1 (.seg 2 (.seg 4 (.seg 5 (.fork 0 [1,2,5] (.fork 3 [5] (.eff 6 [] (.seg 8 (.eff 7 [8] (.eff 9 [] (.seg 10 (.eff 11 [] .last)))))) (.eff 6 [1,2] (.eff 3 [] (.seg 8 (.eff 7 [8] (.eff 9 [] (.seg 10 (.eff 11 [] .last)))))))) (.eff 6 [1,2] (.eff 0 [1,2] (.eff 3 [] (.seg 8 (.eff 7 [8] (.eff 9 [] (.seg 10 (.eff 11 [] .last)))))))))))))),(17,[0,0,2,7,0,0,32,127,111,511,1023,2047],(.seg 1 (.seg 2 (.seg 5 (.fork 0 [1,2,5] (.fork 3 [5] (.fork 4 [5] (.eff 6 [] (.seg 8 (.eff 7 [8] (.eff 9 [] (.seg 10 (.eff 11 [] .last)))))) (.eff 6 [] (.seg 8 (.eff 4 [8] (.eff 7 [8] (.eff 9 [] (.seg 10 (.eff 11 [] .last)))))))) (.fork 4 [1,2,5] (.fork 3 [5] (.eff 6 [] (.seg 8 (.eff 7 [8] (.eff 9 [] (.seg 10 (.eff 11 [] .last)))))) (.eff 6 [1,2] (.eff 3 [] (.seg 8 (.eff 7 [8] (.eff 9 [] (.seg 10 (.eff 11 [] .last)))))))) (.eff 6 [1,2] (.fork 3 [] (.seg 8 (.eff 4 [8] (.eff 7 [8] (.eff 9 [] (.seg 10 (.eff 11 [] .last)))))) (.eff 4 [1,2] (.eff 3 [] (.seg 8 (.eff 7 [8] (.eff 9 [] (.seg 10 (.eff 11 [] .last))))))))))) (.fork 4 [1,2,5] (.fork 0 [1,2,5] (.fork 3 [5] (.eff 6 [] (.seg 8 (.eff 7 [8] (.eff 9 [] (.seg 10 (.eff 11 [] .last)))))) (.eff 6 [1,2] (.eff 3 [] (.seg 8 (.eff 7 [8] (.eff 9 [] (.seg 10 (.eff 11 [] .last)))))))) (.eff 6 [1,2] (.eff 0 [1,2] (.eff 3 [] (.seg 8 (.eff 7 [8] (.eff 9 [] (.seg 10 (.eff 11 [] .last))))))))) (.eff 6 [1,2] (.fork 0 [1,2] (.fork 3 [] (.seg 8 (.eff 4 [8] (.eff 7 [8] (.eff 9 [] (.seg 10 (.eff 11 [] .last)))))) (.eff 4 [1,2] (.eff 3 [] (.seg 8 (.eff 7 [8] (.eff 9 [] (.seg 10 (.eff 11 [] .last)))))))) (.eff 4 [1,2] (.eff 0 [1,2] (.eff 3 [] (.seg 8 (.eff 7 [8] (.eff 9 [] (.seg 10 (.eff 11 [] .last)))))))))))))))),(18,[0,0,2,7,0,0,32,127,111,511,1023,2047],(.seg 1 (.seg 2 (.seg 5 (.fork 0 [1,2,5] (.fork 3 [5] (.fork 4 [5] (.eff 6 [] (.seg 8 (.eff 7 [8] (.eff 9 [] (.seg 10 (.eff 11 [] .last)))))) (.eff 6 [] (.seg 8 (.eff 4 [8] (.eff 7 [8] (.eff 9 [] (.seg 10 (.eff 11 [] .last)))))))) (.fork 4 [1,2,5] (.fork 3 [5] (.eff 6 [] (.seg 8 (.eff 7 [8] (.eff 9 [] (.seg 10 (.eff 11 [] .last)))))) (.eff 6 [1,2] (.eff 3 [] (.seg 8 (.eff 7 [8] (.eff 9 [] (.seg 10 (.eff 11 [] .last)))))))) (.eff 6 [1,2] (.fork 3 [] (.seg 8 (.eff 4 [8] (.eff 7 [8] (.eff 9 [] (.seg 10 (.eff 11 [] .last)))))) (.eff 4 [1,2] (.eff 3 [] (.seg 8 (.eff 7 [8] (.eff 9 [] (.seg 10 (.eff 11 [] .last))))))))))) (.fork 4 [1,2,5] (.fork 0 [1,2,5] (.fork 3 [5] (.eff 6 [] (.seg 8 (.eff 7 [8] (.eff 9 [] (.seg 10 (.eff 11 [] .last)))))) (.eff 6 [1,2] (.eff 3 [] (.seg 8 (.eff 7 [8] (.eff 9 [] (.seg 10 (.eff 11 [] .last)))))))) (.eff 6 [1,2] (.eff 0 [1,2] (.eff 3 [] (.seg 8 (.eff 7 [8] (.eff 9 [] (.seg 10 (.eff 11 [] .last))))))))) (.eff 6 [1,2] (.fork 0 [1,2] (.fork 3 [] (.seg 8 (.eff 4 [8] (.eff 7 [8] (.eff 9 [] (.seg 10 (.eff 11 [] .last)))))) (.eff 4 [1,2] (.eff 3 [] (.seg 8 (.eff 7 [8] (.eff 9 [] (.seg 10 (.eff 11 [] .last)))))))) (.eff 4 [1,2] (.eff 0 [1,2] (.eff 3 [] (.seg 8 (.eff 7 [8] (.eff 9 [] (.seg 10 (.eff 11 [] .last))))))))))))))))] Tryz.func58 rfl (by kernel_rfl) rfl rfl rfl rfl (by kernel_rfl) ?_
 simp [Nat.add_assoc]
 intro _
 have hI0:CeD2 H nx s ⟨0,((H.set nx (some ⟨.c 29,8,[(eState s).map .d]⟩)).set (nx+1) (some ⟨.c 29,8,[nilS]⟩)).set (nx+2) (some ⟨.c 75,4,[]⟩),nx+3⟩:=by
  refine ⟨by simp,by simp,?_,?_,⟨[],⟨Hp.set_same _ _ _,rfl,(fun e he=>by cases he),fun i hi h=>absurd h (Nat.not_lt_zero _),fun i hi h=>absurd h (Nat.not_lt_zero _),fun i hi h=>absurd h (Nat.not_lt_zero _)⟩⟩,fun i hi => ?_,fun i hi => ?_,HSol.set (HSol.set (HSol.set hS (by simp)) (by simp [nilS])) (by simp)⟩
  ·simp [Hp.set]
  ·simp [Hp.set]
  ·show Hp.set _ _ _ _=_
   rw [Hp.set_ne _ _ (by omega),Hp.set_ne _ _ (by omega),Hp.set_ne _ _ (by omega)]
  ·simp only at hi
   show Hp.set _ _ _ _=_
   rw [Hp.set_ne _ _ (by omega),Hp.set_ne _ _ (by omega),Hp.set_ne _ _ (by omega)];exact hfr i (by omega)
 refine loopH_ok (ks := [0,1,2,3,4,6,7,9,11,12,13,14,33,34,35,36]) (pl := [(6,[0,0,2,7,0,0,32,127,111,511,1023,2047],(.seg 1 (.seg 2 (.seg 4 (.seg 5 (.fork 0 [1,2,5] (.fork 3 [5] (.eff 6 [] (.seg 8 (.eff 7 [8] (.eff 9 [] (.seg 10 (.eff 11 [] .last)))))) (.eff 6 [1,2] (.eff 3 [] (.seg 8 (.eff 7 [8] (.eff 9 [] (.seg 10 (.eff 11 [] .last)))))))) (.eff 6 [1,2] (.eff 0 [1,2] (.eff 3 [] (.seg 8 (.eff 7 [8] (.eff 9 [] (.seg 10 (.eff 11 [] .last)))))))))))))),(17,[0,0,2,7,0,0,32,127,111,511,1023,2047],(.seg 1 (.seg 2 (.seg 5 (.fork 0 [1,2,5] (.fork 3 [5] (.fork 4 [5] (.eff 6 [] (.seg 8 (.eff 7 [8] (.eff 9 [] (.seg 10 (.eff 11 [] .last)))))) (.eff 6 [] (.seg 8 (.eff 4 [8] (.eff 7 [8] (.eff 9 [] (.seg 10 (.eff 11 [] .last)))))))) (.fork 4 [1,2,5] (.fork 3 [5] (.eff 6 [] (.seg 8 (.eff 7 [8] (.eff 9 [] (.seg 10 (.eff 11 [] .last)))))) (.eff 6 [1,2] (.eff 3 [] (.seg 8 (.eff 7 [8] (.eff 9 [] (.seg 10 (.eff 11 [] .last)))))))) (.eff 6 [1,2] (.fork 3 [] (.seg 8 (.eff 4 [8] (.eff 7 [8] (.eff 9 [] (.seg 10 (.eff 11 [] .last)))))) (.eff 4 [1,2] (.eff 3 [] (.seg 8 (.eff 7 [8] (.eff 9 [] (.seg 10 (.eff 11 [] .last))))))))))) (.fork 4 [1,2,5] (.fork 0 [1,2,5] (.fork 3 [5] (.eff 6 [] (.seg 8 (.eff 7 [8] (.eff 9 [] (.seg 10 (.eff 11 [] .last)))))) (.eff 6 [1,2] (.eff 3 [] (.seg 8 (.eff 7 [8] (.eff 9 [] (.seg 10 (.eff 11 [] .last)))))))) (.eff 6 [1,2] (.eff 0 [1,2] (.eff 3 [] (.seg 8 (.eff 7 [8] (.eff 9 [] (.seg 10 (.eff 11 [] .last))))))))) (.eff 6 [1,2] (.fork 0 [1,2] (.fork 3 [] (.seg 8 (.eff 4 [8] (.eff 7 [8] (.eff 9 [] (.seg 10 (.eff 11 [] .last)))))) (.eff 4 [1,2] (.eff 3 [] (.seg 8 (.eff 7 [8] (.eff 9 [] (.seg 10 (.eff 11 [] .last)))))))) (.eff 4 [1,2] (.eff 0 [1,2] (.eff 3 [] (.seg 8 (.eff 7 [8] (.eff 9 [] (.seg 10 (.eff 11 [] .last)))))))))))))))),(18,[0,0,2,7,0,0,32,127,111,511,1023,2047],(.seg 1 (.seg 2 (.seg 5 (.fork 0 [1,2,5] (.fork 3 [5] (.fork 4 [5] (.eff 6 [] (.seg 8 (.eff 7 [8] (.eff 9 [] (.seg 10 (.eff 11 [] .last)))))) (.eff 6 [] (.seg 8 (.eff 4 [8] (.eff 7 [8] (.eff 9 [] (.seg 10 (.eff 11 [] .last)))))))) (.fork 4 [1,2,5] (.fork 3 [5] (.eff 6 [] (.seg 8 (.eff 7 [8] (.eff 9 [] (.seg 10 (.eff 11 [] .last)))))) (.eff 6 [1,2] (.eff 3 [] (.seg 8 (.eff 7 [8] (.eff 9 [] (.seg 10 (.eff 11 [] .last)))))))) (.eff 6 [1,2] (.fork 3 [] (.seg 8 (.eff 4 [8] (.eff 7 [8] (.eff 9 [] (.seg 10 (.eff 11 [] .last)))))) (.eff 4 [1,2] (.eff 3 [] (.seg 8 (.eff 7 [8] (.eff 9 [] (.seg 10 (.eff 11 [] .last))))))))))) (.fork 4 [1,2,5] (.fork 0 [1,2,5] (.fork 3 [5] (.eff 6 [] (.seg 8 (.eff 7 [8] (.eff 9 [] (.seg 10 (.eff 11 [] .last)))))) (.eff 6 [1,2] (.eff 3 [] (.seg 8 (.eff 7 [8] (.eff 9 [] (.seg 10 (.eff 11 [] .last)))))))) (.eff 6 [1,2] (.eff 0 [1,2] (.eff 3 [] (.seg 8 (.eff 7 [8] (.eff 9 [] (.seg 10 (.eff 11 [] .last))))))))) (.eff 6 [1,2] (.fork 0 [1,2] (.fork 3 [] (.seg 8 (.eff 4 [8] (.eff 7 [8] (.eff 9 [] (.seg 10 (.eff 11 [] .last)))))) (.eff 4 [1,2] (.eff 3 [] (.seg 8 (.eff 7 [8] (.eff 9 [] (.seg 10 (.eff 11 [] .last)))))))) (.eff 4 [1,2] (.eff 0 [1,2] (.eff 3 [] (.seg 8 (.eff 7 [8] (.eff 9 [] (.seg 10 (.eff 11 [] .last))))))))))))))))]) (n0:=74) (α := {x:HN//CeD2 H nx s x}) (fun x=>[(4,.one (.own (x.1.nx-1) 4 x.1.k)),(13,dI x.1.k)]) (fun _ x=>x.1.H) (fun x=>x.1.nx) (fun x=>s.cells.length-x.1.k) ⟨_,hI0⟩ rfl (by kernel_rfl) ((Wk.emp (t:=4) 75 4 rfl).trans (Wk.sub (by simp))) ?_
 clear hI0
 rintro ⟨⟨k,H1,n1⟩,hI⟩
 obtain ⟨hk,hn1,hbox,hres,⟨CR,hce⟩,hlow,hhigh,hsol⟩:=hI
 simp only at hk hn1 hbox hres hce hlow hhigh hsol
 obtain ⟨m1,rfl⟩ : ∃ m1,n1=m1+1:=⟨n1-1,by omega⟩
 rw [Nat.add_sub_cancel] at hce
 have hCl:=hce.len
 by_cases h1:k<s.cells.length
 ·obtain ⟨g1,g2,g3⟩:=z7 _ (List.getElem_mem h1)
  have hb:=hce.blk
  simp [h1]
  refine ⟨.inl g1,?_⟩
  refine framesD_ic true s.cells[k].frames g2 g3 (fun _ _ h=>by cases h) (fun H' FR low' high' sol' new' at' => ?_)
  simp
  refine ⟨fun i x hx=>⟨?_,new' i ?_ x hx⟩,?_⟩
  ·rcases Nat.lt_or_ge i (m1+1+1+1) with h | h
   ·rw [low' i h] at hx;cases hx
   ·exact h
  ·rcases Nat.lt_or_ge i (m1+1+1+1) with h | h
   ·rw [low' i h] at hx;cases hx
   ·exact h
  rw [show (⟨.c 31,2,s.cells[k].vals.map ((fun e=>e.map C.d)∘eVal)⟩:Blk)=valBlk s.cells[k].vals from rfl]
  have d0 : ∀ i,i≤m1->Hp.mer ((H1.set (m1+1) (some ⟨.c 75,4,[[C.d (eI s.cells[k].kind),C.d (eI s.cells[k].num),C.d (Dt.sl true (List.map eVal s.cells[k].vals)),C.d (Dt.sl true (List.map eFrame s.cells[k].frames))]]⟩)).set (m1+1+1) (some (valBlk s.cells[k].vals))) (m1+1+1+1) H' i=H1 i:=fun i hi=>by
   rw [Hp.mer_lt (by omega),Hp.set_ne _ _ (by omega),Hp.set_ne _ _ (by omega)]
  have d1:Hp.mer ((H1.set (m1+1) (some ⟨.c 75,4,[[C.d (eI s.cells[k].kind),C.d (eI s.cells[k].num),C.d (Dt.sl true (List.map eVal s.cells[k].vals)),C.d (Dt.sl true (List.map eFrame s.cells[k].frames))]]⟩)).set (m1+1+1) (some (valBlk s.cells[k].vals))) (m1+1+1+1) H' (m1+1)=some ⟨.c 75,4,[[C.d (eI s.cells[k].kind),C.d (eI s.cells[k].num),C.d (Dt.sl true (List.map eVal s.cells[k].vals)),C.d (Dt.sl true (List.map eFrame s.cells[k].frames))]]⟩:=by
   rw [Hp.mer_lt (by omega),Hp.set_ne _ _ (by omega),Hp.set_same]
  have d2:Hp.mer ((H1.set (m1+1) (some ⟨.c 75,4,[[C.d (eI s.cells[k].kind),C.d (eI s.cells[k].num),C.d (Dt.sl true (List.map eVal s.cells[k].vals)),C.d (Dt.sl true (List.map eFrame s.cells[k].frames))]]⟩)).set (m1+1+1) (some (valBlk s.cells[k].vals))) (m1+1+1+1) H' (m1+1+1)=some (valBlk s.cells[k].vals):=by
   rw [Hp.mer_lt (by omega),Hp.set_same]
  have d3 : ∀ i,m1+1+1+1≤i->Hp.mer ((H1.set (m1+1) (some ⟨.c 75,4,[[C.d (eI s.cells[k].kind),C.d (eI s.cells[k].num),C.d (Dt.sl true (List.map eVal s.cells[k].vals)),C.d (Dt.sl true (List.map eFrame s.cells[k].frames))]]⟩)).set (m1+1+1) (some (valBlk s.cells[k].vals))) (m1+1+1+1) H' i=H' i:=fun i hi=>Hp.mer_ge hi
  have d4:HSol (Hp.mer ((H1.set (m1+1) (some ⟨.c 75,4,[[C.d (eI s.cells[k].kind),C.d (eI s.cells[k].num),C.d (Dt.sl true (List.map eVal s.cells[k].vals)),C.d (Dt.sl true (List.map eFrame s.cells[k].frames))]]⟩)).set (m1+1+1) (some (valBlk s.cells[k].vals))) (m1+1+1+1) H'):=HSol.mer ((hsol.set (by simp)).set (valBlk_sol _)) sol'
  generalize Hp.mer ((H1.set (m1+1) (some ⟨.c 75,4,[[C.d (eI s.cells[k].kind),C.d (eI s.cells[k].num),C.d (Dt.sl true (List.map eVal s.cells[k].vals)),C.d (Dt.sl true (List.map eFrame s.cells[k].frames))]]⟩)).set (m1+1+1) (some (valBlk s.cells[k].vals))) (m1+1+1+1) H'=M at *
  have d5:M m1=some ⟨.c 75,4,CR⟩:=by rw [d0 _ (by omega)];exact hb
  obtain ⟨n2,hn2⟩ : ∃ n2,n2=m1+1+1+1+1+5*s.cells[k].frames.length:=⟨_,rfl⟩
  rw [← hn2]
  have e1 : ¬ m1+1=m1:=by omega
  have e2 : ¬ m1=n2:=by omega
  have e3 : ¬ m1+1=n2:=by omega
  simp [d1,d5,e1,e2,e3,hCl]
  have htk:CR.take k=CR:=List.take_of_length_le (by omega)
  rw [htk]
  have x1 : ∀ i,i≠m1->i≠m1+1->i≠n2+1->((M.set (m1+1) none).set m1 none).set (n2+1) (some ⟨.c 75,4,CR++[ceR (.own (m1+1+1) 2 s.cells[k].vals.length) (.own (m1+1+1+1+5*s.cells[k].frames.length) 8 s.cells[k].frames.length) s.cells[k]]⟩) i=M i:=fun i h1 h2 h3=>by
   rw [Hp.set_ne _ _ h3,Hp.set_ne _ _ h1,Hp.set_ne _ _ h2]
  have ho:off ceV s.cells (k+1)=off ceV s.cells k+(5+5*s.cells[k].frames.length):=off_succ h1
  have b1:nx+3+off ceV s.cells k+1=m1+1+1:=by omega
  have b2:nx+3+off ceV s.cells k+2=m1+1+1+1:=by omega
  have hce2:CeX (((M.set (m1+1) none).set m1 none).set (n2+1) (some ⟨.c 75,4,CR++[ceR (.own (m1+1+1) 2 s.cells[k].vals.length) (.own (m1+1+1+1+5*s.cells[k].frames.length) 8 s.cells[k].frames.length) s.cells[k]]⟩)) (nx+3) (n2+1) (k+1) s.cells (CR++[ceR (.own (m1+1+1) 2 s.cells[k].vals.length) (.own (m1+1+1+1+5*s.cells[k].frames.length) 8 s.cells[k].frames.length) s.cells[k]]):=by
   have:=CeX.app (H':=((M.set (m1+1) none).set m1 none).set (n2+1) (some ⟨.c 75,4,CR++[ceR (.own (m1+1+1) 2 s.cells[k].vals.length) (.own (m1+1+1+1+5*s.cells[k].frames.length) 8 s.cells[k].frames.length) s.cells[k]]⟩)) (nC':=n2+1) hce h1 (fun q h1 h2=>by rw [x1 _ (by omega) (by omega) (by omega),d0 q (by omega)]) (by rw [b1,b2];exact Hp.set_same _ _ _) (by rw [b1,x1 _ (by omega) (by omega) (by omega)];exact d2)
    (by rw [b2];exact at'.toB.low (by rw [x1 _ (by omega) (by omega) (by omega)];exact d3 _ (by omega)) (fun j hj=>by simp only [rD];rw [x1 _ (by omega) (by omega) (by omega)];exact d3 _ (by omega)) fun j hj=>by simp only [tD];rw [x1 _ (by omega) (by omega) (by omega)];exact d3 _ (by omega))
   rw [b1,b2] at this
   exact this
  refine ⟨fun m b e hm => ?_,.inl (by omega),⟨k+1,((M.set (m1+1) none).set m1 none).set (n2+1) (some ⟨.c 75,4,CR++[ceR (.own (m1+1+1) 2 s.cells[k].vals.length) (.own (m1+1+1+1+5*s.cells[k].frames.length) 8 s.cells[k].frames.length) s.cells[k]]⟩),n2+2⟩,by simp;omega,⟨h1,by simp;omega,?_,?_,⟨_,by simp only [show n2+2-1=n2+1 by omega];exact hce2⟩,fun i hi => ?_,fun i hi => ?_,?_⟩,(Wk.sub (by simp [wrap_add (show k<9223372036854775807 by omega)])).trans (Wk.heap ?_)⟩
  ·subst e
   rw [if_neg e2,if_neg (by omega),d5] at hm
   cases hm
   exact ⟨rfl,rfl⟩
  ·simp only;rw [x1 _ (by omega) (by omega) (by omega),d0 _ (by omega)];exact hbox
  ·simp only;rw [x1 _ (by omega) (by omega) (by omega),d0 _ (by omega)];exact hres
  ·simp only;rw [x1 _ (by omega) (by omega) (by omega),d0 _ (by omega)];exact hlow i hi
  ·simp only at hi ⊢; rw [x1 _ (by omega) (by omega) (by omega),d3 _ (by omega)];exact high' i (by omega)
  ·exact HSol.set (HSol.none (HSol.none d4)) hce2.new.sol
  ·intro i y hy
   simp only at hy
   by_cases i1:i=n2+1
   ·subst i1;rw [Hp.set_same] at hy ⊢; rw [ceR] at hy;exact hy
   rw [Hp.set_ne _ _ i1] at hy ⊢
   by_cases i2:i=m1
   ·subst i2;rw [Hp.set_same] at hy;cases hy
   rw [Hp.set_ne _ _ i2] at hy ⊢
   by_cases i3:i=m1+1
   ·subst i3;rw [Hp.set_same] at hy;cases hy
   rw [Hp.set_ne _ _ i3] at hy
   have i4:i≠n2:=fun e=>by subst e;rw [d3 _ (by omega),high' _ (by omega)] at hy;cases hy
   rw [Hp.set_ne _ _ i4,Hp.set_ne _ _ i3];exact hy
 ·obtain rfl:k=s.cells.length:=by omega
  simp [hbox]
  intro _
  have hJ0:ThD2 H nx (m1+2) s ⟨0,H1.set (m1+1) (some ⟨.c 90,5,[]⟩),m1+2⟩:=by
   have ne : ∀ i,i≠m1+1->H1.set (m1+1) (some ⟨.c 90,5,[]⟩) i=H1 i:=fun i hi=>Hp.set_ne _ _ hi
   refine ⟨Nat.zero_le _,by omega,by simp,?_,?_,⟨CR,hce.low (Nat.le_refl _) (fun q h1 h2=>ne _ (by omega)) (ne _ (by omega))⟩,⟨[],Hp.set_same _ _ _,rfl,fun i h1 h2=>absurd h2 (Nat.not_lt_zero _)⟩,fun i hi => ?_,fun i hi => ?_,hsol.set (by simp)⟩
   ·simp only;rw [ne _ (by omega)];exact hbox
   ·simp only;rw [ne _ (by omega)];exact hres
   ·simp only;rw [ne _ (by omega)];exact hlow i hi
   ·simp only at hi ⊢; rw [ne _ (by omega)];exact hhigh i (by omega)
  have hm4:m1=nx+2+off ceV s.cells s.cells.length:=by omega
  refine loopH_ok (ks := [0,1,2,3,4,6,7,9,11,12,13,14,33,34,35,36]) (pl := [(6,[0,0,2,7,0,0,32,127,111,511,1023,2047],(.seg 1 (.seg 2 (.seg 4 (.seg 5 (.fork 0 [1,2,5] (.fork 3 [5] (.eff 6 [] (.seg 8 (.eff 7 [8] (.eff 9 [] (.seg 10 (.eff 11 [] .last)))))) (.eff 6 [1,2] (.eff 3 [] (.seg 8 (.eff 7 [8] (.eff 9 [] (.seg 10 (.eff 11 [] .last)))))))) (.eff 6 [1,2] (.eff 0 [1,2] (.eff 3 [] (.seg 8 (.eff 7 [8] (.eff 9 [] (.seg 10 (.eff 11 [] .last)))))))))))))),(17,[0,0,2,7,0,0,32,127,111,511,1023,2047],(.seg 1 (.seg 2 (.seg 5 (.fork 0 [1,2,5] (.fork 3 [5] (.fork 4 [5] (.eff 6 [] (.seg 8 (.eff 7 [8] (.eff 9 [] (.seg 10 (.eff 11 [] .last)))))) (.eff 6 [] (.seg 8 (.eff 4 [8] (.eff 7 [8] (.eff 9 [] (.seg 10 (.eff 11 [] .last)))))))) (.fork 4 [1,2,5] (.fork 3 [5] (.eff 6 [] (.seg 8 (.eff 7 [8] (.eff 9 [] (.seg 10 (.eff 11 [] .last)))))) (.eff 6 [1,2] (.eff 3 [] (.seg 8 (.eff 7 [8] (.eff 9 [] (.seg 10 (.eff 11 [] .last)))))))) (.eff 6 [1,2] (.fork 3 [] (.seg 8 (.eff 4 [8] (.eff 7 [8] (.eff 9 [] (.seg 10 (.eff 11 [] .last)))))) (.eff 4 [1,2] (.eff 3 [] (.seg 8 (.eff 7 [8] (.eff 9 [] (.seg 10 (.eff 11 [] .last))))))))))) (.fork 4 [1,2,5] (.fork 0 [1,2,5] (.fork 3 [5] (.eff 6 [] (.seg 8 (.eff 7 [8] (.eff 9 [] (.seg 10 (.eff 11 [] .last)))))) (.eff 6 [1,2] (.eff 3 [] (.seg 8 (.eff 7 [8] (.eff 9 [] (.seg 10 (.eff 11 [] .last)))))))) (.eff 6 [1,2] (.eff 0 [1,2] (.eff 3 [] (.seg 8 (.eff 7 [8] (.eff 9 [] (.seg 10 (.eff 11 [] .last))))))))) (.eff 6 [1,2] (.fork 0 [1,2] (.fork 3 [] (.seg 8 (.eff 4 [8] (.eff 7 [8] (.eff 9 [] (.seg 10 (.eff 11 [] .last)))))) (.eff 4 [1,2] (.eff 3 [] (.seg 8 (.eff 7 [8] (.eff 9 [] (.seg 10 (.eff 11 [] .last)))))))) (.eff 4 [1,2] (.eff 0 [1,2] (.eff 3 [] (.seg 8 (.eff 7 [8] (.eff 9 [] (.seg 10 (.eff 11 [] .last)))))))))))))))),(18,[0,0,2,7,0,0,32,127,111,511,1023,2047],(.seg 1 (.seg 2 (.seg 5 (.fork 0 [1,2,5] (.fork 3 [5] (.fork 4 [5] (.eff 6 [] (.seg 8 (.eff 7 [8] (.eff 9 [] (.seg 10 (.eff 11 [] .last)))))) (.eff 6 [] (.seg 8 (.eff 4 [8] (.eff 7 [8] (.eff 9 [] (.seg 10 (.eff 11 [] .last)))))))) (.fork 4 [1,2,5] (.fork 3 [5] (.eff 6 [] (.seg 8 (.eff 7 [8] (.eff 9 [] (.seg 10 (.eff 11 [] .last)))))) (.eff 6 [1,2] (.eff 3 [] (.seg 8 (.eff 7 [8] (.eff 9 [] (.seg 10 (.eff 11 [] .last)))))))) (.eff 6 [1,2] (.fork 3 [] (.seg 8 (.eff 4 [8] (.eff 7 [8] (.eff 9 [] (.seg 10 (.eff 11 [] .last)))))) (.eff 4 [1,2] (.eff 3 [] (.seg 8 (.eff 7 [8] (.eff 9 [] (.seg 10 (.eff 11 [] .last))))))))))) (.fork 4 [1,2,5] (.fork 0 [1,2,5] (.fork 3 [5] (.eff 6 [] (.seg 8 (.eff 7 [8] (.eff 9 [] (.seg 10 (.eff 11 [] .last)))))) (.eff 6 [1,2] (.eff 3 [] (.seg 8 (.eff 7 [8] (.eff 9 [] (.seg 10 (.eff 11 [] .last)))))))) (.eff 6 [1,2] (.eff 0 [1,2] (.eff 3 [] (.seg 8 (.eff 7 [8] (.eff 9 [] (.seg 10 (.eff 11 [] .last))))))))) (.eff 6 [1,2] (.fork 0 [1,2] (.fork 3 [] (.seg 8 (.eff 4 [8] (.eff 7 [8] (.eff 9 [] (.seg 10 (.eff 11 [] .last)))))) (.eff 4 [1,2] (.eff 3 [] (.seg 8 (.eff 7 [8] (.eff 9 [] (.seg 10 (.eff 11 [] .last)))))))) (.eff 4 [1,2] (.eff 0 [1,2] (.eff 3 [] (.seg 8 (.eff 7 [8] (.eff 9 [] (.seg 10 (.eff 11 [] .last))))))))))))))))]) (n0:=74) (α := {x:HN//ThD2 H nx (m1+2) s x}) (fun x=>[(7,.one (.own (x.1.nx-1) 5 x.1.k)),(35,dI x.1.k)]) (fun _ x=>x.1.H) (fun x=>x.1.nx) (fun x=>s.threads.length-x.1.k) ⟨_,hJ0⟩ rfl (by kernel_rfl) ((Wk.emp (t:=7) 90 5 rfl).trans (Wk.sub (by simp))) ?_
  clear hJ0 hbox hres hce hlow hhigh hsol hCl hn1 h1
  rintro ⟨⟨k,H2,n2⟩,hJ⟩
  obtain ⟨hk2,he,hn2,hbox,hres,⟨CR,hce⟩,⟨TR,hTb,hTl,hTh⟩,hlow,hhigh,hsol⟩:=hJ
  simp only at hk2 hn2 hbox hres hce hTb hTl hTh hlow hhigh hsol
  obtain ⟨m2,rfl⟩ : ∃ m2,n2=m2+1:=⟨n2-1,by omega⟩
  rw [Nat.add_sub_cancel] at hTb
  have hm2:m1+1≤m2:=by omega
  by_cases h1:k<s.threads.length
  ·obtain ⟨g2,g3⟩:=z8 _ (List.getElem_mem h1)
   simp [h1]
   refine framesD_ic true s.threads[k].frames g2 g3 (hsol.set (by simp)) (fun H' FR low' high' sol' new' at' => ?_)
   have d0 : ∀ i,i≤m2->H' i=H2 i:=fun i hi=>by rw [low' _ (by omega),Hp.set_ne _ _ (by omega)]
   have d1:H' (m2+1)=some ⟨.c 90,5,[[C.d (Dt.sl true (List.map eFrame s.threads[k].frames)),C.d (eI s.threads[k].state),C.d (eI s.threads[k].on),C.d (eI s.threads[k].val.kind),C.d (eI s.threads[k].val.n)]]⟩:=by rw [low' _ (by omega),Hp.set_same]
   have d5:H' m2=some ⟨.c 90,5,TR⟩:=by rw [d0 _ (by omega)];exact hTb
   obtain ⟨n3,hn3⟩ : ∃ n3,n3=m2+1+1+1+5*s.threads[k].frames.length:=⟨_,rfl⟩
   rw [← hn3]
   have e1 : ¬ m2+1=m2:=by omega
   have e2 : ¬ m2=n3:=by omega
   have e3 : ¬ m2+1=n3:=by omega
   simp [d1,d5,e1,e2,e3,hTl]
   have htk:TR.take k=TR:=List.take_of_length_le (by omega)
   rw [htk]
   have x1 : ∀ i,i≠m2->i≠m2+1->i≠n3+1->((H'.set (m2+1) none).set m2 none).set (n3+1) (some ⟨.c 90,5,TR++[thR (.own (m2+1+1+5*s.threads[k].frames.length) 8 s.threads[k].frames.length) s.threads[k]]⟩) i=H' i:=fun i h1 h2 h3=>by
    rw [Hp.set_ne _ _ h3,Hp.set_ne _ _ h1,Hp.set_ne _ _ h2]
   have hos:off thV s.threads (k+1)=off thV s.threads k+(4+5*s.threads[k].frames.length):=off_succ h1
   have hB:m2+1+1=m1+2+off thV s.threads k+1:=by omega
   refine ⟨fun m b e hm => ?_,.inl (by omega),⟨k+1,((H'.set (m2+1) none).set m2 none).set (n3+1) (some ⟨.c 90,5,TR++[thR (.own (m2+1+1+5*s.threads[k].frames.length) 8 s.threads[k].frames.length) s.threads[k]]⟩),n3+2⟩,by simp;omega,⟨h1,he,by simp only;omega,?_,?_,⟨CR,?_⟩,⟨TR++[thR (.own (m2+1+1+5*s.threads[k].frames.length) 8 s.threads[k].frames.length) s.threads[k]],?_,by simp [hTl],fun i hi hik => ?_⟩,fun i hi => ?_,fun i hi => ?_,?_⟩,(Wk.sub (by simp [wrap_add (show k<9223372036854775807 by omega)])).trans (Wk.heap ?_)⟩
   ·subst e
    rw [if_neg e2,if_neg (by omega),d5] at hm
    cases hm
    exact ⟨rfl,rfl⟩
   ·simp only;rw [x1 _ (by omega) (by omega) (by omega),d0 _ (by omega)];exact hbox
   ·simp only;rw [x1 _ (by omega) (by omega) (by omega),d0 _ (by omega)];exact hres
   ·exact hce.low (Nat.le_refl _) (fun q h1 h2=>by show Hp.set _ _ _ _=_;rw [x1 _ (by omega) (by omega) (by omega),d0 _ (by omega)]) (by show Hp.set _ _ _ _=_;rw [x1 _ (by omega) (by omega) (by omega),d0 _ (by omega)])
   ·simp only [show n3+2-1=n3+1 by omega];exact Hp.set_same _ _ _
   ·simp only at hik
    by_cases e:i=k
    ·subst e
     refine ⟨by rw [List.getElem?_append_right (by omega)];simp [hTl,hB],FR,?_⟩
     rw [← hB]
     exact at'.low (fun q ⟨j,h1,h2⟩=>x1 _ (by omega) (by omega) (by omega)) (x1 _ (by omega) (by omega) (by omega)) fun j hj=>x1 _ (by simp only [rD];omega) (by simp only [rD];omega) (by simp only [rD];omega)
    ·obtain ⟨g1,FR',g4⟩:=hTh i hi (by omega)
     have h3:off thV s.threads i+(4+5*s.threads[i].frames.length)≤off thV s.threads k:=off_lt (g:=thV) (by omega) hi
     refine ⟨by rw [List.getElem?_append_left (by omega)];exact g1,FR',g4.low (fun q ⟨j,h1,h2⟩=>by show Hp.set _ _ _ _=_;rw [x1 _ (by omega) (by omega) (by omega),d0 _ (by omega)]) (by show Hp.set _ _ _ _=_;rw [x1 _ (by omega) (by omega) (by omega),d0 _ (by omega)]) fun j hj=>by
      simp only [rD]
      show Hp.set _ _ _ _=_
      rw [x1 _ (by omega) (by omega) (by omega),d0 _ (by omega)]⟩
   ·simp only;rw [x1 _ (by omega) (by omega) (by omega),d0 _ (by omega)];exact hlow i hi
   ·simp only at hi ⊢; rw [x1 _ (by omega) (by omega) (by omega)];exact high' i (by omega)
   ·refine HSol.set (HSol.none (HSol.none sol')) ?_
    intro e he c hc
    rcases List.mem_append.1 he with he | he
    ·exact hsol _ _ hTb e he c hc
    ·rw [List.mem_singleton] at he
     subst he
     simp [thR] at hc
     rcases hc with rfl | rfl | rfl | rfl | rfl <;> rfl
   ·intro i y hy
    simp only at hy
    by_cases i1:i=n3+1
    ·subst i1;rw [Hp.set_same] at hy ⊢; rw [thR] at hy;exact hy
    rw [Hp.set_ne _ _ i1] at hy ⊢
    by_cases i2:i=m2
    ·subst i2;rw [Hp.set_same] at hy;cases hy
    rw [Hp.set_ne _ _ i2] at hy ⊢
    by_cases i3:i=m2+1
    ·subst i3;rw [Hp.set_same] at hy;cases hy
    rw [Hp.set_ne _ _ i3] at hy
    have i4:i≠n3:=fun e=>by subst e;rw [high' _ (by omega)] at hy;cases hy
    rw [Hp.set_ne _ _ i4,Hp.set_ne _ _ i3];exact hy
  ·obtain rfl:k=s.threads.length:=by omega
   have f0 : ¬ nx=m2:=by omega
   have f1 : ¬ nx=m2+1:=by omega
   have f2 : ¬ nx=m2+1+1:=by omega
   have f3 : ¬ nx=m2+1+1+1:=by omega
   have f4 : ¬ nx=m2+1+1+1+1:=by omega
   have f5 : ¬ nx=nx+1:=by omega
   rw [nilS] at hres
   simp (config := { maxSteps:=10000000 }) [hbox,hres,f0,f1,f2,f3,f4,f5]
   refine ⟨fun d x y _ e=>by subst e;rfl,.inl (by omega),.inl (by omega),.inl (by omega),.inl (by omega),?_⟩
   exact copiedO_fin s hm4 hn2 hce hTb hTl hTh hlow hhigh hsol h
end Go.Proofs.YtbphdcffpobcbaaGreatDoor
