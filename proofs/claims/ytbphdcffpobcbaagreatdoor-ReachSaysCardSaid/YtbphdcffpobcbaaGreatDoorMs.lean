/- Several texts in one. -/
import Derived.Test.YtbphdcffpobcbaaGreatDoorMe
import Derived.Test.YtbphdcffpobcbaaGreatDoorMo
set_option linter.unusedSimpArgs false
set_option linter.unusedVariables false
set_option maxRecDepth 100000
set_option maxHeartbeats 16000000
namespace Go.Proofs.YtbphdcffpobcbaaGreatDoor
open Go.RowKit Go
inductive Ad where
 | c
 | sh
 | tx
 | t
 | en
 | sa
 | cv (i:Nat)
 | cf (i:Nat)
 | cr (i j:Nat)
 | ct (i j:Nat)
 | tf (i:Nat)
 | tr (i j:Nat)
 | tt (i j:Nat)
def Live (s:GState):Ad->Prop
 | .cv i=>i<s.cells.length
 | .cf i=>i<s.cells.length
 | .cr i j => ∃ c,s.cells[i]? = some c∧j<c.frames.length
 | .ct i j => ∃ c,s.cells[i]? = some c∧j<c.frames.length
 | .tf i=>i<s.threads.length
 | .tr i j => ∃ t,s.threads[i]? = some t∧j<t.frames.length
 | .tt i j => ∃ t,s.threads[i]? = some t∧j<t.frames.length
 | _=>True
def ofT (i:Nat):Ad->Prop
 | .tf k=>k=i
 | .tr k _=>k=i
 | .tt k _=>k=i
 | _=>False
def ofC (i:Nat):Ad->Prop
 | .cv k=>k=i
 | .cf k=>k=i
 | .cr k _=>k=i
 | .ct k _=>k=i
 | _=>False
def shpBlk (l:List Shp):Blk:=⟨.c 118,2,l.map fun x=>(eShape x).map .d⟩
def txtBlk (l:List ByteArray):Blk:=⟨.c 9,1,l.map fun x=>(eStr x).map .d⟩
def endBlk (l:List GEnd):Blk:=⟨.c 88,3,l.map fun x=>(eEnd x).map .d⟩
theorem shpBlk_new (l:List Shp):newRs (shpBlk l).es:=fun e he c hc=>by
 simp [shpBlk] at he
 obtain ⟨a,b, -, rfl⟩:=he
 simp at hc
 rcases hc with rfl | rfl <;> rfl
theorem txtBlk_new (l:List ByteArray):newRs (txtBlk l).es:=fun e he c hc=>by
 simp [txtBlk] at he
 obtain ⟨a, -, rfl⟩:=he
 simp at hc
 subst hc;rfl
theorem endBlk_new (l:List GEnd):newRs (endBlk l).es:=fun e he c hc=>by
 simp [endBlk] at he
 obtain ⟨a, -, rfl⟩:=he
 simp at hc
 rcases hc with rfl | rfl | rfl <;> rfl
structure FrB (H:Hp) (n:Nat) (r t:Nat->Nat) (fs:List GFrame):Prop where
 blk : ∃ FR,H n=some ⟨.c 100,8,FR⟩∧newRs FR ∧ ∀ (j:Nat) (h:j<fs.length),FR[j]? = some (frRow (r j) (t j) fs[j])
 regs : ∀ (j:Nat) (h:j<fs.length), ∃ ys,H (r j)=some (valBlk (fs[j].regs++ys))
 tries : ∀ (j:Nat) (h:j<fs.length), ∃ ys,H (t j)=some (tryBlk (fs[j].tries++ys))
def oCe (A:Ad->Nat) (i:Nat) (c:GCell):List C:=ceR (.own (A (.cv i)) 2 c.vals.length) (.own (A (.cf i)) 8 c.frames.length) c
def oTh (A:Ad->Nat) (i:Nat) (t:GThread):List C:=thR (.own (A (.tf i)) 8 t.frames.length) t
structure OwnS (H:Hp) (lo:Nat) (A:Ad->Nat) (s:GState):Prop where
 ce : ∃ R,H (A .c)=some ⟨.c 75,4,R⟩∧newRs R ∧ ∀ (i:Nat) (h:i<s.cells.length),R[i]? = some (oCe A i s.cells[i])
 th : ∃ R,H (A .t)=some ⟨.c 90,5,R⟩∧newRs R ∧ ∀ (i:Nat) (h:i<s.threads.length),R[i]? = some (oTh A i s.threads[i])
 sh : ∃ ys,H (A .sh)=some (shpBlk (s.shapes++ys))
 tx : ∃ ys,H (A .tx)=some (txtBlk (s.texts++ys))
 en : ∃ ys,H (A .en)=some (endBlk (s.ends++ys))
 sa : ∃ ys,H (A .sa)=some (valBlk (s.said++ys))
 cv : ∀ (i:Nat) (h:i<s.cells.length), ∃ ys,H (A (.cv i))=some (valBlk (s.cells[i].vals++ys))
 cf : ∀ (i:Nat) (h:i<s.cells.length),FrB H (A (.cf i)) (fun j=>A (.cr i j)) (fun j=>A (.ct i j)) s.cells[i].frames
 tf : ∀ (i:Nat) (h:i<s.threads.length),FrB H (A (.tf i)) (fun j=>A (.tr i j)) (fun j=>A (.tt i j)) s.threads[i].frames
 inj : ∀ x y,Live s x->Live s y->A x=A y->x=y
 lo : ∀ x,Live s x->lo≤A x
def oRow (A:Ad->Nat) (s:GState):List C := [.own (A .c) 4 s.cells.length,.own (A .sh) 2 s.shapes.length,.own (A .tx) 1 s.texts.length,.own (A .t) 5 s.threads.length,.own (A .en) 3 s.ends.length,.own (A .sa) 2 s.said.length,.d (eI s.asked),.d (eI s.steps)]
theorem rows_le {R:List (List C)} {n:Nat} {f:(i:Nat)->i<n->List C} (h : ∀ (i:Nat) (hi:i<n),R[i]? = some (f i hi)):n≤R.length:=by
 rcases Nat.eq_zero_or_pos n with e | e
 ·omega
 ·have:=h (n-1) (by omega)
  have:=(List.getElem?_eq_some_iff.1 this).1
  omega
section
variable {H H':Hp} {lo:Nat} {A A':Ad->Nat} {s:GState}
theorem FrB.move {n n':Nat} {r t r' t':Nat->Nat} {fs:List GFrame} (h:FrB H n r t fs) (h1:H' n'=H n) (h2 : ∀ j,j<fs.length->r' j=r j∧H' (r j)=H (r j)) (h3 : ∀ j,j<fs.length->t' j=t j∧H' (t j)=H (t j)):FrB H' n' r' t' fs:=by
 obtain ⟨FR,a1,a2,a3⟩:=h.blk
 exact ⟨⟨FR,by rw [h1];exact a1,a2,fun j hj=>by rw [(h2 j hj).1,(h3 j hj).1];exact a3 j hj⟩,fun j hj=>by rw [(h2 j hj).1,(h2 j hj).2];exact h.regs j hj,fun j hj=>by rw [(h3 j hj).1,(h3 j hj).2];exact h.tries j hj⟩
theorem FrB.low {n:Nat} {r t:Nat->Nat} {fs:List GFrame} (h:FrB H n r t fs) (h1:H' n=H n) (h2 : ∀ j,j<fs.length->H' (r j)=H (r j)) (h3 : ∀ j,j<fs.length->H' (t j)=H (t j)):FrB H' n r t fs :=
 h.move h1 (fun j hj=>⟨rfl,h2 j hj⟩) fun j hj=>⟨rfl,h3 j hj⟩
theorem live_cr {i j:Nat} (hi:i<s.cells.length) (hj:j<s.cells[i].frames.length):Live s (.cr i j):=⟨_,List.getElem?_eq_getElem hi,hj⟩
theorem live_ct {i j:Nat} (hi:i<s.cells.length) (hj:j<s.cells[i].frames.length):Live s (.ct i j):=⟨_,List.getElem?_eq_getElem hi,hj⟩
theorem live_tr {i j:Nat} (hi:i<s.threads.length) (hj:j<s.threads[i].frames.length):Live s (.tr i j):=⟨_,List.getElem?_eq_getElem hi,hj⟩
theorem live_tt {i j:Nat} (hi:i<s.threads.length) (hj:j<s.threads[i].frames.length):Live s (.tt i j):=⟨_,List.getElem?_eq_getElem hi,hj⟩
theorem OwnS.low (h:OwnS H lo A s) (hl : ∀ x,Live s x->H' (A x)=H (A x)):OwnS H' lo A s :=
 ⟨by rw [hl .c trivial];exact h.ce,by rw [hl .t trivial];exact h.th,by rw [hl .sh trivial];exact h.sh,by rw [hl .tx trivial];exact h.tx,by rw [hl .en trivial];exact h.en,by rw [hl .sa trivial];exact h.sa,
  fun i hi=>by rw [hl (.cv i) hi];exact h.cv i hi,fun i hi=>(h.cf i hi).low (hl (.cf i) hi) (fun j hj=>hl (.cr i j) (live_cr hi hj)) fun j hj=>hl (.ct i j) (live_ct hi hj),
  fun i hi=>(h.tf i hi).low (hl (.tf i) hi) (fun j hj=>hl (.tr i j) (live_tr hi hj)) fun j hj=>hl (.tt i j) (live_tt hi hj),h.inj,h.lo⟩
theorem OwnS.set_low (h:OwnS H lo A s) {n:Nat} (b:Option Blk) (hn : ∀ x,Live s x->A x≠n):OwnS (H.set n b) lo A s:=h.low fun x hx=>Hp.set_ne _ _ (hn x hx)
theorem OwnS.has (h:OwnS H lo A s) {x:Ad} (hx:Live s x) : ∃ b,H (A x)=some b∧newRs b.es:=by
 cases x with
 | c=>obtain ⟨R,h1,h2, -⟩:=h.ce;exact ⟨_,h1,h2⟩
 | t=>obtain ⟨R,h1,h2, -⟩:=h.th;exact ⟨_,h1,h2⟩
 | sh=>obtain ⟨ys,h1⟩:=h.sh;exact ⟨_,h1,shpBlk_new _⟩
 | tx=>obtain ⟨ys,h1⟩:=h.tx;exact ⟨_,h1,txtBlk_new _⟩
 | en=>obtain ⟨ys,h1⟩:=h.en;exact ⟨_,h1,endBlk_new _⟩
 | sa=>obtain ⟨ys,h1⟩:=h.sa;exact ⟨_,h1,valBlk_new _⟩
 | cv i=>obtain ⟨ys,h1⟩:=h.cv i hx;exact ⟨_,h1,valBlk_new _⟩
 | cf i=>obtain ⟨R,h1,h2, -⟩:=(h.cf i hx).blk;exact ⟨_,h1,h2⟩
 | tf i=>obtain ⟨R,h1,h2, -⟩:=(h.tf i hx).blk;exact ⟨_,h1,h2⟩
 | cr i j =>
  obtain ⟨c,h1,h2⟩:=hx
  obtain ⟨hi,rfl⟩:=List.getElem?_eq_some_iff.1 h1
  obtain ⟨ys,h3⟩:=(h.cf i hi).regs j h2;exact ⟨_,h3,valBlk_new _⟩
 | ct i j =>
  obtain ⟨c,h1,h2⟩:=hx
  obtain ⟨hi,rfl⟩:=List.getElem?_eq_some_iff.1 h1
  obtain ⟨ys,h3⟩:=(h.cf i hi).tries j h2;exact ⟨_,h3,tryBlk_new _⟩
 | tr i j =>
  obtain ⟨c,h1,h2⟩:=hx
  obtain ⟨hi,rfl⟩:=List.getElem?_eq_some_iff.1 h1
  obtain ⟨ys,h3⟩:=(h.tf i hi).regs j h2;exact ⟨_,h3,valBlk_new _⟩
 | tt i j =>
  obtain ⟨c,h1,h2⟩:=hx
  obtain ⟨hi,rfl⟩:=List.getElem?_eq_some_iff.1 h1
  obtain ⟨ys,h3⟩:=(h.tf i hi).tries j h2;exact ⟨_,h3,tryBlk_new _⟩
theorem OwnS.lt (h:OwnS H lo A s) {nx:Nat} (hf : ∀ i,nx≤i->H i=none) {x:Ad} (hx:Live s x):A x<nx:=by
 obtain ⟨b,hb, -⟩:=h.has hx
 exact fresh_lt hf hb
theorem FrB.shw {N:Nat->Prop} {n:Nat} {r t:Nat->Nat} {fs:List GFrame} (h:FrB H n r t fs) (hF:N n) (hr : ∀ i,i<fs.length->N (r i)) (ht : ∀ i,i<fs.length->N (t i)):Shw H N (.own n 8 fs.length) (.sl true (fs.map eFrame)):=by
 obtain ⟨FR,h1,h2,h3⟩:=h.blk
 refine Shw.rowL hF h1 rfl (by simp) (rows_le h3) (by simp) fun i hi => ?_
 have hi:i<fs.length:=by simpa using hi
 obtain ⟨ys,h4⟩:=h.regs i hi
 obtain ⟨zs,h5⟩:=h.tries i hi
 refine ⟨_,h3 i hi,?_⟩
 rw [List.getElem_map]
 refine frRow_shw ?_ ?_
 ·refine Shw.row (hr i hi) h4 rfl (by simp) ?_ (by simp) (by simp)
  simp only [valBlk,List.map_append,List.map_map]
  rw [List.take_left' (by simp)]
  rfl
 ·have:=Shw.tries (N:=N) (k:=fs[i].tries.length) (ht i hi) h5
  rwa [List.take_left] at this
theorem OwnS.shw (h:OwnS H lo A s) {N:Nat->Prop} (hN : ∀ x,Live s x->N (A x)):CsS H N (oRow A s) (eState s):=by
 obtain ⟨R,r1,r2,r3⟩:=h.ce
 obtain ⟨T,t1,t2,t3⟩:=h.th
 obtain ⟨y1,e1⟩:=h.sh
 obtain ⟨y2,e2⟩:=h.tx
 obtain ⟨y3,e3⟩:=h.en
 obtain ⟨y4,e4⟩:=h.sa
 refine ⟨?_,?_,?_,?_,?_,?_,.d rfl,.d rfl,trivial⟩
 ·refine Shw.rowL (hN .c trivial) r1 rfl (by simp) (rows_le r3) (by simp) fun i hi => ?_
  have hi:i<s.cells.length:=by simpa using hi
  obtain ⟨ys,h4⟩:=h.cv i hi
  refine ⟨_,r3 i hi,?_⟩
  rw [List.getElem_map]
  refine ⟨.d rfl,.d rfl,Shw.row (hN (.cv i) hi) h4 rfl (by simp) ?_ (by simp) (by simp),(h.cf i hi).shw (hN (.cf i) hi) (fun j hj=>hN (.cr i j) (live_cr hi hj)) fun j hj=>hN (.ct i j) (live_ct hi hj),trivial⟩
  simp only [valBlk,List.map_append,List.map_map]
  rw [List.take_left' (by simp)]
  rfl
 ·refine Shw.row (hN .sh trivial) e1 rfl (by simp) ?_ (fun e he=>by obtain ⟨v, -, rfl⟩:=List.mem_map.1 he;rfl) (fun e he d hd=>by obtain ⟨v, -, rfl⟩:=List.mem_map.1 he;simp at hd;rcases hd with rfl | rfl <;> rfl)
  simp only [shpBlk,List.map_append,List.map_map]
  rw [List.take_left' (by simp)]
  rfl
 ·refine Shw.row (hN .tx trivial) e2 rfl (by simp) ?_ (by simp) (by simp)
  simp only [txtBlk,List.map_append,List.map_map]
  rw [List.take_left' (by simp)]
  rfl
 ·refine Shw.rowL (hN .t trivial) t1 rfl (by simp) (rows_le t3) (by simp) fun i hi => ?_
  have hi:i<s.threads.length:=by simpa using hi
  refine ⟨_,t3 i hi,?_⟩
  rw [List.getElem_map]
  exact ⟨(h.tf i hi).shw (hN (.tf i) hi) (fun j hj=>hN (.tr i j) (live_tr hi hj)) fun j hj=>hN (.tt i j) (live_tt hi hj),.d rfl,.d rfl,.d rfl,.d rfl,trivial⟩
 ·refine Shw.row (hN .en trivial) e3 rfl (by simp) ?_ (by simp) (by simp)
  simp only [endBlk,List.map_append,List.map_map]
  rw [List.take_left' (by simp)]
  rfl
 ·refine Shw.row (hN .sa trivial) e4 rfl (by simp) ?_ (by simp) (by simp)
  simp only [valBlk,List.map_append,List.map_map]
  rw [List.take_left' (by simp)]
  rfl
end
def GState.setC (s:GState) (i:Nat) (c:GCell):GState:=⟨s.cells.set i c,s.shapes,s.texts,s.threads,s.ends,s.said,s.asked,s.steps⟩
section
variable {H H':Hp} {lo:Nat} {A A':Ad->Nat} {s:GState}
theorem live_setC {i:Nat} {c:GCell} {x:Ad} (hx : ¬ ofC i x):Live (s.setC i c) x↔Live s x:=by
 cases x with
 | cv k=>simp [Live,GState.setC]
 | cf k=>simp [Live,GState.setC]
 | cr k j=>simp only [ofC] at hx;simp only [Live,GState.setC];rw [List.getElem?_set_ne (fun e=>hx e.symm)]
 | ct k j=>simp only [ofC] at hx;simp only [Live,GState.setC];rw [List.getElem?_set_ne (fun e=>hx e.symm)]
 | _=>exact Iff.rfl
theorem OwnS.setC (h:OwnS H lo A s) {i:Nat} (hi:i<s.cells.length) {c':GCell} (hA : ∀ x,Live s x -> ¬ ofC i x->A' x=A x∧(x ≠ .c->H' (A x)=H (A x))) {R:List (List C)} (hR:H (A .c)=some ⟨.c 75,4,R⟩)
  (hR':H' (A .c)=some ⟨.c 75,4,R.set i (oCe A' i c')⟩) (hV : ∃ ys,H' (A' (.cv i))=some (valBlk (c'.vals++ys))) (hF:FrB H' (A' (.cf i)) (fun j=>A' (.cr i j)) (fun j=>A' (.ct i j)) c'.frames)
  (hinj : ∀ x y,Live (s.setC i c') x->Live (s.setC i c') y->A' x=A' y->x=y) (hlo : ∀ x,Live (s.setC i c') x->lo≤A' x):OwnS H' lo A' (s.setC i c'):=by
 have k2 : ∀ x,Live s x -> ¬ ofC i x->x ≠ .c->A' x=A x∧H' (A x)=H (A x):=fun x h1 h2 h3=>⟨(hA x h1 h2).1,(hA x h1 h2).2 h3⟩
 have key : ∀ x,Live s x -> ¬ ofC i x->x ≠ .c->H' (A' x)=H (A x):=fun x h1 h2 h3=>by
  obtain ⟨a1,a2⟩:=k2 x h1 h2 h3
  rw [a1];exact a2
 obtain ⟨T,t1,t2,t3⟩:=h.ce
 rw [hR] at t1
 simp only [Option.some.injEq,Blk.mk.injEq,true_and] at t1
 subst t1
 obtain ⟨Q,q1,q2,q3⟩:=h.th
 refine ⟨⟨_,by rw [(hA .c trivial (fun e=>e)).1];exact hR',t2.set (fun c hc=>by simp [oCe,ceR] at hc;rcases hc with rfl | rfl | rfl | rfl <;> rfl),fun k hk => ?_⟩,⟨Q,by rw [key .t trivial (fun e=>e) (fun e=>by cases e)];exact q1,q2,fun k hk => ?_⟩,
  by rw [key .sh trivial (fun e=>e) (fun e=>by cases e)];exact h.sh,by rw [key .tx trivial (fun e=>e) (fun e=>by cases e)];exact h.tx,by rw [key .en trivial (fun e=>e) (fun e=>by cases e)];exact h.en,by rw [key .sa trivial (fun e=>e) (fun e=>by cases e)];exact h.sa,
  fun k hk => ?_,fun k hk => ?_,fun k hk => ?_,hinj,hlo⟩
 ·simp only [GState.setC,List.length_set] at hk
  simp only [GState.setC]
  by_cases e:i=k
  ·subst e
   rw [List.getElem_set_self,List.getElem?_set_self (by have:=rows_le t3;omega)]
  ·rw [List.getElem_set_ne e,List.getElem?_set_ne e,t3 k hk,oCe,oCe,(hA (.cv k) hk (fun e'=>e e'.symm)).1,(hA (.cf k) hk (fun e'=>e e'.symm)).1]
 ·rw [q3 k hk,oTh,oTh,(hA (.tf k) hk (fun e=>e)).1];rfl
 ·simp only [GState.setC,List.length_set] at hk
  simp only [GState.setC]
  by_cases e:i=k
  ·subst e
   rw [List.getElem_set_self];exact hV
  ·rw [List.getElem_set_ne e,key (.cv k) hk (fun e'=>e e'.symm) (fun e=>by cases e)];exact h.cv k hk
 ·simp only [GState.setC,List.length_set] at hk
  simp only [GState.setC]
  by_cases e:i=k
  ·subst e
   rw [List.getElem_set_self];exact hF
  ·have e' : ¬ k=i:=fun e'=>e e'.symm
   rw [List.getElem_set_ne e]
   exact (h.cf k hk).move (key (.cf k) hk e' (fun e=>by cases e)) (fun j hj=>k2 (.cr k j) (live_cr hk hj) e' (fun e=>by cases e)) fun j hj=>k2 (.ct k j) (live_ct hk hj) e' (fun e=>by cases e)
 ·exact (h.tf k hk).move (key (.tf k) hk (fun e=>e) (fun e=>by cases e)) (fun j hj=>k2 (.tr k j) (live_tr hk hj) (fun e=>e) (fun e=>by cases e)) fun j hj=>k2 (.tt k j) (live_tt hk hj) (fun e=>e) (fun e=>by cases e)
theorem OwnS.ne (h:OwnS H lo A s) {x y:Ad} (hx:Live s x) (hy:Live s y) (hn:x≠y):A x≠A y:=fun e=>hn (h.inj x y hx hy e)
end
def isTop:Ad->Bool
 | .c=>true
 | .sh=>true
 | .tx=>true
 | .t=>true
 | .en=>true
 | .sa=>true
 | _=>false
theorem ad_cases (s:GState) {x:Ad} (hx:Live s x):isTop x=true∨(∃ i,i<s.cells.length∧ofC i x) ∨ ∃ i,i<s.threads.length∧ofT i x:=by
 cases x with
 | cv i=>exact .inr (.inl ⟨i,hx,rfl⟩)
 | cf i=>exact .inr (.inl ⟨i,hx,rfl⟩)
 | cr i j=>exact .inr (.inl ⟨i,(List.getElem?_eq_some_iff.1 hx.choose_spec.1).1,rfl⟩)
 | ct i j=>exact .inr (.inl ⟨i,(List.getElem?_eq_some_iff.1 hx.choose_spec.1).1,rfl⟩)
 | tf i=>exact .inr (.inr ⟨i,hx,rfl⟩)
 | tr i j=>exact .inr (.inr ⟨i,(List.getElem?_eq_some_iff.1 hx.choose_spec.1).1,rfl⟩)
 | tt i j=>exact .inr (.inr ⟨i,(List.getElem?_eq_some_iff.1 hx.choose_spec.1).1,rfl⟩)
 | _=>exact .inl rfl
theorem inj_of {s:GState} {A:Ad->Nat} (b w:Nat->Nat) (b' w':Nat->Nat) (top : ∀ x y,isTop x=true->isTop y=true->A x=A y->x=y) (hC : ∀ i x,i<s.cells.length->ofC i x->Live s x->b i≤A x∧A x<b i+w i) (hT : ∀ i x,i<s.threads.length->ofT i x->Live s x->b' i≤A x∧A x<b' i+w' i)
  (lC : ∀ i x y,i<s.cells.length->ofC i x->ofC i y->Live s x->Live s y->A x=A y->x=y) (lT : ∀ i x y,i<s.threads.length->ofT i x->ofT i y->Live s x->Live s y->A x=A y->x=y)
  (dC : ∀ i k,i<s.cells.length->k<s.cells.length->i≠k->b i+w i≤b k∨b k+w k≤b i) (dT : ∀ i k,i<s.threads.length->k<s.threads.length->i≠k->b' i+w' i≤b' k∨b' k+w' k≤b' i) (dCT : ∀ i k,i<s.cells.length->k<s.threads.length->b i+w i≤b' k∨b' k+w' k≤b i)
  (tC : ∀ x i,isTop x=true->i<s.cells.length->A x<b i∨b i+w i≤A x) (tT : ∀ x i,isTop x=true->i<s.threads.length->A x<b' i∨b' i+w' i≤A x) : ∀ x y,Live s x->Live s y->A x=A y->x=y:=by
 intro x y hx hy e
 rcases ad_cases s hx with h1 | ⟨i,hi,h1⟩ | ⟨i,hi,h1⟩ <;> rcases ad_cases s hy with h2 | ⟨k,hk,h2⟩ | ⟨k,hk,h2⟩
 ·exact top x y h1 h2 e
 ·have:=hC k y hk h2 hy;have:=tC x k h1 hk;omega
 ·have:=hT k y hk h2 hy;have:=tT x k h1 hk;omega
 ·have:=hC i x hi h1 hx;have:=tC y i h2 hi;omega
 ·by_cases h:i=k
  ·subst h;exact lC i x y hi h1 h2 hx hy e
  ·have:=hC i x hi h1 hx;have:=hC k y hk h2 hy;have:=dC i k hi hk h;omega
 ·have:=hC i x hi h1 hx;have:=hT k y hk h2 hy;have:=dCT i k hi hk;omega
 ·have:=hT i x hi h1 hx;have:=tT y i h2 hi;omega
 ·have:=hT i x hi h1 hx;have:=hC k y hk h2 hy;have:=dCT k i hk hi;omega
 ·by_cases h:i=k
  ·subst h;exact lT i x y hi h1 h2 hx hy e
  ·have:=hT i x hi h1 hx;have:=hT k y hk h2 hy;have:=dT i k hi hk h;omega
theorem off_apart {α:Type} (g:α->Nat) (l:List α) {i k:Nat} (hi:i<l.length) (hk:k<l.length) (h:i≠k):off g l i+g l[i]≤off g l k∨off g l k+g l[k]≤off g l i:=by
 rcases Nat.lt_or_gt_of_ne h with e | e
 ·exact .inl (off_lt (g:=g) e hi)
 ·exact .inr (off_lt (g:=g) e hk)
def layS (n:Nat) (s:GState):Ad->Nat
 | .c=>n
 | .sh=>n+1
 | .tx=>n+2
 | .t=>n+3
 | .en=>n+4
 | .sa=>n+5
 | .cv i=>ceB n+off ceW s.cells i
 | .cf i=>ceB n+off ceW s.cells i+1
 | .cr i j=>ceB n+off ceW s.cells i+1+1+2*j
 | .ct i j=>ceB n+off ceW s.cells i+1+2+2*j
 | .tf i=>thB n s+off thW s.threads i
 | .tr i j=>thB n s+off thW s.threads i+1+2*j
 | .tt i j=>thB n s+off thW s.threads i+2+2*j
theorem FrAt.toB {H:Hp} {b:Nat} {l:List GFrame} (h:FrAt H b l):FrB H b (fun j=>b+1+2*j) (fun j=>b+2+2*j) l :=
 ⟨⟨_,h.blk,mixR_new fun _ _=>frRow_new _ _ _,fun j hj=>by rw [mixR_get,List.getElem?_eq_getElem hj];simp [hj]⟩,fun j hj=>⟨[],by rw [List.append_nil];exact h.sub.regs j hj hj⟩,fun j hj=>⟨[],by rw [List.append_nil];exact h.sub.tries j hj hj⟩⟩
theorem live_c {s:GState} {i j:Nat} (hi:i<s.cells.length) (h : ∃ c,s.cells[i]? = some c∧j<c.frames.length):j<s.cells[i].frames.length:=by
 obtain ⟨c,h1,h2⟩:=h
 rw [List.getElem?_eq_getElem hi,Option.some.injEq] at h1
 rw [h1];exact h2
theorem live_t {s:GState} {i j:Nat} (hi:i<s.threads.length) (h : ∃ c,s.threads[i]? = some c∧j<c.frames.length):j<s.threads[i].frames.length:=by
 obtain ⟨c,h1,h2⟩:=h
 rw [List.getElem?_eq_getElem hi,Option.some.injEq] at h1
 rw [h1];exact h2
theorem StAt.own {H:Hp} {n:Nat} {s:GState} (h:StAt H n s):OwnS H n (layS n s) s:=by
 obtain ⟨⟨o1,o2,o3,o4⟩,h1,h2,h3,h4⟩:=h
 refine ⟨⟨_,h1,mixR_new fun _ _=>ceRow_new _ _,fun i hi=>by rw [mixR_get,List.getElem?_eq_getElem hi];simp [hi,ceRow,oCe,ceR,layS]⟩,⟨_,h2,mixR_new fun _ _=>thRow_new _ _,fun i hi=>by rw [mixR_get,List.getElem?_eq_getElem hi];simp [hi,thRow,oTh,thR,layS]⟩,
  ⟨[],by rw [List.append_nil];exact o1⟩,⟨[],by rw [List.append_nil];exact o2⟩,⟨[],by rw [List.append_nil];exact o3⟩,⟨[],by rw [List.append_nil];exact o4⟩,fun i hi=>⟨[],by rw [List.append_nil];exact (h3 i hi hi).1⟩,fun i hi=>(h3 i hi hi).2.toB,fun i hi=>(h4 i hi hi).toB,?_,fun x hx => ?_⟩
 ·have hCl : ∀ i (hi:i<s.cells.length),off ceW s.cells i+(2+2*s.cells[i].frames.length)≤off ceW s.cells s.cells.length:=fun i hi=>off_lt (g:=ceW) hi hi
  refine inj_of (fun i=>n+6+off ceW s.cells i) (fun i=>((s.cells[i]?).map ceW).getD 0) (fun i=>thB n s+off thW s.threads i) (fun i=>((s.threads[i]?).map thW).getD 0) ?_ ?_ ?_ ?_ ?_ ?_ ?_ ?_ ?_ ?_
  ·intro x y hx hy e
   cases x <;> cases y <;> first | rfl | (cases hx;done) | (cases hy;done) | (simp only [layS] at e;omega)
  ·intro i x hi h hx
   cases x <;> simp only [ofC] at h <;> subst h <;> simp only [layS,ceB,List.getElem?_eq_getElem hi,Option.map_some,Option.getD_some,ceW]
   ·omega
   ·omega
   ·have:=live_c hi hx;omega
   ·have:=live_c hi hx;omega
  ·intro i x hi h hx
   cases x <;> simp only [ofT] at h <;> subst h <;> simp only [layS,List.getElem?_eq_getElem hi,Option.map_some,Option.getD_some,thW]
   ·omega
   ·have:=live_t hi hx;omega
   ·have:=live_t hi hx;omega
  ·intro i x y hi h1 h2 hx hy e
   cases x <;> simp only [ofC] at h1 <;> subst h1 <;> cases y <;> simp only [ofC] at h2 <;> subst h2 <;> simp only [layS] at e <;> first | rfl | (exfalso;omega) | (congr 1;omega)
  ·intro i x y hi h1 h2 hx hy e
   cases x <;> simp only [ofT] at h1 <;> subst h1 <;> cases y <;> simp only [ofT] at h2 <;> subst h2 <;> simp only [layS] at e <;> first | rfl | (exfalso;omega) | (congr 1;omega)
  ·intro i k hi hk hne
   have:=off_apart ceW s.cells hi hk hne
   simp only [List.getElem?_eq_getElem hi,List.getElem?_eq_getElem hk,Option.map_some,Option.getD_some]
   omega
  ·intro i k hi hk hne
   have:=off_apart thW s.threads hi hk hne
   simp only [List.getElem?_eq_getElem hi,List.getElem?_eq_getElem hk,Option.map_some,Option.getD_some]
   omega
  ·intro i k hi hk
   have:=hCl i hi
   simp only [List.getElem?_eq_getElem hi,Option.map_some,Option.getD_some,thB,ceW]
   omega
  ·intro x i hx hi
   cases x <;> first | (cases hx;done) | (simp only [layS];omega)
  ·intro x i hx hi
   cases x <;> first | (cases hx;done) | (simp only [layS,thB];omega)
 ·cases x <;> simp only [layS,thB,ceB] <;> omega
theorem copyO_ic (s:GState) (hz:Sized s) {H:Hp} {nx:Nat} (hS:HSol H) {K:D->Hp->Nat->Prop}
  (h : ∀ H' A nx',nx≤nx'->(∀ i,i<nx->H' i=H i)->(∀ i,nx'≤i->H' i=none)->HSol H'->OwnS H' nx A s->K (.agg (oRow A s)) H' nx'):ICall Tryz.prog 24 [aD (eState s)] H nx K :=
 copy_ic s hz hS fun H' low high sol at1=>by
  have h1:=at1.own
  exact h H' (layS (nx+2) s) _ (by simp only [enB,thB];omega) low high sol ⟨h1.ce,h1.th,h1.sh,h1.tx,h1.en,h1.sa,h1.cv,h1.cf,h1.tf,h1.inj,fun x hx=>by have:=h1.lo x hx;omega⟩
theorem Wk.ownC {n nx:Nat} {tm:List (Nat×D)} {H:Hp} {m k:Nat} {t:BT} {R:List (List C)} {row:List C} {i j:Nat} (e:TypeId) (z:Nat) (hm:H m=some ⟨t,k,R⟩) (hr:R[i]? = some row) (hj:row[j]? = some (.d .emp)) :
  Wk ⟨n,tm,H,nx⟩ ⟨n,tm,(H.set m (some ⟨t,k,R.set i (row.set j (.own nx z 0))⟩)).set nx (some ⟨.c e,z,[]⟩),nx+1⟩:=fun β F ι a w h=>by
 have hh:HpOk β F w ι H nx:=h.heap
 obtain ⟨h1,h2⟩:=hh.adopt (x:=⟨.c e,z,[]⟩) (b:=0) (cap:=0) ⟨0,0,by simp [Nms.set],Nat.le_refl _,fun _ h=>(by simp at h),fun h=>absurd h (by omega)⟩ (fun h=>absurd h (by omega)) (fun _ _ _ _ _ h=>absurd h (by omega))
 have hle:Env.le ⟨F,β.B⟩ ⟨F,β.B⟩ w w:=⟨fun _ h=>h,fun _ h=>h,fun _ _=>rfl,fun _ _=>rfl⟩
 obtain ⟨b0,cap0,p0,p1,p2,p3⟩:=hh.blk m _ hm
 have hmn:m≠nx:=fun e=>by rw [e,hh.nx nx (Nat.le_refl _)] at p0;cases p0
 have hx1:(H.set nx (some ⟨.c e,z,[]⟩)) m=some ⟨t,k,R⟩:=by rw [Hp.set_ne _ _ hmn];exact hm
 have hn : ∀ q,((H.set m (some ⟨t,k,R.set i (row.set j (.own nx z 0))⟩)).set nx (some ⟨.c e,z,[]⟩)) q≠none->(H.set nx (some ⟨.c e,z,[]⟩)) q≠none:=fun q hq=>by
  by_cases e1:q=nx
  ·subst e1;rw [Hp.set_same];simp
  ·rw [Hp.set_ne _ _ e1] at hq ⊢
   by_cases e2:q=m
   ·subst e2;rw [hm];simp
   ·rwa [Hp.set_ne _ _ e2] at hq
 refine ⟨F,ι.set nx (0,0),h.good,h.defers,h.size,fun u=>(h.tm u).keep hle h2,⟨h1.size,h1.keep,h1.Flt,h1.Fof,h1.F0,fun q y hy => ?_,fun q b cap hq=>h1.own q b cap (hn q hq),fun q q' b c c' h3 h4=>h1.inj q q' b c c' (hn q h3) (hn q' h4),h1.nx,h1.nm,h1.io⟩⟩
 replace hy:((H.set m (some ⟨t,k,R.set i (row.set j (.own nx z 0))⟩)).set nx (some ⟨.c e,z,[]⟩)) q=some y:=hy
 by_cases e1:q=nx
 ·subst e1
  rw [Hp.set_same] at hy
  exact h1.blk q y (by rw [Hp.set_same];exact hy)
 rw [Hp.set_ne _ _ e1] at hy
 by_cases e2:q=m
 ·subst e2
  rw [Hp.set_same,Option.some.injEq] at hy
  subst hy
  obtain ⟨b,cap,q1,q2,q3,q4⟩:=h1.blk q _ hx1
  obtain ⟨hil,hir⟩:=List.getElem?_eq_some_iff.1 hr
  obtain ⟨hjl,hjr⟩:=List.getElem?_eq_some_iff.1 hj
  refine ⟨b,cap,q1,by simpa using q2,fun e' he => ?_,fun hc => ?_⟩
  ·rcases List.mem_or_eq_of_mem_set he with he | rfl
   ·exact q3 e' he
   ·rw [List.length_set];exact q3 row (List.mem_of_getElem? hr)
  obtain ⟨arr,r1,r2,r3,r4⟩:=q4 hc
  refine ⟨arr,r1,r2,r3,fun i' j' c hc' => ?_⟩
  by_cases ei:i'=i
  ·subst ei
   by_cases ej:j'=j
   ·subst ej
    have:nth2 R i' j'=some (.d .emp):=by simp [nth2,hr,hj]
    obtain ⟨v,g1,g2⟩:=r4 i' j' _ this
    refine ⟨v,g1,?_⟩
    simp only [nth2,List.getElem?_set_self hil,Option.bind_some,List.getElem?_set_self hjl,Option.some.injEq] at hc'
    subst hc'
    have hv : ∃ A,v = .slice A 0 0:=by
     have hr:RD ⟨F,β.B⟩ w .emp v:=g2
     cases hr;exact ⟨_,rfl⟩
    exact ⟨0,0,by simp [Nms.set],Nat.le_refl _,by simp [maxLen],.inl ⟨rfl,hv⟩⟩
   ·refine r4 i' j' c ?_
    simp only [nth2,List.getElem?_set_self hil,Option.bind_some,List.getElem?_set_ne (fun e=>ej e.symm)] at hc'
    simp [nth2,hr,hc']
  ·refine r4 i' j' c ?_
   simp only [nth2,List.getElem?_set_ne (fun e=>ei e.symm)] at hc'
   exact hc'
 ·rw [Hp.set_ne _ _ e2] at hy
  exact h1.blk q y (by rw [Hp.set_ne _ _ e1];exact hy)
def withC (A:Ad->Nat) (i v f:Nat) (r t:Nat->Nat):Ad->Nat
 | .cv k=>if k=i then v else A (.cv k)
 | .cf k=>if k=i then f else A (.cf k)
 | .cr k j=>if k=i then r j else A (.cr k j)
 | .ct k j=>if k=i then t j else A (.ct k j)
 | x=>A x
theorem withC_out {A:Ad->Nat} {i v f:Nat} {r t:Nat->Nat} {x:Ad} (h : ¬ ofC i x):withC A i v f r t x=A x:=by
 cases x <;> simp only [ofC] at h <;> simp [withC,h]
structure LocF (l f:Nat) (r t:Nat->Nat):Prop where
 fr : ∀ j,j<l->f≠r j∧f≠t j
 rt : ∀ j k,j<l->k<l->r j≠t k
 rr : ∀ j k,j<l->k<l->r j=r k->j=k
 tt : ∀ j k,j<l->k<l->t j=t k->j=k
section
variable {H H':Hp} {lo:Nat} {A A':Ad->Nat} {s:GState}
theorem OwnS.newC (h:OwnS H lo A s) {i:Nat} (hi:i<s.cells.length) {c':GCell} (v f:Nat) (r t:Nat->Nat) (hk : ∀ x,Live s x -> ¬ ofC i x->x ≠ .c->H' (A x)=H (A x)) {R:List (List C)} (hR:H (A .c)=some ⟨.c 75,4,R⟩)
  (hR':H' (A .c)=some ⟨.c 75,4,R.set i (ceR (.own v 2 c'.vals.length) (.own f 8 c'.frames.length) c')⟩) (hV : ∃ ys,H' v=some (valBlk (c'.vals++ys))) (hF:FrB H' f r t c'.frames) (hvf:v≠f) (hv : ∀ j,j<c'.frames.length->v≠r j∧v≠t j) (hL:LocF c'.frames.length f r t)
  (hout : ∀ x,Live s x -> ¬ ofC i x->A x≠v∧A x≠f ∧ ∀ j,j<c'.frames.length->A x≠r j∧A x≠t j) (hlo:lo≤v∧lo≤f ∧ ∀ j,j<c'.frames.length->lo≤r j∧lo≤t j):OwnS H' lo (withC A i v f r t) (s.setC i c'):=by
 have hc:(s.setC i c').cells[i]? = some c':=by simp only [GState.setC];exact List.getElem?_set_self hi
 have hloc : ∀ x,Live (s.setC i c') x->ofC i x->(x = .cv i∧withC A i v f r t x=v)∨(x = .cf i∧withC A i v f r t x=f)∨(∃ j,j<c'.frames.length∧x = .cr i j∧withC A i v f r t x=r j) ∨ ∃ j,j<c'.frames.length∧x = .ct i j∧withC A i v f r t x=t j:=fun x hx h1=>by
  cases x <;> simp only [ofC] at h1 <;> subst h1
  ·exact .inl ⟨rfl,by simp [withC]⟩
  ·exact .inr (.inl ⟨rfl,by simp [withC]⟩)
  ·obtain ⟨c,g1,g2⟩:=hx
   rw [hc,Option.some.injEq] at g1
   subst g1
   exact .inr (.inr (.inl ⟨_,g2,rfl,by simp [withC]⟩))
  ·obtain ⟨c,g1,g2⟩:=hx
   rw [hc,Option.some.injEq] at g1
   subst g1
   exact .inr (.inr (.inr ⟨_,g2,rfl,by simp [withC]⟩))
 have hmix : ∀ x y,Live (s.setC i c') x->Live (s.setC i c') y->ofC i x -> ¬ ofC i y->withC A i v f r t x≠withC A i v f r t y:=fun x y hx hy h1 h2 e=>by
  obtain ⟨a1,a2,a3⟩:=hout y ((live_setC h2).1 hy) h2
  rw [withC_out h2] at e
  rcases hloc x hx h1 with ⟨-, g⟩ | ⟨-, g⟩ | ⟨j,hj, -, g⟩ | ⟨j,hj, -, g⟩ <;> rw [g] at e
  ·exact a1 e.symm
  ·exact a2 e.symm
  ·exact (a3 j hj).1 e.symm
  ·exact (a3 j hj).2 e.symm
 refine h.setC hi (fun x h1 h2=>⟨withC_out h2,hk x h1 h2⟩) hR (by rw [hR'];simp [oCe,withC]) (by simpa [withC] using hV) ?_ (fun x y hx hy e => ?_) fun x hx => ?_
 ·have e1:withC A i v f r t (.cf i)=f:=by simp [withC]
  have e2:(fun j=>withC A i v f r t (.cr i j))=r:=by funext j;simp [withC]
  have e3:(fun j=>withC A i v f r t (.ct i j))=t:=by funext j;simp [withC]
  rw [e1,e2,e3];exact hF
 ·by_cases h1:ofC i x <;> by_cases h2:ofC i y
  ·rcases hloc x hx h1 with ⟨rfl,g⟩ | ⟨rfl,g⟩ | ⟨j,hj,rfl,g⟩ | ⟨j,hj,rfl,g⟩ <;> rcases hloc y hy h2 with ⟨rfl,g'⟩ | ⟨rfl,g'⟩ | ⟨k,hk,rfl,g'⟩ | ⟨k,hk,rfl,g'⟩ <;> (rw [g] at e;try rw [g'] at e)
   ·exact absurd e hvf
   ·exact absurd e (hv k hk).1
   ·exact absurd e (hv k hk).2
   ·exact absurd e.symm hvf
   ·exact absurd e (hL.fr k hk).1
   ·exact absurd e (hL.fr k hk).2
   ·exact absurd e.symm (hv j hj).1
   ·exact absurd e.symm (hL.fr j hj).1
   ·rw [hL.rr j k hj hk e]
   ·exact absurd e (hL.rt j k hj hk)
   ·exact absurd e.symm (hv j hj).2
   ·exact absurd e.symm (hL.fr j hj).2
   ·exact absurd e.symm (hL.rt k j hk hj)
   ·rw [hL.tt j k hj hk e]
  ·exact absurd e (hmix x y hx hy h1 h2)
  ·exact absurd e.symm (hmix y x hy hx h2 h1)
  ·rw [withC_out h1,withC_out h2] at e
   exact h.inj x y ((live_setC h1).1 hx) ((live_setC h2).1 hy) e
 ·by_cases h1:ofC i x
  ·rcases hloc x hx h1 with ⟨rfl,g⟩ | ⟨rfl,g⟩ | ⟨j,hj,rfl,g⟩ | ⟨j,hj,rfl,g⟩ <;> rw [g]
   ·exact hlo.1
   ·exact hlo.2.1
   ·exact (hlo.2.2 j hj).1
   ·exact (hlo.2.2 j hj).2
  ·rw [withC_out h1];exact h.lo x ((live_setC h1).1 hx)
end
end Go.Proofs.YtbphdcffpobcbaaGreatDoor
