/- Several texts in one. -/
import Derived.Test.YtbphdcffpobcbaaGreatDoorMf
import Derived.Test.YtbphdcffpobcbaaGreatDoorMg
import Derived.Test.YtbphdcffpobcbaaGreatDoorMh
set_option linter.unusedSimpArgs false
set_option linter.unusedVariables false
set_option maxRecDepth 100000
set_option maxHeartbeats 16000000
namespace Go.Proofs.YtbphdcffpobcbaaGreatDoor
open Go.RowKit Go
theorem sameVals_ok (S T:Bool) (L M:List GVal) {K:D->List Blk->Prop} (h:K (dB (decide (L=M))) []):DPure Tryz.prog 89 [dL S (L.map eVal),dL T (M.map eVal)] K:=by
 refine fn_ok [0,1,4,5,10,12,13,14,24] [(6,[0,0,3,7,0,0,48,112,255],(.seg 0 (.seg 1 (.seg 2 (.seg 3 (.seg 4 (.seg 5 (.seg 6 (.seg 7 (.seg 8 .last))))))))))] Tryz.func89 rfl (by kernel_rfl) rfl rfl rfl rfl (by kernel_rfl) ?_
 simp
 intro hl hm
 refine alt (fun he => ?_) (fun hne=>kB h (by simp;rintro rfl;exact hne rfl))
 have he:L.length=M.length:=by omega
 intro _
 refine loop_ok (ks := [0,1,4,5,10,12,13,14,24]) (pl := [(6,[0,0,3,7,0,0,48,112,255],(.seg 0 (.seg 1 (.seg 2 (.seg 3 (.seg 4 (.seg 5 (.seg 6 (.seg 7 (.seg 8 .last))))))))))]) (n0:=26) (fun x : {k:Nat//k≤L.length∧L.take k=M.take k} => [(13,dI x.1)]) (fun x=>L.length-x.1) ⟨0,by simp⟩ rfl (by kernel_rfl) (Wk.sub (by simp)) ?_
 rintro ⟨k,hk,ht⟩
 by_cases h1:k<L.length
 ·have h2:k<M.length:=by omega
  simp [h1,h2]
  refine alt (fun hne=>kB h (by simp;rintro rfl;simp at hne)) (fun hc => ?_);simp at hc;obtain ⟨e1,e2⟩:=hc
  exact ⟨k+1,by omega,⟨by omega,take_eq_succ ht h1 h2 (by cases hx:L[k];cases hy:M[k];simp_all)⟩,Wk.sub (by simp [wrap_add (show k<9223372036854775807 by omega)])⟩
 ·simp [h1]
  obtain rfl:k=L.length:=by omega
  rw [List.take_length,he,List.take_length] at ht
  exact kB h (by simpa using ht)
theorem sameFrames_ok (S T:Bool) (L M:List GFrame) {K:D->List Blk->Prop} (h:K (dB (decide (L=M))) []):DPure Tryz.prog 43 [dL S (L.map eFrame),dL T (M.map eFrame)] K:=by
 refine fn_ok [0,1,4,5,6,7,8,13,14,15,16,17,74,77,78,79,91] [(12,[0,1,0,7,15,0,32,0,224,480,1023],(.seg 0 (.seg 1 (.seg 2 (.seg 3 (.seg 4 (.seg 5 (.seg 6 (.seg 7 (.seg 8 (.seg 9 (.seg 10 .last))))))))))))] Tryz.func43 rfl (by kernel_rfl) rfl rfl rfl rfl (by kernel_rfl) ?_
 simp
 intro hl hm
 refine alt (fun he => ?_) (fun hne=>kB h (by simp;rintro rfl;exact hne rfl))
 have he:L.length=M.length:=by omega
 intro _
 refine loopH_ok (ks := [0,1,4,5,6,7,8,13,14,15,16,17,74,77,78,79,91]) (pl := [(12,[0,1,0,7,15,0,32,0,224,480,1023],(.seg 0 (.seg 1 (.seg 2 (.seg 3 (.seg 4 (.seg 5 (.seg 6 (.seg 7 (.seg 8 (.seg 9 (.seg 10 .last))))))))))))]) (n0:=94) (α := {x:Nat×Nat//x.1≤L.length∧L.take x.1=M.take x.1}) (fun x=>[(16,dI x.1.1)]) (fun H _=>H) (fun x=>x.1.2) (fun x=>L.length-x.1.1) ⟨(0,0),by simp⟩ rfl (by kernel_rfl) (Wk.sub (by simp)) ?_
 rintro ⟨⟨k,m⟩,hk,ht⟩
 simp only at hk ht
 by_cases h1:k<L.length
 ·have h2:k<M.length:=by omega
  have g1:L[k]? = some L[k]:=List.getElem?_eq_getElem h1
  have g2:M[k]? = some M[k]:=List.getElem?_eq_getElem h2
  have bad:L[k]≠M[k]->K (dB false) []:=fun e=>kB h (by simp;rintro rfl;exact e rfl)
  have next:L[k]=M[k]->L.take (k+1)=M.take (k+1):=fun e=>take_eq_succ ht h1 h2 e
  simp [h1,h2,g1,g2]
  refine alt (fun e1 => ?_) (fun e1=>bad fun e=>e1 (by rw [e]))
  refine alt (fun e2 => ?_) (fun e2=>bad fun e=>e2 (by rw [e]))
  refine alt (fun e3 => ?_) (fun e3=>bad fun e=>e3 (by rw [e]))
  refine alt (fun e4 => ?_) (fun e4=>bad fun e=>e4 (by rw [e]))
  refine alt (fun e5 => ?_) (fun e5=>bad fun e=>e5 (by rw [e];exact ⟨rfl,rfl⟩))
  intro _ _
  refine alt (fun e6 => ?_) (fun e6=>bad fun e=>e6 (by rw [e]))
  refine sameVals_ok true true L[k].regs M[k].regs ?_
  by_cases e7:L[k].regs=M[k].regs
  case neg =>
   simp [e7]
   exact bad fun e=>e7 (by rw [e])
  simp [e7]
  intro _
  have e6':L[k].tries.length=M[k].tries.length:=by omega
  refine loopH_ok (ks := [0,1,4,5,6,7,8,13,14,15,16,17,74,77,78,79,91]) (pl := [(12,[0,1,0,7,15,0,32,0,224,480,1023],(.seg 0 (.seg 1 (.seg 2 (.seg 3 (.seg 4 (.seg 5 (.seg 6 (.seg 7 (.seg 8 (.seg 9 (.seg 10 .last))))))))))))]) (n0:=94) (α := {x:Nat//x≤L[k].tries.length∧L[k].tries.take x=M[k].tries.take x}) (fun x=>[(78,dI x.1)]) (fun H _=>H) (fun _=>m+2) (fun x=>L[k].tries.length-x.1) ⟨0,by simp⟩ rfl (by kernel_rfl) (Wk.sub (by simp)) ?_
  rintro ⟨j,hj,hjt⟩
  by_cases h3:j<L[k].tries.length
  ·have h4:j<M[k].tries.length:=by omega
   have bad2:L[k].tries[j]≠M[k].tries[j]->K (dB false) []:=fun e=>bad fun e2=>e (by simp only [e2])
   simp [h3,h4]
   refine alt (fun hne=>bad2 (by rintro e;simp [e] at hne)) (fun hc => ?_)
   simp at hc
   refine ⟨j+1,by omega,⟨by omega,take_eq_succ hjt h3 h4 ?_⟩,Wk.sub (by simp [wrap_add (show j<9223372036854775807 by omega)])⟩
   obtain ⟨c1,c2⟩:=hc
   cases hx:L[k].tries[j];cases hy:M[k].tries[j];simp_all
  ·obtain rfl:j=L[k].tries.length:=by omega
   rw [List.take_length,e6',List.take_length] at hjt
   simp
   refine ⟨k+1,by omega,⟨by omega,next ?_⟩,m+2,(Wk.sub (by simp [wrap_add (show k<9223372036854775807 by omega)])).trans (Wk.heap fun i y hy=>by simp [Hp.none] at hy)⟩
   cases hx:L[k];rename_i f1 f2 f3 f4 f5 f6 f7;cases f5
   cases hy:M[k];rename_i f1 f2 f3 f4 f5 f6 f7;cases f5
   simp_all
 ·obtain rfl:k=L.length:=by omega
  simp
  rw [List.take_length,he,List.take_length] at ht
  exact kB h (by simpa using ht)
structure KR2 where
 k:Nat
 nx:Nat
def heapSame (x y:GState):Bool:=decide (x.cells=y.cells)&&decide (x.shapes=y.shapes)&&decide (x.texts=y.texts)&&decide (x.ends=y.ends)&&decide (x.said=y.said)
theorem sameHeap_ok (x y:GState) {K:D->List Blk->Prop} (h:K (dB (heapSame x y)) []):DPure Tryz.prog 42 [aD (eState x),aD (eState y)] K:=by
 have bad : ¬ (x.cells=y.cells∧x.shapes=y.shapes∧x.texts=y.texts∧x.ends=y.ends∧x.said=y.said)->K (dB false) []:=fun e=>kB h (by unfold heapSame;rw [Bool.eq_false_iff];intro e2;simp at e2;exact e ⟨e2.1.1.1.1,e2.1.1.1.2,e2.1.1.2,e2.1.2,e2.2⟩)
 have good:x.cells=y.cells->x.shapes=y.shapes->x.texts=y.texts->x.ends=y.ends->x.said=y.said->K (dB true) []:=fun e1 e2 e3 e4 e5=>kB h (by simp [heapSame,e1,e2,e3,e4,e5])
 clear h
 obtain ⟨a1,a2,a3,a4,a5,a6,a7,a8⟩:=x
 obtain ⟨b1,b2,b3,b4,b5,b6,b7,b8⟩:=y
 simp only at bad good
 refine fn_ok [0,1,2,3,4,5,6,7,8,9,10,52,54,55,56,57,93,97,98,99,111,115,116,117,129,133,134,135,147] [(13,[0,1,0,7,15,0,32,0,224,480,1023],(.seg 0 (.seg 1 (.seg 2 (.seg 3 (.seg 4 (.seg 5 (.seg 6 (.seg 7 (.seg 8 (.seg 9 (.seg 10 .last)))))))))))),(19,[0,1,0,7,15,0,32,0,224,480,1023],(.seg 0 (.seg 1 (.seg 2 (.seg 3 (.seg 4 (.seg 5 (.seg 6 (.seg 7 (.seg 8 (.seg 9 (.seg 10 .last)))))))))))),(25,[0,1,0,7,15,0,32,0,224,480,1023],(.seg 0 (.seg 1 (.seg 2 (.seg 3 (.seg 4 (.seg 5 (.seg 6 (.seg 7 (.seg 8 (.seg 9 (.seg 10 .last))))))))))))] Tryz.func42 rfl (by kernel_rfl) rfl rfl rfl rfl (by kernel_rfl) ?_
 simp
 intro _ _
 refine alt (fun l1 => ?_) (fun l1=>bad fun e=>l1 (by rw [e.1]))
 intro _ _
 refine alt (fun l2 => ?_) (fun l2=>bad fun e=>l2 (by rw [e.2.1]))
 intro _ _
 refine alt (fun l3 => ?_) (fun l3=>bad fun e=>l3 (by rw [e.2.2.1]))
 intro _ _
 refine alt (fun l4 => ?_) (fun l4=>bad fun e=>l4 (by rw [e.2.2.2.1]))
 refine sameVals_ok true true a6 b6 ?_
 by_cases e6:a6=b6
 case neg =>
  simp [e6]
  exact bad fun e=>e6 e.2.2.2.2
 have l1':a1.length=b1.length:=by omega
 have l2':a2.length=b2.length:=by omega
 have l3':a3.length=b3.length:=by omega
 have l4':a5.length=b5.length:=by omega
 simp [e6]
 intro _
 refine loopH_ok (ks := [0,1,2,3,4,5,6,7,8,9,10,52,54,55,56,57,93,97,98,99,111,115,116,117,129,133,134,135,147]) (pl := [(13,[0,1,0,7,15,0,32,0,224,480,1023],(.seg 0 (.seg 1 (.seg 2 (.seg 3 (.seg 4 (.seg 5 (.seg 6 (.seg 7 (.seg 8 (.seg 9 (.seg 10 .last)))))))))))),(19,[0,1,0,7,15,0,32,0,224,480,1023],(.seg 0 (.seg 1 (.seg 2 (.seg 3 (.seg 4 (.seg 5 (.seg 6 (.seg 7 (.seg 8 (.seg 9 (.seg 10 .last)))))))))))),(25,[0,1,0,7,15,0,32,0,224,480,1023],(.seg 0 (.seg 1 (.seg 2 (.seg 3 (.seg 4 (.seg 5 (.seg 6 (.seg 7 (.seg 8 (.seg 9 (.seg 10 .last))))))))))))]) (n0:=149) (α := {x:KR2//x.k≤a1.length∧a1.take x.k=b1.take x.k∧2≤x.nx}) (fun x=>[(56,dI x.1.k)]) (fun H _=>H) (fun x=>x.1.nx) (fun x=>a1.length-x.1.k) ⟨⟨0,2⟩,by simp⟩ rfl (by kernel_rfl) (Wk.sub (by simp)) ?_
 rintro ⟨⟨k,nx⟩,hk,ht,hn⟩
 simp only at hk ht hn
 have f0 : ¬ 0=nx:=by omega
 have f1 : ¬ 1=nx:=by omega
 have f2 : ¬ 0=nx+1:=by omega
 have f3 : ¬ 1=nx+1:=by omega
 by_cases h1:k<a1.length
 ·have h2:k<b1.length:=by omega
  have bad2:a1[k]≠b1[k]->K (dB false) []:=fun e=>bad fun e2=>e (by simp only [e2])
  simp [h1,h2,f0,f1,f2,f3]
  refine alt (fun c1 => ?_) (fun c1=>bad2 fun e=>c1 (by rw [e]))
  refine alt (fun c2 => ?_) (fun c2=>bad2 fun e=>c2 (by rw [e]))
  refine sameVals_ok true true a1[k].vals b1[k].vals ?_
  by_cases c3:a1[k].vals=b1[k].vals
  case neg =>
   simp [c3]
   exact bad2 fun e=>c3 (by rw [e])
  simp [c3]
  refine sameFrames_ok true true a1[k].frames b1[k].frames ?_
  by_cases c4:a1[k].frames=b1[k].frames
  case neg =>
   simp [c4]
   exact bad2 fun e=>c4 (by rw [e])
  simp [c4]
  refine ⟨⟨k+1,nx+2⟩,by simp;omega,⟨by simp;omega,take_eq_succ ht h1 h2 ?_,by simp <;> omega⟩,(Wk.sub (by simp [wrap_add (show k<9223372036854775807 by omega)])).trans (Wk.heap fun i y hy => ?_)⟩
  ·cases hx:a1[k];cases hy:b1[k];simp_all
  ·unfold Hp.set Hp.none at hy ⊢
   grind
 obtain rfl:k=a1.length:=by omega
 rw [List.take_length,l1',List.take_length] at ht
 subst ht
 simp [f0,f1]
 intro _
 refine loopH_ok (ks := [0,1,2,3,4,5,6,7,8,9,10,52,54,55,56,57,93,97,98,99,111,115,116,117,129,133,134,135,147]) (pl := [(13,[0,1,0,7,15,0,32,0,224,480,1023],(.seg 0 (.seg 1 (.seg 2 (.seg 3 (.seg 4 (.seg 5 (.seg 6 (.seg 7 (.seg 8 (.seg 9 (.seg 10 .last)))))))))))),(19,[0,1,0,7,15,0,32,0,224,480,1023],(.seg 0 (.seg 1 (.seg 2 (.seg 3 (.seg 4 (.seg 5 (.seg 6 (.seg 7 (.seg 8 (.seg 9 (.seg 10 .last)))))))))))),(25,[0,1,0,7,15,0,32,0,224,480,1023],(.seg 0 (.seg 1 (.seg 2 (.seg 3 (.seg 4 (.seg 5 (.seg 6 (.seg 7 (.seg 8 (.seg 9 (.seg 10 .last))))))))))))]) (n0:=149) (α := {k:Nat//k≤a2.length∧a2.take k=b2.take k}) (fun x=>[(98,dI x.1)]) (fun H _=>H) (fun _=>nx) (fun x=>a2.length-x.1) ⟨0,by simp⟩ rfl (by kernel_rfl) (Wk.sub (by simp)) ?_
 rintro ⟨k,hk,ht⟩
 by_cases h1:k<a2.length
 ·have h2:k<b2.length:=by omega
  have bad2:a2[k]≠b2[k]->K (dB false) []:=fun e=>bad fun e2=>e (by simp only [e2])
  simp [h1,h2,f0,f1]
  refine alt (fun hne=>bad2 (by intro e;simp [e] at hne)) (fun hc => ?_);simp at hc
  refine ⟨k+1,by omega,⟨by omega,take_eq_succ ht h1 h2 ?_⟩,Wk.sub (by simp [wrap_add (show k<9223372036854775807 by omega)])⟩
  obtain ⟨c1,c2⟩:=hc;exact Prod.ext c1 c2
 obtain rfl:k=a2.length:=by omega
 rw [List.take_length,l2',List.take_length] at ht
 subst ht
 simp [f0,f1]
 intro _
 refine loopH_ok (ks := [0,1,2,3,4,5,6,7,8,9,10,52,54,55,56,57,93,97,98,99,111,115,116,117,129,133,134,135,147]) (pl := [(13,[0,1,0,7,15,0,32,0,224,480,1023],(.seg 0 (.seg 1 (.seg 2 (.seg 3 (.seg 4 (.seg 5 (.seg 6 (.seg 7 (.seg 8 (.seg 9 (.seg 10 .last)))))))))))),(19,[0,1,0,7,15,0,32,0,224,480,1023],(.seg 0 (.seg 1 (.seg 2 (.seg 3 (.seg 4 (.seg 5 (.seg 6 (.seg 7 (.seg 8 (.seg 9 (.seg 10 .last)))))))))))),(25,[0,1,0,7,15,0,32,0,224,480,1023],(.seg 0 (.seg 1 (.seg 2 (.seg 3 (.seg 4 (.seg 5 (.seg 6 (.seg 7 (.seg 8 (.seg 9 (.seg 10 .last))))))))))))]) (n0:=149) (α := {k:Nat//k≤a3.length∧a3.take k=b3.take k}) (fun x=>[(116,dI x.1)]) (fun H _=>H) (fun _=>nx) (fun x=>a3.length-x.1) ⟨0,by simp⟩ rfl (by kernel_rfl) (Wk.sub (by simp)) ?_
 rintro ⟨k,hk,ht⟩
 by_cases h1:k<a3.length
 ·have h2:k<b3.length:=by omega
  have bad2:a3[k]≠b3[k]->K (dB false) []:=fun e=>bad fun e2=>e (by simp only [e2])
  simp [h1,h2,f0,f1]
  refine alt (fun hc => ?_) (fun hne=>bad2 hne)
  refine ⟨k+1,by omega,⟨by omega,take_eq_succ ht h1 h2 ?_⟩,Wk.sub (by simp [wrap_add (show k<9223372036854775807 by omega)])⟩
  exact hc
 obtain rfl:k=a3.length:=by omega
 rw [List.take_length,l3',List.take_length] at ht
 subst ht
 simp [f0,f1]
 intro _
 refine loopH_ok (ks := [0,1,2,3,4,5,6,7,8,9,10,52,54,55,56,57,93,97,98,99,111,115,116,117,129,133,134,135,147]) (pl := [(13,[0,1,0,7,15,0,32,0,224,480,1023],(.seg 0 (.seg 1 (.seg 2 (.seg 3 (.seg 4 (.seg 5 (.seg 6 (.seg 7 (.seg 8 (.seg 9 (.seg 10 .last)))))))))))),(19,[0,1,0,7,15,0,32,0,224,480,1023],(.seg 0 (.seg 1 (.seg 2 (.seg 3 (.seg 4 (.seg 5 (.seg 6 (.seg 7 (.seg 8 (.seg 9 (.seg 10 .last)))))))))))),(25,[0,1,0,7,15,0,32,0,224,480,1023],(.seg 0 (.seg 1 (.seg 2 (.seg 3 (.seg 4 (.seg 5 (.seg 6 (.seg 7 (.seg 8 (.seg 9 (.seg 10 .last))))))))))))]) (n0:=149) (α := {k:Nat//k≤a5.length∧a5.take k=b5.take k}) (fun x=>[(134,dI x.1)]) (fun H _=>H) (fun _=>nx) (fun x=>a5.length-x.1) ⟨0,by simp⟩ rfl (by kernel_rfl) (Wk.sub (by simp)) ?_
 rintro ⟨k,hk,ht⟩
 by_cases h1:k<a5.length
 ·have h2:k<b5.length:=by omega
  have bad2:a5[k]≠b5[k]->K (dB false) []:=fun e=>bad fun e2=>e (by simp only [e2])
  simp [h1,h2,f0,f1]
  refine alt (fun hne=>bad2 (by intro e;simp [e] at hne)) (fun hc => ?_);simp at hc
  refine ⟨k+1,by omega,⟨by omega,take_eq_succ ht h1 h2 ?_⟩,Wk.sub (by simp [wrap_add (show k<9223372036854775807 by omega)])⟩
  obtain ⟨c1,c2,c3⟩:=hc;cases hx:a5[k];rename_i xx xf;cases xf;cases hy:b5[k];rename_i yy yf;cases yf;simp_all
 obtain rfl:k=a5.length:=by omega
 rw [List.take_length,l4',List.take_length] at ht
 subst ht
 simp
 exact good rfl rfl rfl rfl e6
theorem sameStates_ok (x y:GState) {K:D->List Blk->Prop} (h:K (dB (decide (x=y))) []):DPure Tryz.prog 9 [aD (eState x),aD (eState y)] K:=by
 have bad : ¬ (x=y)->K (dB false) []:=fun e=>kB h (decide_eq_false e)
 have good:x=y->K (dB true) []:=fun e=>kB h (decide_eq_true e)
 clear h
 refine fn_ok [0,1,2,3,4,5,6,7,34,36,37,38,39,74] [] Tryz.func9 rfl (by kernel_rfl) rfl rfl rfl rfl (by kernel_rfl) ?_
 simp
 refine sameHeap_ok x y ?_
 cases hs:heapSame x y with
 | false =>
  simp
  exact bad fun e=>by subst e;simp [heapSame] at hs
 | true =>
 simp
 intro _ _
 refine alt (fun l1 => ?_) (fun l1=>bad fun e=>l1 (by rw [e]))
 refine alt (fun l2 => ?_) (fun l2=>bad fun e=>l2 (by rw [e]))
 refine alt (fun l3 => ?_) (fun l3=>bad fun e=>l3 (by rw [e]))
 have l1':x.threads.length=y.threads.length:=by omega
 intro _
 refine loopH_ok (ks := [0,1,2,3,4,5,6,7,34,36,37,38,39,74]) (pl := []) (n0:=76) (α := {z:KR2//z.k≤x.threads.length∧x.threads.take z.k=y.threads.take z.k∧2≤z.nx}) (fun x=>[(38,dI x.1.k)]) (fun H _=>H) (fun x=>x.1.nx) (fun z=>x.threads.length-z.1.k) ⟨⟨0,2⟩,by simp⟩ rfl (by kernel_rfl) (Wk.sub (by simp)) ?_
 rintro ⟨⟨k,nx⟩,hk,ht,hn⟩
 simp only at hk ht hn
 have f0 : ¬ 0=nx:=by omega
 have f1 : ¬ 1=nx:=by omega
 have f2 : ¬ 0=nx+1:=by omega
 have f3 : ¬ 1=nx+1:=by omega
 by_cases h1:k<x.threads.length
 ·have h2:k<y.threads.length:=by omega
  have bad2:x.threads[k]≠y.threads[k]->K (dB false) []:=fun e=>bad fun e2=>e (by simp only [e2])
  simp [h1,h2,f0,f1,f2,f3]
  refine alt (fun c1 => ?_) (fun c1=>bad2 fun e=>c1 (by rw [e]))
  refine alt (fun c2 => ?_) (fun c2=>bad2 fun e=>c2 (by rw [e]))
  refine alt (fun c3 => ?_) (fun c3=>bad2 fun e=>c3 (by rw [e];exact ⟨rfl,rfl⟩))
  refine sameFrames_ok true true x.threads[k].frames y.threads[k].frames ?_
  by_cases c4:x.threads[k].frames=y.threads[k].frames
  case neg =>
   simp [c4]
   exact bad2 fun e=>c4 (by rw [e])
  simp [c4]
  refine ⟨⟨k+1,nx+2⟩,by simp;omega,⟨by simp;omega,take_eq_succ ht h1 h2 ?_,by simp <;> omega⟩,(Wk.sub (by simp [wrap_add (show k<9223372036854775807 by omega)])).trans (Wk.heap fun i y hy => ?_)⟩
  ·cases hx:x.threads[k];rename_i g1 g2 g3 g4;cases g4
   cases hy:y.threads[k];rename_i g1 g2 g3 g4;cases g4
   simp_all
  ·unfold Hp.set Hp.none at hy ⊢
   grind
 obtain rfl:k=x.threads.length:=by omega
 rw [List.take_length,l1',List.take_length] at ht
 simp
 refine good ?_
 simp [heapSame] at hs
 obtain ⟨a1,a2,a3,a4,a5,a6,a7,a8⟩:=x
 obtain ⟨b1,b2,b3,b4,b5,b6,b7,b8⟩:=y
 simp_all
theorem shapesFault_ok (S:Bool) (L:List Shp) {K:D->List Blk->Prop} (h:K (dI (faultP L)) []):DPure Tryz.prog 83 [dL S (L.map eShape)] K:=by
 refine fn_ok [0,2,3,4,6,9,10,11,12,13,18,26,46,49,50,51,52,57,62] [(9,[0,1,0,4,15,31,63,127,255,511,1023,2047,4095,4095,12287,32767,4095,69631,262143,524287],(.seg 0 (.seg 1 (.seg 2 (.seg 3 (.eff 4 [1] (.seg 5 (.seg 6 (.seg 7 (.seg 8 (.seg 9 (.seg 10 (.seg 11 (.seg 12 (.seg 13 (.seg 14 (.seg 16 (.seg 17 (.eff 15 [16,17] (.eff 18 [] (.seg 19 .last)))))))))))))))))))))] Tryz.func83 rfl (by kernel_rfl) rfl rfl rfl rfl (by kernel_rfl) ?_
 simp
 intro _
 by_cases h1:100<L.length
 ·have:faultP L=2:=by unfold faultP;rw [if_pos h1]
  rw [this] at h
  rw [if_pos (by omega)]
  exact h
 have bad0 : ¬ okay L->K (dI 3) []:=fun e=>by rw [fault_bad (by omega) e] at h;exact h
 have good:okay L->K (dI 0) []:=fun e=>by rw [fault_ok (by omega) e] at h;exact h
 clear h
 rw [if_neg (by omega)]
 intro _
 refine loopH_ok (ks := [0,2,3,4,6,9,10,11,12,13,18,26,46,49,50,51,52,57,62]) (pl := [(9,[0,1,0,4,15,31,63,127,255,511,1023,2047,4095,4095,12287,32767,4095,69631,262143,524287],(.seg 0 (.seg 1 (.seg 2 (.seg 3 (.eff 4 [1] (.seg 5 (.seg 6 (.seg 7 (.seg 8 (.seg 9 (.seg 10 (.seg 11 (.seg 12 (.seg 13 (.seg 14 (.seg 16 (.seg 17 (.eff 15 [16,17] (.eff 18 [] (.seg 19 .last)))))))))))))))))))))]) (n0:=63) (α := {x:KR2//x.k≤L.length∧okTo L x.k∧(0<x.k->L.getD 0 (0,0)=(-1, -1))}) (fun x=>[(12,dI x.1.k)]) (fun H _=>H) (fun x=>x.1.nx) (fun x=>L.length-x.1.k) ⟨⟨0,0⟩,by simp,fun j h0 h1=>by simp at h1,by simp⟩ rfl (by kernel_rfl) (Wk.sub (by simp)) ?_
 rintro ⟨⟨k,nx⟩,hk,ho,hr⟩
 simp only at hk ho hr
 by_cases h3:k<L.length
 ·have hs:L[k]=(fstD L k,sndD L k):=by
   simp [fstD,sndD,List.getD_eq_getElem?_getD,List.getElem?_eq_getElem h3]
  by_cases h0:k=0
  ·subst h0
   have g0:L.getD 0 (0,0)=L[0]:=by rw [List.getD_eq_getElem?_getD,List.getElem?_eq_getElem h3];rfl
   have bad : ¬ (fstD L 0 = -1∧sndD L 0 = -1)->K (dI 3) []:=fun e=>bad0 fun hq=>e (by
    have:=hq.2.1
    rw [g0,hs,Prod.mk.injEq] at this
    exact this)
   simp [h3,hs]
   refine alt (fun c1 => ?_) (fun c1=>bad fun e=>c1 e.1)
   refine alt (fun c2 => ?_) (fun c2=>bad fun e=>c2 e.2)
   refine ⟨⟨1,nx+1⟩,by simp;omega,⟨by simp;omega,fun j h0 h1=>by simp at h1;omega,fun _ => ?_⟩,(Wk.sub (by simp [show IntKind.i64.wrap 1=1 by kernel_rfl])).trans (Wk.heap fun i y hy=>by simp [Hp.none] at hy)⟩
   first | exact ⟨c1,c2⟩ | rw [g0,hs,c1,c2]
  have bad : ¬ fits L k->K (dI 3) []:=fun hn=>bad0 fun ⟨_,_,h3'⟩=>hn (h3' k (by omega) h3)
  have hkI : ¬ (k:Int)=0:=by omega
  have hwk:IntKind.i64.wrap ((k:Int)-1)=(k:Int)-1:=wrap_id (by omega) (by omega)
  generalize hu:fstD L k=u at *
  generalize hv:sndD L k=v at *
  simp [h3,hs,h0,hkI,hwk]
  refine between_ok _ _ _ ?_
  cases hb:btw u 0 ((k:Int)-1) with
  | false =>
   simp
   refine bad fun hf => ?_
   have:=hf.1
   have:=hf.2.1
   simp [btw] at hb
   omega
  | true =>
  simp [btw] at hb
  obtain ⟨t,rfl⟩ : ∃ t:Nat,u=t:=⟨u.toNat,by omega⟩
  simp [h3,hs,h0,hkI,hwk]
  by_cases a3:v<0
  ·have a3' : ¬ 0≤v:=by omega
   simp [a3,a3']
   exact bad fun hf=>by have:=hf.2.2.1;omega
  have a3':0≤v:=by omega
  simp [a3,a3']
  refine shapeNames_ok S L (by omega) t (ho.ahead (by omega)) (by omega) ?_
  simp
  refine hasInt_ok false (namesP L t) v ?_
  by_cases a4:v∈namesP L t
  ·simp [a4]
   exact bad fun hf=>hf.2.2.2.1 (by rw [hu,hv];exact a4)
  simp [a4]
  refine ⟨by omega,fun e a b _ e2=>by rw [← e2];rfl,fun _ => ?_⟩
  have hmin:min k L.length=k:=by omega
  have hgk:L.getD k (0,0)=(↑t,v):=by rw [List.getD_eq_getElem?_getD,List.getElem?_eq_getElem h3];exact hs
  refine loopH_ok (ks := [0,2,3,4,6,9,10,11,12,13,18,26,46,49,50,51,52,57,62]) (pl := [(9,[0,1,0,4,15,31,63,127,255,511,1023,2047,4095,4095,12287,32767,4095,69631,262143,524287],(.seg 0 (.seg 1 (.seg 2 (.seg 3 (.eff 4 [1] (.seg 5 (.seg 6 (.seg 7 (.seg 8 (.seg 9 (.seg 10 (.seg 11 (.seg 12 (.seg 13 (.seg 14 (.seg 16 (.seg 17 (.eff 15 [16,17] (.eff 18 [] (.seg 19 .last)))))))))))))))))))))]) (n0:=63) (α := {x:KR2//x.k≤k∧(∀ j<x.k,L.getD j (0,0)≠((t:Int),v))∧nx+2≤x.nx}) (fun x=>[(51,dI x.1.k)]) (fun H _=>H) (fun x=>x.1.nx) (fun x=>k-x.1.k) ⟨⟨0,nx+2⟩,by simp⟩ rfl (by kernel_rfl) (Wk.sub (by simp [hmin])) ?_
  rintro ⟨⟨j,m⟩,hj,hall,hm⟩
  simp only at hj hall hm
  have e0 : ¬ nx=m:=by omega
  have e1 : ¬ nx+1=m:=by omega
  by_cases h4:j<k
  ·have h5:j<L.length:=by omega
   have gj:L.getD j (0,0)=L[j]:=by rw [List.getD_eq_getElem?_getD,List.getElem?_eq_getElem h5];rfl
   have hms : ∀ y:Shp,y=(↑t,v)↔y.1=t∧y.2=v:=fun y=>by rw [Prod.ext_iff]
   simp [h4,h5,hs,hmin,e0,e1]
   refine alt (fun c=>bad fun hf => ?_) (fun c => ?_)
   ·refine hf.2.2.2.2 ?_
    rw [hgk]
    refine List.mem_take_iff_getElem.2 ⟨j,by omega,?_⟩
    first | (simp at c;exact (hms _).2 c) | exact (hms _).2 c
   ·refine ⟨⟨j+1,m+1⟩,by simp;omega,⟨by simp;omega,fun i hi => ?_,by simp;omega⟩,(Wk.sub (by simp [hmin,wrap_add (show j<9223372036854775807 by omega)])).trans (Wk.heap fun i y hy => ?_)⟩
    ·by_cases e:i=j
     ·subst e
      intro e
      rw [List.getElem?_eq_getElem h5,Option.getD_some] at e
      apply c
      first | exact (hms _).1 e | (rw [e];simp)
     ·exact hall i (by simp at hi;omega)
    ·unfold Hp.set Hp.none at hy ⊢
     grind
  ·obtain rfl:j=k:=by omega
   have hfit:fits L j:=⟨by omega,by omega,by omega,by rw [hu,hv];exact a4,by
    rw [hgk]
    intro hm
    obtain ⟨i,hi,e⟩:=List.mem_take_iff_getElem.1 hm
    refine hall i (by omega) ?_
    rw [List.getD_eq_getElem?_getD,List.getElem?_eq_getElem (by omega)]
    exact e⟩
   simp [hmin]
   refine ⟨⟨j+1,m⟩,by simp;omega,⟨by simp;omega,ho.step hfit,fun _=>hr (by omega)⟩,(Wk.sub (by simp [wrap_add (show j<9223372036854775807 by omega)])).trans (Wk.heap fun i y hy=>by simp [Hp.none] at hy)⟩
 ·obtain rfl:k=L.length:=by omega
  simp
  intro _
  refine alt (fun c => ?_) (fun c => ?_)
  ·exact bad0 fun hq=>by have:=hq.1;first | omega | (subst c;simp at this)
  ·have h0:0<L.length:=by first | omega | exact List.length_pos_iff.2 c
   exact good ⟨h0,hr h0,ho⟩
def selfRegs (f:GFrame):List GVal:=f.self::f.regs
theorem frameFits_all {s:GState} {f:GFrame} : frameFits s f=(selfRegs f).all (fitsB s):=by
 simp [frameFits,selfRegs,Bool.and_comm]
theorem cellRight_gen (s:GState) (c:GCell) (q5:c.kind=5) (q0:c.num=0) (hreg : ∀ f∈c.frames,okFrame f) {K:D->List Blk->Prop} (h:K (dB (cellB s c)) []):DPure Tryz.prog 85 [aD (eState s),aD (eCell c)] K:=by
 have no : ¬ (kindB s c=true∧c.frames.length=framesOf c∧c.vals.all (fitsB s)=true∧c.frames.all (frameFits s)=true)->K (dB false) []:=fun e=>kB h (by
  rw [Bool.eq_false_iff];intro e2;simp only [cellB,Bool.and_eq_true,decide_eq_true_eq] at e2;exact e ⟨e2.1.1.1,e2.1.1.2,e2.1.2,e2.2⟩)
 have fin : ∀ b:Bool,b=kindB s c->c.frames.length=framesOf c->c.vals.all (fitsB s)=true->c.frames.all (frameFits s)=true->K (dB b) []:=fun b e1 e2 e3 e4=>kB h (by simp [cellB,e1,e2,e3,e4])
 clear h
 refine fn_ok [0,1,2,3,4,5,7,9,11,12,14,15,16,17,25,30,32,33,34,35,41,44,45,46,47,55,56,57,58,64,72,73,81,102,107,118,121,122,123,124,130,135,143,151,154,155,156,157,163,166,169,178] [(27,[0,1,0,4,12,28,63,127,255,511,1023,255,2303,255,8447,30975,63743,131071,262143,524287],(.seg 0 (.seg 1 (.seg 2 (.seg 3 (.seg 4 (.seg 5 (.eff 6 [1,3] (.seg 7 (.seg 8 (.seg 9 (.seg 10 (.seg 11 (.seg 12 (.seg 13 (.seg 14 (.eff 15 [8,9,10] (.seg 16 (.seg 17 (.seg 18 (.seg 19 .last))))))))))))))))))))),(54,[0,1,0,7,15,0,63],(.seg 0 (.seg 1 (.seg 2 (.seg 3 (.seg 4 (.seg 5 (.seg 6 .last))))))))] Tryz.func85 rfl (by kernel_rfl) rfl rfl rfl rfl (by kernel_rfl) ?_
 simp [q5,q0]
 intro _
 by_cases hfr:c.frames.length=1
 case neg =>
  have hfr' : ¬ (c.frames.length:Int)=1:=by omega
  simp [hfr']
  exact no fun e=>hfr (by rw [e.2.1];simp [framesOf,q5,q0])
 have hfr':(c.frames.length:Int)=1:=by omega
 have hfo:c.frames.length=framesOf c:=by rw [hfr];simp [framesOf,q5,q0]
 simp [hfr']
 intro _
 refine loopH_ok (ks := [0,1,2,3,4,5,7,9,11,12,14,15,16,17,25,30,32,33,34,35,41,44,45,46,47,55,56,57,58,64,72,73,81,102,107,118,121,122,123,124,130,135,143,151,154,155,156,157,163,166,169,178]) (pl := [(27,[0,1,0,4,12,28,63,127,255,511,1023,255,2303,255,8447,30975,63743,131071,262143,524287],(.seg 0 (.seg 1 (.seg 2 (.seg 3 (.seg 4 (.seg 5 (.eff 6 [1,3] (.seg 7 (.seg 8 (.seg 9 (.seg 10 (.seg 11 (.seg 12 (.seg 13 (.seg 14 (.eff 15 [8,9,10] (.seg 16 (.seg 17 (.seg 18 (.seg 19 .last))))))))))))))))))))),(54,[0,1,0,7,15,0,63],(.seg 0 (.seg 1 (.seg 2 (.seg 3 (.seg 4 (.seg 5 (.seg 6 .last))))))))]) (n0:=190) (α := {x:KR2//x.k≤c.vals.length∧(c.vals.take x.k).all (fitsB s)=true∧2≤x.nx}) (fun x=>[(34,dI x.1.k)]) (fun H _=>H) (fun x=>x.1.nx) (fun x=>c.vals.length-x.1.k) ⟨⟨0,2⟩,by simp⟩ rfl (by kernel_rfl) (Wk.sub (by simp)) ?_
 rintro ⟨⟨k,nx⟩,hk,ht,hn⟩
 simp only at hk ht hn
 have f0 : ¬ 0=nx:=by omega
 have f1 : ¬ 1=nx:=by omega
 by_cases h1:k<c.vals.length
 ·simp [h1,f0,f1]
  have nextv:fitsB s c.vals[k]=true->(c.vals.take (k+1)).all (fitsB s)=true:=fun hb=>by rw [all_take_next h1,ht,hb];rfl
  refine fitsIn_ok s c.vals[k] ?_
  cases hb:fitsB s c.vals[k] with
  | false =>
   simp
   exact no fun e=>by rw [List.all_eq_true.1 e.2.2.1 _ (List.getElem_mem h1)] at hb;cases hb
  | true =>
   simp
   refine ⟨⟨k+1,nx+1⟩,by simp;omega,⟨by simp;omega,(by first | exact nextv hb | exact List.all_eq_true.1 (nextv hb)),by simp;omega⟩,(Wk.sub (by simp [wrap_add (show k<9223372036854775807 by omega)])).trans (Wk.heap fun i y hy => ?_)⟩
   unfold Hp.set Hp.none at hy ⊢
   grind
 obtain rfl:k=c.vals.length:=by omega
 rw [List.take_length] at ht
 simp [f0,f1]
 intro _
 refine loopH_ok (ks := [0,1,2,3,4,5,7,9,11,12,14,15,16,17,25,30,32,33,34,35,41,44,45,46,47,55,56,57,58,64,72,73,81,102,107,118,121,122,123,124,130,135,143,151,154,155,156,157,163,166,169,178]) (pl := [(27,[0,1,0,4,12,28,63,127,255,511,1023,255,2303,255,8447,30975,63743,131071,262143,524287],(.seg 0 (.seg 1 (.seg 2 (.seg 3 (.seg 4 (.seg 5 (.eff 6 [1,3] (.seg 7 (.seg 8 (.seg 9 (.seg 10 (.seg 11 (.seg 12 (.seg 13 (.seg 14 (.eff 15 [8,9,10] (.seg 16 (.seg 17 (.seg 18 (.seg 19 .last))))))))))))))))))))),(54,[0,1,0,7,15,0,63],(.seg 0 (.seg 1 (.seg 2 (.seg 3 (.seg 4 (.seg 5 (.seg 6 .last))))))))]) (n0:=190) (α := {x:KR2//x.k≤c.frames.length∧(c.frames.take x.k).all (frameFits s)=true∧2≤x.nx}) (fun x=>[(46,dI x.1.k)]) (fun H _=>H) (fun x=>x.1.nx) (fun x=>c.frames.length-x.1.k) ⟨⟨0,nx⟩,by simp [hn]⟩ rfl (by kernel_rfl) (Wk.sub (by simp)) ?_
 rintro ⟨⟨k,nx2⟩,hk,ht2,hn2⟩
 simp only at hk ht2 hn2
 have g0 : ¬ 0=nx2:=by omega
 have g1 : ¬ 1=nx2:=by omega
 have g2 : ¬ 0=nx2+1:=by omega
 have g3 : ¬ 1=nx2+1:=by omega
 by_cases h1:k<c.frames.length
 ·simp [h1,g0,g1,g2,g3]
  refine ⟨fun m b e hb => ?_,?_,fun hrl => ?_⟩
  ·subst e;simp at hb;subst hb;exact ⟨rfl,rfl⟩
  ·have:=hreg _ (List.getElem_mem h1)
   unfold okFrame at this
   omega
  have hlen:(selfRegs c.frames[k]).length=1+c.frames[k].regs.length:=by simp [selfRegs];omega
  refine loopH_ok (ks := [0,1,2,3,4,5,7,9,11,12,14,15,16,17,25,30,32,33,34,35,41,44,45,46,47,55,56,57,58,64,72,73,81,102,107,118,121,122,123,124,130,135,143,151,154,155,156,157,163,166,169,178]) (pl := [(27,[0,1,0,4,12,28,63,127,255,511,1023,255,2303,255,8447,30975,63743,131071,262143,524287],(.seg 0 (.seg 1 (.seg 2 (.seg 3 (.seg 4 (.seg 5 (.eff 6 [1,3] (.seg 7 (.seg 8 (.seg 9 (.seg 10 (.seg 11 (.seg 12 (.seg 13 (.seg 14 (.eff 15 [8,9,10] (.seg 16 (.seg 17 (.seg 18 (.seg 19 .last))))))))))))))))))))),(54,[0,1,0,7,15,0,63],(.seg 0 (.seg 1 (.seg 2 (.seg 3 (.seg 4 (.seg 5 (.seg 6 .last))))))))]) (n0:=190) (α := {x:KR2//x.k≤1+c.frames[k].regs.length∧((selfRegs c.frames[k]).take x.k).all (fitsB s)=true∧nx2+3≤x.nx}) (fun x=>[(57,dI x.1.k)]) (fun H _=>H) (fun x=>x.1.nx) (fun x=>1+c.frames[k].regs.length-x.1.k) ⟨⟨0,nx2+3⟩,by simp⟩ rfl (by kernel_rfl) (Wk.sub (by simp)) ?_
  rintro ⟨⟨j,m⟩,hj,hjt,hm⟩
  simp only at hj hjt hm
  have k0 : ¬ 0=m:=by omega
  have k1 : ¬ 1=m:=by omega
  have k2 : ¬ nx2=m:=by omega
  have k3 : ¬ nx2+2=m:=by omega
  have k4 : ¬ nx2+1=m:=by omega
  by_cases h2:j<1+c.frames[k].regs.length
  ·have hjl:j<(selfRegs c.frames[k]).length:=by omega
   have badr:fitsB s (selfRegs c.frames[k])[j]=false->K (dB false) []:=fun hb=>no fun e=>by
    have:=List.all_eq_true.1 e.2.2.2 _ (List.getElem_mem h1)
    rw [frameFits_all] at this
    rw [List.all_eq_true.1 this _ (List.getElem_mem hjl)] at hb
    cases hb
   have nextr:fitsB s (selfRegs c.frames[k])[j]=true->((selfRegs c.frames[k]).take (j+1)).all (fitsB s)=true:=fun hb=>by rw [all_take_next hjl,hjt,hb];rfl
   cases j with
   | zero =>
    have h3:(0:Int)<1+c.frames[k].regs.length:=by omega
    simp [h1,h2,g0,g1,g2,g3,k0,k1,k2,k3,k4,h3]
    first | refine fitsIn_ok s c.frames[k].self ?_ | refine ⟨by omega,fitsIn_ok s c.frames[k].self ?_⟩
    cases hb:fitsB s c.frames[k].self with
    | false =>
     simp
     exact badr hb
    | true =>
     simp
     refine ⟨⟨0+1,m+1⟩,by simp <;> omega,⟨by simp <;> omega,(by first | exact nextr hb | exact List.all_eq_true.1 (nextr hb)),by simp <;> omega⟩,(Wk.sub (by simp [show IntKind.i64.wrap 1=1 by kernel_rfl])).trans (Wk.heap fun i y hy => ?_)⟩
     unfold Hp.set Hp.none at hy ⊢
     grind
   | succ j =>
    have h3:j<c.frames[k].regs.length:=by omega
    have h4:(j:Int)+1<1+c.frames[k].regs.length:=by omega
    have hwj:IntKind.i64.wrap ((j:Int)+1+1)=(j:Int)+1+1:=wrap_id (by omega) (by omega)
    simp [h1,h2,g0,g1,g2,g3,k0,k1,k2,k3,k4,h3,h4]
    first | refine fitsIn_ok s c.frames[k].regs[j] ?_ | refine ⟨by omega,fitsIn_ok s c.frames[k].regs[j] ?_⟩
    cases hb:fitsB s c.frames[k].regs[j] with
    | false =>
     simp
     exact badr hb
    | true =>
     simp
     refine ⟨⟨(j+1)+1,m+1⟩,by simp <;> omega,⟨by simp <;> omega,(by first | exact nextr hb | exact List.all_eq_true.1 (nextr hb)),by simp <;> omega⟩,(Wk.sub (by simp [hwj])).trans (Wk.heap fun i y hy => ?_)⟩
     unfold Hp.set Hp.none at hy ⊢
     grind
  ·obtain rfl:j=1+c.frames[k].regs.length:=by omega
   have hall:frameFits s c.frames[k]=true:=by
    rw [frameFits_all]
    rw [← hlen,List.take_length] at hjt
    exact hjt
   have nextf:(c.frames.take (k+1)).all (frameFits s)=true:=by rw [all_take_next h1,ht2,hall];rfl
   simp
   refine ⟨⟨k+1,m⟩,by simp;omega,⟨by simp;omega,(by first | exact nextf | exact List.all_eq_true.1 nextf),by simp;omega⟩,(Wk.sub (by simp [wrap_add (show k<9223372036854775807 by omega)])).trans (Wk.heap fun i y hy => ?_)⟩
   unfold Hp.set Hp.none at hy ⊢
   grind
 obtain rfl:k=c.frames.length:=by omega
 rw [List.take_length] at ht2
 simp [g0,g1,g2,g3]
 intro _
 refine between_ok _ _ _ ?_
 simp [btw]
 exact fin _ (by simp [kindB,q5,q0,btw]) hfo ht ht2
theorem fault_zero {L:List Shp} (h:faultP L=0):L.length≤100∧okay L:=by
 unfold faultP at h
 split at h
 ·cases h
 split at h
 ·rename_i h1 h2;exact ⟨by omega,h2⟩
 ·cases h
theorem cellRight_gen2 (s:GState) (c:GCell) (q5:c.kind=5) (q0 : ¬ c.num=0) (hreg : ∀ f∈c.frames,okFrame f) {K:D->List Blk->Prop} (h:K (dB (cellB s c)) []):DPure Tryz.prog 85 [aD (eState s),aD (eCell c)] K:=by
 have no : ¬ (kindB s c=true∧c.frames.length=framesOf c∧c.vals.all (fitsB s)=true∧c.frames.all (frameFits s)=true)->K (dB false) []:=fun e=>kB h (by
  rw [Bool.eq_false_iff];intro e2;simp only [cellB,Bool.and_eq_true,decide_eq_true_eq] at e2;exact e ⟨e2.1.1.1,e2.1.1.2,e2.1.2,e2.2⟩)
 have fin : ∀ b:Bool,b=kindB s c->c.frames.length=framesOf c->c.vals.all (fitsB s)=true->c.frames.all (frameFits s)=true->K (dB b) []:=fun b e1 e2 e3 e4=>kB h (by simp [cellB,e1,e2,e3,e4])
 clear h
 refine fn_ok [0,1,2,3,4,5,7,9,11,12,14,15,16,17,25,30,32,33,34,35,41,44,45,46,47,55,56,57,58,64,72,73,81,102,107,118,121,122,123,124,130,135,143,151,154,155,156,157,163,166,169,178] [(27,[0,1,0,4,12,28,63,127,255,511,1023,255,2303,255,8447,30975,63743,131071,262143,524287],(.seg 0 (.seg 1 (.seg 2 (.seg 3 (.seg 4 (.seg 5 (.eff 6 [1,3] (.seg 7 (.seg 8 (.seg 9 (.seg 10 (.seg 11 (.seg 12 (.seg 13 (.seg 14 (.eff 15 [8,9,10] (.seg 16 (.seg 17 (.seg 18 (.seg 19 .last))))))))))))))))))))),(54,[0,1,0,7,15,0,63],(.seg 0 (.seg 1 (.seg 2 (.seg 3 (.seg 4 (.seg 5 (.seg 6 .last))))))))] Tryz.func85 rfl (by kernel_rfl) rfl rfl rfl rfl (by kernel_rfl) ?_
 simp [q5,q0]
 intro _
 by_cases hfr:c.frames=[]
 case neg =>
  simp [hfr]
  exact no fun e=>hfr (List.length_eq_zero_iff.1 (by rw [e.2.1];simp [framesOf,q5,q0]))
 have hfo:c.frames.length=framesOf c:=by rw [hfr];simp [framesOf,q5,q0]
 have ht2:c.frames.all (frameFits s)=true:=by rw [hfr];rfl
 simp [hfr]
 intro _
 refine loopH_ok (ks := [0,1,2,3,4,5,7,9,11,12,14,15,16,17,25,30,32,33,34,35,41,44,45,46,47,55,56,57,58,64,72,73,81,102,107,118,121,122,123,124,130,135,143,151,154,155,156,157,163,166,169,178]) (pl := [(27,[0,1,0,4,12,28,63,127,255,511,1023,255,2303,255,8447,30975,63743,131071,262143,524287],(.seg 0 (.seg 1 (.seg 2 (.seg 3 (.seg 4 (.seg 5 (.eff 6 [1,3] (.seg 7 (.seg 8 (.seg 9 (.seg 10 (.seg 11 (.seg 12 (.seg 13 (.seg 14 (.eff 15 [8,9,10] (.seg 16 (.seg 17 (.seg 18 (.seg 19 .last))))))))))))))))))))),(54,[0,1,0,7,15,0,63],(.seg 0 (.seg 1 (.seg 2 (.seg 3 (.seg 4 (.seg 5 (.seg 6 .last))))))))]) (n0:=190) (α := {x:KR2//x.k≤c.vals.length∧(c.vals.take x.k).all (fitsB s)=true∧2≤x.nx}) (fun x=>[(34,dI x.1.k)]) (fun H _=>H) (fun x=>x.1.nx) (fun x=>c.vals.length-x.1.k) ⟨⟨0,2⟩,by simp⟩ rfl (by kernel_rfl) (Wk.sub (by simp)) ?_
 rintro ⟨⟨k,nx⟩,hk,ht,hn⟩
 simp only at hk ht hn
 have f0 : ¬ 0=nx:=by omega
 have f1 : ¬ 1=nx:=by omega
 by_cases h1:k<c.vals.length
 ·simp [h1,f0,f1]
  have nextv:fitsB s c.vals[k]=true->(c.vals.take (k+1)).all (fitsB s)=true:=fun hb=>by rw [all_take_next h1,ht,hb];rfl
  refine fitsIn_ok s c.vals[k] ?_
  cases hb:fitsB s c.vals[k] with
  | false =>
   simp
   exact no fun e=>by rw [List.all_eq_true.1 e.2.2.1 _ (List.getElem_mem h1)] at hb;cases hb
  | true =>
   simp
   refine ⟨⟨k+1,nx+1⟩,by simp;omega,⟨by simp;omega,(by first | exact nextv hb | exact List.all_eq_true.1 (nextv hb)),by simp;omega⟩,(Wk.sub (by simp [wrap_add (show k<9223372036854775807 by omega)])).trans (Wk.heap fun i y hy => ?_)⟩
   unfold Hp.set Hp.none at hy ⊢
   grind
 obtain rfl:k=c.vals.length:=by omega
 rw [List.take_length] at ht
 simp [f0,f1,hfr]
 refine loopH_ok (ks := [0,1,2,3,4,5,7,9,11,12,14,15,16,17,25,30,32,33,34,35,41,44,45,46,47,55,56,57,58,64,72,73,81,102,107,118,121,122,123,124,130,135,143,151,154,155,156,157,163,166,169,178]) (pl := [(27,[0,1,0,4,12,28,63,127,255,511,1023,255,2303,255,8447,30975,63743,131071,262143,524287],(.seg 0 (.seg 1 (.seg 2 (.seg 3 (.seg 4 (.seg 5 (.eff 6 [1,3] (.seg 7 (.seg 8 (.seg 9 (.seg 10 (.seg 11 (.seg 12 (.seg 13 (.seg 14 (.eff 15 [8,9,10] (.seg 16 (.seg 17 (.seg 18 (.seg 19 .last))))))))))))))))))))),(54,[0,1,0,7,15,0,63],(.seg 0 (.seg 1 (.seg 2 (.seg 3 (.seg 4 (.seg 5 (.seg 6 .last))))))))]) (n0:=190) (α:=Nat) (fun _=>[(46,dI 0)]) (fun H _=>H) (fun _=>nx) (fun _=>0) 0 rfl (by kernel_rfl) (Wk.sub (by simp)) ?_
 rintro _
 simp [f0,f1]
 intro _
 refine between_ok _ _ _ ?_
 cases hb:btw c.num 0 2 with
 | false =>
  simp
  exact fin _ (by simp [kindB,q5,hb]) hfo ht ht2
 | true =>
  simp
  exact fin _ (by simp [kindB,q5,hb]) hfo ht ht2
theorem cellRight_other (s:GState) (hs:faultP s.shapes=0) (c:GCell) (q5 : ¬ c.kind=5) (hv:c.vals.length≤100000) (hreg : ∀ f∈c.frames,okFrame f) {K:D->List Blk->Prop} (h:K (dB (cellB s c)) []):DPure Tryz.prog 85 [aD (eState s),aD (eCell c)] K:=by
 have no : ¬ (kindB s c=true∧c.frames.length=framesOf c∧c.vals.all (fitsB s)=true∧c.frames.all (frameFits s)=true)->K (dB false) []:=fun e=>kB h (by
  rw [Bool.eq_false_iff];intro e2;simp only [cellB,Bool.and_eq_true,decide_eq_true_eq] at e2;exact e ⟨e2.1.1.1,e2.1.1.2,e2.1.2,e2.2⟩)
 have fin : ∀ b:Bool,b=kindB s c->c.frames.length=framesOf c->c.vals.all (fitsB s)=true->c.frames.all (frameFits s)=true->K (dB b) []:=fun b e1 e2 e3 e4=>kB h (by simp [cellB,e1,e2,e3,e4])
 clear h
 refine fn_ok [0,1,2,3,4,5,7,9,11,12,14,15,16,17,25,30,32,33,34,35,41,44,45,46,47,55,56,57,58,64,72,73,81,102,107,118,121,122,123,124,130,135,143,151,154,155,156,157,163,166,169,178] [(27,[0,1,0,4,12,28,63,127,255,511,1023,255,2303,255,8447,30975,63743,131071,262143,524287],(.seg 0 (.seg 1 (.seg 2 (.seg 3 (.seg 4 (.seg 5 (.eff 6 [1,3] (.seg 7 (.seg 8 (.seg 9 (.seg 10 (.seg 11 (.seg 12 (.seg 13 (.seg 14 (.eff 15 [8,9,10] (.seg 16 (.seg 17 (.seg 18 (.seg 19 .last))))))))))))))))))))),(54,[0,1,0,7,15,0,63],(.seg 0 (.seg 1 (.seg 2 (.seg 3 (.seg 4 (.seg 5 (.seg 6 .last))))))))] Tryz.func85 rfl (by kernel_rfl) rfl rfl rfl rfl (by kernel_rfl) ?_
 simp [q5]
 intro _
 by_cases hfr:c.frames=[]
 case neg =>
  simp [hfr]
  exact no fun e=>hfr (List.length_eq_zero_iff.1 (by rw [e.2.1];simp [framesOf,q5]))
 have hfo:c.frames.length=framesOf c:=by rw [hfr];simp [framesOf,q5]
 have ht2:c.frames.all (frameFits s)=true:=by rw [hfr];rfl
 simp [hfr]
 intro _
 refine loopH_ok (ks := [0,1,2,3,4,5,7,9,11,12,14,15,16,17,25,30,32,33,34,35,41,44,45,46,47,55,56,57,58,64,72,73,81,102,107,118,121,122,123,124,130,135,143,151,154,155,156,157,163,166,169,178]) (pl := [(27,[0,1,0,4,12,28,63,127,255,511,1023,255,2303,255,8447,30975,63743,131071,262143,524287],(.seg 0 (.seg 1 (.seg 2 (.seg 3 (.seg 4 (.seg 5 (.eff 6 [1,3] (.seg 7 (.seg 8 (.seg 9 (.seg 10 (.seg 11 (.seg 12 (.seg 13 (.seg 14 (.eff 15 [8,9,10] (.seg 16 (.seg 17 (.seg 18 (.seg 19 .last))))))))))))))))))))),(54,[0,1,0,7,15,0,63],(.seg 0 (.seg 1 (.seg 2 (.seg 3 (.seg 4 (.seg 5 (.seg 6 .last))))))))]) (n0:=190) (α := {x:KR2//x.k≤c.vals.length∧(c.vals.take x.k).all (fitsB s)=true∧2≤x.nx}) (fun x=>[(34,dI x.1.k)]) (fun H _=>H) (fun x=>x.1.nx) (fun x=>c.vals.length-x.1.k) ⟨⟨0,2⟩,by simp⟩ rfl (by kernel_rfl) (Wk.sub (by simp)) ?_
 rintro ⟨⟨k,nx⟩,hk,ht,hn⟩
 simp only at hk ht hn
 have f0 : ¬ 0=nx:=by omega
 have f1 : ¬ 1=nx:=by omega
 by_cases h1:k<c.vals.length
 ·simp [h1,f0,f1]
  have nextv:fitsB s c.vals[k]=true->(c.vals.take (k+1)).all (fitsB s)=true:=fun hb=>by rw [all_take_next h1,ht,hb];rfl
  refine fitsIn_ok s c.vals[k] ?_
  cases hb:fitsB s c.vals[k] with
  | false =>
   simp
   exact no fun e=>by rw [List.all_eq_true.1 e.2.2.1 _ (List.getElem_mem h1)] at hb;cases hb
  | true =>
   simp
   refine ⟨⟨k+1,nx+1⟩,by simp;omega,⟨by simp;omega,(by first | exact nextv hb | exact List.all_eq_true.1 (nextv hb)),by simp;omega⟩,(Wk.sub (by simp [wrap_add (show k<9223372036854775807 by omega)])).trans (Wk.heap fun i y hy => ?_)⟩
   unfold Hp.set Hp.none at hy ⊢
   grind
 obtain rfl:k=c.vals.length:=by omega
 rw [List.take_length] at ht
 simp [f0,f1,hfr]
 refine loopH_ok (ks := [0,1,2,3,4,5,7,9,11,12,14,15,16,17,25,30,32,33,34,35,41,44,45,46,47,55,56,57,58,64,72,73,81,102,107,118,121,122,123,124,130,135,143,151,154,155,156,157,163,166,169,178]) (pl := [(27,[0,1,0,4,12,28,63,127,255,511,1023,255,2303,255,8447,30975,63743,131071,262143,524287],(.seg 0 (.seg 1 (.seg 2 (.seg 3 (.seg 4 (.seg 5 (.eff 6 [1,3] (.seg 7 (.seg 8 (.seg 9 (.seg 10 (.seg 11 (.seg 12 (.seg 13 (.seg 14 (.eff 15 [8,9,10] (.seg 16 (.seg 17 (.seg 18 (.seg 19 .last))))))))))))))))))))),(54,[0,1,0,7,15,0,63],(.seg 0 (.seg 1 (.seg 2 (.seg 3 (.seg 4 (.seg 5 (.seg 6 .last))))))))]) (n0:=190) (α:=Nat) (fun _=>[(46,dI 0)]) (fun H _=>H) (fun _=>nx) (fun _=>0) 0 rfl (by kernel_rfl) (Wk.sub (by simp)) ?_
 rintro _
 simp [f0,f1]
 intro _
 by_cases k0:c.kind=0
 ·simp [k0]
  refine alt (fun e=>fin _ (by simp [kindB,k0,e]) hfo ht ht2) (fun e=>fin _ (by simp [kindB,k0,e]) hfo ht ht2)
 by_cases k1:c.kind=1
 ·simp [k1]
  intro _
  have hw:IntKind.i64.wrap ((s.shapes.length:Int)-1)=(s.shapes.length:Int)-1:=wrap_id (by omega) (by omega)
  rw [hw]
  refine between_ok _ _ _ ?_
  cases hb:btw c.num 0 ((s.shapes.length:Int)-1) with
  | false =>
   simp
   exact fin _ (by simp [kindB,k1,hb]) hfo ht ht2
  | true =>
   obtain ⟨z1,z2⟩:=fault_zero hs
   have hb':=hb
   simp [btw] at hb'
   obtain ⟨t,ht0⟩ : ∃ t:Nat,c.num=t:=⟨c.num.toNat,by omega⟩
   simp [ht0]
   intro _
   refine shapeNames_ok true s.shapes (by omega) t (z2.2.2.ahead (by omega)) (by omega) ?_
   simp
   intro _
   have hb2:btw (t:Int) 0 ((s.shapes.length:Int)-1)=true:=by rw [← ht0];exact hb
   exact fin _ (by rw [Bool.eq_iff_iff];simp only [kindB,k1,shapeLen,ht0,hb2,Int.toNat_natCast];simp <;> omega) hfo ht ht2
 by_cases k2:c.kind=2
 ·simp [k2]
  exact fin _ (by simp [kindB,k2]) hfo ht ht2
 by_cases k3:c.kind=3
 ·simp [k3]
  refine alt (fun e => ?_) (fun e=>fin _ (by simp [kindB,k3,e]) hfo ht ht2)
  intro _
  exact fin _ (by rw [Bool.eq_iff_iff];simp [kindB,k3,e] <;> omega) hfo ht ht2
 by_cases k4:c.kind=4
 ·simp [k4]
  intro _
  refine loopH_ok (ks := [0,1,2,3,4,5,7,9,11,12,14,15,16,17,25,30,32,33,34,35,41,44,45,46,47,55,56,57,58,64,72,73,81,102,107,118,121,122,123,124,130,135,143,151,154,155,156,157,163,166,169,178]) (pl := [(27,[0,1,0,4,12,28,63,127,255,511,1023,255,2303,255,8447,30975,63743,131071,262143,524287],(.seg 0 (.seg 1 (.seg 2 (.seg 3 (.seg 4 (.seg 5 (.eff 6 [1,3] (.seg 7 (.seg 8 (.seg 9 (.seg 10 (.seg 11 (.seg 12 (.seg 13 (.seg 14 (.eff 15 [8,9,10] (.seg 16 (.seg 17 (.seg 18 (.seg 19 .last))))))))))))))))))))),(54,[0,1,0,7,15,0,63],(.seg 0 (.seg 1 (.seg 2 (.seg 3 (.seg 4 (.seg 5 (.seg 6 .last))))))))]) (n0:=190) (α := {x:KR2//x.k≤c.vals.length∧(c.vals.take x.k).all (fun v=>namesB s v 3)=true∧2≤x.nx}) (fun x=>[(123,dI x.1.k)]) (fun H _=>H) (fun x=>x.1.nx) (fun x=>c.vals.length-x.1.k) ⟨⟨0,nx⟩,by simp [hn]⟩ rfl (by kernel_rfl) (Wk.sub (by simp)) ?_
  rintro ⟨⟨k,nx⟩,hk,ht4,hn⟩
  simp only at hk ht4 hn
  have f0 : ¬ 0=nx:=by omega
  have f1 : ¬ 1=nx:=by omega
  by_cases h1:k<c.vals.length
  ·simp [h1,f0,f1]
   have nextv:namesB s c.vals[k] 3=true->(c.vals.take (k+1)).all (fun v=>namesB s v 3)=true:=fun hb=>by rw [all_take_next h1,ht4,hb];rfl
   refine kindIn_ok s c.vals[k] 3 ?_
   cases hb:namesB s c.vals[k] 3 with
   | false =>
    simp
    refine fin false (Eq.symm ?_) hfo ht ht2
    rw [Bool.eq_false_iff]
    intro e
    simp [kindB,k4] at e
    have:=e.2 _ (List.getElem_mem h1)
    rw [hb] at this;cases this
   | true =>
    simp
    refine ⟨⟨k+1,nx+1⟩,by simp;omega,⟨by simp;omega,(by first | exact nextv hb | exact List.all_eq_true.1 (nextv hb)),by simp;omega⟩,(Wk.sub (by simp [wrap_add (show k<9223372036854775807 by omega)])).trans (Wk.heap fun i y hy => ?_)⟩
    unfold Hp.set Hp.none at hy ⊢
    grind
  obtain rfl:k=c.vals.length:=by omega
  rw [List.take_length] at ht4
  simp [f0,f1,hfr]
  exact fin _ (by rw [Bool.eq_iff_iff];simp only [kindB,k4,ht4];simp <;> omega) hfo ht ht2
 by_cases k6:c.kind=6
 ·simp [k6]
  refine between_ok _ _ _ ?_
  cases hb:btw c.num (-1) 4 with
  | false =>
   simp
   exact fin _ (by simp [kindB,k6,hb]) hfo ht ht2
  | true =>
   simp
   exact fin _ (by simp [kindB,k6,hb]) hfo ht ht2
 by_cases k7:c.kind=7
 ·simp [k7]
  intro _
  refine loopH_ok (ks := [0,1,2,3,4,5,7,9,11,12,14,15,16,17,25,30,32,33,34,35,41,44,45,46,47,55,56,57,58,64,72,73,81,102,107,118,121,122,123,124,130,135,143,151,154,155,156,157,163,166,169,178]) (pl := [(27,[0,1,0,4,12,28,63,127,255,511,1023,255,2303,255,8447,30975,63743,131071,262143,524287],(.seg 0 (.seg 1 (.seg 2 (.seg 3 (.seg 4 (.seg 5 (.eff 6 [1,3] (.seg 7 (.seg 8 (.seg 9 (.seg 10 (.seg 11 (.seg 12 (.seg 13 (.seg 14 (.eff 15 [8,9,10] (.seg 16 (.seg 17 (.seg 18 (.seg 19 .last))))))))))))))))))))),(54,[0,1,0,7,15,0,63],(.seg 0 (.seg 1 (.seg 2 (.seg 3 (.seg 4 (.seg 5 (.seg 6 .last))))))))]) (n0:=190) (α := {x:KR2//x.k≤c.vals.length∧(∀ j,2*j<x.k->keyB c.vals j=true)∧2≤x.nx}) (fun x=>[(156,dI x.1.k)]) (fun H _=>H) (fun x=>x.1.nx) (fun x=>c.vals.length-x.1.k) ⟨⟨0,nx⟩,by simp [hn]⟩ rfl (by kernel_rfl) (Wk.sub (by simp)) ?_
  rintro ⟨⟨k,nx⟩,hk,hall,hn⟩
  simp only at hk hall hn
  have f0 : ¬ 0=nx:=by omega
  have f1 : ¬ 1=nx:=by omega
  by_cases h1:k<c.vals.length
  ·simp [h1,f0,f1]
   rw [show ((k:Nat):Int).tmod 2=(k:Int)%2 from Int.tmod_eq_emod_of_nonneg (by omega)]
   refine alt (fun c1 => ?_) (fun c1 => ?_)
   ·refine ⟨⟨k+1,nx+1⟩,by simp;omega,⟨by simp;omega,fun j hj=>hall j (by simp at hj;omega),by simp;omega⟩,(Wk.sub (by simp [wrap_add (show k<9223372036854775807 by omega)])).trans (Wk.heap fun i y hy => ?_)⟩
    unfold Hp.set Hp.none at hy ⊢
    grind
   obtain ⟨q,hq⟩ : ∃ q,k=2*q:=⟨k/2,by omega⟩
   have hvk:valAt c.vals (2*q)=c.vals[k]:=by rw [← hq];simp [valAt,List.getD_eq_getElem?_getD,List.getElem?_eq_getElem h1]
   have bad:keyB c.vals q=false->K (dB false) []:=fun hb=>fin false (Eq.symm (by
    rw [Bool.eq_false_iff]
    intro e
    simp [kindB,k7,weakB] at e
    have:=e.2.2 q (by omega)
    rw [hb] at this;cases this)) hfo ht ht2
   refine alt (fun c2 => ?_) (fun c2=>bad (by rw [Bool.eq_false_iff];intro e;rw [keyB_iff,hvk] at e;exact c2 e.1))
   refine loopH_ok (ks := [0,1,2,3,4,5,7,9,11,12,14,15,16,17,25,30,32,33,34,35,41,44,45,46,47,55,56,57,58,64,72,73,81,102,107,118,121,122,123,124,130,135,143,151,154,155,156,157,163,166,169,178]) (pl := [(27,[0,1,0,4,12,28,63,127,255,511,1023,255,2303,255,8447,30975,63743,131071,262143,524287],(.seg 0 (.seg 1 (.seg 2 (.seg 3 (.seg 4 (.seg 5 (.eff 6 [1,3] (.seg 7 (.seg 8 (.seg 9 (.seg 10 (.seg 11 (.seg 12 (.seg 13 (.seg 14 (.eff 15 [8,9,10] (.seg 16 (.seg 17 (.seg 18 (.seg 19 .last))))))))))))))))))))),(54,[0,1,0,7,15,0,63],(.seg 0 (.seg 1 (.seg 2 (.seg 3 (.seg 4 (.seg 5 (.seg 6 .last))))))))]) (n0:=190) (α := {x:Nat//x≤k∧x%2=0 ∧ ∀ p,2*p<x->(valAt c.vals (2*p)).n≠c.vals[k].n}) (fun x=>[(17,dI x.1)]) (fun H _=>H) (fun _=>nx+1) (fun x=>k-x.1) ⟨0,by simp⟩ rfl (by kernel_rfl) (Wk.sub (by simp)) ?_
   rintro ⟨i,hi,hi2,hne⟩
   by_cases h3:i<k
   ·have h4:i<c.vals.length:=by omega
    obtain ⟨p,hp⟩ : ∃ p,i=2*p:=⟨i/2,by omega⟩
    have hvi:valAt c.vals (2*p)=c.vals[i]:=by rw [← hp];simp [valAt,List.getD_eq_getElem?_getD,List.getElem?_eq_getElem h4]
    have hki:c.vals[i].kind=5:=by
     have:=keyB_iff.1 (hall p (by omega))
     rw [hvi] at this;exact this.1
    simp [h1,h3,h4,f0,f1]
    refine alt (fun c3=>bad ?_) (fun c3 => ?_)
    ·rw [Bool.eq_false_iff]
     intro e
     rw [keyB_iff] at e
     refine e.2 ⟨p,by omega,?_⟩
     rw [hvi,hvk]
     first | exact c3.2 | (simp at c3;exact c3.2)
    ·have hni:c.vals[i].n≠c.vals[k].n:=fun e=>c3 (by first | exact ⟨by rw [hki,c2],e⟩ | simp [hki,c2,e])
     refine ⟨i+2,by omega,⟨by omega,by omega,fun p' hp' => ?_⟩,Wk.sub (by simp [wrap_add2 (show i<100000000 by omega)])⟩
     by_cases e:p'=p
     ·rw [e,hvi];exact hni
     ·exact hne p' (by omega)
   ·obtain rfl:i=k:=by omega
    have hkey:keyB c.vals q=true:=by
     rw [keyB_iff,hvk]
     exact ⟨c2,fun ⟨p,p1,p2⟩=>hne p (by omega) p2⟩
    simp
    refine ⟨⟨i+1,nx+1⟩,by simp;omega,⟨by simp;omega,fun j hj => ?_,by simp;omega⟩,(Wk.sub (by simp [wrap_add (show i<9223372036854775807 by omega)])).trans (Wk.heap fun i y hy => ?_)⟩
    ·by_cases e:j=q
     ·rw [e];exact hkey
     ·exact hall j (by simp at hj;omega)
    ·unfold Hp.set Hp.none at hy ⊢
     grind
  obtain rfl:k=c.vals.length:=by omega
  simp [f0,f1,hfr]
  have hw:((List.range ((c.vals.length+1)/2)).all (keyB c.vals))=true:=by
   rw [List.all_eq_true]
   intro j hj
   exact hall j (by rw [List.mem_range] at hj;omega)
  refine alt (fun e => ?_) (fun e=>fin _ (by simp [kindB,k7,e]) hfo ht ht2)
  intro _
  rw [show ((c.vals.length:Nat):Int).tmod 2=(c.vals.length:Int)%2 from Int.tmod_eq_emod_of_nonneg (by omega)]
  exact fin _ (by rw [Bool.eq_iff_iff];simp only [kindB,k7,e,weakB,hw];simp <;> omega) hfo ht ht2
 simp [k0,k1,k2,k3,k4,q5,k6,k7]
 exact fin _ (by simp [kindB,k0,k1,k2,k3,k4,q5,k6,k7]) hfo ht ht2
theorem cellRight_ok (s:GState) (hs:faultP s.shapes=0) (c:GCell) (hv:c.vals.length≤100000) (hreg : ∀ f∈c.frames,okFrame f) {K:D->List Blk->Prop} (h:K (dB (cellB s c)) []):DPure Tryz.prog 85 [aD (eState s),aD (eCell c)] K:=by
 by_cases q5:c.kind=5
 ·by_cases q0:c.num=0
  ·exact cellRight_gen s c q5 q0 hreg h
  ·exact cellRight_gen2 s c q5 q0 hreg h
 ·exact cellRight_other s hs c q5 hv hreg h
end Go.Proofs.YtbphdcffpobcbaaGreatDoor
