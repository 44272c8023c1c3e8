/- Several texts in one. -/
import Derived.Test.YtbphdcffpobcbaaGreatDoorMf
import Derived.Test.YtbphdcffpobcbaaGreatDoorMg
import Derived.Test.YtbphdcffpobcbaaGreatDoorMh
import Derived.Test.YtbphdcffpobcbaaGreatDoorMj
set_option linter.unusedSimpArgs false
set_option linter.unusedVariables false
set_option maxRecDepth 100000
set_option maxHeartbeats 16000000
namespace Go.Proofs.YtbphdcffpobcbaaGreatDoor
open Go.RowKit Go
theorem known2_at (f:GFn) (hg:goesAll f) (hl6:f.code.length≤600) {d:D} (hd:d=aD (eFn f)) {K:D->List Blk->Prop} (hbad : ¬ Fine f->K (.tup [.one (.d .emp),dB false]) [])
  (hok : ∀ all:List Kn,KnOk f all->0<f.code.length->K (.tup [.one (.own 0 2 f.code.length),dB true]) [⟨.c 168,2,knRows all⟩]):DPure Tryz.prog 100 [d] K:=by
 subst hd;exact known_ok f hg hl6 hbad hok
theorem KnOk.is {f:GFn} {all:List Kn} (h:KnOk f all) (hg:goesAll f) (hb:(triesQ f).bad=false) {k:Nat} (hk:k<f.code.length):(all.getD k dKn).is=(triesQ f).seen.getD k false∧((triesQ f).seen.getD k false=true->(all.getD k dKn).tries=(triesQ f).out.getD k []):=by
 have key:(triesQ f).seen.getD k false=true->(all.getD k dKn).is=true∧(all.getD k dKn).tries=(triesQ f).out.getD k []:=fun e=>by
  have hr:=(tries_seen hg hb k _).2 ⟨e,rfl⟩
  have:=h.reach (by omega) hr
  rw [Int.toNat_natCast] at this
  exact ⟨this.2.2.2.1,this.2.2.2.2⟩
 refine ⟨?_,fun e=>(key e).2⟩
 cases hs:(triesQ f).seen.getD k false with
 | true=>exact (key hs).1
 | false =>
  cases hi:(all.getD k dKn).is with
  | false=>rfl
  | true =>
   have:=(tries_seen hg hb k _).1 (h.sound k hk hi).1
   rw [hs] at this
   cases this.1
theorem names_in {s:GState} {v:GVal} {k:Int} (h:namesB s v k=true):v.kind=5∧0≤v.n∧v.n<s.cells.length∧(cellAt s v.n).kind=k:=by
 simp only [namesB,Bool.and_eq_true,decide_eq_true_eq] at h
 exact ⟨h.1.1.1,h.1.1.2,h.1.2,h.2⟩
theorem frameRight_ok (p:GProg) (hp:checkQ wordsT p=0) (s:GState) (f:GFrame) {K:D->List Blk->Prop} (h:K (dB (frameB p s f)) []):DPure Tryz.prog 49 [aD (eProg p),aD (eState s),aD (eFrame f)] K:=by
 have no : ¬ frameB p s f=true->K (dB false) []:=fun e=>kB h (Bool.eq_false_iff.2 e)
 have yes:frameB p s f=true->K (dB true) []:=fun e=>kB h e
 clear h
 rw [frame_iff] at no yes
 have hlp:=(large_lt (check_zero hp).1).1
 refine fn_ok [0,1,2,3,4,5,6,7,8,11,39,87,89,90,91,92,98] [(1,[0,1,0,4,12,28,63,127,255,511,511,1535,4095,8191,16383,32767,65535,131071,65535,327679,851967,2097151,4194303,8388607,65535,16842751,67108863,134217727],(.seg 0 (.seg 1 (.seg 2 (.seg 3 (.seg 4 (.seg 5 (.eff 6 [1,3] (.seg 7 (.seg 8 (.seg 9 (.seg 10 (.seg 11 (.eff 12 [] (.seg 13 (.seg 14 (.seg 15 (.seg 16 (.seg 17 (.seg 18 (.seg 19 (.seg 20 (.seg 21 (.seg 22 (.seg 23 (.seg 24 (.seg 25 (.seg 26 (.seg 27 .last))))))))))))))))))))))))))))),(5,[0,1,3,0,8,31,63,127,255,127,639,1663,3711,8191,16383,32767,65535,131071,131071,393215,1048575,2097151,4194303,8388607,16777215,33554431,67108863,134217727,67108863,67108863,603979775,1946157055,4093640703,8388607999,17179869183,34359738367,68719476735],(.seg 0 (.seg 1 (.seg 2 (.seg 3 (.seg 4 (.seg 5 (.seg 6 (.seg 7 (.seg 8 (.seg 9 (.seg 10 (.seg 11 (.seg 12 (.eff 13 [1,4] (.seg 14 (.seg 15 (.seg 16 (.seg 17 (.seg 18 (.seg 19 (.seg 20 (.seg 21 (.seg 22 (.seg 23 (.seg 24 (.seg 25 (.seg 26 (.seg 27 (.seg 28 (.seg 29 (.seg 30 (.seg 31 (.seg 32 (.seg 33 (.eff 34 [] (.seg 35 (.seg 36 .last))))))))))))))))))))))))))))))))))))))] Tryz.func49 rfl (by kernel_rfl) rfl rfl rfl rfl (by kernel_rfl) ?_
 simp
 intro _
 rw [show IntKind.i64.wrap ((p.fns.length:Int)-1)=(p.fns.length:Int)-1 from wrap_id (by omega) (by omega)]
 refine between_ok _ _ _ ?_
 cases hb:btw f.fn 0 ((p.fns.length:Int)-1) with
 | false =>
  simp
  exact no fun e=>by simp [btw] at hb;omega
 | true =>
 simp [btw] at hb
 have hfl:f.fn<p.fns.length:=by omega
 simp
 refine kindIn_ok s f.self 4 ?_
 cases hn:namesB s f.self 4 with
 | false =>
  simp
  exact no fun e=>by rw [hn] at e;cases e.2.1
 | true =>
 have hnm:=hn
 obtain ⟨n1,n2,n3,n4⟩:=names_in hn
 have hc:=cell_get n2 n3
 have hfa:=fn_at hb.1 hfl
 obtain ⟨g1,g2,g3,g4,g5⟩:=fn_in hp (fn_mem hb.1 hfl)
 have hfe:=(List.getElem?_eq_some_iff.1 hfa).2
 have hce:=(List.getElem?_eq_some_iff.1 hc).2
 simp [n2,n3,hce,hb.1,hfl,hfe]
 refine alt (fun c1 => ?_) (fun c1=>no fun e=>c1 e.2.2.1)
 refine known2_at (fnAt p f.fn) g3 g4 rfl (fun e=>absurd (tries_fine g3 g5) e) fun all hall hlen => ?_
 simp
 intro _
 refine alt (fun c2 => ?_) (fun c2=>no fun e=>c2 e.2.2.2.1)
 intro _
 rw [show IntKind.i64.wrap (((fnAt p f.fn).code.length:Int)-1)=((fnAt p f.fn).code.length:Int)-1 from wrap_id (by omega) (by omega)]
 refine between_ok _ _ _ ?_
 cases hb2:btw f.at_ 0 (((fnAt p f.fn).code.length:Int)-1) with
 | false =>
  simp
  exact no fun e=>by simp [btw] at hb2;omega
 | true =>
 simp [btw] at hb2
 have hal:f.at_<(fnAt p f.fn).code.length:=by omega
 obtain ⟨m,hm⟩ : ∃ m:Nat,f.at_=m:=⟨f.at_.toNat,by omega⟩
 have hml:m<(fnAt p f.fn).code.length:=by omega
 have hml2:m<all.length:=by rw [hall.len];exact hml
 obtain ⟨k1,k2⟩:=hall.is g3 g5 hml
 have hka:all.getD m dKn=all[m]:=by rw [List.getD_eq_getElem?_getD,List.getElem?_eq_getElem hml2];rfl
 rw [hka] at k1 k2
 rw [hm,Int.toNat_natCast] at no yes
 have hll:=hall.len
 simp [hm,hml,hml2,hll]
 refine alt (fun c3 => ?_) (fun c3=>no fun e=>c3 (by rw [k1];exact e.2.2.2.2.2.1))
 have hsn:(triesQ (fnAt p f.fn)).seen.getD m false=true:=by rw [← k1];exact c3
 refine sameTries_ok true true f.tries all[m].tries ?_
 by_cases c4:f.tries=all[m].tries
 case neg =>
  simp [c4]
  exact no fun e=>c4 (by rw [k2 hsn];exact e.2.2.2.2.2.2.1)
 simp [c4]
 intro _
 refine loopH_ok (ks := [0,1,2,3,4,5,6,7,8,11,39,87,89,90,91,92,98]) (pl := [(1,[0,1,0,4,12,28,63,127,255,511,511,1535,4095,8191,16383,32767,65535,131071,65535,327679,851967,2097151,4194303,8388607,65535,16842751,67108863,134217727],(.seg 0 (.seg 1 (.seg 2 (.seg 3 (.seg 4 (.seg 5 (.eff 6 [1,3] (.seg 7 (.seg 8 (.seg 9 (.seg 10 (.seg 11 (.eff 12 [] (.seg 13 (.seg 14 (.seg 15 (.seg 16 (.seg 17 (.seg 18 (.seg 19 (.seg 20 (.seg 21 (.seg 22 (.seg 23 (.seg 24 (.seg 25 (.seg 26 (.seg 27 .last))))))))))))))))))))))))))))),(5,[0,1,3,0,8,31,63,127,255,127,639,1663,3711,8191,16383,32767,65535,131071,131071,393215,1048575,2097151,4194303,8388607,16777215,33554431,67108863,134217727,67108863,67108863,603979775,1946157055,4093640703,8388607999,17179869183,34359738367,68719476735],(.seg 0 (.seg 1 (.seg 2 (.seg 3 (.seg 4 (.seg 5 (.seg 6 (.seg 7 (.seg 8 (.seg 9 (.seg 10 (.seg 11 (.seg 12 (.eff 13 [1,4] (.seg 14 (.seg 15 (.seg 16 (.seg 17 (.seg 18 (.seg 19 (.seg 20 (.seg 21 (.seg 22 (.seg 23 (.seg 24 (.seg 25 (.seg 26 (.seg 27 (.seg 28 (.seg 29 (.seg 30 (.seg 31 (.seg 32 (.seg 33 (.eff 34 [] (.seg 35 (.seg 36 .last))))))))))))))))))))))))))))))))))))))]) (n0:=100) (α := {x:KR2//x.k≤f.regs.length∧(f.regs.take x.k).all (fitsB s)=true∧5≤x.nx}) (fun x=>[(91,dI x.1.k)]) (fun H _=>H) (fun x=>x.1.nx) (fun x=>f.regs.length-x.1.k) ⟨⟨0,5⟩,by simp⟩ rfl (by kernel_rfl) (Wk.sub (by simp)) ?_
 rintro ⟨⟨k,nx⟩,hk,ht,hn⟩
 simp only at hk ht hn
 have f0 : ¬ 0=nx:=by omega
 have f1 : ¬ 1=nx:=by omega
 have f2 : ¬ 2=nx:=by omega
 by_cases h1:k<f.regs.length
 ·simp [h1,f0,f1,f2]
  have nextv:fitsB s f.regs[k]=true->(f.regs.take (k+1)).all (fitsB s)=true:=fun hb=>by rw [all_take_next h1,ht,hb];rfl
  refine fitsIn_ok s f.regs[k] ?_
  cases hb:fitsB s f.regs[k] with
  | false =>
   simp
   exact no fun e=>by rw [List.all_eq_true.1 e.2.2.2.2.2.2.2 _ (List.getElem_mem h1)] at hb;cases hb
  | true =>
   simp
   refine ⟨⟨k+1,nx+1⟩,by simp;omega,⟨by simp;omega,(by first | exact nextv hb | exact List.all_eq_true.1 (nextv hb)),by simp;omega⟩,(Wk.sub (by simp [wrap_add (show k<9223372036854775807 by omega)])).trans (Wk.heap fun i y hy => ?_)⟩
   unfold Hp.set Hp.none at hy ⊢
   grind
 ·obtain rfl:k=f.regs.length:=by omega
  rw [List.take_length] at ht
  simp
  exact yes ⟨⟨hb.1,hfl⟩,hnm,c1,c2,⟨by omega,by omega⟩,hsn,by rw [← k2 hsn];exact c4,ht⟩
def gensD (fs:List GFrame):List Int:=(fs.filter fun f => !decide (f.gen = -1)).map (·.gen)
def gensA (ts:List GThread):List Int:=ts.flatMap fun t=>gensD t.frames
theorem gensD_next {fs:List GFrame} {j:Nat} (h:j<fs.length):gensD (fs.take (j+1))=gensD (fs.take j)++if fs[j].gen = -1 then [] else [fs[j].gen]:=by
 unfold gensD
 rw [List.take_succ_eq_append_getElem h,List.filter_append,List.map_append]
 congr 1
 by_cases e:fs[j].gen = -1 <;> simp [e]
theorem gensA_next {ts:List GThread} {j:Nat} (h:j<ts.length):gensA (ts.take (j+1))=gensA (ts.take j)++gensD ts[j].frames:=by
 unfold gensA
 rw [List.take_succ_eq_append_getElem h,List.flatMap_append];simp
theorem gensD_len {fs:List GFrame} : (gensD fs).length≤fs.length:=by unfold gensD;rw [List.length_map];exact List.length_filter_le ..
theorem gensA_len {l:List GThread} {m:Nat} (h : ∀ t∈l,t.frames.length≤m):(gensA l).length≤m*l.length:=by
 unfold gensA
 induction l with
 | nil=>simp
 | cons t l ih =>
  have h1:=h t (List.mem_cons_self ..)
  have h2:=ih fun x hx=>h x (List.mem_cons_of_mem _ hx)
  have h3:=gensD_len (fs:=t.frames)
  rw [List.flatMap_cons,List.length_append,List.length_cons,Nat.mul_add]
  omega
structure GO where
 k:Nat
 a:Nat
 nx:Nat
theorem gensOf_ok (s:GState) (h5:s.threads.length≤5) (h30 : ∀ t∈s.threads,t.frames.length≤30) {K:D->List Blk->Prop} (h:K (.one (.own 0 1 (gensA s.threads).length)) [⟨.c 3,1,iRows (gensA s.threads)⟩]):DPure Tryz.prog 48 [aD (eState s)] K:=by
 refine fn_ok [0,1,2,3,5,7,9,10,11,12,16,17,18,19,24] [] Tryz.func48 rfl (by kernel_rfl) rfl rfl rfl rfl (by kernel_rfl) ?_
 simp
 intro _
 refine loopH_ok (ks := [0,1,2,3,5,7,9,10,11,12,16,17,18,19,24]) (pl := []) (n0:=33) (α := {x:GO//x.k≤s.threads.length∧1≤x.a∧x.a<x.nx}) (fun x=>[(3,.one (.own x.1.a 1 (gensA (s.threads.take x.1.k)).length)),(11,dI x.1.k)]) (fun _ x=>(Hp.none.set 0 (some ⟨.c 29,8,[(eState s).map .d]⟩)).set x.1.a (some ⟨.c 3,1,iRows (gensA (s.threads.take x.1.k))⟩)) (fun x=>x.1.nx) (fun x=>s.threads.length-x.1.k) ⟨⟨0,1,2⟩,by simp⟩ rfl (by kernel_rfl) ?_ ?_
 ·refine (Wk.emp (t:=3) 3 1 rfl).trans (Wk.of_eq ?_)
  simp [gensA,iRows]
 rintro ⟨⟨k,a,nx⟩,hk,ha,hn⟩
 simp only at hk ha hn
 have f0 : ¬ 0=a:=by omega
 have f1 : ¬ 0=nx:=by omega
 have f2 : ¬ a=nx:=by omega
 by_cases h1:k<s.threads.length
 ·have hfl:=h30 _ (List.getElem_mem h1)
  have hal:(gensA (s.threads.take k)).length≤150:=by
   have:=gensA_len (l:=s.threads.take k) (m:=30) fun t ht=>h30 t (List.mem_of_mem_take ht)
   rw [List.length_take] at this;omega
  simp [h1,f0,f1,f2]
  intro _
  refine loopH_ok (ks := [0,1,2,3,5,7,9,10,11,12,16,17,18,19,24]) (pl := []) (n0:=33) (α := {x:GO//x.k≤s.threads[k].frames.length∧1≤x.a∧x.a<x.nx∧x.a≠nx∧nx<x.nx}) (fun x=>[(3,.one (.own x.1.a 1 (gensA (s.threads.take k)++gensD (s.threads[k].frames.take x.1.k)).length)),(18,dI x.1.k)]) (fun _ x=>((Hp.none.set 0 (some ⟨.c 29,8,[(eState s).map .d]⟩)).set x.1.a (some ⟨.c 3,1,iRows (gensA (s.threads.take k)++gensD (s.threads[k].frames.take x.1.k))⟩)).set nx (some ⟨.c 90,5,[(eThread s.threads[k]).map .d]⟩)) (fun x=>x.1.nx) (fun x=>s.threads[k].frames.length-x.1.k) ⟨⟨0,a,nx+1⟩,by simp;omega⟩ rfl (by kernel_rfl) (Wk.of_eq (by simp [gensD])) ?_
  rintro ⟨⟨j,b,m⟩,hj,hb,hbm,hbn,hm⟩
  simp only at hj hb hbm hbn hm
  have e0 : ¬ 0=b:=by omega
  have e1 : ¬ b=m:=by omega
  have e2 : ¬ nx=m:=by omega
  have e3 : ¬ nx=b:=by omega
  have e4 : ¬ 0=m:=by omega
  have e5 : ¬ b=m+1:=by omega
  have e6 : ¬ b=nx:=hbn
  have e7 : ¬ nx=m+1:=by omega
  by_cases h2:j<s.threads[k].frames.length
  ·have hdn:=gensD_next h2
   have hdl:(gensD (s.threads[k].frames.take j)).length≤30:=by
    have:=gensD_len (fs:=s.threads[k].frames.take j)
    rw [List.length_take] at this;omega
   simp [h1,h2,f0,f1,f2,e0,e1,e2,e3,e4,e5,e6,e7]
   have hlen2:=congrArg List.length hdn
   rw [List.length_append] at hlen2
   refine alt (fun c => ?_) (fun c => ?_)
   ·rw [if_pos c,List.append_nil] at hdn
    refine ⟨⟨j+1,b,m+1⟩,by simp;omega,⟨by simp <;> omega,by simp <;> omega,by simp <;> omega,by simp <;> omega,by simp <;> omega⟩,?_⟩
    simp only [hdn]
    refine (Wk.sub (by simp [wrap_add (show j<9223372036854775807 by omega)])).trans (Wk.heap fun i y hy => ?_)
    unfold Hp.set Hp.none at hy ⊢
    grind
   ·rw [if_neg c] at hdn hlen2
    have hrow:iRows (gensA (s.threads.take k)++gensD (s.threads[k].frames.take (j+1)))=iRows (gensA (s.threads.take k)++gensD (s.threads[k].frames.take j))++[[.d (eI s.threads[k].frames[j].gen)]]:=by rw [hdn, ← List.append_assoc,iRows_app]
    refine ⟨fun z y e hz => ?_,by omega,⟨j+1,m+2,m+3⟩,by simp;omega,⟨by simp <;> omega,by simp <;> omega,by simp <;> omega,by simp <;> omega,by simp <;> omega⟩,?_⟩
    ·subst e
     simp [e0,e1,e2,e3,e4,e5,e6,e7] at hz
     subst hz;exact ⟨rfl,rfl⟩
    ·have htk:List.take ((gensA (s.threads.take k)).length+(gensD (s.threads[k].frames.take j)).length) (iRows (gensA (s.threads.take k)++gensD (s.threads[k].frames.take j)))=iRows (gensA (s.threads.take k)++gensD (s.threads[k].frames.take j)):=List.take_of_length_le (by simp)
     simp only [hrow,htk]
     refine (Wk.sub (by simp [hlen2,Nat.add_assoc,wrap_add (show j<9223372036854775807 by omega)])).trans (Wk.heap fun i y hy => ?_)
     unfold Hp.set Hp.none at hy ⊢
     grind
  ·obtain rfl:j=s.threads[k].frames.length:=by omega
   have han:=gensA_next h1
   simp
   refine ⟨⟨k+1,b,m⟩,by simp;omega,⟨by simp;omega,by simp;omega,by simp;omega⟩,?_⟩
   simp only [han]
   refine (Wk.sub (by simp [wrap_add (show k<9223372036854775807 by omega)])).trans (Wk.heap fun i y hy => ?_)
   unfold Hp.set Hp.none at hy ⊢
   grind
 ·obtain rfl:k=s.threads.length:=by omega
  simp
  exact h
theorem cell_gen {s:GState} {n:Int} {k:Int} (h:namesB s ⟨5,n⟩ k=true):0≤n∧n<s.cells.length:=⟨(names_in h).2.1,(names_in h).2.2.1⟩
theorem threadRight_ok (p:GProg) (hp:checkQ wordsT p=0) (s:GState) (t:GThread) (h30:t.frames.length≤30) {K:D->List Blk->Prop} (h:K (dB (threadB p s t)) []):DPure Tryz.prog 51 [aD (eProg p),aD (eState s),aD (eThread t)] K:=by
 have no : ¬ threadB p s t=true->K (dB false) []:=fun e=>kB h (Bool.eq_false_iff.2 e)
 have yes:threadB p s t=true->K (dB true) []:=fun e=>kB h e
 clear h
 rw [thread_iff] at no yes
 have hlp:=(large_lt (check_zero hp).1).1
 refine fn_ok [0,1,2,3,4,5,6,7,8,9,10,11,48,50,53,54,61,62,71,73,74,75,76,84,86,100,112,135] [] Tryz.func51 rfl (by kernel_rfl) rfl rfl rfl rfl (by kernel_rfl) ?_
 by_cases s0:t.state=0
 ·simp [s0]
  refine between_ok _ _ _ ?_
  simp [btw]
  intro _
  refine alt (fun hfl => ?_) (fun hfl=>no fun e=>by
   have h0:t.frames=[]:=List.length_eq_zero_iff.1 (by omega)
   have:=e.1;simp [overB,s0,h0] at this)
  have hf:t.frames ≠ []:=fun e=>by rw [e] at hfl;simp at hfl
  refine alt (fun c1 => ?_) (fun c1=>no fun e=>c1 (by rcases e.2.1 with e | e;(simp [overB,s0] at e);exact e))
  refine fitsIn_ok s t.val ?_
  cases hv:fitsB s t.val with
  | false =>
   simp
   exact no fun e=>by rw [e.2.2.1] at hv;cases hv
  | true =>
  simp [s0]
  refine alt (fun c2 => ?_) (fun c2=>no fun e=>c2 (by have:=e.2.2.2.2.1;simpa [onB,s0] using this))
  intro _
  refine loopH_ok (ks := [0,1,2,3,4,5,6,7,8,9,10,11,48,50,53,54,61,62,71,73,74,75,76,84,86,100,112,135]) (pl := []) (n0:=137) (α := {x:KR2//x.k≤t.frames.length∧(∀ j<x.k,stackB p s t.frames j=true)∧3≤x.nx}) (fun x=>[(75,dI x.1.k)]) (fun H _=>H) (fun x=>x.1.nx) (fun x=>t.frames.length-x.1.k) ⟨⟨0,3⟩,by simp⟩ rfl (by kernel_rfl) (Wk.sub (by simp)) ?_
  rintro ⟨⟨k,nx⟩,hk,hall,hn⟩
  simp only at hk hall hn
  have f0 : ¬ 0=nx:=by omega
  have f1 : ¬ 1=nx:=by omega
  have f2 : ¬ 2=nx:=by omega
  by_cases h1:k<t.frames.length
  ·have bad : ¬ stackB p s t.frames k=true->K (dB false) []:=fun e=>no fun e2=>e (e2.2.2.2.2.2 k h1)
   rw [stack_iff h1] at bad
   simp [h1,f0,f1,f2]
   refine frameRight_ok p hp s t.frames[k] ?_
   cases hfr:frameB p s t.frames[k] with
   | false =>
    simp
    exact bad fun e=>by rw [e.1] at hfr;cases hfr
   | true =>
   have hfb:=(frame_iff.1 hfr).1
   have hfe:=(List.getElem?_eq_some_iff.1 (fn_at hfb.1 hfb.2)).2
   cases k with
   | zero =>
    simp [h1,f0,f1,f2]
    rw [show IntKind.i64.wrap (-1) = -1 by kernel_rfl]
    refine between_ok _ _ _ ?_
    cases hb:btw t.frames[0].to (-1) (-1) with
    | false =>
     simp
     exact bad fun e=>by have:=e.2.1;simp [btw] at hb;simp at this;omega
    | true =>
    simp [btw] at hb
    simp [h1,f0,f1,f2,hfb.1,hfb.2,hfe]
    refine alt (fun c=>bad (fun e=>by
     have e2:=e.2.2
     by_cases hg:(fnAt p t.frames[0].fn).gen=true
     ·rw [if_pos hg] at e2
      rw [hg] at c
      have:=of_decide_eq_true c.symm
      omega
     ·rw [if_neg hg] at e2
      rw [Bool.eq_false_iff.2 hg] at c
      exact absurd e2 (of_decide_eq_false c.symm))) (fun c => ?_)
    refine alt (fun hg=>bad fun e=>by have:=e.2.2;rw [if_pos hg] at this;exact absurd this.2.1 (by omega)) (fun hg => ?_)
    have hgm:t.frames[0].gen = -1:=by
     rw [Bool.eq_false_iff.2 hg] at c
     simpa using c
    have hst:stackB p s t.frames 0=true:=(stack_iff h1).2 ⟨hfr,⟨by omega,by simp;omega⟩,by rw [if_neg hg];exact hgm⟩
    refine ⟨⟨0+1,nx+1⟩,by simp <;> omega,⟨by simp <;> omega,fun i hi => ?_,by simp <;> omega⟩,(Wk.sub (by simp [show IntKind.i64.wrap 1=1 by kernel_rfl])).trans (Wk.heap fun i y hy => ?_)⟩
    ·by_cases e:i=0
     ·rw [e];exact hst
     ·exact hall i (by simp at hi;omega)
    ·unfold Hp.set Hp.none at hy ⊢
     grind
   | succ j =>
    have hj:j<t.frames.length:=by omega
    have hwj:IntKind.i64.wrap (j:Int)=j:=wrap_id (by omega) (by omega)
    simp [h1,f0,f1,f2,hj,hwj]
    intro _
    rw [show IntKind.i64.wrap ((t.frames[j].regs.length:Int)-1)=(t.frames[j].regs.length:Int)-1 from wrap_id (by omega) (by omega)]
    have hgj:(t.frames.getD (j+1-1) dFrame)=t.frames[j]:=by rw [Nat.add_sub_cancel,List.getD_eq_getElem?_getD,List.getElem?_eq_getElem hj];rfl
    rw [hgj] at bad
    refine between_ok _ _ _ ?_
    cases hb:btw t.frames[j+1].to (-1) ((t.frames[j].regs.length:Int)-1) with
    | false =>
     simp
     exact bad fun e=>by have:=e.2.1;simp [btw] at hb;simp at this;omega
    | true =>
    simp [btw] at hb
    simp [h1,f0,f1,f2,hfb.1,hfb.2,hfe]
    refine alt (fun c=>bad (fun e=>by
     have e2:=e.2.2
     by_cases hg:(fnAt p t.frames[j+1].fn).gen=true
     ·rw [if_pos hg] at e2
      rw [hg] at c
      have:=of_decide_eq_true c.symm
      omega
     ·rw [if_neg hg] at e2
      rw [Bool.eq_false_iff.2 hg] at c
      exact absurd e2 (of_decide_eq_false c.symm))) (fun c => ?_)
    have hwj2:IntKind.i64.wrap ((j:Int)+1+1)=(j:Int)+1+1:=wrap_id (by omega) (by omega)
    refine alt (fun hg => ?_) (fun hg => ?_)
    ·rw [if_neg (by omega)]
     refine kindIn_ok s ⟨5,t.frames[j+1].gen⟩ 5 ?_
     cases hk5:namesB s ⟨5,t.frames[j+1].gen⟩ 5 with
     | false =>
      simp
      exact bad fun e=>by have:=e.2.2;rw [if_pos hg] at this;rw [this.2.2.1] at hk5;cases hk5
     | true =>
      obtain ⟨w0,w1⟩:=cell_gen hk5
      have hce:=(List.getElem?_eq_some_iff.1 (cell_get w0 w1)).2
      simp [h1,f0,f1,f2,w0,w1,hce]
      refine alt (fun c5 => ?_) (fun c5=>bad fun e=>by have:=e.2.2;rw [if_pos hg] at this;exact c5 this.2.2.2)
      have hst:stackB p s t.frames (j+1)=true:=(stack_iff h1).2 ⟨hfr,⟨by omega,by rw [if_neg (by omega),hgj];omega⟩,by rw [if_pos hg];exact ⟨w0,by omega,hk5,c5⟩⟩
      refine ⟨⟨(j+1)+1,nx+1⟩,by simp <;> omega,⟨by simp <;> omega,fun i hi => ?_,by simp <;> omega⟩,(Wk.sub (by simp [hwj2])).trans (Wk.heap fun i y hy => ?_)⟩
      ·by_cases e:i=(j+1)
       ·rw [e];exact hst
       ·exact hall i (by simp at hi;omega)
      ·unfold Hp.set Hp.none at hy ⊢
       grind
    ·have hgm:t.frames[j+1].gen = -1:=by
      rw [Bool.eq_false_iff.2 hg] at c
      simpa using c
     have hst:stackB p s t.frames (j+1)=true:=(stack_iff h1).2 ⟨hfr,⟨by omega,by rw [if_neg (by omega),hgj];omega⟩,by rw [if_neg hg];exact hgm⟩
     refine ⟨⟨(j+1)+1,nx+1⟩,by simp <;> omega,⟨by simp <;> omega,fun i hi => ?_,by simp <;> omega⟩,(Wk.sub (by simp [hwj2])).trans (Wk.heap fun i y hy => ?_)⟩
     ·by_cases e:i=(j+1)
      ·rw [e];exact hst
      ·exact hall i (by simp at hi;omega)
     ·unfold Hp.set Hp.none at hy ⊢
      grind
  obtain rfl:k=t.frames.length:=by omega
  simp
  exact yes ⟨by simp [overB,s0,hf],.inr c1,hv,by simp [btw,s0],by simp [onB,s0,c2],hall⟩
 by_cases s1:t.state=1
 ·simp [s1]
  refine between_ok _ _ _ ?_
  simp [btw]
  intro _
  refine alt (fun hfl => ?_) (fun hfl=>no fun e=>by
   have h0:t.frames=[]:=List.length_eq_zero_iff.1 (by omega)
   have:=e.1;simp [overB,s1,h0] at this)
  have hf:t.frames ≠ []:=fun e=>by rw [e] at hfl;simp at hfl
  refine alt (fun c1 => ?_) (fun c1=>no fun e=>c1 (by rcases e.2.1 with e | e;(simp [overB,s1] at e);exact e))
  refine fitsIn_ok s t.val ?_
  cases hv:fitsB s t.val with
  | false =>
   simp
   exact no fun e=>by rw [e.2.2.1] at hv;cases hv
  | true =>
  simp [s1]
  refine kindIn_ok s ⟨5,t.on⟩ 6 ?_
  cases hk6:namesB s ⟨5,t.on⟩ 6 with
  | false =>
   simp
   exact no fun e=>by have:=e.2.2.2.2.1;simp [onB,s1,hk6] at this
  | true =>
  simp
  intro _
  refine loopH_ok (ks := [0,1,2,3,4,5,6,7,8,9,10,11,48,50,53,54,61,62,71,73,74,75,76,84,86,100,112,135]) (pl := []) (n0:=137) (α := {x:KR2//x.k≤t.frames.length∧(∀ j<x.k,stackB p s t.frames j=true)∧3≤x.nx}) (fun x=>[(75,dI x.1.k)]) (fun H _=>H) (fun x=>x.1.nx) (fun x=>t.frames.length-x.1.k) ⟨⟨0,3⟩,by simp⟩ rfl (by kernel_rfl) (Wk.sub (by simp)) ?_
  rintro ⟨⟨k,nx⟩,hk,hall,hn⟩
  simp only at hk hall hn
  have f0 : ¬ 0=nx:=by omega
  have f1 : ¬ 1=nx:=by omega
  have f2 : ¬ 2=nx:=by omega
  by_cases h1:k<t.frames.length
  ·have bad : ¬ stackB p s t.frames k=true->K (dB false) []:=fun e=>no fun e2=>e (e2.2.2.2.2.2 k h1)
   rw [stack_iff h1] at bad
   simp [h1,f0,f1,f2]
   refine frameRight_ok p hp s t.frames[k] ?_
   cases hfr:frameB p s t.frames[k] with
   | false =>
    simp
    exact bad fun e=>by rw [e.1] at hfr;cases hfr
   | true =>
   have hfb:=(frame_iff.1 hfr).1
   have hfe:=(List.getElem?_eq_some_iff.1 (fn_at hfb.1 hfb.2)).2
   cases k with
   | zero =>
    simp [h1,f0,f1,f2]
    rw [show IntKind.i64.wrap (-1) = -1 by kernel_rfl]
    refine between_ok _ _ _ ?_
    cases hb:btw t.frames[0].to (-1) (-1) with
    | false =>
     simp
     exact bad fun e=>by have:=e.2.1;simp [btw] at hb;simp at this;omega
    | true =>
    simp [btw] at hb
    simp [h1,f0,f1,f2,hfb.1,hfb.2,hfe]
    refine alt (fun c=>bad (fun e=>by
     have e2:=e.2.2
     by_cases hg:(fnAt p t.frames[0].fn).gen=true
     ·rw [if_pos hg] at e2
      rw [hg] at c
      have:=of_decide_eq_true c.symm
      omega
     ·rw [if_neg hg] at e2
      rw [Bool.eq_false_iff.2 hg] at c
      exact absurd e2 (of_decide_eq_false c.symm))) (fun c => ?_)
    refine alt (fun hg=>bad fun e=>by have:=e.2.2;rw [if_pos hg] at this;exact absurd this.2.1 (by omega)) (fun hg => ?_)
    have hgm:t.frames[0].gen = -1:=by
     rw [Bool.eq_false_iff.2 hg] at c
     simpa using c
    have hst:stackB p s t.frames 0=true:=(stack_iff h1).2 ⟨hfr,⟨by omega,by simp;omega⟩,by rw [if_neg hg];exact hgm⟩
    refine ⟨⟨0+1,nx+1⟩,by simp <;> omega,⟨by simp <;> omega,fun i hi => ?_,by simp <;> omega⟩,(Wk.sub (by simp [show IntKind.i64.wrap 1=1 by kernel_rfl])).trans (Wk.heap fun i y hy => ?_)⟩
    ·by_cases e:i=0
     ·rw [e];exact hst
     ·exact hall i (by simp at hi;omega)
    ·unfold Hp.set Hp.none at hy ⊢
     grind
   | succ j =>
    have hj:j<t.frames.length:=by omega
    have hwj:IntKind.i64.wrap (j:Int)=j:=wrap_id (by omega) (by omega)
    simp [h1,f0,f1,f2,hj,hwj]
    intro _
    rw [show IntKind.i64.wrap ((t.frames[j].regs.length:Int)-1)=(t.frames[j].regs.length:Int)-1 from wrap_id (by omega) (by omega)]
    have hgj:(t.frames.getD (j+1-1) dFrame)=t.frames[j]:=by rw [Nat.add_sub_cancel,List.getD_eq_getElem?_getD,List.getElem?_eq_getElem hj];rfl
    rw [hgj] at bad
    refine between_ok _ _ _ ?_
    cases hb:btw t.frames[j+1].to (-1) ((t.frames[j].regs.length:Int)-1) with
    | false =>
     simp
     exact bad fun e=>by have:=e.2.1;simp [btw] at hb;simp at this;omega
    | true =>
    simp [btw] at hb
    simp [h1,f0,f1,f2,hfb.1,hfb.2,hfe]
    refine alt (fun c=>bad (fun e=>by
     have e2:=e.2.2
     by_cases hg:(fnAt p t.frames[j+1].fn).gen=true
     ·rw [if_pos hg] at e2
      rw [hg] at c
      have:=of_decide_eq_true c.symm
      omega
     ·rw [if_neg hg] at e2
      rw [Bool.eq_false_iff.2 hg] at c
      exact absurd e2 (of_decide_eq_false c.symm))) (fun c => ?_)
    have hwj2:IntKind.i64.wrap ((j:Int)+1+1)=(j:Int)+1+1:=wrap_id (by omega) (by omega)
    refine alt (fun hg => ?_) (fun hg => ?_)
    ·rw [if_neg (by omega)]
     refine kindIn_ok s ⟨5,t.frames[j+1].gen⟩ 5 ?_
     cases hk5:namesB s ⟨5,t.frames[j+1].gen⟩ 5 with
     | false =>
      simp
      exact bad fun e=>by have:=e.2.2;rw [if_pos hg] at this;rw [this.2.2.1] at hk5;cases hk5
     | true =>
      obtain ⟨w0,w1⟩:=cell_gen hk5
      have hce:=(List.getElem?_eq_some_iff.1 (cell_get w0 w1)).2
      simp [h1,f0,f1,f2,w0,w1,hce]
      refine alt (fun c5 => ?_) (fun c5=>bad fun e=>by have:=e.2.2;rw [if_pos hg] at this;exact c5 this.2.2.2)
      have hst:stackB p s t.frames (j+1)=true:=(stack_iff h1).2 ⟨hfr,⟨by omega,by rw [if_neg (by omega),hgj];omega⟩,by rw [if_pos hg];exact ⟨w0,by omega,hk5,c5⟩⟩
      refine ⟨⟨(j+1)+1,nx+1⟩,by simp <;> omega,⟨by simp <;> omega,fun i hi => ?_,by simp <;> omega⟩,(Wk.sub (by simp [hwj2])).trans (Wk.heap fun i y hy => ?_)⟩
      ·by_cases e:i=(j+1)
       ·rw [e];exact hst
       ·exact hall i (by simp at hi;omega)
      ·unfold Hp.set Hp.none at hy ⊢
       grind
    ·have hgm:t.frames[j+1].gen = -1:=by
      rw [Bool.eq_false_iff.2 hg] at c
      simpa using c
     have hst:stackB p s t.frames (j+1)=true:=(stack_iff h1).2 ⟨hfr,⟨by omega,by rw [if_neg (by omega),hgj];omega⟩,by rw [if_neg hg];exact hgm⟩
     refine ⟨⟨(j+1)+1,nx+1⟩,by simp <;> omega,⟨by simp <;> omega,fun i hi => ?_,by simp <;> omega⟩,(Wk.sub (by simp [hwj2])).trans (Wk.heap fun i y hy => ?_)⟩
     ·by_cases e:i=(j+1)
      ·rw [e];exact hst
      ·exact hall i (by simp at hi;omega)
     ·unfold Hp.set Hp.none at hy ⊢
      grind
  obtain rfl:k=t.frames.length:=by omega
  simp
  exact yes ⟨by simp [overB,s1,hf],.inr c1,hv,by simp [btw,s1],by simp [onB,s1,hk6],hall⟩
 by_cases s2:t.state=2
 ·simp [s2]
  refine between_ok _ _ _ ?_
  simp [btw]
  intro _
  refine alt (fun hfl => ?_) (fun hfl=>no fun e=>by
   have h0:t.frames=[]:=List.length_eq_zero_iff.1 (by omega)
   have:=e.1;simp [overB,s2,h0] at this)
  have hf:t.frames ≠ []:=fun e=>by rw [e] at hfl;simp at hfl
  refine alt (fun c1 => ?_) (fun c1=>no fun e=>c1 (by rcases e.2.1 with e | e;(simp [overB,s2] at e);exact e))
  refine fitsIn_ok s t.val ?_
  cases hv:fitsB s t.val with
  | false =>
   simp
   exact no fun e=>by rw [e.2.2.1] at hv;cases hv
  | true =>
  simp [s2]
  intro _
  rw [show IntKind.i64.wrap ((s.threads.length:Int)-1)=(s.threads.length:Int)-1 from wrap_id (by omega) (by omega)]
  refine between_ok _ _ _ ?_
  cases hb2:btw t.on 0 ((s.threads.length:Int)-1) with
  | false =>
   simp
   exact no fun e=>by have:=e.2.2.2.2.1;simp [onB,s2] at this;simp [btw] at hb2;omega
  | true =>
  simp [btw] at hb2
  simp
  intro _
  refine loopH_ok (ks := [0,1,2,3,4,5,6,7,8,9,10,11,48,50,53,54,61,62,71,73,74,75,76,84,86,100,112,135]) (pl := []) (n0:=137) (α := {x:KR2//x.k≤t.frames.length∧(∀ j<x.k,stackB p s t.frames j=true)∧3≤x.nx}) (fun x=>[(75,dI x.1.k)]) (fun H _=>H) (fun x=>x.1.nx) (fun x=>t.frames.length-x.1.k) ⟨⟨0,3⟩,by simp⟩ rfl (by kernel_rfl) (Wk.sub (by simp)) ?_
  rintro ⟨⟨k,nx⟩,hk,hall,hn⟩
  simp only at hk hall hn
  have f0 : ¬ 0=nx:=by omega
  have f1 : ¬ 1=nx:=by omega
  have f2 : ¬ 2=nx:=by omega
  by_cases h1:k<t.frames.length
  ·have bad : ¬ stackB p s t.frames k=true->K (dB false) []:=fun e=>no fun e2=>e (e2.2.2.2.2.2 k h1)
   rw [stack_iff h1] at bad
   simp [h1,f0,f1,f2]
   refine frameRight_ok p hp s t.frames[k] ?_
   cases hfr:frameB p s t.frames[k] with
   | false =>
    simp
    exact bad fun e=>by rw [e.1] at hfr;cases hfr
   | true =>
   have hfb:=(frame_iff.1 hfr).1
   have hfe:=(List.getElem?_eq_some_iff.1 (fn_at hfb.1 hfb.2)).2
   cases k with
   | zero =>
    simp [h1,f0,f1,f2]
    rw [show IntKind.i64.wrap (-1) = -1 by kernel_rfl]
    refine between_ok _ _ _ ?_
    cases hb:btw t.frames[0].to (-1) (-1) with
    | false =>
     simp
     exact bad fun e=>by have:=e.2.1;simp [btw] at hb;simp at this;omega
    | true =>
    simp [btw] at hb
    simp [h1,f0,f1,f2,hfb.1,hfb.2,hfe]
    refine alt (fun c=>bad (fun e=>by
     have e2:=e.2.2
     by_cases hg:(fnAt p t.frames[0].fn).gen=true
     ·rw [if_pos hg] at e2
      rw [hg] at c
      have:=of_decide_eq_true c.symm
      omega
     ·rw [if_neg hg] at e2
      rw [Bool.eq_false_iff.2 hg] at c
      exact absurd e2 (of_decide_eq_false c.symm))) (fun c => ?_)
    refine alt (fun hg=>bad fun e=>by have:=e.2.2;rw [if_pos hg] at this;exact absurd this.2.1 (by omega)) (fun hg => ?_)
    have hgm:t.frames[0].gen = -1:=by
     rw [Bool.eq_false_iff.2 hg] at c
     simpa using c
    have hst:stackB p s t.frames 0=true:=(stack_iff h1).2 ⟨hfr,⟨by omega,by simp;omega⟩,by rw [if_neg hg];exact hgm⟩
    refine ⟨⟨0+1,nx+1⟩,by simp <;> omega,⟨by simp <;> omega,fun i hi => ?_,by simp <;> omega⟩,(Wk.sub (by simp [show IntKind.i64.wrap 1=1 by kernel_rfl])).trans (Wk.heap fun i y hy => ?_)⟩
    ·by_cases e:i=0
     ·rw [e];exact hst
     ·exact hall i (by simp at hi;omega)
    ·unfold Hp.set Hp.none at hy ⊢
     grind
   | succ j =>
    have hj:j<t.frames.length:=by omega
    have hwj:IntKind.i64.wrap (j:Int)=j:=wrap_id (by omega) (by omega)
    simp [h1,f0,f1,f2,hj,hwj]
    intro _
    rw [show IntKind.i64.wrap ((t.frames[j].regs.length:Int)-1)=(t.frames[j].regs.length:Int)-1 from wrap_id (by omega) (by omega)]
    have hgj:(t.frames.getD (j+1-1) dFrame)=t.frames[j]:=by rw [Nat.add_sub_cancel,List.getD_eq_getElem?_getD,List.getElem?_eq_getElem hj];rfl
    rw [hgj] at bad
    refine between_ok _ _ _ ?_
    cases hb:btw t.frames[j+1].to (-1) ((t.frames[j].regs.length:Int)-1) with
    | false =>
     simp
     exact bad fun e=>by have:=e.2.1;simp [btw] at hb;simp at this;omega
    | true =>
    simp [btw] at hb
    simp [h1,f0,f1,f2,hfb.1,hfb.2,hfe]
    refine alt (fun c=>bad (fun e=>by
     have e2:=e.2.2
     by_cases hg:(fnAt p t.frames[j+1].fn).gen=true
     ·rw [if_pos hg] at e2
      rw [hg] at c
      have:=of_decide_eq_true c.symm
      omega
     ·rw [if_neg hg] at e2
      rw [Bool.eq_false_iff.2 hg] at c
      exact absurd e2 (of_decide_eq_false c.symm))) (fun c => ?_)
    have hwj2:IntKind.i64.wrap ((j:Int)+1+1)=(j:Int)+1+1:=wrap_id (by omega) (by omega)
    refine alt (fun hg => ?_) (fun hg => ?_)
    ·rw [if_neg (by omega)]
     refine kindIn_ok s ⟨5,t.frames[j+1].gen⟩ 5 ?_
     cases hk5:namesB s ⟨5,t.frames[j+1].gen⟩ 5 with
     | false =>
      simp
      exact bad fun e=>by have:=e.2.2;rw [if_pos hg] at this;rw [this.2.2.1] at hk5;cases hk5
     | true =>
      obtain ⟨w0,w1⟩:=cell_gen hk5
      have hce:=(List.getElem?_eq_some_iff.1 (cell_get w0 w1)).2
      simp [h1,f0,f1,f2,w0,w1,hce]
      refine alt (fun c5 => ?_) (fun c5=>bad fun e=>by have:=e.2.2;rw [if_pos hg] at this;exact c5 this.2.2.2)
      have hst:stackB p s t.frames (j+1)=true:=(stack_iff h1).2 ⟨hfr,⟨by omega,by rw [if_neg (by omega),hgj];omega⟩,by rw [if_pos hg];exact ⟨w0,by omega,hk5,c5⟩⟩
      refine ⟨⟨(j+1)+1,nx+1⟩,by simp <;> omega,⟨by simp <;> omega,fun i hi => ?_,by simp <;> omega⟩,(Wk.sub (by simp [hwj2])).trans (Wk.heap fun i y hy => ?_)⟩
      ·by_cases e:i=(j+1)
       ·rw [e];exact hst
       ·exact hall i (by simp at hi;omega)
      ·unfold Hp.set Hp.none at hy ⊢
       grind
    ·have hgm:t.frames[j+1].gen = -1:=by
      rw [Bool.eq_false_iff.2 hg] at c
      simpa using c
     have hst:stackB p s t.frames (j+1)=true:=(stack_iff h1).2 ⟨hfr,⟨by omega,by rw [if_neg (by omega),hgj];omega⟩,by rw [if_neg hg];exact hgm⟩
     refine ⟨⟨(j+1)+1,nx+1⟩,by simp <;> omega,⟨by simp <;> omega,fun i hi => ?_,by simp <;> omega⟩,(Wk.sub (by simp [hwj2])).trans (Wk.heap fun i y hy => ?_)⟩
     ·by_cases e:i=(j+1)
      ·rw [e];exact hst
      ·exact hall i (by simp at hi;omega)
     ·unfold Hp.set Hp.none at hy ⊢
      grind
  obtain rfl:k=t.frames.length:=by omega
  simp
  exact yes ⟨by simp [overB,s2,hf],.inr c1,hv,by simp [btw,s2],by simp [onB,s2];omega,hall⟩
 by_cases s3:t.state=3
 ·simp [s3]
  refine between_ok _ _ _ ?_
  simp [btw]
  intro _
  refine alt (fun hf => ?_) (fun hf=>no fun e=>hf (by have:=e.1;simpa [overB,s3] using this))
  refine fitsIn_ok s t.val ?_
  cases hv:fitsB s t.val with
  | false =>
   simp
   exact no fun e=>by rw [e.2.2.1] at hv;cases hv
  | true =>
  simp [s3]
  refine alt (fun c2 => ?_) (fun c2=>no fun e=>c2 (by have:=e.2.2.2.2.1;simpa [onB,s3] using this))
  intro _
  refine loopH_ok (ks := [0,1,2,3,4,5,6,7,8,9,10,11,48,50,53,54,61,62,71,73,74,75,76,84,86,100,112,135]) (pl := []) (n0:=137) (α := {x:KR2//x.k≤t.frames.length∧(∀ j<x.k,stackB p s t.frames j=true)∧3≤x.nx}) (fun x=>[(75,dI x.1.k)]) (fun H _=>H) (fun x=>x.1.nx) (fun x=>t.frames.length-x.1.k) ⟨⟨0,3⟩,by simp⟩ rfl (by kernel_rfl) (Wk.sub (by simp)) ?_
  rintro ⟨⟨k,nx⟩,hk,hall,hn⟩
  simp only at hk hall hn
  have f0 : ¬ 0=nx:=by omega
  have f1 : ¬ 1=nx:=by omega
  have f2 : ¬ 2=nx:=by omega
  by_cases h1:k<t.frames.length
  ·have bad : ¬ stackB p s t.frames k=true->K (dB false) []:=fun e=>no fun e2=>e (e2.2.2.2.2.2 k h1)
   rw [stack_iff h1] at bad
   simp [h1,f0,f1,f2]
   refine frameRight_ok p hp s t.frames[k] ?_
   cases hfr:frameB p s t.frames[k] with
   | false =>
    simp
    exact bad fun e=>by rw [e.1] at hfr;cases hfr
   | true =>
   have hfb:=(frame_iff.1 hfr).1
   have hfe:=(List.getElem?_eq_some_iff.1 (fn_at hfb.1 hfb.2)).2
   cases k with
   | zero =>
    simp [h1,f0,f1,f2]
    rw [show IntKind.i64.wrap (-1) = -1 by kernel_rfl]
    refine between_ok _ _ _ ?_
    cases hb:btw t.frames[0].to (-1) (-1) with
    | false =>
     simp
     exact bad fun e=>by have:=e.2.1;simp [btw] at hb;simp at this;omega
    | true =>
    simp [btw] at hb
    simp [h1,f0,f1,f2,hfb.1,hfb.2,hfe]
    refine alt (fun c=>bad (fun e=>by
     have e2:=e.2.2
     by_cases hg:(fnAt p t.frames[0].fn).gen=true
     ·rw [if_pos hg] at e2
      rw [hg] at c
      have:=of_decide_eq_true c.symm
      omega
     ·rw [if_neg hg] at e2
      rw [Bool.eq_false_iff.2 hg] at c
      exact absurd e2 (of_decide_eq_false c.symm))) (fun c => ?_)
    refine alt (fun hg=>bad fun e=>by have:=e.2.2;rw [if_pos hg] at this;exact absurd this.2.1 (by omega)) (fun hg => ?_)
    have hgm:t.frames[0].gen = -1:=by
     rw [Bool.eq_false_iff.2 hg] at c
     simpa using c
    have hst:stackB p s t.frames 0=true:=(stack_iff h1).2 ⟨hfr,⟨by omega,by simp;omega⟩,by rw [if_neg hg];exact hgm⟩
    refine ⟨⟨0+1,nx+1⟩,by simp <;> omega,⟨by simp <;> omega,fun i hi => ?_,by simp <;> omega⟩,(Wk.sub (by simp [show IntKind.i64.wrap 1=1 by kernel_rfl])).trans (Wk.heap fun i y hy => ?_)⟩
    ·by_cases e:i=0
     ·rw [e];exact hst
     ·exact hall i (by simp at hi;omega)
    ·unfold Hp.set Hp.none at hy ⊢
     grind
   | succ j =>
    have hj:j<t.frames.length:=by omega
    have hwj:IntKind.i64.wrap (j:Int)=j:=wrap_id (by omega) (by omega)
    simp [h1,f0,f1,f2,hj,hwj]
    intro _
    rw [show IntKind.i64.wrap ((t.frames[j].regs.length:Int)-1)=(t.frames[j].regs.length:Int)-1 from wrap_id (by omega) (by omega)]
    have hgj:(t.frames.getD (j+1-1) dFrame)=t.frames[j]:=by rw [Nat.add_sub_cancel,List.getD_eq_getElem?_getD,List.getElem?_eq_getElem hj];rfl
    rw [hgj] at bad
    refine between_ok _ _ _ ?_
    cases hb:btw t.frames[j+1].to (-1) ((t.frames[j].regs.length:Int)-1) with
    | false =>
     simp
     exact bad fun e=>by have:=e.2.1;simp [btw] at hb;simp at this;omega
    | true =>
    simp [btw] at hb
    simp [h1,f0,f1,f2,hfb.1,hfb.2,hfe]
    refine alt (fun c=>bad (fun e=>by
     have e2:=e.2.2
     by_cases hg:(fnAt p t.frames[j+1].fn).gen=true
     ·rw [if_pos hg] at e2
      rw [hg] at c
      have:=of_decide_eq_true c.symm
      omega
     ·rw [if_neg hg] at e2
      rw [Bool.eq_false_iff.2 hg] at c
      exact absurd e2 (of_decide_eq_false c.symm))) (fun c => ?_)
    have hwj2:IntKind.i64.wrap ((j:Int)+1+1)=(j:Int)+1+1:=wrap_id (by omega) (by omega)
    refine alt (fun hg => ?_) (fun hg => ?_)
    ·rw [if_neg (by omega)]
     refine kindIn_ok s ⟨5,t.frames[j+1].gen⟩ 5 ?_
     cases hk5:namesB s ⟨5,t.frames[j+1].gen⟩ 5 with
     | false =>
      simp
      exact bad fun e=>by have:=e.2.2;rw [if_pos hg] at this;rw [this.2.2.1] at hk5;cases hk5
     | true =>
      obtain ⟨w0,w1⟩:=cell_gen hk5
      have hce:=(List.getElem?_eq_some_iff.1 (cell_get w0 w1)).2
      simp [h1,f0,f1,f2,w0,w1,hce]
      refine alt (fun c5 => ?_) (fun c5=>bad fun e=>by have:=e.2.2;rw [if_pos hg] at this;exact c5 this.2.2.2)
      have hst:stackB p s t.frames (j+1)=true:=(stack_iff h1).2 ⟨hfr,⟨by omega,by rw [if_neg (by omega),hgj];omega⟩,by rw [if_pos hg];exact ⟨w0,by omega,hk5,c5⟩⟩
      refine ⟨⟨(j+1)+1,nx+1⟩,by simp <;> omega,⟨by simp <;> omega,fun i hi => ?_,by simp <;> omega⟩,(Wk.sub (by simp [hwj2])).trans (Wk.heap fun i y hy => ?_)⟩
      ·by_cases e:i=(j+1)
       ·rw [e];exact hst
       ·exact hall i (by simp at hi;omega)
      ·unfold Hp.set Hp.none at hy ⊢
       grind
    ·have hgm:t.frames[j+1].gen = -1:=by
      rw [Bool.eq_false_iff.2 hg] at c
      simpa using c
     have hst:stackB p s t.frames (j+1)=true:=(stack_iff h1).2 ⟨hfr,⟨by omega,by rw [if_neg (by omega),hgj];omega⟩,by rw [if_neg hg];exact hgm⟩
     refine ⟨⟨(j+1)+1,nx+1⟩,by simp <;> omega,⟨by simp <;> omega,fun i hi => ?_,by simp <;> omega⟩,(Wk.sub (by simp [hwj2])).trans (Wk.heap fun i y hy => ?_)⟩
     ·by_cases e:i=(j+1)
      ·rw [e];exact hst
      ·exact hall i (by simp at hi;omega)
     ·unfold Hp.set Hp.none at hy ⊢
      grind
  obtain rfl:k=t.frames.length:=by omega
  simp
  exact yes ⟨by simp [overB,s3,hf],.inl (by simp [overB,s3]),hv,by simp [btw,s3],by simp [onB,s3,c2],hall⟩
 by_cases s4:t.state=4
 ·simp [s4]
  refine between_ok _ _ _ ?_
  simp [btw]
  intro _
  refine alt (fun hf => ?_) (fun hf=>no fun e=>hf (by have:=e.1;simpa [overB,s4] using this))
  refine fitsIn_ok s t.val ?_
  cases hv:fitsB s t.val with
  | false =>
   simp
   exact no fun e=>by rw [e.2.2.1] at hv;cases hv
  | true =>
  simp [s4]
  refine alt (fun c2 => ?_) (fun c2=>no fun e=>c2 (by have:=e.2.2.2.2.1;simpa [onB,s4] using this))
  intro _
  refine loopH_ok (ks := [0,1,2,3,4,5,6,7,8,9,10,11,48,50,53,54,61,62,71,73,74,75,76,84,86,100,112,135]) (pl := []) (n0:=137) (α := {x:KR2//x.k≤t.frames.length∧(∀ j<x.k,stackB p s t.frames j=true)∧3≤x.nx}) (fun x=>[(75,dI x.1.k)]) (fun H _=>H) (fun x=>x.1.nx) (fun x=>t.frames.length-x.1.k) ⟨⟨0,3⟩,by simp⟩ rfl (by kernel_rfl) (Wk.sub (by simp)) ?_
  rintro ⟨⟨k,nx⟩,hk,hall,hn⟩
  simp only at hk hall hn
  have f0 : ¬ 0=nx:=by omega
  have f1 : ¬ 1=nx:=by omega
  have f2 : ¬ 2=nx:=by omega
  by_cases h1:k<t.frames.length
  ·have bad : ¬ stackB p s t.frames k=true->K (dB false) []:=fun e=>no fun e2=>e (e2.2.2.2.2.2 k h1)
   rw [stack_iff h1] at bad
   simp [h1,f0,f1,f2]
   refine frameRight_ok p hp s t.frames[k] ?_
   cases hfr:frameB p s t.frames[k] with
   | false =>
    simp
    exact bad fun e=>by rw [e.1] at hfr;cases hfr
   | true =>
   have hfb:=(frame_iff.1 hfr).1
   have hfe:=(List.getElem?_eq_some_iff.1 (fn_at hfb.1 hfb.2)).2
   cases k with
   | zero =>
    simp [h1,f0,f1,f2]
    rw [show IntKind.i64.wrap (-1) = -1 by kernel_rfl]
    refine between_ok _ _ _ ?_
    cases hb:btw t.frames[0].to (-1) (-1) with
    | false =>
     simp
     exact bad fun e=>by have:=e.2.1;simp [btw] at hb;simp at this;omega
    | true =>
    simp [btw] at hb
    simp [h1,f0,f1,f2,hfb.1,hfb.2,hfe]
    refine alt (fun c=>bad (fun e=>by
     have e2:=e.2.2
     by_cases hg:(fnAt p t.frames[0].fn).gen=true
     ·rw [if_pos hg] at e2
      rw [hg] at c
      have:=of_decide_eq_true c.symm
      omega
     ·rw [if_neg hg] at e2
      rw [Bool.eq_false_iff.2 hg] at c
      exact absurd e2 (of_decide_eq_false c.symm))) (fun c => ?_)
    refine alt (fun hg=>bad fun e=>by have:=e.2.2;rw [if_pos hg] at this;exact absurd this.2.1 (by omega)) (fun hg => ?_)
    have hgm:t.frames[0].gen = -1:=by
     rw [Bool.eq_false_iff.2 hg] at c
     simpa using c
    have hst:stackB p s t.frames 0=true:=(stack_iff h1).2 ⟨hfr,⟨by omega,by simp;omega⟩,by rw [if_neg hg];exact hgm⟩
    refine ⟨⟨0+1,nx+1⟩,by simp <;> omega,⟨by simp <;> omega,fun i hi => ?_,by simp <;> omega⟩,(Wk.sub (by simp [show IntKind.i64.wrap 1=1 by kernel_rfl])).trans (Wk.heap fun i y hy => ?_)⟩
    ·by_cases e:i=0
     ·rw [e];exact hst
     ·exact hall i (by simp at hi;omega)
    ·unfold Hp.set Hp.none at hy ⊢
     grind
   | succ j =>
    have hj:j<t.frames.length:=by omega
    have hwj:IntKind.i64.wrap (j:Int)=j:=wrap_id (by omega) (by omega)
    simp [h1,f0,f1,f2,hj,hwj]
    intro _
    rw [show IntKind.i64.wrap ((t.frames[j].regs.length:Int)-1)=(t.frames[j].regs.length:Int)-1 from wrap_id (by omega) (by omega)]
    have hgj:(t.frames.getD (j+1-1) dFrame)=t.frames[j]:=by rw [Nat.add_sub_cancel,List.getD_eq_getElem?_getD,List.getElem?_eq_getElem hj];rfl
    rw [hgj] at bad
    refine between_ok _ _ _ ?_
    cases hb:btw t.frames[j+1].to (-1) ((t.frames[j].regs.length:Int)-1) with
    | false =>
     simp
     exact bad fun e=>by have:=e.2.1;simp [btw] at hb;simp at this;omega
    | true =>
    simp [btw] at hb
    simp [h1,f0,f1,f2,hfb.1,hfb.2,hfe]
    refine alt (fun c=>bad (fun e=>by
     have e2:=e.2.2
     by_cases hg:(fnAt p t.frames[j+1].fn).gen=true
     ·rw [if_pos hg] at e2
      rw [hg] at c
      have:=of_decide_eq_true c.symm
      omega
     ·rw [if_neg hg] at e2
      rw [Bool.eq_false_iff.2 hg] at c
      exact absurd e2 (of_decide_eq_false c.symm))) (fun c => ?_)
    have hwj2:IntKind.i64.wrap ((j:Int)+1+1)=(j:Int)+1+1:=wrap_id (by omega) (by omega)
    refine alt (fun hg => ?_) (fun hg => ?_)
    ·rw [if_neg (by omega)]
     refine kindIn_ok s ⟨5,t.frames[j+1].gen⟩ 5 ?_
     cases hk5:namesB s ⟨5,t.frames[j+1].gen⟩ 5 with
     | false =>
      simp
      exact bad fun e=>by have:=e.2.2;rw [if_pos hg] at this;rw [this.2.2.1] at hk5;cases hk5
     | true =>
      obtain ⟨w0,w1⟩:=cell_gen hk5
      have hce:=(List.getElem?_eq_some_iff.1 (cell_get w0 w1)).2
      simp [h1,f0,f1,f2,w0,w1,hce]
      refine alt (fun c5 => ?_) (fun c5=>bad fun e=>by have:=e.2.2;rw [if_pos hg] at this;exact c5 this.2.2.2)
      have hst:stackB p s t.frames (j+1)=true:=(stack_iff h1).2 ⟨hfr,⟨by omega,by rw [if_neg (by omega),hgj];omega⟩,by rw [if_pos hg];exact ⟨w0,by omega,hk5,c5⟩⟩
      refine ⟨⟨(j+1)+1,nx+1⟩,by simp <;> omega,⟨by simp <;> omega,fun i hi => ?_,by simp <;> omega⟩,(Wk.sub (by simp [hwj2])).trans (Wk.heap fun i y hy => ?_)⟩
      ·by_cases e:i=(j+1)
       ·rw [e];exact hst
       ·exact hall i (by simp at hi;omega)
      ·unfold Hp.set Hp.none at hy ⊢
       grind
    ·have hgm:t.frames[j+1].gen = -1:=by
      rw [Bool.eq_false_iff.2 hg] at c
      simpa using c
     have hst:stackB p s t.frames (j+1)=true:=(stack_iff h1).2 ⟨hfr,⟨by omega,by rw [if_neg (by omega),hgj];omega⟩,by rw [if_neg hg];exact hgm⟩
     refine ⟨⟨(j+1)+1,nx+1⟩,by simp <;> omega,⟨by simp <;> omega,fun i hi => ?_,by simp <;> omega⟩,(Wk.sub (by simp [hwj2])).trans (Wk.heap fun i y hy => ?_)⟩
     ·by_cases e:i=(j+1)
      ·rw [e];exact hst
      ·exact hall i (by simp at hi;omega)
     ·unfold Hp.set Hp.none at hy ⊢
      grind
  obtain rfl:k=t.frames.length:=by omega
  simp
  exact yes ⟨by simp [overB,s4,hf],.inl (by simp [overB,s4]),hv,by simp [btw,s4],by simp [onB,s4,c2],hall⟩
 simp [s3,s4]
 refine between_ok _ _ _ ?_
 have hb:btw t.state 0 4=false:=by simp [btw];omega
 rw [hb]
 simp
 exact no fun e=>by rw [e.2.2.2.1] at hb;cases hb
end Go.Proofs.YtbphdcffpobcbaaGreatDoor
