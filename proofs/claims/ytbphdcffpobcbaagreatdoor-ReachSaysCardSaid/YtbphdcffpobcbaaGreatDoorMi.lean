/- Several texts in one. -/
import Derived.Test.YtbphdcffpobcbaaGreatDoorMd
import Derived.Test.YtbphdcffpobcbaaGreatDoorMe
import Derived.Test.YtbphdcffpobcbaaGreatDoorMg
import Derived.Test.YtbphdcffpobcbaaGreatDoorMh
set_option linter.unusedSimpArgs false
set_option linter.unusedVariables false
set_option maxRecDepth 100000
set_option maxHeartbeats 16000000
namespace Go.Proofs.YtbphdcffpobcbaaGreatDoor
open Go.RowKit Go
structure KP where
 k:Nat
 nx:Nat
theorem any_take_next {α:Type} {L:List α} {p:α->Bool} {k:Nat} (hk:k<L.length):(L.take (k+1)).any p=((L.take k).any p||p L[k]):=by
 rw [List.take_succ_eq_append_getElem hk,List.any_append];simp
def bigT (t:ByteArray):Bool:=decide ((200:Int)<t.size)
def accAny {α:Type} (b:Bool) (L:List α) (p:α->Bool) (k:Nat):Bool:=b||(L.take k).any p
theorem accAny_next {α:Type} {b:Bool} {L:List α} {p:α->Bool} {k:Nat} (hk:k<L.length):accAny b L p (k+1)=(accAny b L p k||p L[k]):=by
 unfold accAny;rw [any_take_next hk,Bool.or_assoc]
theorem accAny_zero {α:Type} {b:Bool} {L:List α} {p:α->Bool} : accAny b L p 0=b:=by simp [accAny]
theorem accAny_all {α:Type} {b:Bool} {L:List α} {p:α->Bool} : accAny b L p L.length=(b||L.any p):=by simp [accAny]
def gT (ts:List ByteArray) (j:Nat):ByteArray:=ts.getD j .empty
def wordOk (ts:List ByteArray) (j:Nat):Bool:=decide (19≤j)||decide (gT ts j=gT wordsT j)
def accU (b:Bool) (ts:List ByteArray) (k i:Nat):Bool:=b&&(List.range i).all fun j => !decide (gT ts k=gT ts j)
def accT (b:Bool) (ts:List ByteArray):Nat->Bool
 | 0=>b
 | k+1=>accU (accT b ts k&&wordOk ts k) ts k k
theorem accU_zero {b:Bool} {ts:List ByteArray} {k:Nat} : accU b ts k 0=b:=by simp [accU]
theorem accU_next {b:Bool} {ts:List ByteArray} {k i:Nat} : accU b ts k (i+1)=(accU b ts k i && !decide (gT ts k=gT ts i)):=by simp [accU,List.range_succ,Bool.and_assoc]
theorem gT_at {ts:List ByteArray} {j:Nat} (h:j<ts.length):gT ts j=ts[j]:=by simp [gT,List.getD_eq_getElem?_getD,List.getElem?_eq_getElem h]
theorem accT_iff {b:Bool} {ts:List ByteArray} : ∀ n,accT b ts n=true↔b=true ∧ ∀ j<n,wordOk ts j=true ∧ ∀ i<j,gT ts j≠gT ts i
 | 0=>by simp [accT]
 | n+1=>by
  rw [accT,accU,Bool.and_eq_true,Bool.and_eq_true,accT_iff n,List.all_eq_true]
  constructor
  ·rintro ⟨⟨⟨h1,h2⟩,h3⟩,h4⟩
   refine ⟨h1,fun j hj => ?_⟩
   by_cases e:j=n
   ·subst e
    exact ⟨h3,fun i hi=>by have:=h4 i (List.mem_range.2 hi);simpa using this⟩
   ·exact h2 j (by omega)
  ·rintro ⟨h1,h2⟩
   refine ⟨⟨⟨h1,fun j hj=>h2 j (by omega)⟩,(h2 n (by omega)).1⟩,fun i hi => ?_⟩
   have:=(h2 n (by omega)).2 i (List.mem_range.1 hi)
   simpa using this
theorem words_iff {ts:List ByteArray} (h:19≤ts.length):(∀ j<ts.length,wordOk ts j=true ∧ ∀ i<j,gT ts j≠gT ts i)↔ts.take wordsT.length=wordsT∧ts.Nodup:=by
 have hw:wordsT.length=19:=rfl
 constructor
 ·intro hj
  refine ⟨List.ext_getElem (by rw [List.length_take,hw];omega) fun j h1 h2 => ?_,List.pairwise_iff_getElem.2 fun i j hi hj2 hij => ?_⟩
  ·have hjl:j<ts.length:=by omega
   have:=(hj j hjl).1
   rw [wordOk,gT_at hjl,gT_at h2] at this
   rw [List.getElem_take]
   simp at this
   rcases this with h3 | h3
   ·omega
   ·exact h3
  ·have:=(hj j hj2).2 i hij
   rw [gT_at hi,gT_at hj2] at this
   exact fun e=>this e.symm
 ·rintro ⟨h1,h2⟩ j hj
  refine ⟨?_,fun i hi => ?_⟩
  ·by_cases h19:19≤j
   ·simp [wordOk,h19]
   ·have hj2:j<wordsT.length:=by omega
    have:(ts.take wordsT.length)[j]'(by rw [List.length_take];omega)=ts[j]:=List.getElem_take
    simp only [h1] at this
    simp [wordOk,gT_at hj,gT_at hj2,this]
  ·rw [gT_at hj,gT_at (by omega)]
   exact fun e=>(List.pairwise_iff_getElem.1 h2 i j (by omega) hj hi) e.symm
def accC (p:GProg) (b:Bool) (k:Nat):Bool:=b&&(p.consts.take k).all fun v => !constBadB p v
theorem accC_next {p:GProg} {b:Bool} {k:Nat} (hk:k<p.consts.length):accC p b (k+1)=(accC p b k && !constBadB p p.consts[k]):=by
 unfold accC;rw [all_take_next hk,Bool.and_assoc]
theorem accC_zero {p:GProg} {b:Bool} : accC p b 0=b:=by simp [accC]
def accO (p:GProg) (f:GFn) (i:Nat):Bool:=(List.range i).all fun j=>orderB p f j (f.code.getD j dIns)
theorem accO_next {p:GProg} {f:GFn} {i:Nat} (hi:i<f.code.length):accO p f (i+1)=(accO p f i&&orderB p f i f.code[i]):=by
 simp [accO,List.range_succ,List.getD_eq_getElem?_getD,List.getElem?_eq_getElem hi]
def accF (p:GProg) (b:Bool) (k:Nat):Bool:=b&&(decide (k=0)||firstB p)&&(p.fns.take k).all (functionB p)
theorem firstB_get {p:GProg} (h:0<p.fns.length):firstB p=(decide (p.fns[0].params=0)&&decide (p.fns[0].caught=[]) && !p.fns[0].gen):=by
 obtain ⟨fns,cs,ts⟩:=p
 cases fns with
 | nil=>simp at h
 | cons f fs=>rfl
theorem wrap_one:IntKind.i64.wrap 1=1:=by kernel_rfl
theorem known_at (f:GFn) (hg:goesAll f) (hl6:f.code.length≤600) {d:D} (hd:d=aD (eFn f)) {K:D->List Blk->Prop} (hbad : ¬ Fine f->K (.tup [.one (.d .emp),dB false]) [])
  (hok : ∀ all:List Kn,KnOk f all->0<f.code.length->K (.tup [.one (.own 0 2 f.code.length),dB true]) [⟨.c 168,2,knRows all⟩]):DPure Tryz.prog 100 [d] K:=by
 subst hd;exact known_ok f hg hl6 hbad hok
theorem orderRight_at (p:GProg) (f:GFn) (at_:Int) (i:GIns) (hr:1≤f.regs) (hr2:f.regs≤60) (hl:p.fns.length≤60) {d:D} (hd:d=aD (eFn f)) {K:D->List Blk->Prop} (h:K (dB (orderB p f at_ i)) []):DPure Tryz.prog 99 [aD (eProg p),d,dI at_,aD (eIns i)] K:=by
 subst hd;exact orderRight2_ok p f at_ i hr hr2 hl h
theorem progFault_ok (p:GProg) (hp:okP p) {K:D->List Blk->Prop} (h:K (dI (checkQ wordsT p)) []):DPure Tryz.prog 47 [aD (eProg p)] K:=by
 refine fn_ok [0,1,2,3,5,7,8,9,10,12,14,15,16,17,18,36,37,38,39,50,51,52,53,69,81,82,83,84,104,105,106,107,119,120,121,122,150,151,152,153,171,190,192,193,194,195,209,217] [] Tryz.func47 rfl (by kernel_rfl) rfl rfl rfl rfl (by kernel_rfl) ?_
 simp
 intro _
 have two:largeB p=true->K (dI 2) []:=fun e=>by rw [check_large e] at h;exact h
 refine alt (fun c1 => ?_) (fun c1 => ?_)
 rotate_left
 ·intro _
  refine loopH_ok (ks := [0,1,2,3,5,7,8,9,10,12,14,15,16,17,18,36,37,38,39,50,51,52,53,69,81,82,83,84,104,105,106,107,119,120,121,122,150,151,152,153,171,190,192,193,194,195,209,217]) (pl := []) (n0:=218) (α := {x:KP//x.k≤p.texts.length}) (fun x=>[(3,dB (accAny (true) p.texts bigT x.1.k)),(38,dI x.1.k)]) (fun H _=>H) (fun x=>x.1.nx+1) (fun x=>p.texts.length-x.1.k) ⟨⟨0,0⟩,Nat.zero_le _⟩ rfl (by kernel_rfl) (Wk.of_eq (by simp [accAny_zero])) ?_
  rintro ⟨⟨k,nx⟩,hk⟩
  simp only at hk
  dsimp only
  by_cases h1:k<p.texts.length
  ·have hs:=accAny_next (b:=(true)) (p:=bigT) h1
   cases hb:accAny (true) p.texts bigT k with
   | true =>
    rw [hb,Bool.true_or] at hs
    simp [h1]
    exact ⟨⟨k+1,nx⟩,by simp;omega,by simp;omega,Wk.sub (by simp only [hs];simp [wrap_add (show k<9223372036854775807 by omega)])⟩
   | false =>
    rw [hb,Bool.false_or] at hs
    simp [h1]
    exact ⟨⟨k+1,nx⟩,by simp;omega,by simp;omega,Wk.sub (by simp only [hs];simp [bigT,wrap_add (show k<9223372036854775807 by omega)])⟩
  obtain rfl:k=p.texts.length:=by omega
  have hb1:=accAny_all (b:=(true)) (L:=p.texts) (p:=bigT)
  generalize accAny (true) p.texts bigT p.texts.length=b1 at *
  simp
  intro _
  refine loopH_ok (ks := [0,1,2,3,5,7,8,9,10,12,14,15,16,17,18,36,37,38,39,50,51,52,53,69,81,82,83,84,104,105,106,107,119,120,121,122,150,151,152,153,171,190,192,193,194,195,209,217]) (pl := []) (n0:=218) (α := {x:KP//x.k≤p.fns.length}) (fun x=>[(3,dB (accAny b1 p.fns fnLargeB x.1.k)),(52,dI x.1.k)]) (fun H _=>H) (fun x=>x.1.nx+1) (fun x=>p.fns.length-x.1.k) ⟨⟨0,nx⟩,Nat.zero_le _⟩ rfl (by kernel_rfl) (Wk.of_eq (by simp [accAny_zero])) ?_
  rintro ⟨⟨k,nx2⟩,hk⟩
  simp only at hk
  dsimp only
  by_cases h2:k<p.fns.length
  ·have hs:=accAny_next (b:=b1) (p:=fnLargeB) h2
   cases hb:accAny b1 p.fns fnLargeB k with
   | true =>
    rw [hb,Bool.true_or] at hs
    simp [h2]
    exact ⟨⟨k+1,nx2+1⟩,by simp;omega,by simp;omega,Wk.sub1 (by simp only [hs];simp [wrap_add (show k<9223372036854775807 by omega)]) (by simp)⟩
   | false =>
    rw [hb,Bool.false_or] at hs
    by_cases e1:600<p.fns[k].code.length
    ·have e1' : ¬ (p.fns[k].code.length:Int)≤600:=by omega
     simp [h2,e1']
     intro _
     exact ⟨⟨k+1,nx2+1⟩,by simp;omega,by simp;omega,Wk.sub1 (by simp only [hs];simp [fnLargeB,e1,wrap_add (show k<9223372036854775807 by omega)]) (by simp)⟩
    ·have e1':(p.fns[k].code.length:Int)≤600:=by omega
     simp [h2,e1']
     intro _
     exact ⟨⟨k+1,nx2+1⟩,by simp;omega,by simp;omega,Wk.sub1 (by simp only [hs];simp [fnLargeB,e1,wrap_add (show k<9223372036854775807 by omega)]) (by simp)⟩
  obtain rfl:k=p.fns.length:=by omega
  have hb2:=accAny_all (b:=b1) (L:=p.fns) (p:=fnLargeB)
  generalize accAny b1 p.fns fnLargeB p.fns.length=b2 at *
  obtain rfl:b1=true:=by rw [hb1];rfl
  obtain rfl:b2=true:=by rw [hb2];rfl
  simp
  exact two (by simp [largeB];omega)
 intro _
 refine alt (fun c2 => ?_) (fun c2 => ?_)
 rotate_left
 ·intro _
  refine loopH_ok (ks := [0,1,2,3,5,7,8,9,10,12,14,15,16,17,18,36,37,38,39,50,51,52,53,69,81,82,83,84,104,105,106,107,119,120,121,122,150,151,152,153,171,190,192,193,194,195,209,217]) (pl := []) (n0:=218) (α := {x:KP//x.k≤p.texts.length}) (fun x=>[(3,dB (accAny (true) p.texts bigT x.1.k)),(38,dI x.1.k)]) (fun H _=>H) (fun x=>x.1.nx+1) (fun x=>p.texts.length-x.1.k) ⟨⟨0,0⟩,Nat.zero_le _⟩ rfl (by kernel_rfl) (Wk.of_eq (by simp [accAny_zero])) ?_
  rintro ⟨⟨k,nx⟩,hk⟩
  simp only at hk
  dsimp only
  by_cases h1:k<p.texts.length
  ·have hs:=accAny_next (b:=(true)) (p:=bigT) h1
   cases hb:accAny (true) p.texts bigT k with
   | true =>
    rw [hb,Bool.true_or] at hs
    simp [h1]
    exact ⟨⟨k+1,nx⟩,by simp;omega,by simp;omega,Wk.sub (by simp only [hs];simp [wrap_add (show k<9223372036854775807 by omega)])⟩
   | false =>
    rw [hb,Bool.false_or] at hs
    simp [h1]
    exact ⟨⟨k+1,nx⟩,by simp;omega,by simp;omega,Wk.sub (by simp only [hs];simp [bigT,wrap_add (show k<9223372036854775807 by omega)])⟩
  obtain rfl:k=p.texts.length:=by omega
  have hb1:=accAny_all (b:=(true)) (L:=p.texts) (p:=bigT)
  generalize accAny (true) p.texts bigT p.texts.length=b1 at *
  simp
  intro _
  refine loopH_ok (ks := [0,1,2,3,5,7,8,9,10,12,14,15,16,17,18,36,37,38,39,50,51,52,53,69,81,82,83,84,104,105,106,107,119,120,121,122,150,151,152,153,171,190,192,193,194,195,209,217]) (pl := []) (n0:=218) (α := {x:KP//x.k≤p.fns.length}) (fun x=>[(3,dB (accAny b1 p.fns fnLargeB x.1.k)),(52,dI x.1.k)]) (fun H _=>H) (fun x=>x.1.nx+1) (fun x=>p.fns.length-x.1.k) ⟨⟨0,nx⟩,Nat.zero_le _⟩ rfl (by kernel_rfl) (Wk.of_eq (by simp [accAny_zero])) ?_
  rintro ⟨⟨k,nx2⟩,hk⟩
  simp only at hk
  dsimp only
  by_cases h2:k<p.fns.length
  ·have hs:=accAny_next (b:=b1) (p:=fnLargeB) h2
   cases hb:accAny b1 p.fns fnLargeB k with
   | true =>
    rw [hb,Bool.true_or] at hs
    simp [h2]
    exact ⟨⟨k+1,nx2+1⟩,by simp;omega,by simp;omega,Wk.sub1 (by simp only [hs];simp [wrap_add (show k<9223372036854775807 by omega)]) (by simp)⟩
   | false =>
    rw [hb,Bool.false_or] at hs
    by_cases e1:600<p.fns[k].code.length
    ·have e1' : ¬ (p.fns[k].code.length:Int)≤600:=by omega
     simp [h2,e1']
     intro _
     exact ⟨⟨k+1,nx2+1⟩,by simp;omega,by simp;omega,Wk.sub1 (by simp only [hs];simp [fnLargeB,e1,wrap_add (show k<9223372036854775807 by omega)]) (by simp)⟩
    ·have e1':(p.fns[k].code.length:Int)≤600:=by omega
     simp [h2,e1']
     intro _
     exact ⟨⟨k+1,nx2+1⟩,by simp;omega,by simp;omega,Wk.sub1 (by simp only [hs];simp [fnLargeB,e1,wrap_add (show k<9223372036854775807 by omega)]) (by simp)⟩
  obtain rfl:k=p.fns.length:=by omega
  have hb2:=accAny_all (b:=b1) (L:=p.fns) (p:=fnLargeB)
  generalize accAny b1 p.fns fnLargeB p.fns.length=b2 at *
  obtain rfl:b1=true:=by rw [hb1];rfl
  obtain rfl:b2=true:=by rw [hb2];rfl
  simp
  exact two (by simp [largeB];omega)
 intro _
 refine loopH_ok (ks := [0,1,2,3,5,7,8,9,10,12,14,15,16,17,18,36,37,38,39,50,51,52,53,69,81,82,83,84,104,105,106,107,119,120,121,122,150,151,152,153,171,190,192,193,194,195,209,217]) (pl := []) (n0:=218) (α := {x:KP//x.k≤p.texts.length}) (fun x=>[(3,dB (accAny (decide ((200:Int)<p.texts.length)) p.texts bigT x.1.k)),(38,dI x.1.k)]) (fun H _=>H) (fun x=>x.1.nx+1) (fun x=>p.texts.length-x.1.k) ⟨⟨0,0⟩,Nat.zero_le _⟩ rfl (by kernel_rfl) (Wk.of_eq (by simp [accAny_zero])) ?_
 rintro ⟨⟨k,nx⟩,hk⟩
 simp only at hk
 dsimp only
 by_cases h1:k<p.texts.length
 ·have hs:=accAny_next (b:=(decide ((200:Int)<p.texts.length))) (p:=bigT) h1
  cases hb:accAny (decide ((200:Int)<p.texts.length)) p.texts bigT k with
  | true =>
   rw [hb,Bool.true_or] at hs
   simp [h1]
   exact ⟨⟨k+1,nx⟩,by simp;omega,by simp;omega,Wk.sub (by simp only [hs];simp [wrap_add (show k<9223372036854775807 by omega)])⟩
  | false =>
   rw [hb,Bool.false_or] at hs
   simp [h1]
   exact ⟨⟨k+1,nx⟩,by simp;omega,by simp;omega,Wk.sub (by simp only [hs];simp [bigT,wrap_add (show k<9223372036854775807 by omega)])⟩
 obtain rfl:k=p.texts.length:=by omega
 have hb1:=accAny_all (b:=(decide ((200:Int)<p.texts.length))) (L:=p.texts) (p:=bigT)
 generalize accAny (decide ((200:Int)<p.texts.length)) p.texts bigT p.texts.length=b1 at *
 simp
 intro _
 refine loopH_ok (ks := [0,1,2,3,5,7,8,9,10,12,14,15,16,17,18,36,37,38,39,50,51,52,53,69,81,82,83,84,104,105,106,107,119,120,121,122,150,151,152,153,171,190,192,193,194,195,209,217]) (pl := []) (n0:=218) (α := {x:KP//x.k≤p.fns.length}) (fun x=>[(3,dB (accAny b1 p.fns fnLargeB x.1.k)),(52,dI x.1.k)]) (fun H _=>H) (fun x=>x.1.nx+1) (fun x=>p.fns.length-x.1.k) ⟨⟨0,nx⟩,Nat.zero_le _⟩ rfl (by kernel_rfl) (Wk.of_eq (by simp [accAny_zero])) ?_
 rintro ⟨⟨k,nx2⟩,hk⟩
 simp only at hk
 dsimp only
 by_cases h2:k<p.fns.length
 ·have hs:=accAny_next (b:=b1) (p:=fnLargeB) h2
  cases hb:accAny b1 p.fns fnLargeB k with
  | true =>
   rw [hb,Bool.true_or] at hs
   simp [h2]
   exact ⟨⟨k+1,nx2+1⟩,by simp;omega,by simp;omega,Wk.sub1 (by simp only [hs];simp [wrap_add (show k<9223372036854775807 by omega)]) (by simp)⟩
  | false =>
   rw [hb,Bool.false_or] at hs
   by_cases e1:600<p.fns[k].code.length
   ·have e1' : ¬ (p.fns[k].code.length:Int)≤600:=by omega
    simp [h2,e1']
    intro _
    exact ⟨⟨k+1,nx2+1⟩,by simp;omega,by simp;omega,Wk.sub1 (by simp only [hs];simp [fnLargeB,e1,wrap_add (show k<9223372036854775807 by omega)]) (by simp)⟩
   ·have e1':(p.fns[k].code.length:Int)≤600:=by omega
    simp [h2,e1']
    intro _
    exact ⟨⟨k+1,nx2+1⟩,by simp;omega,by simp;omega,Wk.sub1 (by simp only [hs];simp [fnLargeB,e1,wrap_add (show k<9223372036854775807 by omega)]) (by simp)⟩
 obtain rfl:k=p.fns.length:=by omega
 have hb2:=accAny_all (b:=b1) (L:=p.fns) (p:=fnLargeB)
 generalize accAny b1 p.fns fnLargeB p.fns.length=b2 at *
 have hbig:p.texts.any (fun t=>decide (200<t.size))=p.texts.any bigT:=by
  congr 1;funext t;rw [Bool.eq_iff_iff];simp [bigT];omega
 have hlg:largeB p=(b1||p.fns.any fnLargeB):=by
  have c1n : ¬ 60<p.fns.length:=by omega
  have c2n : ¬ 200<p.consts.length:=by omega
  have hdec:decide (200<p.texts.length)=decide ((200:Int)<p.texts.length):=by rw [Bool.eq_iff_iff];simp only [decide_eq_true_eq];omega
  rw [hb1]
  unfold largeB
  rw [hbig,decide_eq_false c1n,decide_eq_false c2n,Bool.false_or,Bool.false_or,hdec]
 rw [← hb2] at hlg
 cases b2 with
 | true =>
  simp
  exact two hlg
 | false =>
 have hd:=large_lt hlg
 have three:tablesB wordsT p=false∨firstB p=false∨(∃ f∈p.fns,functionB p f=false)->K (dI 3) []:=fun e=>by
  have:checkQ wordsT p=3:=by
   by_cases e1:tablesB wordsT p=false∨firstB p=false
   ·exact check_form hlg e1
   ·simp only [not_or,Bool.not_eq_false] at e1
    rw [check_fns hlg e1.1 e1.2,if_pos]
    rcases e with e | e | ⟨f,h1,h2⟩
    ·rw [e1.1] at e;cases e
    ·rw [e1.2] at e;cases e
    ·exact List.any_eq_true.2 ⟨f,h1,by rw [h2];rfl⟩
  rw [this] at h;exact h
 have zero:tablesB wordsT p=true->firstB p=true->(∀ f∈p.fns,functionB p f=true)->K (dI 0) []:=fun e1 e2 e3=>by
  rw [check_mk hlg e1 e2 e3] at h;exact h
 by_cases c3:(19:Int)≤p.texts.length
 ·simp [c3]
  intro _ _ _
  refine loopH_ok (ks := [0,1,2,3,5,7,8,9,10,12,14,15,16,17,18,36,37,38,39,50,51,52,53,69,81,82,83,84,104,105,106,107,119,120,121,122,150,151,152,153,171,190,192,193,194,195,209,217]) (pl := []) (n0:=218) (α := {x:KP//x.k≤p.texts.length}) (fun x=>[(8,dB (accT (decide (0<p.fns.length)) p.texts x.1.k)),(83,dI x.1.k)]) (fun _ _=>Hp.none.set 0 (some ⟨.c 39,3,[(eProg p).map .d]⟩)) (fun x=>x.1.nx+1) (fun x=>p.texts.length-x.1.k) ⟨⟨0,nx2⟩,Nat.zero_le _⟩ rfl (by kernel_rfl) (Wk.of_eq (by simp [accT])) ?_
  rintro ⟨⟨k,nx3⟩,hk⟩
  simp only at hk
  dsimp only
  by_cases h3:k<p.texts.length
  ·have hmin:min k p.texts.length=k:=Nat.min_eq_left (by omega)
   cases hb:accT (decide (0<p.fns.length)) p.texts k with
   | false =>
    simp [h3]
    refine ⟨by omega,fun _ => ?_⟩
    refine loopH_ok (ks := [0,1,2,3,5,7,8,9,10,12,14,15,16,17,18,36,37,38,39,50,51,52,53,69,81,82,83,84,104,105,106,107,119,120,121,122,150,151,152,153,171,190,192,193,194,195,209,217]) (pl := []) (n0:=218) (α := {x:KP//x.k≤k}) (fun x=>[(8,dB (accU (false) p.texts k x.1.k)),(106,dI x.1.k)]) (fun _ _=>Hp.none.set 0 (some ⟨.c 39,3,[(eProg p).map .d]⟩)) (fun x=>x.1.nx+1) (fun x=>k-x.1.k) ⟨⟨0,nx3⟩,Nat.zero_le _⟩ rfl (by kernel_rfl) (Wk.sub1 (by simp [accU_zero,hmin]) (by simp)) ?_
    rintro ⟨⟨i,nx4⟩,hi⟩
    simp only at hi
    dsimp only
    by_cases h4:i<k
    ·have hs:=accU_next (b:=(false)) (ts:=p.texts) (k:=k) (i:=i)
     have hi2:i<p.texts.length:=by omega
     cases hb:accU (false) p.texts k i with
     | false =>
      rw [hb,Bool.false_and] at hs
      simp [h3,h4,hi2,hmin]
      exact ⟨⟨i+1,nx4⟩,by simp;omega,by simp;omega,Wk.sub1 (by simp only [hs];simp [wrap_add (show i<9223372036854775807 by omega)]) (by simp)⟩
     | true =>
      rw [hb,Bool.true_and,gT_at hi2,gT_at h3] at hs
      simp [h3,h4,hi2,hmin]
      exact ⟨⟨i+1,nx4⟩,by simp;omega,by simp;omega,Wk.sub1 (by simp only [hs];simp [wrap_add (show i<9223372036854775807 by omega)]) (by simp)⟩
    obtain rfl:i=k:=by omega
    have hU:accT (decide (0<p.fns.length)) p.texts (i+1)=accU (false) p.texts i i:=by rw [accT,hb,Bool.false_and]
    simp [hmin]
    exact ⟨⟨i+1,nx4⟩,by simp;omega,by simp;omega,Wk.sub1 (by simp only [hU];simp [wrap_add (show i<9223372036854775807 by omega)]) (by simp)⟩
   | true =>
    by_cases h19:19≤k
    ·have h19':(19:Int)≤k:=by omega
     simp [h3,h19']
     refine ⟨by omega,fun _ => ?_⟩
     refine loopH_ok (ks := [0,1,2,3,5,7,8,9,10,12,14,15,16,17,18,36,37,38,39,50,51,52,53,69,81,82,83,84,104,105,106,107,119,120,121,122,150,151,152,153,171,190,192,193,194,195,209,217]) (pl := []) (n0:=218) (α := {x:KP//x.k≤k}) (fun x=>[(8,dB (accU (true) p.texts k x.1.k)),(106,dI x.1.k)]) (fun _ _=>Hp.none.set 0 (some ⟨.c 39,3,[(eProg p).map .d]⟩)) (fun x=>x.1.nx+1) (fun x=>k-x.1.k) ⟨⟨0,nx3⟩,Nat.zero_le _⟩ rfl (by kernel_rfl) (Wk.sub1 (by simp [accU_zero,hmin]) (by simp)) ?_
     rintro ⟨⟨i,nx4⟩,hi⟩
     simp only at hi
     dsimp only
     by_cases h4:i<k
     ·have hs:=accU_next (b:=(true)) (ts:=p.texts) (k:=k) (i:=i)
      have hi2:i<p.texts.length:=by omega
      cases hb:accU (true) p.texts k i with
      | false =>
       rw [hb,Bool.false_and] at hs
       simp [h3,h4,hi2,hmin]
       exact ⟨⟨i+1,nx4⟩,by simp;omega,by simp;omega,Wk.sub1 (by simp only [hs];simp [wrap_add (show i<9223372036854775807 by omega)]) (by simp)⟩
      | true =>
       rw [hb,Bool.true_and,gT_at hi2,gT_at h3] at hs
       simp [h3,h4,hi2,hmin]
       exact ⟨⟨i+1,nx4⟩,by simp;omega,by simp;omega,Wk.sub1 (by simp only [hs];simp [wrap_add (show i<9223372036854775807 by omega)]) (by simp)⟩
     obtain rfl:i=k:=by omega
     have hU:accT (decide (0<p.fns.length)) p.texts (i+1)=accU (true) p.texts i i:=by rw [accT,hb,Bool.true_and,show wordOk p.texts i=true by simp [wordOk,h19]]
     simp [hmin]
     exact ⟨⟨i+1,nx4⟩,by simp;omega,by simp;omega,Wk.sub1 (by simp only [hU];simp [wrap_add (show i<9223372036854775807 by omega)]) (by simp)⟩
    ·have h19' : ¬ (19:Int)≤k:=by omega
     have hkw:k<wordsT.length:=by have:wordsT.length=19:=rfl;omega
     have hwg:wordsT[k]? = some wordsT[k]:=List.getElem?_eq_getElem hkw
     have hwk:wordOk p.texts k=decide (p.texts[k]=wordsT[k]):=by simp [wordOk,h19,gT_at h3,gT_at hkw]
     simp [h3,h19']
     refine ownWords_ok ?_
     simp [h3,h19',hkw,hwg]
     refine ⟨by omega,fun _ => ?_⟩
     generalize hB:wordOk p.texts k=bw at *
     refine loopH_ok (ks := [0,1,2,3,5,7,8,9,10,12,14,15,16,17,18,36,37,38,39,50,51,52,53,69,81,82,83,84,104,105,106,107,119,120,121,122,150,151,152,153,171,190,192,193,194,195,209,217]) (pl := []) (n0:=218) (α := {x:KP//x.k≤k}) (fun x=>[(8,dB (accU (bw) p.texts k x.1.k)),(106,dI x.1.k)]) (fun _ _=>Hp.none.set 0 (some ⟨.c 39,3,[(eProg p).map .d]⟩)) (fun x=>x.1.nx+1) (fun x=>k-x.1.k) ⟨⟨0,nx3+1⟩,Nat.zero_le _⟩ rfl (by kernel_rfl) (Wk.sub1 (by simp [accU_zero,hmin,hwk]) (by simp)) ?_
     rintro ⟨⟨i,nx4⟩,hi⟩
     simp only at hi
     dsimp only
     by_cases h4:i<k
     ·have hs:=accU_next (b:=(bw)) (ts:=p.texts) (k:=k) (i:=i)
      have hi2:i<p.texts.length:=by omega
      cases hb:accU (bw) p.texts k i with
      | false =>
       rw [hb,Bool.false_and] at hs
       simp [h3,h4,hi2,hmin]
       exact ⟨⟨i+1,nx4⟩,by simp;omega,by simp;omega,Wk.sub1 (by simp only [hs];simp [wrap_add (show i<9223372036854775807 by omega)]) (by simp)⟩
      | true =>
       rw [hb,Bool.true_and,gT_at hi2,gT_at h3] at hs
       simp [h3,h4,hi2,hmin]
       exact ⟨⟨i+1,nx4⟩,by simp;omega,by simp;omega,Wk.sub1 (by simp only [hs];simp [wrap_add (show i<9223372036854775807 by omega)]) (by simp)⟩
     obtain rfl:i=k:=by omega
     have hU:accT (decide (0<p.fns.length)) p.texts (i+1)=accU (bw) p.texts i i:=by rw [accT,hb,Bool.true_and,hB]
     simp [hmin]
     exact ⟨⟨i+1,nx4⟩,by simp;omega,by simp;omega,Wk.sub1 (by simp only [hU];simp [wrap_add (show i<9223372036854775807 by omega)]) (by simp)⟩
  obtain rfl:k=p.texts.length:=by omega
  generalize hb3:accT (decide (0<p.fns.length)) p.texts p.texts.length=b3 at *
  have hT:b3=true↔(0<p.fns.length∧p.texts.take wordsT.length=wordsT∧p.texts.Nodup):=by
   rw [← hb3,accT_iff,words_iff (by omega),decide_eq_true_eq]
  clear hb3
  simp
  intro _
  refine loopH_ok (ks := [0,1,2,3,5,7,8,9,10,12,14,15,16,17,18,36,37,38,39,50,51,52,53,69,81,82,83,84,104,105,106,107,119,120,121,122,150,151,152,153,171,190,192,193,194,195,209,217]) (pl := []) (n0:=218) (α := {x:KP//x.k≤p.consts.length}) (fun x=>[(8,dB (accC p b3 x.1.k)),(121,dI x.1.k)]) (fun _ _=>Hp.none.set 0 (some ⟨.c 39,3,[(eProg p).map .d]⟩)) (fun x=>x.1.nx+1) (fun x=>p.consts.length-x.1.k) ⟨⟨0,nx3⟩,Nat.zero_le _⟩ rfl (by kernel_rfl) (Wk.of_eq (by simp [accC_zero])) ?_
  rintro ⟨⟨k,nx4⟩,hk⟩
  simp only at hk
  dsimp only
  by_cases h4:k<p.consts.length
  ·have hs:=accC_next (b:=b3) h4
   cases hb:accC p b3 k with
   | false =>
    rw [hb,Bool.false_and] at hs
    simp [h4]
    exact ⟨⟨k+1,nx4+1⟩,by simp;omega,by simp;omega,Wk.sub1 (by simp only [hs];simp [wrap_add (show k<9223372036854775807 by omega)]) (by simp)⟩
   | true =>
    rw [hb,Bool.true_and] at hs
    simp [h4]
    generalize p.consts[k]=v at *
    obtain ⟨vk,vn⟩:=v
    refine rightVal_ok _ _ ?_
    cases e1:rightB vk vn with
    | false =>
     simp
     exact ⟨⟨k+1,nx4+1⟩,by simp;omega,by simp;omega,Wk.sub1 (by simp only [hs];simp [constBadB,e1,wrap_add (show k<9223372036854775807 by omega)]) (by simp)⟩
    | true =>
    by_cases e5:vk=5
    ·simp [e5]
     exact ⟨⟨k+1,nx4+1⟩,by simp;omega,by simp;omega,Wk.sub1 (by simp only [hs];simp [constBadB,e1,e5,wrap_add (show k<9223372036854775807 by omega)]) (by simp)⟩
    by_cases e4:vk=4
    ·subst e4
     have hlt:decide (vn<(p.texts.length:Int)) = !decide ((p.texts.length:Int)≤vn):=by rw [Bool.eq_iff_iff];simp
     simp
     intro _
     exact ⟨⟨k+1,nx4+1⟩,by simp;omega,by simp;omega,Wk.sub1 (by simp only [hs];simp [constBadB,e1,hlt,wrap_add (show k<9223372036854775807 by omega)]) (by simp)⟩
    ·simp [e4,e5]
     exact ⟨⟨k+1,nx4+1⟩,by simp;omega,by simp;omega,Wk.sub1 (by simp only [hs];simp [constBadB,e1,e4,e5,wrap_add (show k<9223372036854775807 by omega)]) (by simp)⟩
  obtain rfl:k=p.consts.length:=by omega
  have hT4:accC p b3 p.consts.length=true->0<p.fns.length∧tablesB wordsT p=true:=fun e=>by
   rw [accC,List.take_length,Bool.and_eq_true] at e
   obtain ⟨e1,e2⟩:=e
   obtain ⟨t1,t2,t3⟩:=hT.1 e1
   refine ⟨t1,?_⟩
   simp only [tablesB,Bool.and_eq_true,decide_eq_true_eq,Bool.not_eq_true',List.any_eq_false]
   refine ⟨⟨t2,t3⟩,fun v hv => ?_⟩
   have:=List.all_eq_true.1 e2 v hv
   simpa using this
  have hF4:accC p b3 p.consts.length=false->0<p.fns.length->tablesB wordsT p=false:=fun e h0=>by
   cases ht:tablesB wordsT p with
   | false=>rfl
   | true =>
    simp only [tablesB,Bool.and_eq_true,decide_eq_true_eq,Bool.not_eq_true',List.any_eq_false] at ht
    have e1:=hT.2 ⟨h0,ht.1.1,ht.1.2⟩
    rw [accC,List.take_length,e1,Bool.true_and] at e
    have:p.consts.all (fun v => !constBadB p v)=true:=List.all_eq_true.2 fun v hv=>by simpa using ht.2 v hv
    rw [this] at e;cases e
  generalize accC p b3 p.consts.length=b4 at *
  simp
  intro _
  refine loopH_ok (ks := [0,1,2,3,5,7,8,9,10,12,14,15,16,17,18,36,37,38,39,50,51,52,53,69,81,82,83,84,104,105,106,107,119,120,121,122,150,151,152,153,171,190,192,193,194,195,209,217]) (pl := []) (n0:=218) (α := {x:KP//x.k≤p.fns.length}) (fun x=>[(8,dB (accF p b4 x.1.k)),(152,dI x.1.k)]) (fun _ _=>Hp.none.set 0 (some ⟨.c 39,3,[(eProg p).map .d]⟩)) (fun x=>x.1.nx+1) (fun x=>p.fns.length-x.1.k) ⟨⟨0,nx4⟩,Nat.zero_le _⟩ rfl (by kernel_rfl) (Wk.of_eq (by simp [accF])) ?_
  rintro ⟨⟨k,nx5⟩,hk⟩
  simp only at hk
  dsimp only
  have hFk:accF p b4 k=false->0<p.fns.length->K (dI 3) []:=fun e h0=>by
   refine three ?_
   cases b4 with
   | false=>exact .inl (hF4 rfl h0)
   | true =>
    rw [accF,Bool.true_and,Bool.and_eq_false_iff] at e
    rcases e with e | e
    ·simp at e;exact .inr (.inl e.2)
    ·rw [List.all_eq_false] at e
     obtain ⟨f,hf,h2⟩:=e
     exact .inr (.inr ⟨f,List.mem_of_mem_take hf,by simpa using h2⟩)
  by_cases h5:k<p.fns.length
  ·cases hb:accF p b4 k with
   | false =>
    simp [h5]
    exact hFk hb (by omega)
   | true =>
    have hfn:=hd.2.2.2 p.fns[k] (List.getElem_mem h5)
    have bad:functionB p p.fns[k]=false->K (dI 3) []:=fun e=>three (.inr (.inr ⟨_,List.getElem_mem h5,e⟩))
    have hnext:firstB p=true->accF p b4 (k+1)=functionB p p.fns[k]:=fun e=>by
     rw [accF,all_take_next h5,e]
     rw [accF,Bool.and_eq_true,Bool.and_eq_true] at hb
     rw [hb.1.1,hb.2];simp
    have hfirst:0<k->firstB p=true:=fun e=>by
     rw [accF,Bool.and_eq_true,Bool.and_eq_true] at hb
     have:=hb.1.2
     rw [decide_eq_false (by omega),Bool.false_or] at this
     exact this
    have hfirst0:k=0->firstB p=(decide (p.fns[k].params=0)&&decide (p.fns[k].caught=[]) && !p.fns[k].gen):=fun e=>by
     subst e
     exact firstB_get h5
    generalize hfk:p.fns[k]=f at *
    simp [h5,hfk]
    refine between_ok _ _ _ ?_
    cases g1:btw f.params 0 f.regs with
    | false =>
     have hbad:functionB p f=false:=by
      have : ¬ (¬ f.params<0 ∧ ¬ f.regs<1 ∧ ¬ f.regs<f.params):=fun e=>by simp [btw] at g1;omega
      cases hq:functionB p f with
      | false=>rfl
      | true =>
       simp only [functionB,Bool.and_eq_true,Bool.not_eq_true',Bool.or_eq_false_iff,decide_eq_false_iff_not] at hq
       exact absurd ⟨hq.1.1.1.1,hq.1.1.1.2,hq.1.1.2⟩ this
     by_cases ek:k=0
     ·simp [ek]
      exact bad hbad
     ·simp [ek]
      exact bad hbad
    | true =>
    by_cases g2:0<f.regs
    case neg =>
     have hbad:functionB p f=false:=by
      cases hq:functionB p f with
      | false=>rfl
      | true =>
       simp only [functionB,Bool.and_eq_true,Bool.not_eq_true',Bool.or_eq_false_iff,decide_eq_false_iff_not] at hq
       omega
     by_cases ek:k=0
     ·simp [ek,g2]
      exact bad hbad
     ·simp [ek,g2]
      exact bad hbad
    have hg0:(!(decide (f.params<0)||decide (f.regs<1)||decide (f.regs<f.params)))=true:=by
     simp [btw] at g1
     simp;omega
    by_cases ek:k=0
    ·have hf0:=hfirst0 ek
     have no:firstB p=false->K (dI 3) []:=fun e=>three (.inr (.inl e))
     by_cases q1:f.params=0
     case neg =>
      simp [ek,g2,q1]
      exact no (by rw [hf0];simp [q1])
     by_cases q2:f.caught=[]
     case neg =>
      simp [ek,g2,q1,q2]
      intro _
      exact no (by rw [hf0];simp [q2])
     cases q3:f.gen with
     | true =>
      simp [ek,g2,q1,q2,q3]
      exact no (by rw [hf0];simp [q3])
     | false =>
     have hnx:=hnext (by rw [hf0];simp [q1,q2,q3])
     simp [ek,g2,q1,q2,q3]
     intro _
     refine loopH_ok (ks := [0,1,2,3,5,7,8,9,10,12,14,15,16,17,18,36,37,38,39,50,51,52,53,69,81,82,83,84,104,105,106,107,119,120,121,122,150,151,152,153,171,190,192,193,194,195,209,217]) (pl := []) (n0:=218) (α := {x:KP//x.k≤f.code.length∧nx5≤x.nx}) (fun x=>[(8,dB (accO p f x.1.k)),(194,dI x.1.k)]) (fun H _=>H) (fun x=>x.1.nx+2) (fun x=>f.code.length-x.1.k) ⟨⟨0,nx5⟩,Nat.zero_le _,Nat.le_refl _⟩ rfl (by kernel_rfl) (Wk.of_eq (by simp [accO])) ?_
     rintro ⟨⟨i,nx6⟩,hi,hnx6⟩
     simp only at hi hnx6
     dsimp only
     by_cases h6:i<f.code.length
     ·have hs:=accO_next (p:=p) h6
      cases hb6:accO p f i with
      | false =>
       rw [hb6,Bool.false_and] at hs
       simp [h6]
       exact ⟨⟨i+1,nx6+1⟩,by simp;omega,by simp;omega,Wk.sub2 (m:=nx6+2) (by simp only [hs];simp [wrap_add (show i<9223372036854775807 by omega)]) rfl (by simp [Hp.set,Hp.none];omega)⟩
      | true =>
       rw [hb6,Bool.true_and] at hs
       have hne:nx5≠nx6+1:=by omega
       simp [h6,hne]
       refine orderRight_at p f i f.code[i] (by omega) hfn.2 hd.1 (by simp [q1,q2,q3]) ?_
       simp
       exact ⟨⟨i+1,nx6+1⟩,by simp;omega,by simp;omega,Wk.sub2 (m:=nx6+2) (by simp only [hs];simp [wrap_add (show i<9223372036854775807 by omega)]) rfl (by simp [Hp.set,Hp.none];omega)⟩
     obtain rfl:i=f.code.length:=by omega
     have hord:accO p f f.code.length=ordersB p f:=rfl
     cases hb6:accO p f f.code.length with
     | false =>
      rw [hord] at hb6
      simp
      exact bad (by simp [functionB,hb6])
     | true =>
      rw [hord] at hb6
      have hgo:=goesAll_of hb6
      simp
      refine known_at f hgo hfn.1 (by simp [q1,q2,q3]) (fun hnf => ?_) (fun all hok hn => ?_)
      ·have hq:functionB p f=false:=by rw [functionB,(tries_bad hgo).2 hnf];simp
       rw [hq] at hnx
       simp
       exact ⟨⟨k+1,nx6+1⟩,by simp;omega,by simp;omega,Wk.sub1 (by simp only [hnx];simp [q1,q2,q3,ek,wrap_one,wrap_add (show k<9223372036854775807 by omega)]) (by simp)⟩
      ·have hq:functionB p f=true:=by
        have hfin:=hok.fine hn
        have htb:(triesQ f).bad=false:=by
         cases hb7:(triesQ f).bad with
         | false=>rfl
         | true=>exact absurd hfin ((tries_bad hgo).1 hb7)
        rw [functionB,hb6,htb,hg0];rfl
       rw [hq] at hnx
       simp
       exact ⟨⟨k+1,nx6+2⟩,by simp;omega,by simp;omega,Wk.sub1 (by simp only [hnx];simp [q1,q2,q3,ek,wrap_one,wrap_add (show k<9223372036854775807 by omega)]) (by simp)⟩
    ·have hnx:=hnext (hfirst (by omega))
     simp [ek,g2]
     intro _
     refine loopH_ok (ks := [0,1,2,3,5,7,8,9,10,12,14,15,16,17,18,36,37,38,39,50,51,52,53,69,81,82,83,84,104,105,106,107,119,120,121,122,150,151,152,153,171,190,192,193,194,195,209,217]) (pl := []) (n0:=218) (α := {x:KP//x.k≤f.code.length∧nx5≤x.nx}) (fun x=>[(8,dB (accO p f x.1.k)),(194,dI x.1.k)]) (fun H _=>H) (fun x=>x.1.nx+2) (fun x=>f.code.length-x.1.k) ⟨⟨0,nx5⟩,Nat.zero_le _,Nat.le_refl _⟩ rfl (by kernel_rfl) (Wk.of_eq (by simp [accO])) ?_
     rintro ⟨⟨i,nx6⟩,hi,hnx6⟩
     simp only at hi hnx6
     dsimp only
     by_cases h6:i<f.code.length
     ·have hs:=accO_next (p:=p) h6
      cases hb6:accO p f i with
      | false =>
       rw [hb6,Bool.false_and] at hs
       simp [h6]
       exact ⟨⟨i+1,nx6+1⟩,by simp;omega,by simp;omega,Wk.sub2 (m:=nx6+2) (by simp only [hs];simp [wrap_add (show i<9223372036854775807 by omega)]) rfl (by simp [Hp.set,Hp.none];omega)⟩
      | true =>
       rw [hb6,Bool.true_and] at hs
       have hne:nx5≠nx6+1:=by omega
       simp [h6,hne]
       refine orderRight_at p f i f.code[i] (by omega) hfn.2 hd.1 (by simp [ek]) ?_
       simp
       exact ⟨⟨i+1,nx6+1⟩,by simp;omega,by simp;omega,Wk.sub2 (m:=nx6+2) (by simp only [hs];simp [wrap_add (show i<9223372036854775807 by omega)]) rfl (by simp [Hp.set,Hp.none];omega)⟩
     obtain rfl:i=f.code.length:=by omega
     have hord:accO p f f.code.length=ordersB p f:=rfl
     cases hb6:accO p f f.code.length with
     | false =>
      rw [hord] at hb6
      simp
      exact bad (by simp [functionB,hb6])
     | true =>
      rw [hord] at hb6
      have hgo:=goesAll_of hb6
      simp
      refine known_at f hgo hfn.1 (by simp [ek]) (fun hnf => ?_) (fun all hok hn => ?_)
      ·have hq:functionB p f=false:=by rw [functionB,(tries_bad hgo).2 hnf];simp
       rw [hq] at hnx
       simp
       exact ⟨⟨k+1,nx6+1⟩,by simp;omega,by simp;omega,Wk.sub1 (by simp only [hnx];simp [ek,ek,wrap_one,wrap_add (show k<9223372036854775807 by omega)]) (by simp)⟩
      ·have hq:functionB p f=true:=by
        have hfin:=hok.fine hn
        have htb:(triesQ f).bad=false:=by
         cases hb7:(triesQ f).bad with
         | false=>rfl
         | true=>exact absurd hfin ((tries_bad hgo).1 hb7)
        rw [functionB,hb6,htb,hg0];rfl
       rw [hq] at hnx
       simp
       exact ⟨⟨k+1,nx6+2⟩,by simp;omega,by simp;omega,Wk.sub1 (by simp only [hnx];simp [ek,ek,wrap_one,wrap_add (show k<9223372036854775807 by omega)]) (by simp)⟩
  obtain rfl:k=p.fns.length:=by omega
  cases hb:accF p b4 p.fns.length with
  | false =>
   simp
   by_cases h0:0<p.fns.length
   ·exact hFk hb h0
   ·exact three (.inr (.inl (by
     have:p.fns=[]:=List.eq_nil_of_length_eq_zero (by omega)
     simp [firstB,this])))
  | true =>
   simp
   rw [accF,Bool.and_eq_true,Bool.and_eq_true,List.take_length,List.all_eq_true] at hb
   obtain ⟨⟨g1,g2⟩,g3⟩:=hb
   obtain ⟨g4,g5⟩:=hT4 g1
   rw [decide_eq_false (by omega),Bool.false_or] at g2
   exact zero g5 g2 g3
 ·simp [c3]
  intro _
  refine loopH_ok (ks := [0,1,2,3,5,7,8,9,10,12,14,15,16,17,18,36,37,38,39,50,51,52,53,69,81,82,83,84,104,105,106,107,119,120,121,122,150,151,152,153,171,190,192,193,194,195,209,217]) (pl := []) (n0:=218) (α := {x:KP//x.k≤p.texts.length}) (fun x=>[(8,dB (accT (false) p.texts x.1.k)),(83,dI x.1.k)]) (fun _ _=>Hp.none.set 0 (some ⟨.c 39,3,[(eProg p).map .d]⟩)) (fun x=>x.1.nx+1) (fun x=>p.texts.length-x.1.k) ⟨⟨0,nx2⟩,Nat.zero_le _⟩ rfl (by kernel_rfl) (Wk.of_eq (by simp [accT])) ?_
  rintro ⟨⟨k,nx3⟩,hk⟩
  simp only at hk
  dsimp only
  by_cases h3:k<p.texts.length
  ·have hmin:min k p.texts.length=k:=Nat.min_eq_left (by omega)
   cases hb:accT (false) p.texts k with
   | false =>
    simp [h3]
    refine ⟨by omega,fun _ => ?_⟩
    refine loopH_ok (ks := [0,1,2,3,5,7,8,9,10,12,14,15,16,17,18,36,37,38,39,50,51,52,53,69,81,82,83,84,104,105,106,107,119,120,121,122,150,151,152,153,171,190,192,193,194,195,209,217]) (pl := []) (n0:=218) (α := {x:KP//x.k≤k}) (fun x=>[(8,dB (accU (false) p.texts k x.1.k)),(106,dI x.1.k)]) (fun _ _=>Hp.none.set 0 (some ⟨.c 39,3,[(eProg p).map .d]⟩)) (fun x=>x.1.nx+1) (fun x=>k-x.1.k) ⟨⟨0,nx3⟩,Nat.zero_le _⟩ rfl (by kernel_rfl) (Wk.sub1 (by simp [accU_zero,hmin]) (by simp)) ?_
    rintro ⟨⟨i,nx4⟩,hi⟩
    simp only at hi
    dsimp only
    by_cases h4:i<k
    ·have hs:=accU_next (b:=(false)) (ts:=p.texts) (k:=k) (i:=i)
     have hi2:i<p.texts.length:=by omega
     cases hb:accU (false) p.texts k i with
     | false =>
      rw [hb,Bool.false_and] at hs
      simp [h3,h4,hi2,hmin]
      exact ⟨⟨i+1,nx4⟩,by simp;omega,by simp;omega,Wk.sub1 (by simp only [hs];simp [wrap_add (show i<9223372036854775807 by omega)]) (by simp)⟩
     | true =>
      rw [hb,Bool.true_and,gT_at hi2,gT_at h3] at hs
      simp [h3,h4,hi2,hmin]
      exact ⟨⟨i+1,nx4⟩,by simp;omega,by simp;omega,Wk.sub1 (by simp only [hs];simp [wrap_add (show i<9223372036854775807 by omega)]) (by simp)⟩
    obtain rfl:i=k:=by omega
    have hU:accT (false) p.texts (i+1)=accU (false) p.texts i i:=by rw [accT,hb,Bool.false_and]
    simp [hmin]
    exact ⟨⟨i+1,nx4⟩,by simp;omega,by simp;omega,Wk.sub1 (by simp only [hU];simp [wrap_add (show i<9223372036854775807 by omega)]) (by simp)⟩
   | true =>
    by_cases h19:19≤k
    ·have h19':(19:Int)≤k:=by omega
     simp [h3,h19']
     refine ⟨by omega,fun _ => ?_⟩
     refine loopH_ok (ks := [0,1,2,3,5,7,8,9,10,12,14,15,16,17,18,36,37,38,39,50,51,52,53,69,81,82,83,84,104,105,106,107,119,120,121,122,150,151,152,153,171,190,192,193,194,195,209,217]) (pl := []) (n0:=218) (α := {x:KP//x.k≤k}) (fun x=>[(8,dB (accU (true) p.texts k x.1.k)),(106,dI x.1.k)]) (fun _ _=>Hp.none.set 0 (some ⟨.c 39,3,[(eProg p).map .d]⟩)) (fun x=>x.1.nx+1) (fun x=>k-x.1.k) ⟨⟨0,nx3⟩,Nat.zero_le _⟩ rfl (by kernel_rfl) (Wk.sub1 (by simp [accU_zero,hmin]) (by simp)) ?_
     rintro ⟨⟨i,nx4⟩,hi⟩
     simp only at hi
     dsimp only
     by_cases h4:i<k
     ·have hs:=accU_next (b:=(true)) (ts:=p.texts) (k:=k) (i:=i)
      have hi2:i<p.texts.length:=by omega
      cases hb:accU (true) p.texts k i with
      | false =>
       rw [hb,Bool.false_and] at hs
       simp [h3,h4,hi2,hmin]
       exact ⟨⟨i+1,nx4⟩,by simp;omega,by simp;omega,Wk.sub1 (by simp only [hs];simp [wrap_add (show i<9223372036854775807 by omega)]) (by simp)⟩
      | true =>
       rw [hb,Bool.true_and,gT_at hi2,gT_at h3] at hs
       simp [h3,h4,hi2,hmin]
       exact ⟨⟨i+1,nx4⟩,by simp;omega,by simp;omega,Wk.sub1 (by simp only [hs];simp [wrap_add (show i<9223372036854775807 by omega)]) (by simp)⟩
     obtain rfl:i=k:=by omega
     have hU:accT (false) p.texts (i+1)=accU (true) p.texts i i:=by rw [accT,hb,Bool.true_and,show wordOk p.texts i=true by simp [wordOk,h19]]
     simp [hmin]
     exact ⟨⟨i+1,nx4⟩,by simp;omega,by simp;omega,Wk.sub1 (by simp only [hU];simp [wrap_add (show i<9223372036854775807 by omega)]) (by simp)⟩
    ·have h19' : ¬ (19:Int)≤k:=by omega
     have hkw:k<wordsT.length:=by have:wordsT.length=19:=rfl;omega
     have hwg:wordsT[k]? = some wordsT[k]:=List.getElem?_eq_getElem hkw
     have hwk:wordOk p.texts k=decide (p.texts[k]=wordsT[k]):=by simp [wordOk,h19,gT_at h3,gT_at hkw]
     simp [h3,h19']
     refine ownWords_ok ?_
     simp [h3,h19',hkw,hwg]
     refine ⟨by omega,fun _ => ?_⟩
     generalize hB:wordOk p.texts k=bw at *
     refine loopH_ok (ks := [0,1,2,3,5,7,8,9,10,12,14,15,16,17,18,36,37,38,39,50,51,52,53,69,81,82,83,84,104,105,106,107,119,120,121,122,150,151,152,153,171,190,192,193,194,195,209,217]) (pl := []) (n0:=218) (α := {x:KP//x.k≤k}) (fun x=>[(8,dB (accU (bw) p.texts k x.1.k)),(106,dI x.1.k)]) (fun _ _=>Hp.none.set 0 (some ⟨.c 39,3,[(eProg p).map .d]⟩)) (fun x=>x.1.nx+1) (fun x=>k-x.1.k) ⟨⟨0,nx3+1⟩,Nat.zero_le _⟩ rfl (by kernel_rfl) (Wk.sub1 (by simp [accU_zero,hmin,hwk]) (by simp)) ?_
     rintro ⟨⟨i,nx4⟩,hi⟩
     simp only at hi
     dsimp only
     by_cases h4:i<k
     ·have hs:=accU_next (b:=(bw)) (ts:=p.texts) (k:=k) (i:=i)
      have hi2:i<p.texts.length:=by omega
      cases hb:accU (bw) p.texts k i with
      | false =>
       rw [hb,Bool.false_and] at hs
       simp [h3,h4,hi2,hmin]
       exact ⟨⟨i+1,nx4⟩,by simp;omega,by simp;omega,Wk.sub1 (by simp only [hs];simp [wrap_add (show i<9223372036854775807 by omega)]) (by simp)⟩
      | true =>
       rw [hb,Bool.true_and,gT_at hi2,gT_at h3] at hs
       simp [h3,h4,hi2,hmin]
       exact ⟨⟨i+1,nx4⟩,by simp;omega,by simp;omega,Wk.sub1 (by simp only [hs];simp [wrap_add (show i<9223372036854775807 by omega)]) (by simp)⟩
     obtain rfl:i=k:=by omega
     have hU:accT (false) p.texts (i+1)=accU (bw) p.texts i i:=by rw [accT,hb,Bool.true_and,hB]
     simp [hmin]
     exact ⟨⟨i+1,nx4⟩,by simp;omega,by simp;omega,Wk.sub1 (by simp only [hU];simp [wrap_add (show i<9223372036854775807 by omega)]) (by simp)⟩
  obtain rfl:k=p.texts.length:=by omega
  generalize hb3:accT (false) p.texts p.texts.length=b3 at *
  have hT:b3=true↔(0<p.fns.length∧p.texts.take wordsT.length=wordsT∧p.texts.Nodup):=by
   rw [← hb3,accT_iff]
   constructor
   ·rintro ⟨h, -⟩;cases h
   ·rintro ⟨-, h, -⟩
    have:=congrArg List.length h
    have hw:wordsT.length=19:=rfl
    rw [List.length_take] at this;omega
  clear hb3
  simp
  intro _
  refine loopH_ok (ks := [0,1,2,3,5,7,8,9,10,12,14,15,16,17,18,36,37,38,39,50,51,52,53,69,81,82,83,84,104,105,106,107,119,120,121,122,150,151,152,153,171,190,192,193,194,195,209,217]) (pl := []) (n0:=218) (α := {x:KP//x.k≤p.consts.length}) (fun x=>[(8,dB (accC p b3 x.1.k)),(121,dI x.1.k)]) (fun _ _=>Hp.none.set 0 (some ⟨.c 39,3,[(eProg p).map .d]⟩)) (fun x=>x.1.nx+1) (fun x=>p.consts.length-x.1.k) ⟨⟨0,nx3⟩,Nat.zero_le _⟩ rfl (by kernel_rfl) (Wk.of_eq (by simp [accC_zero])) ?_
  rintro ⟨⟨k,nx4⟩,hk⟩
  simp only at hk
  dsimp only
  by_cases h4:k<p.consts.length
  ·have hs:=accC_next (b:=b3) h4
   cases hb:accC p b3 k with
   | false =>
    rw [hb,Bool.false_and] at hs
    simp [h4]
    exact ⟨⟨k+1,nx4+1⟩,by simp;omega,by simp;omega,Wk.sub1 (by simp only [hs];simp [wrap_add (show k<9223372036854775807 by omega)]) (by simp)⟩
   | true =>
    rw [hb,Bool.true_and] at hs
    simp [h4]
    generalize p.consts[k]=v at *
    obtain ⟨vk,vn⟩:=v
    refine rightVal_ok _ _ ?_
    cases e1:rightB vk vn with
    | false =>
     simp
     exact ⟨⟨k+1,nx4+1⟩,by simp;omega,by simp;omega,Wk.sub1 (by simp only [hs];simp [constBadB,e1,wrap_add (show k<9223372036854775807 by omega)]) (by simp)⟩
    | true =>
    by_cases e5:vk=5
    ·simp [e5]
     exact ⟨⟨k+1,nx4+1⟩,by simp;omega,by simp;omega,Wk.sub1 (by simp only [hs];simp [constBadB,e1,e5,wrap_add (show k<9223372036854775807 by omega)]) (by simp)⟩
    by_cases e4:vk=4
    ·subst e4
     have hlt:decide (vn<(p.texts.length:Int)) = !decide ((p.texts.length:Int)≤vn):=by rw [Bool.eq_iff_iff];simp
     simp
     intro _
     exact ⟨⟨k+1,nx4+1⟩,by simp;omega,by simp;omega,Wk.sub1 (by simp only [hs];simp [constBadB,e1,hlt,wrap_add (show k<9223372036854775807 by omega)]) (by simp)⟩
    ·simp [e4,e5]
     exact ⟨⟨k+1,nx4+1⟩,by simp;omega,by simp;omega,Wk.sub1 (by simp only [hs];simp [constBadB,e1,e4,e5,wrap_add (show k<9223372036854775807 by omega)]) (by simp)⟩
  obtain rfl:k=p.consts.length:=by omega
  have hT4:accC p b3 p.consts.length=true->0<p.fns.length∧tablesB wordsT p=true:=fun e=>by
   rw [accC,List.take_length,Bool.and_eq_true] at e
   obtain ⟨e1,e2⟩:=e
   obtain ⟨t1,t2,t3⟩:=hT.1 e1
   refine ⟨t1,?_⟩
   simp only [tablesB,Bool.and_eq_true,decide_eq_true_eq,Bool.not_eq_true',List.any_eq_false]
   refine ⟨⟨t2,t3⟩,fun v hv => ?_⟩
   have:=List.all_eq_true.1 e2 v hv
   simpa using this
  have hF4:accC p b3 p.consts.length=false->0<p.fns.length->tablesB wordsT p=false:=fun e h0=>by
   cases ht:tablesB wordsT p with
   | false=>rfl
   | true =>
    simp only [tablesB,Bool.and_eq_true,decide_eq_true_eq,Bool.not_eq_true',List.any_eq_false] at ht
    have e1:=hT.2 ⟨h0,ht.1.1,ht.1.2⟩
    rw [accC,List.take_length,e1,Bool.true_and] at e
    have:p.consts.all (fun v => !constBadB p v)=true:=List.all_eq_true.2 fun v hv=>by simpa using ht.2 v hv
    rw [this] at e;cases e
  generalize accC p b3 p.consts.length=b4 at *
  simp
  intro _
  refine loopH_ok (ks := [0,1,2,3,5,7,8,9,10,12,14,15,16,17,18,36,37,38,39,50,51,52,53,69,81,82,83,84,104,105,106,107,119,120,121,122,150,151,152,153,171,190,192,193,194,195,209,217]) (pl := []) (n0:=218) (α := {x:KP//x.k≤p.fns.length}) (fun x=>[(8,dB (accF p b4 x.1.k)),(152,dI x.1.k)]) (fun _ _=>Hp.none.set 0 (some ⟨.c 39,3,[(eProg p).map .d]⟩)) (fun x=>x.1.nx+1) (fun x=>p.fns.length-x.1.k) ⟨⟨0,nx4⟩,Nat.zero_le _⟩ rfl (by kernel_rfl) (Wk.of_eq (by simp [accF])) ?_
  rintro ⟨⟨k,nx5⟩,hk⟩
  simp only at hk
  dsimp only
  have hFk:accF p b4 k=false->0<p.fns.length->K (dI 3) []:=fun e h0=>by
   refine three ?_
   cases b4 with
   | false=>exact .inl (hF4 rfl h0)
   | true =>
    rw [accF,Bool.true_and,Bool.and_eq_false_iff] at e
    rcases e with e | e
    ·simp at e;exact .inr (.inl e.2)
    ·rw [List.all_eq_false] at e
     obtain ⟨f,hf,h2⟩:=e
     exact .inr (.inr ⟨f,List.mem_of_mem_take hf,by simpa using h2⟩)
  by_cases h5:k<p.fns.length
  ·cases hb:accF p b4 k with
   | false =>
    simp [h5]
    exact hFk hb (by omega)
   | true =>
    have hfn:=hd.2.2.2 p.fns[k] (List.getElem_mem h5)
    have bad:functionB p p.fns[k]=false->K (dI 3) []:=fun e=>three (.inr (.inr ⟨_,List.getElem_mem h5,e⟩))
    have hnext:firstB p=true->accF p b4 (k+1)=functionB p p.fns[k]:=fun e=>by
     rw [accF,all_take_next h5,e]
     rw [accF,Bool.and_eq_true,Bool.and_eq_true] at hb
     rw [hb.1.1,hb.2];simp
    have hfirst:0<k->firstB p=true:=fun e=>by
     rw [accF,Bool.and_eq_true,Bool.and_eq_true] at hb
     have:=hb.1.2
     rw [decide_eq_false (by omega),Bool.false_or] at this
     exact this
    have hfirst0:k=0->firstB p=(decide (p.fns[k].params=0)&&decide (p.fns[k].caught=[]) && !p.fns[k].gen):=fun e=>by
     subst e
     exact firstB_get h5
    generalize hfk:p.fns[k]=f at *
    simp [h5,hfk]
    refine between_ok _ _ _ ?_
    cases g1:btw f.params 0 f.regs with
    | false =>
     have hbad:functionB p f=false:=by
      have : ¬ (¬ f.params<0 ∧ ¬ f.regs<1 ∧ ¬ f.regs<f.params):=fun e=>by simp [btw] at g1;omega
      cases hq:functionB p f with
      | false=>rfl
      | true =>
       simp only [functionB,Bool.and_eq_true,Bool.not_eq_true',Bool.or_eq_false_iff,decide_eq_false_iff_not] at hq
       exact absurd ⟨hq.1.1.1.1,hq.1.1.1.2,hq.1.1.2⟩ this
     by_cases ek:k=0
     ·simp [ek]
      exact bad hbad
     ·simp [ek]
      exact bad hbad
    | true =>
    by_cases g2:0<f.regs
    case neg =>
     have hbad:functionB p f=false:=by
      cases hq:functionB p f with
      | false=>rfl
      | true =>
       simp only [functionB,Bool.and_eq_true,Bool.not_eq_true',Bool.or_eq_false_iff,decide_eq_false_iff_not] at hq
       omega
     by_cases ek:k=0
     ·simp [ek,g2]
      exact bad hbad
     ·simp [ek,g2]
      exact bad hbad
    have hg0:(!(decide (f.params<0)||decide (f.regs<1)||decide (f.regs<f.params)))=true:=by
     simp [btw] at g1
     simp;omega
    by_cases ek:k=0
    ·have hf0:=hfirst0 ek
     have no:firstB p=false->K (dI 3) []:=fun e=>three (.inr (.inl e))
     by_cases q1:f.params=0
     case neg =>
      simp [ek,g2,q1]
      exact no (by rw [hf0];simp [q1])
     by_cases q2:f.caught=[]
     case neg =>
      simp [ek,g2,q1,q2]
      intro _
      exact no (by rw [hf0];simp [q2])
     cases q3:f.gen with
     | true =>
      simp [ek,g2,q1,q2,q3]
      exact no (by rw [hf0];simp [q3])
     | false =>
     have hnx:=hnext (by rw [hf0];simp [q1,q2,q3])
     simp [ek,g2,q1,q2,q3]
     intro _
     refine loopH_ok (ks := [0,1,2,3,5,7,8,9,10,12,14,15,16,17,18,36,37,38,39,50,51,52,53,69,81,82,83,84,104,105,106,107,119,120,121,122,150,151,152,153,171,190,192,193,194,195,209,217]) (pl := []) (n0:=218) (α := {x:KP//x.k≤f.code.length∧nx5≤x.nx}) (fun x=>[(8,dB (accO p f x.1.k)),(194,dI x.1.k)]) (fun H _=>H) (fun x=>x.1.nx+2) (fun x=>f.code.length-x.1.k) ⟨⟨0,nx5⟩,Nat.zero_le _,Nat.le_refl _⟩ rfl (by kernel_rfl) (Wk.of_eq (by simp [accO])) ?_
     rintro ⟨⟨i,nx6⟩,hi,hnx6⟩
     simp only at hi hnx6
     dsimp only
     by_cases h6:i<f.code.length
     ·have hs:=accO_next (p:=p) h6
      cases hb6:accO p f i with
      | false =>
       rw [hb6,Bool.false_and] at hs
       simp [h6]
       exact ⟨⟨i+1,nx6+1⟩,by simp;omega,by simp;omega,Wk.sub2 (m:=nx6+2) (by simp only [hs];simp [wrap_add (show i<9223372036854775807 by omega)]) rfl (by simp [Hp.set,Hp.none];omega)⟩
      | true =>
       rw [hb6,Bool.true_and] at hs
       have hne:nx5≠nx6+1:=by omega
       simp [h6,hne]
       refine orderRight_at p f i f.code[i] (by omega) hfn.2 hd.1 (by simp [q1,q2,q3]) ?_
       simp
       exact ⟨⟨i+1,nx6+1⟩,by simp;omega,by simp;omega,Wk.sub2 (m:=nx6+2) (by simp only [hs];simp [wrap_add (show i<9223372036854775807 by omega)]) rfl (by simp [Hp.set,Hp.none];omega)⟩
     obtain rfl:i=f.code.length:=by omega
     have hord:accO p f f.code.length=ordersB p f:=rfl
     cases hb6:accO p f f.code.length with
     | false =>
      rw [hord] at hb6
      simp
      exact bad (by simp [functionB,hb6])
     | true =>
      rw [hord] at hb6
      have hgo:=goesAll_of hb6
      simp
      refine known_at f hgo hfn.1 (by simp [q1,q2,q3]) (fun hnf => ?_) (fun all hok hn => ?_)
      ·have hq:functionB p f=false:=by rw [functionB,(tries_bad hgo).2 hnf];simp
       rw [hq] at hnx
       simp
       exact ⟨⟨k+1,nx6+1⟩,by simp;omega,by simp;omega,Wk.sub1 (by simp only [hnx];simp [q1,q2,q3,ek,wrap_one,wrap_add (show k<9223372036854775807 by omega)]) (by simp)⟩
      ·have hq:functionB p f=true:=by
        have hfin:=hok.fine hn
        have htb:(triesQ f).bad=false:=by
         cases hb7:(triesQ f).bad with
         | false=>rfl
         | true=>exact absurd hfin ((tries_bad hgo).1 hb7)
        rw [functionB,hb6,htb,hg0];rfl
       rw [hq] at hnx
       simp
       exact ⟨⟨k+1,nx6+2⟩,by simp;omega,by simp;omega,Wk.sub1 (by simp only [hnx];simp [q1,q2,q3,ek,wrap_one,wrap_add (show k<9223372036854775807 by omega)]) (by simp)⟩
    ·have hnx:=hnext (hfirst (by omega))
     simp [ek,g2]
     intro _
     refine loopH_ok (ks := [0,1,2,3,5,7,8,9,10,12,14,15,16,17,18,36,37,38,39,50,51,52,53,69,81,82,83,84,104,105,106,107,119,120,121,122,150,151,152,153,171,190,192,193,194,195,209,217]) (pl := []) (n0:=218) (α := {x:KP//x.k≤f.code.length∧nx5≤x.nx}) (fun x=>[(8,dB (accO p f x.1.k)),(194,dI x.1.k)]) (fun H _=>H) (fun x=>x.1.nx+2) (fun x=>f.code.length-x.1.k) ⟨⟨0,nx5⟩,Nat.zero_le _,Nat.le_refl _⟩ rfl (by kernel_rfl) (Wk.of_eq (by simp [accO])) ?_
     rintro ⟨⟨i,nx6⟩,hi,hnx6⟩
     simp only at hi hnx6
     dsimp only
     by_cases h6:i<f.code.length
     ·have hs:=accO_next (p:=p) h6
      cases hb6:accO p f i with
      | false =>
       rw [hb6,Bool.false_and] at hs
       simp [h6]
       exact ⟨⟨i+1,nx6+1⟩,by simp;omega,by simp;omega,Wk.sub2 (m:=nx6+2) (by simp only [hs];simp [wrap_add (show i<9223372036854775807 by omega)]) rfl (by simp [Hp.set,Hp.none];omega)⟩
      | true =>
       rw [hb6,Bool.true_and] at hs
       have hne:nx5≠nx6+1:=by omega
       simp [h6,hne]
       refine orderRight_at p f i f.code[i] (by omega) hfn.2 hd.1 (by simp [ek]) ?_
       simp
       exact ⟨⟨i+1,nx6+1⟩,by simp;omega,by simp;omega,Wk.sub2 (m:=nx6+2) (by simp only [hs];simp [wrap_add (show i<9223372036854775807 by omega)]) rfl (by simp [Hp.set,Hp.none];omega)⟩
     obtain rfl:i=f.code.length:=by omega
     have hord:accO p f f.code.length=ordersB p f:=rfl
     cases hb6:accO p f f.code.length with
     | false =>
      rw [hord] at hb6
      simp
      exact bad (by simp [functionB,hb6])
     | true =>
      rw [hord] at hb6
      have hgo:=goesAll_of hb6
      simp
      refine known_at f hgo hfn.1 (by simp [ek]) (fun hnf => ?_) (fun all hok hn => ?_)
      ·have hq:functionB p f=false:=by rw [functionB,(tries_bad hgo).2 hnf];simp
       rw [hq] at hnx
       simp
       exact ⟨⟨k+1,nx6+1⟩,by simp;omega,by simp;omega,Wk.sub1 (by simp only [hnx];simp [ek,ek,wrap_one,wrap_add (show k<9223372036854775807 by omega)]) (by simp)⟩
      ·have hq:functionB p f=true:=by
        have hfin:=hok.fine hn
        have htb:(triesQ f).bad=false:=by
         cases hb7:(triesQ f).bad with
         | false=>rfl
         | true=>exact absurd hfin ((tries_bad hgo).1 hb7)
        rw [functionB,hb6,htb,hg0];rfl
       rw [hq] at hnx
       simp
       exact ⟨⟨k+1,nx6+2⟩,by simp;omega,by simp;omega,Wk.sub1 (by simp only [hnx];simp [ek,ek,wrap_one,wrap_add (show k<9223372036854775807 by omega)]) (by simp)⟩
  obtain rfl:k=p.fns.length:=by omega
  cases hb:accF p b4 p.fns.length with
  | false =>
   simp
   by_cases h0:0<p.fns.length
   ·exact hFk hb h0
   ·exact three (.inr (.inl (by
     have:p.fns=[]:=List.eq_nil_of_length_eq_zero (by omega)
     simp [firstB,this])))
  | true =>
   simp
   rw [accF,Bool.and_eq_true,Bool.and_eq_true,List.take_length,List.all_eq_true] at hb
   obtain ⟨⟨g1,g2⟩,g3⟩:=hb
   obtain ⟨g4,g5⟩:=hT4 g1
   rw [decide_eq_false (by omega),Bool.false_or] at g2
   exact zero g5 g2 g3
end Go.Proofs.YtbphdcffpobcbaaGreatDoor
