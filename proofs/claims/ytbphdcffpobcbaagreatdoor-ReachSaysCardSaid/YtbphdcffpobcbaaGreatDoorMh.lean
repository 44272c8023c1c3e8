/- Several texts in one. -/
import Derived.Test.YtbphdcffpobcbaaGreatDoorMd
import Derived.Test.YtbphdcffpobcbaaGreatDoorMe
set_option linter.unusedSimpArgs false
set_option linter.unusedVariables false
set_option maxRecDepth 100000
set_option maxHeartbeats 16000000
namespace Go.Proofs.YtbphdcffpobcbaaGreatDoor
open Go.RowKit Go
def toR (c:UInt8):UInt8:=if c=45 then 46 else if c=97 then 112 else if c=99 then 114 else c
def formR (op:Int):UInt8×UInt8×UInt8:=(toR (formA op).1,toR (formA op).2.1,toR (formA op).2.2)
theorem orderForm_ok (op:Int) {K:D->List Blk->Prop} (h0 : ¬ isOp op->K (dS ⟨#[]⟩) []) (h:isOp op->K (dS (formS (formR op))) []):DPure Tryz.prog 158 [dI op] K:=by
 refine fn_ok [0,2,3,4,6,15,26,29,32,41,43,45,47,49,51,53] [] Tryz.func158 rfl (by kernel_rfl) rfl rfl rfl rfl (by kernel_rfl) ?_
 by_cases c:isOp op
 ·have c1:op=1∨op=2∨op=3∨op=4∨op=5∨op=6∨op=7∨op=8∨op=9∨op=10∨op=11∨op=12∨op=13∨op=14∨op=15∨op=16∨op=17∨op=18∨op=19∨op=20∨op=21∨op=22∨op=23∨op=24∨op=25∨op=26∨op=27∨op=28∨op=29∨op=30∨op=31∨op=32∨op=33∨op=34∨op=35∨op=36∨op=37∨op=38:=by have:=c.1;have:=c.2;omega
  replace h:=h c
  clear h0 c
  rcases c1 with rfl | rfl | rfl | rfl | rfl | rfl | rfl | rfl | rfl | rfl | rfl | rfl | rfl | rfl | rfl | rfl | rfl | rfl | rfl | rfl | rfl | rfl | rfl | rfl | rfl | rfl | rfl | rfl | rfl | rfl | rfl | rfl | rfl | rfl | rfl | rfl | rfl | rfl
  all_goals
   simp
   exact h
 ·replace h:=h0 c
  have c':op<1∨39≤op:=by unfold isOp at c;omega
  simp [show op≠1 by omega,show op≠2 by omega,show op≠3 by omega,show op≠4 by omega,show op≠5 by omega,show op≠6 by omega,show op≠7 by omega,show op≠8 by omega,show op≠9 by omega,show op≠10 by omega,show op≠11 by omega,show op≠12 by omega,show op≠13 by omega,show op≠14 by omega,show op≠15 by omega,show op≠16 by omega,show op≠17 by omega,show op≠18 by omega,show op≠19 by omega,show op≠20 by omega,show op≠21 by omega,show op≠22 by omega,show op≠23 by omega,show op≠24 by omega,show op≠25 by omega,show op≠26 by omega,show op≠27 by omega,show op≠28 by omega,show op≠29 by omega,show op≠30 by omega,show op≠31 by omega,show op≠32 by omega,show op≠33 by omega,show op≠34 by omega,show op≠35 by omega,show op≠36 by omega,show op≠37 by omega,show op≠38 by omega]
  exact h
def mostR (p:GProg) (f:GFn) (c:Int):Int :=
 if c=114 then f.regs else if c=107 then lenI p.consts else if c=116 then lenI p.texts else if c=112 then lenI f.code else if c=117 then lenI f.caught else if c=102 then lenI p.fns else if c=108∨c=110 then wr (f.regs+1) else 1
theorem orderMost_ok (p:GProg) (f:GFn) (c:Int) {K:D->List Blk->Prop} (h:K (dI (mostR p f c)) []):DPure Tryz.prog 159 [aD (eProg p),aD (eFn f),dU c] K:=by
 refine fn_ok [0,1,2,3,4,6,7,8,12,17,22,27,32,37] [] Tryz.func159 rfl (by kernel_rfl) rfl rfl rfl rfl (by kernel_rfl) ?_
 simp
 repeat' (first | (refine alt (fun _ => ?_) (fun _ => ?_)) | intro _)
 all_goals simp_all [mostR]
theorem sameTries_ok (S T:Bool) (L M:List GTry) {K:D->List Blk->Prop} (h:K (dB (decide (L=M))) []):DPure Tryz.prog 101 [dL S (L.map eTry),dL T (M.map eTry)] K:=by
 refine fn_ok [0,1,4,5,10,12,13,14,24] [(6,[0,0,3,7,0,0,48,112,255],(.seg 0 (.seg 1 (.seg 2 (.seg 3 (.seg 4 (.seg 5 (.seg 6 (.seg 7 (.seg 8 .last))))))))))] Tryz.func101 rfl (by kernel_rfl) rfl rfl rfl rfl (by kernel_rfl) ?_
 simp
 intro hl hm
 refine alt (fun he => ?_) (fun hne=>kB h (by simp;rintro rfl;exact hne rfl))
 have he:L.length=M.length:=by omega
 intro _
 refine loop_ok (ks := [0,1,4,5,10,12,13,14,24]) (pl := [(6,[0,0,3,7,0,0,48,112,255],(.seg 0 (.seg 1 (.seg 2 (.seg 3 (.seg 4 (.seg 5 (.seg 6 (.seg 7 (.seg 8 .last))))))))))]) (n0:=26) (fun x : {k:Nat//k≤L.length∧L.take k=M.take k} => [(13,dI x.1)]) (fun x=>L.length-x.1) ⟨0,by simp⟩ rfl (by kernel_rfl) (Wk.sub (by simp)) ?_
 rintro ⟨k,hk,ht⟩
 by_cases h1:k<L.length
 ·have h2:k<M.length:=by omega
  simp [h1,h2]
  refine alt (fun hne=>kB h (by simp;rintro rfl;simp at hne)) (fun hc => ?_)
  simp at hc;obtain ⟨e1,e2⟩:=hc
  exact ⟨k+1,by omega,⟨by omega,take_eq_succ ht h1 h2 (by cases hx:L[k];cases hy:M[k];simp_all)⟩,Wk.sub (by simp [wrap_add (show k<9223372036854775807 by omega)])⟩
 ·simp [h1]
  obtain rfl:k=L.length:=by omega
  rw [List.take_length,he,List.take_length] at ht
  exact kB h (by simpa using ht)
structure Kn where
 is:Bool
 tries:List GTry
def dKn:Kn:=⟨false,[]⟩
def kRow (x:Kn):List Dt := [eB x.is,.sl true (x.tries.map eTry)]
attribute [simp] kRow
def cntK (l:List Kn):Nat:=l.countP (fun x => !x.is)
def ClosedAt (f:GFn) (all:List Kn) (k:Nat):Prop := ∀ (hk:k<f.code.length),(all.getD k dKn).is=true -> ¬ stuck f.code[k] (all.getD k dKn).tries ∧
 ∀ m l,(m,l)∈succs f.code[k] k (all.getD k dKn).tries->0≤m∧m<f.code.length∧l.length≤20∧(all.getD m.toNat dKn).is=true∧(all.getD m.toNat dKn).tries=l
structure KInv (f:GFn) (all:List Kn):Prop where
 len:all.length=f.code.length
 sound : ∀ k<f.code.length,(all.getD k dKn).is=true->Rch f k (all.getD k dKn).tries∧(all.getD k dKn).tries.length≤20
 no : ∀ k<f.code.length,(all.getD k dKn).is=false->(all.getD k dKn).tries=[]
 zero:all.getD 0 dKn=⟨true,[]⟩
def badK (n:Nat) (all:List Kn) (m:Int) (l:List GTry):Prop:=(n:Int)≤m∨20<l.length∨((all.getD m.toNat dKn).is=true ∧ ¬ (all.getD m.toNat dKn).tries=l)
theorem KInv.bad {f:GFn} {all:List Kn} (h:KInv f all) {m:Int} {l:List GTry} (hr:Rch f m l) (hm:0≤m) (hb:badK f.code.length all m l) : ¬ Fine f:=fun hf=>by
 obtain ⟨h1,h2,h3, -⟩:=hf m l hr
 rcases hb with hb | hb | ⟨hb,hb2⟩
 ·omega
 ·omega
 ·have hk:m.toNat<f.code.length:=by omega
  obtain ⟨hs, -⟩:=h.sound _ hk hb
  rw [show ((m.toNat:Nat):Int)=m by omega] at hs
  exact hb2 (h3 _ hs)
theorem KInv.set {f:GFn} {all:List Kn} (h:KInv f all) {m:Int} {l:List GTry} (hr:Rch f m l) (hm:0≤m) (hb : ¬ badK f.code.length all m l):KInv f (all.set m.toNat ⟨true,l⟩):=by
 unfold badK at hb
 have hk:m.toNat<all.length:=by rw [h.len];omega
 refine ⟨by rw [List.length_set];exact h.len,fun k hkl hk2 => ?_,fun k hkl hk2 => ?_,?_⟩
 ·rw [getD_set] at hk2 ⊢
  by_cases e:m.toNat=k
  ·subst e
   rw [if_pos ⟨rfl,hk⟩]
   refine ⟨?_,by show l.length≤20;omega⟩
   show Rch f _ l
   rw [show ((m.toNat:Nat):Int)=m by omega];exact hr
  ·rw [if_neg (fun h=>e h.1)] at hk2 ⊢
   exact h.sound k hkl hk2
 ·rw [getD_set] at hk2 ⊢
  by_cases e:m.toNat=k
  ·subst e
   rw [if_pos ⟨rfl,hk⟩] at hk2
   cases hk2
  ·rw [if_neg (fun h=>e h.1)] at hk2 ⊢
   exact h.no k hkl hk2
 ·rw [getD_set]
  split
  ·rename_i e
   have hz:=h.zero
   by_cases e2:l=[]
   ·rw [e2]
   ·refine absurd (.inr (.inr ?_)) hb
    rw [e.1,hz]
    exact ⟨rfl,fun e3=>e2 e3.symm⟩
  ·exact h.zero
theorem set_same {f:GFn} {all:List Kn} (h:KInv f all) {m:Int} {l:List GTry} (hm:0≤m) (hb : ¬ badK f.code.length all m l) (hs:(all.getD m.toNat dKn).is=true):all.set m.toNat ⟨true,l⟩=all:=by
 unfold badK at hb
 have hk:m.toNat<all.length:=by rw [h.len];omega
 have hl:(all.getD m.toNat dKn).tries=l:=by
  by_cases e:(all.getD m.toNat dKn).tries=l
  ·exact e
  ·exact absurd (.inr (.inr ⟨hs,e⟩)) hb
 have he:all.getD m.toNat dKn=all[m.toNat]:=by rw [List.getD_eq_getElem?_getD,List.getElem?_eq_getElem hk];rfl
 rw [he] at hs hl
 have:(⟨true,l⟩:Kn)=all[m.toNat]:=by
  cases hx:all[m.toNat] with
  | mk a b=>rw [hx] at hs hl;simp only at hs hl;rw [hs,hl]
 rw [this]
 exact List.set_getElem_self hk
theorem cnt_set {all:List Kn} {m:Nat} {l:List GTry} (hk:m<all.length):cntK (all.set m ⟨true,l⟩)+(if (all.getD m dKn).is=true then 0 else 1)=cntK all:=by
 have he:all.getD m dKn=all[m]:=by rw [List.getD_eq_getElem?_getD,List.getElem?_eq_getElem hk];rfl
 rw [he]
 unfold cntK
 rw [List.countP_set hk]
 by_cases hs:all[m].is=true
 ·simp [hs]
 ·have:0<all.countP (fun x => !x.is):=List.countP_pos_iff.2 ⟨_,List.getElem_mem hk,by simpa using hs⟩
  simp [hs];omega
structure KnOk (f:GFn) (all:List Kn):Prop extends KInv f all where
 closed : ∀ k,ClosedAt f all k
theorem KnOk.reach {f:GFn} {all:List Kn} (h:KnOk f all) (hn:0<f.code.length) {m:Int} {l:List GTry} (hr:Rch f m l):0≤m∧m<f.code.length∧l.length≤20∧(all.getD m.toNat dKn).is=true∧(all.getD m.toNat dKn).tries=l:=by
 induction hr with
 | start=>exact ⟨by omega,by omega,by simp,by rw [show (0:Int).toNat=0 from rfl,h.zero],by rw [show (0:Int).toNat=0 from rfl,h.zero]⟩
 | @step k l m l' hr hk hs ih =>
  rw [Int.toNat_natCast] at ih
  obtain ⟨-, -, -, i1,i2⟩:=ih
  have hc:=h.closed k hk i1
  rw [i2] at hc
  exact hc.2 _ _ hs
theorem KnOk.fine {f:GFn} {all:List Kn} (h:KnOk f all) (hn:0<f.code.length):Fine f:=fun m l hr=>by
 obtain ⟨h1,h2,h3,h4,h5⟩:=h.reach hn hr
 refine ⟨h2,h3,fun l' hr' => ?_,fun k hk e hst => ?_⟩
 ·rw [← h5,(h.reach hn hr').2.2.2.2]
 ·subst e
  rw [Int.toNat_natCast] at h4 h5
  have hc:=(h.closed k hk h4).1
  rw [h5] at hc
  exact hc hst
def letB (p:GProg) (f:GFn) (c:UInt8) (n:Int):Bool:=btw n 0 (wr (mostR p f c.toNat-1)) && !(decide (c.toNat=102)&&decide (n=0))
theorem letB_eq {p:GProg} {f:GFn} (hr:1≤f.regs) (hr2:f.regs≤60) (hl:p.fns.length≤60) {c:UInt8} (n:Int) (hc:c ∈ [(114:UInt8),107,116,97,117,102,108,110,45]):letB p f (toR c) n=nameB p f c.toNat n:=by
 have e1:wr (f.regs+1)=f.regs+1:=wr_in (by omega) (by omega)
 have e2:wr f.regs=f.regs:=wr_in (by omega) (by omega)
 have e3:wr (lenI p.fns-1)=lenI p.fns-1:=wr_in (by simp only [lenI];omega) (by simp only [lenI];omega)
 have e4:wr 0=0:=by kernel_rfl
 simp only [List.mem_cons,List.not_mem_nil,or_false] at hc
 rcases hc with rfl | rfl | rfl | rfl | rfl | rfl | rfl | rfl | rfl
 all_goals simp [letB,toR,nameB,mostR,e1,e2,e3,e4,btw]
 ·rw [Bool.eq_iff_iff];simp;omega
 ·rw [Bool.eq_iff_iff];simp;omega
theorem formT_let : ∀ t∈formT.drop 1,t.1 ∈ [(114:UInt8),107,116,97,117,102,108,110,45]∧(t=(114,99,110)∨t.2.1 ∈ [(114:UInt8),107,116,97,117,102,108,110,45])∧t.2.2 ∈ [(114:UInt8),107,116,97,117,102,108,110,45]:=by decide
theorem formT_27 : ∀ k<38,formT.getD (k+1) (0,0,0)=(114,99,110)->k+1=27:=by decide
theorem formA_in {op:Int} (h:isOp op):formA op∈formT.drop 1:=by
 obtain ⟨k,rfl⟩ : ∃ k:Nat,op=((k+1:Nat):Int):=⟨op.toNat-1,by have:=h.1;omega⟩
 have hk:k<38:=by have:=h.2;omega
 have hl:(formT.drop 1).length=38:=rfl
 unfold formA
 rw [Int.toNat_natCast]
 have:formT.getD (k+1) (0,0,0)=(formT.drop 1)[k]'(by omega):=by
  rw [List.getD_eq_getElem?_getD,List.getElem_drop,List.getElem?_eq_getElem (by have:formT.length=39:=rfl;omega)]
  simp [Nat.add_comm]
 rw [this]
 exact List.getElem_mem _
theorem formA_27 {op:Int} (h:isOp op) (e:formA op=(114,99,110)):op=27:=by
 obtain ⟨k,rfl⟩ : ∃ k:Nat,op=((k+1:Nat):Int):=⟨op.toNat-1,by have:=h.1;omega⟩
 have hk:k<38:=by have:=h.2;omega
 unfold formA at e
 rw [Int.toNat_natCast] at e
 have:=formT_27 k hk e
 omega
def orderKR (p:GProg) (f:GFn) (at_:Int) (i:GIns):Bool :=
 if i.op=14 then decide (i.a≤at_) else if i.op=19 then decide (wr (i.b+i.c)≤f.regs) else if i.op=27 then decide (wr (i.b+i.c)<f.regs)
 else if i.op=32 then f.gen else if i.op=26 then (p.fns.getD i.b.toNat ⟨0,0,false,[],[]⟩).caught.all (fun c=>decide (c<f.regs)&&decide (wr (0-lenI f.caught)≤c)) else true
def orderRB (p:GProg) (f:GFn) (at_:Int) (i:GIns):Bool :=
 decide (isOp i.op)&&btw i.line 0 2000&&letB p f (formR i.op).1 i.a&&letB p f (formR i.op).2.1 i.b&&letB p f (formR i.op).2.2 i.c&&orderKR p f at_ i
theorem orderRB_eq {p:GProg} {f:GFn} (hr:1≤f.regs) (hr2:f.regs≤60) (hl:p.fns.length≤60) (hc:f.caught.length≤9223372036854775807) (at_:Int) (i:GIns):orderRB p f at_ i=orderB p f at_ i:=by
 unfold orderRB orderB
 by_cases h0:isOp i.op
 case neg=>simp [h0]
 obtain ⟨l1,l2,l3⟩:=formT_let _ (formA_in h0)
 have k1:letB p f (formR i.op).1 i.a=nameB p f (formA i.op).1.toNat i.a:=letB_eq hr hr2 hl _ l1
 have k3:letB p f (formR i.op).2.2 i.c=nameB p f (formA i.op).2.2.toNat i.c:=letB_eq hr hr2 hl _ l3
 rw [k1,k3]
 have er:wr (f.regs-1)=f.regs-1:=wr_in (by omega) (by omega)
 have ek:i.op≠27->orderKR p f at_ i=orderK p f at_ i:=fun h27=>by
  unfold orderKR orderK
  by_cases e1:i.op=14
  ·rw [if_pos e1,if_pos e1]
  rw [if_neg e1,if_neg e1]
  by_cases e2:i.op=19
  ·rw [if_pos e2,if_pos e2]
  rw [if_neg e2,if_neg e2,if_neg h27,if_neg h27]
  by_cases e3:i.op=26
  ·have h32:i.op≠32:=by omega
   rw [if_neg h32,if_pos e3,if_pos e3]
   unfold caughtB
   rw [Bool.eq_iff_iff]
   simp only [List.all_eq_true,Bool.not_eq_true',List.any_eq_false,Bool.and_eq_true,decide_eq_true_eq,caught1B,er,btw]
   have hn:wr (0-lenI f.caught)=0-lenI f.caught:=wr_in (by simp only [lenI];omega) (by simp only [lenI];omega)
   rw [hn]
   constructor
   ·intro h c hc
    have:=h c hc
    simp only [Bool.not_eq_true',Bool.and_eq_false_iff,decide_eq_false_iff_not]
    omega
   ·intro h c hc
    have:=h c hc
    simp only [Bool.not_eq_true',Bool.and_eq_false_iff,decide_eq_false_iff_not] at this
    have hp:0≤lenI f.caught:=by simp only [lenI];omega
    omega
  ·by_cases e4:i.op=32
   ·rw [if_pos e4,if_neg e3,if_pos e4]
   ·rw [if_neg e4,if_neg e3,if_neg e3,if_neg e4]
 rcases l2 with l2 | l2
 ·have h27:=formA_27 h0 l2
  have hR:formR i.op=(114,114,110):=by rw [h27];rfl
  rw [l2,hR]
  have kr:nameB p f ((114,99,110):UInt8×UInt8×UInt8).2.1.toNat i.b=btw i.b 0 f.regs:=by simp [nameB]
  have kl:letB p f ((114,114,110):UInt8×UInt8×UInt8).2.1 i.b=btw i.b 0 (f.regs-1):=by simp [letB,mostR,er]
  have kc:nameB p f ((114,99,110):UInt8×UInt8×UInt8).2.2.toNat i.c=btw i.c 0 f.regs:=by simp [nameB]
  rw [kr,kl,kc]
  unfold orderKR orderK
  rw [if_neg (by omega),if_neg (by omega),if_pos h27,if_neg (by omega),if_neg (by omega),if_pos h27,er]
  rw [Bool.eq_iff_iff]
  simp only [Bool.and_eq_true,decide_eq_true_eq,btw]
  constructor
  ·rintro ⟨⟨⟨⟨⟨a1,a2⟩,a3⟩,a4⟩,a5⟩,a6⟩
   rw [wr_in (by omega) (by omega)] at a6 ⊢
   exact ⟨⟨⟨⟨⟨a1,a2⟩,a3⟩,by omega⟩,a5⟩,by omega⟩
  ·rintro ⟨⟨⟨⟨⟨a1,a2⟩,a3⟩,a4⟩,a5⟩,a6⟩
   rw [wr_in (by omega) (by omega)] at a6 ⊢
   exact ⟨⟨⟨⟨⟨a1,a2⟩,a3⟩,by omega⟩,a5⟩,by omega⟩
 ·have k2:letB p f (formR i.op).2.1 i.b=nameB p f (formA i.op).2.1.toNat i.b:=letB_eq hr hr2 hl _ l2
  rw [k2]
  by_cases h27:i.op=27
  ·have:formA i.op=(114,99,110):=by rw [h27];rfl
   rw [this] at l2
   exact absurd l2 (by decide)
  ·rw [ek h27]
theorem orderRight_ok (p:GProg) (f:GFn) (at_:Int) (i:GIns) (hr:1≤f.regs) (hr2:f.regs≤60) (hl:p.fns.length≤60) {K:D->List Blk->Prop} (h:K (dB (orderRB p f at_ i)) []):DPure Tryz.prog 99 [aD (eProg p),aD (eFn f),dI at_,aD (eIns i)] K:=by
 obtain ⟨op,a,b,c,line⟩:=i
 refine fn_ok [0,1,2,3,4,5,7,8,9,10,11,12,14,25,32,33,34,57,60,61,67,77,87,91,99,100,101,102,116] [(7,[0,0,0,0,12,31,63],(.seg 0 (.seg 1 (.seg 2 (.seg 3 (.seg 4 (.eff 5 [] (.seg 6 .last))))))))] Tryz.func99 rfl (by kernel_rfl) rfl rfl rfl rfl (by kernel_rfl) ?_
 simp
 refine orderForm_ok _ (fun e => ?_) (fun e => ?_)
 ·simp
  exact kB h (by simp [orderRB,e])
 generalize hF:formR op=t at *
 obtain ⟨x,y,z⟩:=t
 simp [formS]
 refine between_ok _ _ _ ?_
 simp
 refine alt (fun h1 => ?_) (fun h1=>kB h (by simp [orderRB,h1]))
 refine loop_ok (ks := [0,1,2,3,4,5,7,8,9,10,11,12,14,25,32,33,34,57,60,61,67,77,87,91,99,100,101,102,116]) (pl := [(7,[0,0,0,0,12,31,63],(.seg 0 (.seg 1 (.seg 2 (.seg 3 (.seg 4 (.eff 5 [] (.seg 6 .last))))))))]) (n0:=118) (fun q : {k:Nat//k≤3∧(0<k->letB p f x a=true)∧(1<k->letB p f y b=true)∧(2<k->letB p f z c=true)} => [(33,dI q.1)]) (fun q=>3-q.1) ⟨0,by simp⟩ rfl (by kernel_rfl) (Wk.sub (by simp)) ?_
 rintro ⟨k,hk,q1,q2,q3⟩
 have hk':k=0∨k=1∨k=2∨k=3:=by omega
 have w1:IntKind.i64.wrap 1=1:=by kernel_rfl
 have w2:IntKind.i64.wrap 2=2:=by kernel_rfl
 have w3:IntKind.i64.wrap 3=3:=by kernel_rfl
 rcases hk' with rfl | rfl | rfl | rfl
 ·simp
  refine orderMost_ok p f _ ?_
  simp
  refine between_ok _ _ _ ?_
  simp
  refine alt (fun g1 => ?_) (fun g1=>kB h (by simp [orderRB,hF,letB,g1]))
  refine alt (fun g2 => ?_) (fun g2=>⟨1,by omega,⟨by omega,fun _=>by simp [letB,g1,show ¬ x.toNat=102 by omega],fun e=>by omega,fun e=>by omega⟩,Wk.sub (by simp [w1])⟩)
  refine alt (fun g3=>kB h (by simp [orderRB,hF,letB,show x.toNat=102 by omega,g3])) (fun g3=>⟨1,by omega,⟨by omega,fun _=>by simp [letB,g1,g3],fun e=>by omega,fun e=>by omega⟩,Wk.sub (by simp [w1])⟩)
 ·simp
  refine orderMost_ok p f _ ?_
  simp
  refine between_ok _ _ _ ?_
  simp
  refine alt (fun g1 => ?_) (fun g1=>kB h (by simp [orderRB,hF,letB,g1]))
  refine alt (fun g2 => ?_) (fun g2=>⟨2,by omega,⟨by omega,fun _=>q1 (by omega),fun _=>by simp [letB,g1,show ¬ y.toNat=102 by omega],fun e=>by omega⟩,Wk.sub (by simp [w2])⟩)
  refine alt (fun g3=>kB h (by simp [orderRB,hF,letB,show y.toNat=102 by omega,g3])) (fun g3=>⟨2,by omega,⟨by omega,fun _=>q1 (by omega),fun _=>by simp [letB,g1,g3],fun e=>by omega⟩,Wk.sub (by simp [w2])⟩)
 ·simp
  refine orderMost_ok p f _ ?_
  simp
  refine between_ok _ _ _ ?_
  simp
  refine alt (fun g1 => ?_) (fun g1=>kB h (by simp [orderRB,hF,letB,g1]))
  refine alt (fun g2 => ?_) (fun g2=>⟨3,by omega,⟨by omega,fun _=>q1 (by omega),fun _=>q2 (by omega),fun _=>by simp [letB,g1,show ¬ z.toNat=102 by omega]⟩,Wk.sub (by simp [w3])⟩)
  refine alt (fun g3=>kB h (by simp [orderRB,hF,letB,show z.toNat=102 by omega,g3])) (fun g3=>⟨3,by omega,⟨by omega,fun _=>q1 (by omega),fun _=>q2 (by omega),fun _=>by simp [letB,g1,g3]⟩,Wk.sub (by simp [w3])⟩)
 simp
 have o1:=q1 (by omega)
 have o2:=q2 (by omega)
 have o3:=q3 (by omega)
 have hR:orderRB p f at_ ⟨op,a,b,c,line⟩=orderKR p f at_ ⟨op,a,b,c,line⟩:=by simp only [orderRB,hF,h1,o1,o2,o3,e,decide_true,Bool.true_and]
 rw [hR] at h
 refine alt (fun e=>kB h (by simp [orderKR, *])) (fun e1 => ?_)
 refine alt (fun e=>kB h (by simp [orderKR, *])) (fun e2 => ?_)
 refine alt (fun e=>kB h (by simp [orderKR, *])) (fun e3 => ?_)
 refine alt (fun e=>kB h (by simp [orderKR, *])) (fun e4 => ?_)
 refine alt (fun e5 => ?_) (fun e5=>kB h (by simp [orderKR, *]))
 have hy:y=102:=by
  rw [e5] at hF
  have:formR 26=(114,102,46):=by kernel_rfl
  rw [this] at hF
  simp at hF
  exact hF.2.1.symm
 subst hy
 have e3':wr (lenI p.fns-1)=lenI p.fns-1:=wr_in (by simp only [lenI];omega) (by simp only [lenI];omega)
 simp [letB,mostR,btw,e3'] at o2
 have hlt:b.toNat<p.fns.length:=by have:lenI p.fns=p.fns.length:=rfl;omega
 refine ⟨by omega,?_⟩
 simp [List.getElem?_eq_getElem hlt]
 intro hcl
 generalize hg:p.fns[b.toNat]=g at *
 have hgd:p.fns.getD b.toNat ⟨0,0,false,[],[]⟩=g:=by rw [List.getD_eq_getElem?_getD,List.getElem?_eq_getElem hlt,hg];rfl
 have hK:orderKR p f at_ ⟨op,a,b,c,line⟩=g.caught.all (fun c=>decide (c<f.regs)&&decide (wr (0-lenI f.caught)≤c)):=by
  simp only [orderKR]
  rw [if_neg e1,if_neg e2,if_neg e3,if_neg e4,if_pos e5,hgd]
 refine loop_ok (ks := [0,1,2,3,4,5,7,8,9,10,11,12,14,25,32,33,34,57,60,61,67,77,87,91,99,100,101,102,116]) (pl := [(7,[0,0,0,0,12,31,63],(.seg 0 (.seg 1 (.seg 2 (.seg 3 (.seg 4 (.eff 5 [] (.seg 6 .last))))))))]) (n0:=118) (fun q : {k:Nat//k≤g.caught.length ∧ ∀ j (hj:j<g.caught.length),j<k->g.caught[j]<f.regs∧wr (0-lenI f.caught)≤g.caught[j]} => [(101,dI q.1)]) (fun q=>g.caught.length-q.1) ⟨0,by simp⟩ rfl (by kernel_rfl) (Wk.sub (by simp)) ?_
 rintro ⟨k,hk,q⟩
 by_cases hk1:k<g.caught.length
 ·simp [hk1]
  have bad : ¬ (g.caught[k]<f.regs∧wr (0-lenI f.caught)≤g.caught[k])->K (dB false) []:=fun hb=>kB h (by
   rw [hK,Bool.eq_false_iff]
   intro ha
   have:=List.all_eq_true.1 ha _ (List.getElem_mem hk1)
   simp only [Bool.and_eq_true,decide_eq_true_eq] at this
   exact hb this)
  refine alt (fun r1 => ?_) (fun r1=>bad fun hb=>by omega)
  intro hl2
  have hnl:wr (0-lenI f.caught)=IntKind.i64.wrap (-(f.caught.length:Int)):=by rw [Int.zero_sub]
  refine alt (fun r2=>bad fun hb=>by rw [hnl] at hb;omega) (fun r2 => ?_)
  refine ⟨k+1,by omega,⟨by omega,fun j hj hjk => ?_⟩,Wk.sub (by simp [wrap_add (show k<9223372036854775807 by omega)])⟩
  by_cases ej:j=k
  ·subst ej
   exact ⟨r1,by rw [Int.zero_sub] at hnl;rw [hnl];omega⟩
  ·have:=q j hj (by omega)
   rw [Int.zero_sub] at this
   exact this
 ·simp [hk1]
  exact kB h (by
   rw [hK,List.all_eq_true]
   intro x hx
   obtain ⟨j,hj,rfl⟩:=List.getElem_of_mem hx
   have:=q j hj (by omega)
   simp only [Bool.and_eq_true,decide_eq_true_eq]
   exact this)
theorem RVs.mem {E:Env} {w:World} {ι:Nms} : ∀ {ds:List D} {vs:List Value}, RVs E w ι ds vs -> ∀ d∈ds, ∃ v,RV E w ι d v
 | _::_,v::_,h,d,hd=>by
  rw [RVs] at h
  rcases List.mem_cons.1 hd with rfl | hd
  ·exact ⟨v,h.1⟩
  ·exact RVs.mem h.2 d hd
 | [],_,_,d,hd=>by cases hd
 | _::_,[],h,_,_=>by simp [RVs] at h
theorem DPure.bnd {P:Program} {f:FuncId} {ds:List D} {K:D->List Blk->Prop} {S:Bool} {es:List (List Dt)} {cs:List C} (hg:goFn P f=true) (h1:D.agg cs∈ds) (h2:C.d (.sl S es)∈cs) (h:es.length≤maxLen->DPure P f ds K):DPure P f ds K :=
 ⟨hg,fun F w vs a b c=>by
  obtain ⟨v,hv⟩:=c.mem _ h1
  rw [RV] at hv
  obtain ⟨xs, -, hx⟩:=hv
  obtain ⟨j,hj⟩:=List.getElem?_of_mem h2
  obtain ⟨y, -, hy⟩:=hx.get hj
  have hb:es.length≤maxLen:=by
   cases hy with
   | sl X q1 q2=>omega
  exact (h hb).2 F w vs a b c⟩
theorem orderRight2_ok (p:GProg) (f:GFn) (at_:Int) (i:GIns) (hr:1≤f.regs) (hr2:f.regs≤60) (hl:p.fns.length≤60) {K:D->List Blk->Prop} (h:K (dB (orderB p f at_ i)) []):DPure Tryz.prog 99 [aD (eProg p),aD (eFn f),dI at_,aD (eIns i)] K:=by
 refine DPure.bnd (S:=true) (es:=f.caught.map eInt) (cs:=(eFn f).map .d) (by kernel_rfl) (by simp) (by simp) fun hb => ?_
 refine orderRight_ok p f at_ i hr hr2 hl ?_
 rw [orderRB_eq hr hr2 hl (by rw [List.length_map] at hb;exact Nat.le_trans hb (by decide))]
 exact h
def knRows (all:List Kn):List (List C):=all.map fun x=>[.d (eB x.is),.d (.sl true (x.tries.map eTry))]
@[simp] theorem knRows_len (all:List Kn):(knRows all).length=all.length:=by simp [knRows]
@[simp] theorem knRows_get (all:List Kn) (k:Nat):(knRows all)[k]? = (all[k]?).map fun x=>[.d (eB x.is),.d (.sl true (x.tries.map eTry))]:=by simp [knRows]
theorem knRows_isD {all:List Kn} : ∀ e∈knRows all, ∀ c∈e,c.isD=true:=by simp [knRows]
theorem kn_less (n:Nat):(⟨.c 168,2,(List.replicate n [C.d (Dt.lit (Value.bool false)),C.d Dt.emp]).set 0 [C.d (Dt.lit (Value.bool true)),C.d Dt.emp]⟩:Blk).less ⟨.c 168,2,knRows ((List.replicate n dKn).set 0 ⟨true,[]⟩)⟩:=by
 refine ⟨rfl,rfl,by simp,fun e he => ?_,fun i j c' h => ?_⟩
 ·simp only [knRows] at he
  obtain ⟨x, -, rfl⟩:=List.mem_map.1 he
  rfl
 ·unfold nth2 at h ⊢
  rw [knRows_get] at h
  by_cases hi:i<n
  ·by_cases h0:i=0
   ·subst h0
    rw [List.getElem?_set_self (by simpa using hi)] at h ⊢
    match j with
    | 0=>exact ⟨_,rfl,.inl (Option.some.inj h)⟩
    | 1=>exact ⟨_,rfl,.inr ⟨rfl,true,(Option.some.inj h).symm⟩⟩
    | _+2=>simp at h
   ·rw [List.getElem?_set_ne (by omega),List.getElem?_replicate,if_pos hi] at h ⊢
    match j with
    | 0=>exact ⟨_,rfl,.inl (Option.some.inj h)⟩
    | 1=>exact ⟨_,rfl,.inr ⟨rfl,true,(Option.some.inj h).symm⟩⟩
    | _+2=>simp [dKn] at h
  ·rw [List.getElem?_eq_none (by simp;omega)] at h
   simp at h
theorem kinv_init {f:GFn} (hn:0<f.code.length):KInv f ((List.replicate f.code.length dKn).set 0 ⟨true,[]⟩):=by
 have hg : ∀ k,((List.replicate f.code.length dKn).set 0 ⟨true,[]⟩).getD k dKn=if k=0 then ⟨true,[]⟩ else dKn:=fun k=>by
  rw [getD_set]
  by_cases h:k=0
  ·subst h;rw [if_pos ⟨rfl,by simpa using hn⟩,if_pos rfl]
  ·rw [if_neg (by omega),if_neg h,List.getD_eq_getElem?_getD,List.getElem?_replicate]
   split <;> rfl
 refine ⟨by simp,fun k hk h => ?_,fun k hk h => ?_,by rw [hg,if_pos rfl]⟩
 ·rw [hg] at h ⊢
  by_cases e:k=0
  ·subst e;rw [if_pos rfl];exact ⟨.start,by simp⟩
  ·rw [if_neg e] at h;cases h
 ·rw [hg] at h ⊢
  by_cases e:k=0
  ·rw [if_pos e] at h;cases h
  ·rw [if_neg e];rfl
@[simp] theorem knRows_getE (all:List Kn) (k:Nat) (h:k<(knRows all).length):(knRows all)[k]=[.d (eB (all[k]'(by simpa using h)).is),.d (.sl true ((all[k]'(by simpa using h)).tries.map eTry))]:=by simp [knRows]
@[simp] theorem knRows_set (all:List Kn) (k:Nat) (x:Kn):knRows (all.set k x)=(knRows all).set k [.d (eB x.is),.d (.sl true (x.tries.map eTry))]:=by simp [knRows,List.map_set]
structure KS where
 k:Nat
 all:List Kn
 more:Bool
 nx:Nat
structure KAw (f:GFn) (c0 k:Nat) (all:List Kn) (more:Bool):Prop where
 inv:KInv f all
 le:cntK all≤c0
 lt:more=true->cntK all<c0
 cl:more=false -> ∀ j<k,ClosedAt f all j
def toT (f:GFn) (k:Nat) (xs:List (Int×List GTry)) (x:KS) (e:List (Nat×D)):List (Nat×D) := [(0,aD (eFn f)),(1,.one (.ptr 0 5 0 0)),(2,.one (.d .emp)),(3,dB false),(4,dI f.code.length),(5,.one (.own 1 2 f.code.length)),(6,dB x.more),(12,dL true (xs.map fun x=>[.sl true (x.2.map eTry)])),(21,dB false),(25,dB true),
 (27,dL true (f.code.map eIns)),(28,dI f.code.length),(29,dI k),(108,dL true (xs.map fun x=>[eI x.1])),(109,dI xs.length),(110,dI x.k)]++e
def toH (f:GFn) (x:KS):Hp:=(Hp.none.set 0 (some ⟨.c 97,5,[(eFn f).map .d]⟩)).set 1 (some ⟨.c 168,2,knRows x.all⟩)
def toS (f:GFn) (k:Nat) (xs:List (Int×List GTry)) (x:KS):St:=⟨166,toT f k xs x [],toH f x,x.nx+2⟩
def toE (f:GFn) (k:Nat) (xs:List (Int×List GTry)) (x:KS):St:=⟨166,toT f k xs x [(111,dB false)],toH f x,x.nx+2⟩
theorem KAw.next {f:GFn} {c0 k:Nat} {all:List Kn} {more:Bool} (h:KAw f c0 k all more) (hc:more=false->ClosedAt f all k):KAw f c0 (k+1) all more :=
 ⟨h.inv,h.le,h.lt,fun hm j hj=>by
  by_cases e:j=k
  ·subst e;exact hc hm
  ·exact h.cl hm j (by omega)⟩
theorem heap2 {x0 x1:Option Blk} {H:Hp} (h0:H 0=x0) (h1:H 1=x1) : ∀ i y,((Hp.none.set 0 x0).set 1 x1) i=some y->H i=some y:=fun i y hy=>by
 by_cases e1:i=1
 ·subst e1;rw [Hp.set_same] at hy;rw [h1,hy]
 ·rw [Hp.set_ne _ _ e1] at hy
  by_cases e0:i=0
  ·subst e0;rw [Hp.set_same] at hy;rw [h0,hy]
  ·rw [Hp.set_ne _ _ e0] at hy;cases hy
@[simp] theorem fz_d (m:Nat) (x:Blk) (y:Dt):C.fz m x (.d y) = .d y:=rfl
theorem toWk2 {tm tm':List (Nat×D)} {H:Hp} {nx a b:Nat} {x y x0 x1:Blk} (hx:H a=some x) (ix : ∀ e∈x.es, ∀ c∈e,c.isD=true) (hy:H b=some y) (iy : ∀ e∈y.es, ∀ c∈e,c.isD=true) (ha:2≤a) (hb:2≤b) (hab:b≠a)
  (h0:H 0=some x0) (i0 : ∀ e∈x0.es, ∀ c∈e,c.isD=true) (h1:H 1=some x1) (i1 : ∀ e∈x1.es, ∀ c∈e,c.isD=true) (ht:keepT (fzT b y (fzT a x tm)) (tm'.map (·.1))=tm'):Wk ⟨166,tm,H,nx⟩ ⟨166,tm',(Hp.none.set 0 (some x0)).set 1 (some x1),nx⟩ :=
 (Wk.fz hx ix).trans ((Wk.fz (fzH_id hab hy iy) iy).trans ((Wk.sub ht).trans (Wk.heap (heap2 (fzH_id (by omega) (fzH_id (by omega) h0 i0) i0) (fzH_id (by omega) (fzH_id (by omega) h1 i1) i1)))))
theorem toWk3 {tm tm':List (Nat×D)} {H:Hp} {nx a b c:Nat} {x y z z' x0 x1:Blk} (hx:H a=some x) (ix : ∀ e∈x.es, ∀ c∈e,c.isD=true) (hy:H b=some y) (iy : ∀ e∈y.es, ∀ c∈e,c.isD=true) (hz:H c=some z) (hz':(⟨z.t,z.k,z.es.map fun e=>e.map (C.fz a x)⟩:Blk)=z') (iz : ∀ e∈z'.es, ∀ c∈e,c.isD=true)
  (ha:2≤a) (hb:2≤b) (hc:2≤c) (hab:b≠a) (hac:c≠a) (hbc:c≠b)
  (h0:H 0=some x0) (i0 : ∀ e∈x0.es, ∀ c∈e,c.isD=true) (h1:H 1=some x1) (i1 : ∀ e∈x1.es, ∀ c∈e,c.isD=true) (ht:keepT (fzT c z' (fzT b y (fzT a x tm))) (tm'.map (·.1))=tm'):Wk ⟨166,tm,H,nx⟩ ⟨166,tm',(Hp.none.set 0 (some x0)).set 1 (some x1),nx⟩:=by
 have g1:fzH H a x c=some z':=by unfold fzH;rw [if_neg hac,hz,Option.map_some,hz']
 exact (Wk.fz hx ix).trans ((Wk.fz (fzH_id hab hy iy) iy).trans ((Wk.fz (fzH_id hbc g1 iz) iz).trans ((Wk.sub ht).trans (Wk.heap (heap2 (fzH_id (by omega) (fzH_id (by omega) (fzH_id (by omega) h0 i0) i0) i0) (fzH_id (by omega) (fzH_id (by omega) (fzH_id (by omega) h1 i1) i1) i1))))))
structure KB (f:GFn) (c0:Nat) (all0:List Kn) (more0:Bool) (xs:List (Int×List GTry)) (j:Nat) (all:List Kn) (more:Bool):Prop where
 inv:KInv f all
 le:cntK all≤c0
 lt:more=true->cntK all<c0
 same:more=false->all=all0∧more0=false
 told:more=false -> ∀ m l,(m,l)∈xs.take j->0≤m∧m<f.code.length∧l.length≤20∧(all0.getD m.toNat dKn).is=true∧(all0.getD m.toNat dKn).tries=l
theorem KAw.to {f:GFn} {c0 k:Nat} {all:List Kn} {more:Bool} (h:KAw f c0 k all more) (xs:List (Int×List GTry)):KB f c0 all more xs 0 all more :=
 ⟨h.inv,h.le,h.lt,fun e=>⟨rfl,e⟩,fun _ m l hm=>by simp at hm⟩
theorem KB.step {f:GFn} {c0:Nat} {all0 all:List Kn} {more0 more:Bool} {xs:List (Int×List GTry)} {j:Nat} (h:KB f c0 all0 more0 xs j all more) (hj:j<xs.length) (hr:Rch f xs[j].1 xs[j].2) (hm:0≤xs[j].1) (hb : ¬ badK f.code.length all xs[j].1 xs[j].2) :
  KB f c0 all0 more0 xs (j+1) (all.set xs[j].1.toNat ⟨true,xs[j].2⟩) (more || !(all.getD xs[j].1.toNat dKn).is):=by
 have hlt:xs[j].1.toNat<all.length:=by rw [h.inv.len];unfold badK at hb;omega
 have hcn:=cnt_set (l:=xs[j].2) hlt
 refine ⟨h.inv.set hr hm hb,?_,fun e => ?_,fun e => ?_,fun e m l hml => ?_⟩
 ·have:=h.le;omega
 ·cases hi:(all.getD xs[j].1.toNat dKn).is with
  | true =>
   rw [hi] at e
   simp at e
   have:=h.lt e
   omega
  | false =>
   rw [hi] at hcn
   have:=h.le
   simp at hcn;omega
 ·simp only [Bool.or_eq_false_iff,Bool.not_eq_false'] at e
  rw [set_same h.inv hm hb e.2]
  exact h.same e.1
 ·simp only [Bool.or_eq_false_iff,Bool.not_eq_false'] at e
  rw [List.take_succ_eq_append_getElem hj] at hml
  rcases List.mem_append.1 hml with hml | hml
  ·exact h.told e.1 m l hml
  ·obtain ⟨h1, -⟩:=h.same e.1
   have hx:=List.mem_singleton.1 hml
   rw [← hx] at hb hm e
   rw [h1] at e hb
   unfold badK at hb
   simp only at hb hm e
   refine ⟨hm,by omega,by omega,e.2,?_⟩
   by_cases e3:(all0.getD m.toNat dKn).tries=l
   ·exact e3
   ·exact absurd (.inr (.inr ⟨e.2,e3⟩)) hb
theorem KB.done {f:GFn} {c0 k:Nat} {all0 all:List Kn} {more0 more:Bool} {xs:List (Int×List GTry)} (h:KB f c0 all0 more0 xs xs.length all more) (hA:KAw f c0 k all0 more0) (hk:k<f.code.length) (hst : ¬ stuck f.code[k] (all0.getD k dKn).tries) (hx:xs=succs f.code[k] k (all0.getD k dKn).tries):KAw f c0 (k+1) all more :=
 ⟨h.inv,h.le,h.lt,fun hm j hj=>by
  obtain ⟨rfl,h2⟩:=h.same hm
  by_cases e:j=k
  ·subst e
   intro hj2 _
   refine ⟨hst,fun m l hml => ?_⟩
   rw [← hx] at hml
   have:=h.told hm m l (by rw [List.take_length];exact hml)
   exact this
  ·exact hA.cl h2 j (by omega)⟩
def codeAt (c:Code):List Nat->Code
 | []=>c
 | n::l=>match c with
  | .seq a b=>codeAt (if n=0 then a else b) l
  | .cond _ a b=>codeAt (if n=0 then a else b) l
  | .block _ a=>codeAt a l
  | .loop a=>codeAt a l
  | c=>c
noncomputable def knLoop:Code:=codeAt (Tryz.f100.body.getD .skip) [1,1,1,1,1,0,1,0,0,1,0,1,1,0,0,1,1,0,0,1,1,1,1,1,1,1,1,0]
theorem to_ok {f:GFn} (hl6:f.code.length≤600) (hn:0<f.code.length) {c0 k:Nat} {all1:List Kn} {more:Bool} (hA:KAw f c0 k all1 more) (xs:List (Int×List GTry)) (hpos : ∀ m l,(m,l)∈xs->0≤m) (hRs : ∀ m l,(m,l)∈xs->Rch f m l) (hx2:xs.length≤2) (K5:Exit->St->Prop) (st:St) (nx0:Nat)
  (hw:Wk st (toS f k xs ⟨0,all1,more,nx0⟩)) (hret : ¬ Fine f -> ∀ tm H nx,K5 .ret ⟨166,(0,aD (eFn f))::(1,.one (.ptr 0 5 0 0))::(2,.one (.d .emp))::(3,dB false)::tm,H,nx⟩)
  (hex : ∀ all2 more2,KB f c0 all1 more xs xs.length all2 more2->K5 (.exit 5) (toE f k xs ⟨xs.length,all2,more2,nx0⟩)):vc Tryz.prog [(27,[0,0,3,0,8,0,32,120,248,511,1023],(.seg 1 (.seg 3 (.seg 5 (.fork 0 [3,5] (.fork 2 [3,5] (.fork 4 [5] (.eff 6 [] (.seg 7 (.eff 8 [] (.eff 9 [] (.seg 10 .last))))) (.eff 6 [3] (.eff 4 [] (.seg 7 (.eff 8 [] (.eff 9 [] (.seg 10 .last))))))) (.fork 4 [5] (.fork 2 [3,5] (.eff 6 [] (.seg 7 (.eff 8 [] (.eff 9 [] (.seg 10 .last))))) (.eff 6 [] (.seg 7 (.fork 2 [3,5,7] (.eff 8 [] (.eff 9 [] (.seg 10 .last))) (.eff 8 [] (.eff 2 [3,5,7] (.eff 9 [] (.seg 10 .last)))))))) (.eff 6 [3] (.fork 2 [3,5] (.eff 4 [] (.seg 7 (.eff 8 [] (.eff 9 [] (.seg 10 .last))))) (.eff 4 [] (.seg 7 (.fork 2 [3,5,7] (.eff 8 [] (.eff 9 [] (.seg 10 .last))) (.eff 8 [] (.eff 2 [3,5,7] (.eff 9 [] (.seg 10 .last))))))))))) (.fork 4 [5] (.fork 0 [3,5] (.fork 2 [3,5] (.eff 6 [] (.seg 7 (.eff 8 [] (.eff 9 [] (.seg 10 .last))))) (.eff 6 [] (.seg 7 (.fork 2 [3,5,7] (.eff 8 [] (.eff 9 [] (.seg 10 .last))) (.eff 8 [] (.eff 2 [3,5,7] (.eff 9 [] (.seg 10 .last)))))))) (.eff 6 [] (.seg 7 (.fork 0 [3,5,7] (.fork 2 [3,5,7] (.eff 8 [] (.eff 9 [] (.seg 10 .last))) (.eff 8 [] (.eff 2 [3,5,7] (.eff 9 [] (.seg 10 .last))))) (.eff 8 [] (.eff 0 [3,5,7] (.eff 2 [3,5,7] (.eff 9 [] (.seg 10 .last))))))))) (.eff 6 [3] (.fork 0 [3,5] (.fork 2 [3,5] (.eff 4 [] (.seg 7 (.eff 8 [] (.eff 9 [] (.seg 10 .last))))) (.eff 4 [] (.seg 7 (.fork 2 [3,5,7] (.eff 8 [] (.eff 9 [] (.seg 10 .last))) (.eff 8 [] (.eff 2 [3,5,7] (.eff 9 [] (.seg 10 .last)))))))) (.eff 4 [] (.seg 7 (.fork 0 [3,5,7] (.fork 2 [3,5,7] (.eff 8 [] (.eff 9 [] (.seg 10 .last))) (.eff 8 [] (.eff 2 [3,5,7] (.eff 9 [] (.seg 10 .last))))) (.eff 8 [] (.eff 0 [3,5,7] (.eff 2 [3,5,7] (.eff 9 [] (.seg 10 .last)))))))))))))))),(32,[0,1,3,0,0,16,48,120,248,7,1023],(.seg 0 (.seg 1 (.seg 3 (.seg 4 (.seg 5 (.seg 6 (.seg 7 (.fork 2 [5,6,7] (.seg 9 (.eff 8 [1] (.seg 10 .last))) (.eff 8 [1] (.eff 2 [5,6,7] (.seg 9 (.seg 10 .last))))))))))))),(36,[0,0,3,7,15,15,63,127,255,511,1023,2047,4095,4095,16383,32767,65535,131071,262143,262143,1048575,2097151,4194303,262143,262143,25427967,58982399,134217727,268435455,536870911,1073741823],(.seg 0 (.seg 1 (.seg 2 (.seg 3 (.seg 4 (.seg 5 (.seg 6 (.seg 7 (.seg 8 (.seg 9 (.seg 10 (.seg 11 (.seg 12 (.seg 13 (.seg 14 (.seg 15 (.seg 16 (.seg 17 (.seg 18 (.seg 19 (.seg 20 (.seg 21 (.seg 22 (.seg 23 (.seg 24 (.seg 25 (.seg 26 (.eff 27 [] (.seg 28 (.seg 29 (.seg 30 .last))))))))))))))))))))))))))))))))] 166 [0,1,2,3,4,5,6,7,8,9,10,11,12,13,14,21,25,27,28,29,30,39,47,53,56,64,74,94,98,108,109,110,111,145] knLoop K5 st:=by
  simp only [knLoop,Tryz.f100,Option.getD_some,codeAt,if_true,if_false,Nat.one_ne_zero]
  obtain ⟨stn,sttm,stH,stx⟩:=st
  rw [vc_loop]
  refine loopS_ok (ks := [0,1,2,3,4,5,6,7,8,9,10,11,12,13,14,21,25,27,28,29,30,39,47,53,56,64,74,94,98,108,109,110,111,145]) (pl := [(27,[0,0,3,0,8,0,32,120,248,511,1023],(.seg 1 (.seg 3 (.seg 5 (.fork 0 [3,5] (.fork 2 [3,5] (.fork 4 [5] (.eff 6 [] (.seg 7 (.eff 8 [] (.eff 9 [] (.seg 10 .last))))) (.eff 6 [3] (.eff 4 [] (.seg 7 (.eff 8 [] (.eff 9 [] (.seg 10 .last))))))) (.fork 4 [5] (.fork 2 [3,5] (.eff 6 [] (.seg 7 (.eff 8 [] (.eff 9 [] (.seg 10 .last))))) (.eff 6 [] (.seg 7 (.fork 2 [3,5,7] (.eff 8 [] (.eff 9 [] (.seg 10 .last))) (.eff 8 [] (.eff 2 [3,5,7] (.eff 9 [] (.seg 10 .last)))))))) (.eff 6 [3] (.fork 2 [3,5] (.eff 4 [] (.seg 7 (.eff 8 [] (.eff 9 [] (.seg 10 .last))))) (.eff 4 [] (.seg 7 (.fork 2 [3,5,7] (.eff 8 [] (.eff 9 [] (.seg 10 .last))) (.eff 8 [] (.eff 2 [3,5,7] (.eff 9 [] (.seg 10 .last))))))))))) (.fork 4 [5] (.fork 0 [3,5] (.fork 2 [3,5] (.eff 6 [] (.seg 7 (.eff 8 [] (.eff 9 [] (.seg 10 .last))))) (.eff 6 [] (.seg 7 (.fork 2 [3,5,7] (.eff 8 [] (.eff 9 [] (.seg 10 .last))) (.eff 8 [] (.eff 2 [3,5,7] (.eff 9 [] (.seg 10 .last)))))))) (.eff 6 [] (.seg 7 (.fork 0 [3,5,7] (.fork 2 [3,5,7] (.eff 8 [] (.eff 9 [] (.seg 10 .last))) (.eff 8 [] (.eff 2 [3,5,7] (.eff 9 [] (.seg 10 .last))))) (.eff 8 [] (.eff 0 [3,5,7] (.eff 2 [3,5,7] (.eff 9 [] (.seg 10 .last))))))))) (.eff 6 [3] (.fork 0 [3,5] (.fork 2 [3,5] (.eff 4 [] (.seg 7 (.eff 8 [] (.eff 9 [] (.seg 10 .last))))) (.eff 4 [] (.seg 7 (.fork 2 [3,5,7] (.eff 8 [] (.eff 9 [] (.seg 10 .last))) (.eff 8 [] (.eff 2 [3,5,7] (.eff 9 [] (.seg 10 .last)))))))) (.eff 4 [] (.seg 7 (.fork 0 [3,5,7] (.fork 2 [3,5,7] (.eff 8 [] (.eff 9 [] (.seg 10 .last))) (.eff 8 [] (.eff 2 [3,5,7] (.eff 9 [] (.seg 10 .last))))) (.eff 8 [] (.eff 0 [3,5,7] (.eff 2 [3,5,7] (.eff 9 [] (.seg 10 .last)))))))))))))))),(32,[0,1,3,0,0,16,48,120,248,7,1023],(.seg 0 (.seg 1 (.seg 3 (.seg 4 (.seg 5 (.seg 6 (.seg 7 (.fork 2 [5,6,7] (.seg 9 (.eff 8 [1] (.seg 10 .last))) (.eff 8 [1] (.eff 2 [5,6,7] (.seg 9 (.seg 10 .last))))))))))))),(36,[0,0,3,7,15,15,63,127,255,511,1023,2047,4095,4095,16383,32767,65535,131071,262143,262143,1048575,2097151,4194303,262143,262143,25427967,58982399,134217727,268435455,536870911,1073741823],(.seg 0 (.seg 1 (.seg 2 (.seg 3 (.seg 4 (.seg 5 (.seg 6 (.seg 7 (.seg 8 (.seg 9 (.seg 10 (.seg 11 (.seg 12 (.seg 13 (.seg 14 (.seg 15 (.seg 16 (.seg 17 (.seg 18 (.seg 19 (.seg 20 (.seg 21 (.seg 22 (.seg 23 (.seg 24 (.seg 25 (.seg 26 (.eff 27 [] (.seg 28 (.seg 29 (.seg 30 .last))))))))))))))))))))))))))))))))]) (n0:=166) (α := {x:KS//x.k≤xs.length∧x.nx=nx0∧KB f c0 all1 more xs x.k x.all x.more}) (fun x=>toS f k xs x.1) (fun x=>xs.length-x.1.k) ⟨⟨0,all1,more,nx0⟩,by simp,rfl,hA.to xs⟩ rfl (by kernel_rfl) hw ?_
  rintro ⟨⟨j,all2,more2,nx2⟩,hj,rfl,hB⟩
  simp only at hj hB
  unfold toS toT toH
  by_cases hj1:j<xs.length
  ·have hlen2:=hB.inv.len
   have hm:=hpos xs[j].1 xs[j].2 (List.getElem_mem hj1)
   have hr:=hRs xs[j].1 xs[j].2 (List.getElem_mem hj1)
   have hbd:=hB.inv.bad hr hm
   have hst:=hB.step hj1 hr hm
   generalize hxj:xs[j]=mw at *
   obtain ⟨m,w⟩:=mw
   obtain ⟨mi,rfl⟩ : ∃ mi:Nat,m=mi:=⟨m.toNat,by omega⟩
   simp only [Int.toNat_natCast] at hst
   by_cases q1:f.code.length≤mi
   ·simp [hj1,hxj,q1]
    exact hret (hbd (.inl (by simp;omega))) _ _ _
   by_cases q2:20<w.length
   ·have q2i : ¬ (w.length:Int)≤20:=by omega
    simp [hj1,hxj,q1,q2i]
    intro _
    exact hret (hbd (.inr (.inl q2))) _ _ _
   have q2i:(w.length:Int)≤20:=by omega
   have hmi:mi<f.code.length:=by omega
   have hmi2:mi<all2.length:=by omega
   have hg2:all2.getD mi dKn=all2[mi]:=by rw [List.getD_eq_getElem?_getD,List.getElem?_eq_getElem hmi2];rfl
   rw [hg2] at hst
   cases q3:all2[mi].is with
   | true =>
    simp [hj1,hxj,q1,q2i,q3,hmi,hmi2]
    intro _
    refine sameTries_ok true true _ _ ?_
    by_cases q4:all2[mi].tries=w
    ·have hnb : ¬ badK f.code.length all2 mi w:=by unfold badK;rw [Int.toNat_natCast,hg2];rintro (h | h | ⟨-, h⟩) <;> first | omega | exact h q4
     have hB2:=hst hnb
     rw [q3] at hB2
     cases more2 with
     | true =>
      simp [hj1,hxj,q1,q2i,q3,q4,hmi,hmi2]
      exact ⟨⟨j+1,all2.set mi ⟨true,w⟩,true,nx2⟩,by simp;omega,⟨by simp;omega,rfl,by simpa using hB2⟩,Wk.subH (by simp [wrap_add (show j<9223372036854775807 by omega)]) (by simp)⟩
     | false =>
      simp [hj1,hxj,q1,q2i,q3,q4,hmi,hmi2]
      exact ⟨⟨j+1,all2.set mi ⟨true,w⟩,false,nx2⟩,by simp;omega,⟨by simp;omega,rfl,by simpa using hB2⟩,Wk.subH (by simp [wrap_add (show j<9223372036854775807 by omega)]) (by simp)⟩
    ·simp [hj1,hxj,q1,q2i,q3,q4,hmi,hmi2]
     exact hret (hbd (.inr (.inr ⟨by rw [Int.toNat_natCast,hg2];exact q3,by rw [Int.toNat_natCast,hg2];exact q4⟩))) _ _ _
   | false =>
    have hnb : ¬ badK f.code.length all2 mi w:=by unfold badK;rw [Int.toNat_natCast,hg2,q3];rintro (h | h | ⟨h, -⟩) <;> first | omega | cases h
    have hB2:=hst hnb
    rw [q3] at hB2
    simp [hj1,hxj,q1,q2i,q3,hmi,hmi2]
    intro _
    exact ⟨⟨j+1,all2.set mi ⟨true,w⟩,true,nx2⟩,by simp;omega,⟨by simp;omega,rfl,by simpa using hB2⟩,Wk.subH (by simp [wrap_add (show j<9223372036854775807 by omega)]) (by simp)⟩
  ·obtain rfl:j=xs.length:=by omega
   simp
   exact hex _ _ hB
theorem known_ok (f : GFn) (hg : goesAll f) (hl6 : f.code.length ≤ 600) {K : D → List Blk → Prop} (hbad : ¬ Fine f → K (.tup [.one (.d .emp), dB false]) [])
    (hok : ∀ all : List Kn, KnOk f all → 0 < f.code.length → K (.tup [.one (.own 0 2 f.code.length), dB true]) [⟨.c 168, 2, knRows all⟩]) : DPure Tryz.prog 100 [aD (eFn f)] K := by
  refine fn_ok [0,1,2,3,4,5,6,7,8,9,10,11,12,13,14,21,25,27,28,29,30,39,47,53,56,64,74,94,98,108,109,110,111,145] [(27, [0,0,3,0,8,0,32,120,248,511,1023], (.seg 1 (.seg 3 (.seg 5 (.fork 0 [3, 5] (.fork 2 [3, 5] (.fork 4 [5] (.eff 6 [] (.seg 7 (.eff 8 [] (.eff 9 [] (.seg 10 .last))))) (.eff 6 [3] (.eff 4 [] (.seg 7 (.eff 8 [] (.eff 9 [] (.seg 10 .last))))))) (.fork 4 [5] (.fork 2 [3, 5] (.eff 6 [] (.seg 7 (.eff 8 [] (.eff 9 [] (.seg 10 .last))))) (.eff 6 [] (.seg 7 (.fork 2 [3, 5, 7] (.eff 8 [] (.eff 9 [] (.seg 10 .last))) (.eff 8 [] (.eff 2 [3, 5, 7] (.eff 9 [] (.seg 10 .last)))))))) (.eff 6 [3] (.fork 2 [3, 5] (.eff 4 [] (.seg 7 (.eff 8 [] (.eff 9 [] (.seg 10 .last))))) (.eff 4 [] (.seg 7 (.fork 2 [3, 5, 7] (.eff 8 [] (.eff 9 [] (.seg 10 .last))) (.eff 8 [] (.eff 2 [3, 5, 7] (.eff 9 [] (.seg 10 .last))))))))))) (.fork 4 [5] (.fork 0 [3, 5] (.fork 2 [3, 5] (.eff 6 [] (.seg 7 (.eff 8 [] (.eff 9 [] (.seg 10 .last))))) (.eff 6 [] (.seg 7 (.fork 2 [3, 5, 7] (.eff 8 [] (.eff 9 [] (.seg 10 .last))) (.eff 8 [] (.eff 2 [3, 5, 7] (.eff 9 [] (.seg 10 .last)))))))) (.eff 6 [] (.seg 7 (.fork 0 [3, 5, 7] (.fork 2 [3, 5, 7] (.eff 8 [] (.eff 9 [] (.seg 10 .last))) (.eff 8 [] (.eff 2 [3, 5, 7] (.eff 9 [] (.seg 10 .last))))) (.eff 8 [] (.eff 0 [3, 5, 7] (.eff 2 [3, 5, 7] (.eff 9 [] (.seg 10 .last))))))))) (.eff 6 [3] (.fork 0 [3, 5] (.fork 2 [3, 5] (.eff 4 [] (.seg 7 (.eff 8 [] (.eff 9 [] (.seg 10 .last))))) (.eff 4 [] (.seg 7 (.fork 2 [3, 5, 7] (.eff 8 [] (.eff 9 [] (.seg 10 .last))) (.eff 8 [] (.eff 2 [3, 5, 7] (.eff 9 [] (.seg 10 .last)))))))) (.eff 4 [] (.seg 7 (.fork 0 [3, 5, 7] (.fork 2 [3, 5, 7] (.eff 8 [] (.eff 9 [] (.seg 10 .last))) (.eff 8 [] (.eff 2 [3, 5, 7] (.eff 9 [] (.seg 10 .last))))) (.eff 8 [] (.eff 0 [3, 5, 7] (.eff 2 [3, 5, 7] (.eff 9 [] (.seg 10 .last)))))))))))))))), (32, [0,1,3,0,0,16,48,120,248,7,1023], (.seg 0 (.seg 1 (.seg 3 (.seg 4 (.seg 5 (.seg 6 (.seg 7 (.fork 2 [5, 6, 7] (.seg 9 (.eff 8 [1] (.seg 10 .last))) (.eff 8 [1] (.eff 2 [5, 6, 7] (.seg 9 (.seg 10 .last))))))))))))), (36, [0,0,3,7,15,15,63,127,255,511,1023,2047,4095,4095,16383,32767,65535,131071,262143,262143,1048575,2097151,4194303,262143,262143,25427967,58982399,134217727,268435455,536870911,1073741823], (.seg 0 (.seg 1 (.seg 2 (.seg 3 (.seg 4 (.seg 5 (.seg 6 (.seg 7 (.seg 8 (.seg 9 (.seg 10 (.seg 11 (.seg 12 (.seg 13 (.seg 14 (.seg 15 (.seg 16 (.seg 17 (.seg 18 (.seg 19 (.seg 20 (.seg 21 (.seg 22 (.seg 23 (.seg 24 (.seg 25 (.seg 26 (.eff 27 [] (.seg 28 (.seg 29 (.seg 30 .last))))))))))))))))))))))))))))))))] Tryz.func100 rfl (by kernel_rfl) rfl rfl rfl rfl (by kernel_rfl) ?_
  simp
  intro _
  by_cases hne : f.code = []
  · simp [hne]
    exact hbad fun hf => by have := (hf 0 [] .start).1; rw [hne] at this; simp at this
  have hn : 0 < f.code.length := List.length_pos_iff.2 hne
  simp [hne, hn]
  refine ⟨by omega, ?_⟩
  refine loopH_ok (ks := [0,1,2,3,4,5,6,7,8,9,10,11,12,13,14,21,25,27,28,29,30,39,47,53,56,64,74,94,98,108,109,110,111,145]) (pl := [(27, [0,0,3,0,8,0,32,120,248,511,1023], (.seg 1 (.seg 3 (.seg 5 (.fork 0 [3, 5] (.fork 2 [3, 5] (.fork 4 [5] (.eff 6 [] (.seg 7 (.eff 8 [] (.eff 9 [] (.seg 10 .last))))) (.eff 6 [3] (.eff 4 [] (.seg 7 (.eff 8 [] (.eff 9 [] (.seg 10 .last))))))) (.fork 4 [5] (.fork 2 [3, 5] (.eff 6 [] (.seg 7 (.eff 8 [] (.eff 9 [] (.seg 10 .last))))) (.eff 6 [] (.seg 7 (.fork 2 [3, 5, 7] (.eff 8 [] (.eff 9 [] (.seg 10 .last))) (.eff 8 [] (.eff 2 [3, 5, 7] (.eff 9 [] (.seg 10 .last)))))))) (.eff 6 [3] (.fork 2 [3, 5] (.eff 4 [] (.seg 7 (.eff 8 [] (.eff 9 [] (.seg 10 .last))))) (.eff 4 [] (.seg 7 (.fork 2 [3, 5, 7] (.eff 8 [] (.eff 9 [] (.seg 10 .last))) (.eff 8 [] (.eff 2 [3, 5, 7] (.eff 9 [] (.seg 10 .last))))))))))) (.fork 4 [5] (.fork 0 [3, 5] (.fork 2 [3, 5] (.eff 6 [] (.seg 7 (.eff 8 [] (.eff 9 [] (.seg 10 .last))))) (.eff 6 [] (.seg 7 (.fork 2 [3, 5, 7] (.eff 8 [] (.eff 9 [] (.seg 10 .last))) (.eff 8 [] (.eff 2 [3, 5, 7] (.eff 9 [] (.seg 10 .last)))))))) (.eff 6 [] (.seg 7 (.fork 0 [3, 5, 7] (.fork 2 [3, 5, 7] (.eff 8 [] (.eff 9 [] (.seg 10 .last))) (.eff 8 [] (.eff 2 [3, 5, 7] (.eff 9 [] (.seg 10 .last))))) (.eff 8 [] (.eff 0 [3, 5, 7] (.eff 2 [3, 5, 7] (.eff 9 [] (.seg 10 .last))))))))) (.eff 6 [3] (.fork 0 [3, 5] (.fork 2 [3, 5] (.eff 4 [] (.seg 7 (.eff 8 [] (.eff 9 [] (.seg 10 .last))))) (.eff 4 [] (.seg 7 (.fork 2 [3, 5, 7] (.eff 8 [] (.eff 9 [] (.seg 10 .last))) (.eff 8 [] (.eff 2 [3, 5, 7] (.eff 9 [] (.seg 10 .last)))))))) (.eff 4 [] (.seg 7 (.fork 0 [3, 5, 7] (.fork 2 [3, 5, 7] (.eff 8 [] (.eff 9 [] (.seg 10 .last))) (.eff 8 [] (.eff 2 [3, 5, 7] (.eff 9 [] (.seg 10 .last))))) (.eff 8 [] (.eff 0 [3, 5, 7] (.eff 2 [3, 5, 7] (.eff 9 [] (.seg 10 .last)))))))))))))))), (32, [0,1,3,0,0,16,48,120,248,7,1023], (.seg 0 (.seg 1 (.seg 3 (.seg 4 (.seg 5 (.seg 6 (.seg 7 (.fork 2 [5, 6, 7] (.seg 9 (.eff 8 [1] (.seg 10 .last))) (.eff 8 [1] (.eff 2 [5, 6, 7] (.seg 9 (.seg 10 .last))))))))))))), (36, [0,0,3,7,15,15,63,127,255,511,1023,2047,4095,4095,16383,32767,65535,131071,262143,262143,1048575,2097151,4194303,262143,262143,25427967,58982399,134217727,268435455,536870911,1073741823], (.seg 0 (.seg 1 (.seg 2 (.seg 3 (.seg 4 (.seg 5 (.seg 6 (.seg 7 (.seg 8 (.seg 9 (.seg 10 (.seg 11 (.seg 12 (.seg 13 (.seg 14 (.seg 15 (.seg 16 (.seg 17 (.seg 18 (.seg 19 (.seg 20 (.seg 21 (.seg 22 (.seg 23 (.seg 24 (.seg 25 (.seg 26 (.eff 27 [] (.seg 28 (.seg 29 (.seg 30 .last))))))))))))))))))))))))))))))))]) (n0 := 166) (α := {x : KS // KInv f x.all ∧ (x.more = false → ∀ k, ClosedAt f x.all k)}) (fun x => [(6, dB x.1.more)]) (fun H x => H.set 1 (some ⟨.c 168, 2, knRows x.1.all⟩)) (fun x => x.1.nx + 2) (fun x => 2 * cntK x.1.all + (if x.1.more = true then 1 else 0))
    ⟨⟨0, (List.replicate f.code.length dKn).set 0 ⟨true, []⟩, true, 0⟩, ?init⟩ rfl (by kernel_rfl) ?wk ?_
  case init => exact ⟨kinv_init hn, fun h => by cases h⟩
  case wk =>
    exact Wk.less1 (m := 1) (by simp) (kn_less _)
  rintro ⟨⟨_, all, more, nx⟩, hi, hc⟩
  simp only at hi hc
  have hlen := hi.len
  cases more with
  | false =>
    simp
    rw [if_pos knRows_isD]
    exact hok all ⟨hi, hc rfl⟩ hn
  | true =>
  simp
  intro _
  refine loopH_ok (ks := [0,1,2,3,4,5,6,7,8,9,10,11,12,13,14,21,25,27,28,29,30,39,47,53,56,64,74,94,98,108,109,110,111,145]) (pl := [(27, [0,0,3,0,8,0,32,120,248,511,1023], (.seg 1 (.seg 3 (.seg 5 (.fork 0 [3, 5] (.fork 2 [3, 5] (.fork 4 [5] (.eff 6 [] (.seg 7 (.eff 8 [] (.eff 9 [] (.seg 10 .last))))) (.eff 6 [3] (.eff 4 [] (.seg 7 (.eff 8 [] (.eff 9 [] (.seg 10 .last))))))) (.fork 4 [5] (.fork 2 [3, 5] (.eff 6 [] (.seg 7 (.eff 8 [] (.eff 9 [] (.seg 10 .last))))) (.eff 6 [] (.seg 7 (.fork 2 [3, 5, 7] (.eff 8 [] (.eff 9 [] (.seg 10 .last))) (.eff 8 [] (.eff 2 [3, 5, 7] (.eff 9 [] (.seg 10 .last)))))))) (.eff 6 [3] (.fork 2 [3, 5] (.eff 4 [] (.seg 7 (.eff 8 [] (.eff 9 [] (.seg 10 .last))))) (.eff 4 [] (.seg 7 (.fork 2 [3, 5, 7] (.eff 8 [] (.eff 9 [] (.seg 10 .last))) (.eff 8 [] (.eff 2 [3, 5, 7] (.eff 9 [] (.seg 10 .last))))))))))) (.fork 4 [5] (.fork 0 [3, 5] (.fork 2 [3, 5] (.eff 6 [] (.seg 7 (.eff 8 [] (.eff 9 [] (.seg 10 .last))))) (.eff 6 [] (.seg 7 (.fork 2 [3, 5, 7] (.eff 8 [] (.eff 9 [] (.seg 10 .last))) (.eff 8 [] (.eff 2 [3, 5, 7] (.eff 9 [] (.seg 10 .last)))))))) (.eff 6 [] (.seg 7 (.fork 0 [3, 5, 7] (.fork 2 [3, 5, 7] (.eff 8 [] (.eff 9 [] (.seg 10 .last))) (.eff 8 [] (.eff 2 [3, 5, 7] (.eff 9 [] (.seg 10 .last))))) (.eff 8 [] (.eff 0 [3, 5, 7] (.eff 2 [3, 5, 7] (.eff 9 [] (.seg 10 .last))))))))) (.eff 6 [3] (.fork 0 [3, 5] (.fork 2 [3, 5] (.eff 4 [] (.seg 7 (.eff 8 [] (.eff 9 [] (.seg 10 .last))))) (.eff 4 [] (.seg 7 (.fork 2 [3, 5, 7] (.eff 8 [] (.eff 9 [] (.seg 10 .last))) (.eff 8 [] (.eff 2 [3, 5, 7] (.eff 9 [] (.seg 10 .last)))))))) (.eff 4 [] (.seg 7 (.fork 0 [3, 5, 7] (.fork 2 [3, 5, 7] (.eff 8 [] (.eff 9 [] (.seg 10 .last))) (.eff 8 [] (.eff 2 [3, 5, 7] (.eff 9 [] (.seg 10 .last))))) (.eff 8 [] (.eff 0 [3, 5, 7] (.eff 2 [3, 5, 7] (.eff 9 [] (.seg 10 .last)))))))))))))))), (32, [0,1,3,0,0,16,48,120,248,7,1023], (.seg 0 (.seg 1 (.seg 3 (.seg 4 (.seg 5 (.seg 6 (.seg 7 (.fork 2 [5, 6, 7] (.seg 9 (.eff 8 [1] (.seg 10 .last))) (.eff 8 [1] (.eff 2 [5, 6, 7] (.seg 9 (.seg 10 .last))))))))))))), (36, [0,0,3,7,15,15,63,127,255,511,1023,2047,4095,4095,16383,32767,65535,131071,262143,262143,1048575,2097151,4194303,262143,262143,25427967,58982399,134217727,268435455,536870911,1073741823], (.seg 0 (.seg 1 (.seg 2 (.seg 3 (.seg 4 (.seg 5 (.seg 6 (.seg 7 (.seg 8 (.seg 9 (.seg 10 (.seg 11 (.seg 12 (.seg 13 (.seg 14 (.seg 15 (.seg 16 (.seg 17 (.seg 18 (.seg 19 (.seg 20 (.seg 21 (.seg 22 (.seg 23 (.seg 24 (.seg 25 (.seg 26 (.eff 27 [] (.seg 28 (.seg 29 (.seg 30 .last))))))))))))))))))))))))))))))))]) (n0 := 166) (α := {x : KS // x.k ≤ f.code.length ∧ KAw f (cntK all) x.k x.all x.more}) (fun x => [(6, dB x.1.more), (29, dI x.1.k)]) (fun H x => H.set 1 (some ⟨.c 168, 2, knRows x.1.all⟩)) (fun x => x.1.nx + 2) (fun x => f.code.length - x.1.k)
    ⟨⟨0, all, false, nx⟩, Nat.zero_le _, hi, Nat.le_refl _, fun h => by simp at h, fun _ j hj => absurd hj (Nat.not_lt_zero _)⟩ rfl (by kernel_rfl) (Wk.of_eq (by simp)) ?_
  rintro ⟨⟨k, all1, more, nx1⟩, hk, hA⟩
  simp only at hk hA
  by_cases h1 : k < f.code.length
  case neg =>
    obtain rfl : k = f.code.length := by omega
    cases more with
    | false =>
      simp
      exact ⟨⟨0, all1, false, nx1⟩, ⟨⟨hA.inv, fun _ j hj => hA.cl rfl j hj hj⟩, by have := hA.le; simp; omega⟩, Wk.sub (by simp)⟩
    | true =>
      simp
      exact ⟨⟨0, all1, true, nx1⟩, ⟨⟨hA.inv, fun h => by cases h⟩, by have := hA.lt rfl; simp; omega⟩, Wk.sub (by simp)⟩
  have hlen1 := hA.inv.len
  have hk1 : k < all1.length := by omega
  have hgk : all1.getD k dKn = all1[k] := by rw [List.getD_eq_getElem?_getD, List.getElem?_eq_getElem hk1]; rfl
  have next : ∀ {tm tm' : List (Nat × D)} {H : Hp} {x0 : Option Blk}, keepT tm (tm'.map (·.1)) = tm' → H 0 = x0 → H 1 = some ⟨.c 168, 2, knRows all1⟩ → Wk ⟨166, tm, H, nx1 + 3⟩ ⟨166, tm', (Hp.none.set 0 x0).set 1 (some ⟨.c 168, 2, knRows all1⟩), nx1 + 3⟩ := fun h h0 h1 => (Wk.sub h).trans (Wk.heap (heap2 h0 h1))
  cases his : all1[k].is with
  | false =>
    simp [h1, hk1, his]
    exact ⟨⟨k + 1, all1, more, nx1 + 1⟩, by simp; omega, ⟨by simp; omega, hA.next fun _ _ hi => by rw [hgk, his] at hi; cases hi⟩, next (by simp [wrap_add (show k < 9223372036854775807 by omega)]) (by simp) (by simp)⟩
  | true =>
  generalize hLC : Code.loop _ = LC
  have hgo := hg _ (List.getElem_mem h1)
  have hRs := fun m l h => Rch.step (m := m) (l' := l) (hA.inv.sound k h1 (by rw [hgk]; exact his)).1 h1 h
  have hdone := fun xs all2 more2 (h : KB f (cntK all) all1 more xs xs.length all2 more2) => h.done hA h1
  have hstk := fun (hs : stuck f.code[k] (all1.getD k dKn).tries) => hbad fun hf => (hf _ _ (hA.inv.sound k h1 (by rw [hgk]; exact his)).1).2.2.2 k h1 rfl hs
  have hL20 := (hA.inv.sound k h1 (by rw [hgk]; exact his)).2
  rw [hgk] at hRs hdone hstk hL20
  have hpos : ∀ m l, (m, l) ∈ succs f.code[k] k all1[k].tries → 0 ≤ m := fun m l h => succs_pos hgo h
  have hnx : ¬ stuck f.code[k] all1[k].tries → succs f.code[k] k all1[k].tries = [] → KAw f (cntK all) (k + 1) all1 more := fun hs he => hA.next fun _ _ _ => by
    rw [hgk, he]
    exact ⟨hs, fun m l hm => by cases hm⟩
  generalize hI : f.code[k] = i at *
  obtain ⟨op, ia, ib, ic, il⟩ := i
  generalize hL : all1[k].tries = L at *
  have hLCe : LC = knLoop := by rw [← hLC]; kernel_rfl
  clear hLC
  subst hLCe
  have toL : ∀ (xs : List (Int × List GTry)) (K5 : Exit → St → Prop) (st : St) (nx0 : Nat), xs = succs ⟨op, ia, ib, ic, il⟩ k L → xs.length ≤ 2 →
      Wk st (toS f k xs ⟨0, all1, more, nx0⟩) → (¬ Fine f → ∀ tm H nx, K5 .ret ⟨166, (0, aD (eFn f)) :: (1, .one (.ptr 0 5 0 0)) :: (2, .one (.d .emp)) :: (3, dB false) :: tm, H, nx⟩) →
      (∀ all2 more2, KB f (cntK all) all1 more xs xs.length all2 more2 → K5 (.exit 5) (toE f k xs ⟨xs.length, all2, more2, nx0⟩)) → vc Tryz.prog [(27, [0,0,3,0,8,0,32,120,248,511,1023], (.seg 1 (.seg 3 (.seg 5 (.fork 0 [3, 5] (.fork 2 [3, 5] (.fork 4 [5] (.eff 6 [] (.seg 7 (.eff 8 [] (.eff 9 [] (.seg 10 .last))))) (.eff 6 [3] (.eff 4 [] (.seg 7 (.eff 8 [] (.eff 9 [] (.seg 10 .last))))))) (.fork 4 [5] (.fork 2 [3, 5] (.eff 6 [] (.seg 7 (.eff 8 [] (.eff 9 [] (.seg 10 .last))))) (.eff 6 [] (.seg 7 (.fork 2 [3, 5, 7] (.eff 8 [] (.eff 9 [] (.seg 10 .last))) (.eff 8 [] (.eff 2 [3, 5, 7] (.eff 9 [] (.seg 10 .last)))))))) (.eff 6 [3] (.fork 2 [3, 5] (.eff 4 [] (.seg 7 (.eff 8 [] (.eff 9 [] (.seg 10 .last))))) (.eff 4 [] (.seg 7 (.fork 2 [3, 5, 7] (.eff 8 [] (.eff 9 [] (.seg 10 .last))) (.eff 8 [] (.eff 2 [3, 5, 7] (.eff 9 [] (.seg 10 .last))))))))))) (.fork 4 [5] (.fork 0 [3, 5] (.fork 2 [3, 5] (.eff 6 [] (.seg 7 (.eff 8 [] (.eff 9 [] (.seg 10 .last))))) (.eff 6 [] (.seg 7 (.fork 2 [3, 5, 7] (.eff 8 [] (.eff 9 [] (.seg 10 .last))) (.eff 8 [] (.eff 2 [3, 5, 7] (.eff 9 [] (.seg 10 .last)))))))) (.eff 6 [] (.seg 7 (.fork 0 [3, 5, 7] (.fork 2 [3, 5, 7] (.eff 8 [] (.eff 9 [] (.seg 10 .last))) (.eff 8 [] (.eff 2 [3, 5, 7] (.eff 9 [] (.seg 10 .last))))) (.eff 8 [] (.eff 0 [3, 5, 7] (.eff 2 [3, 5, 7] (.eff 9 [] (.seg 10 .last))))))))) (.eff 6 [3] (.fork 0 [3, 5] (.fork 2 [3, 5] (.eff 4 [] (.seg 7 (.eff 8 [] (.eff 9 [] (.seg 10 .last))))) (.eff 4 [] (.seg 7 (.fork 2 [3, 5, 7] (.eff 8 [] (.eff 9 [] (.seg 10 .last))) (.eff 8 [] (.eff 2 [3, 5, 7] (.eff 9 [] (.seg 10 .last)))))))) (.eff 4 [] (.seg 7 (.fork 0 [3, 5, 7] (.fork 2 [3, 5, 7] (.eff 8 [] (.eff 9 [] (.seg 10 .last))) (.eff 8 [] (.eff 2 [3, 5, 7] (.eff 9 [] (.seg 10 .last))))) (.eff 8 [] (.eff 0 [3, 5, 7] (.eff 2 [3, 5, 7] (.eff 9 [] (.seg 10 .last)))))))))))))))), (32, [0,1,3,0,0,16,48,120,248,7,1023], (.seg 0 (.seg 1 (.seg 3 (.seg 4 (.seg 5 (.seg 6 (.seg 7 (.fork 2 [5, 6, 7] (.seg 9 (.eff 8 [1] (.seg 10 .last))) (.eff 8 [1] (.eff 2 [5, 6, 7] (.seg 9 (.seg 10 .last))))))))))))), (36, [0,0,3,7,15,15,63,127,255,511,1023,2047,4095,4095,16383,32767,65535,131071,262143,262143,1048575,2097151,4194303,262143,262143,25427967,58982399,134217727,268435455,536870911,1073741823], (.seg 0 (.seg 1 (.seg 2 (.seg 3 (.seg 4 (.seg 5 (.seg 6 (.seg 7 (.seg 8 (.seg 9 (.seg 10 (.seg 11 (.seg 12 (.seg 13 (.seg 14 (.seg 15 (.seg 16 (.seg 17 (.seg 18 (.seg 19 (.seg 20 (.seg 21 (.seg 22 (.seg 23 (.seg 24 (.seg 25 (.seg 26 (.eff 27 [] (.seg 28 (.seg 29 (.seg 30 .last))))))))))))))))))))))))))))))))] 166 [0,1,2,3,4,5,6,7,8,9,10,11,12,13,14,21,25,27,28,29,30,39,47,53,56,64,74,94,98,108,109,110,111,145] knLoop K5 st := by
    intro xs K5 st nx0 hx hx2 hw hret hex
    exact to_ok hl6 hn hA xs (fun m l h => hpos m l (by rw [← hx]; exact h)) (fun m l h => hRs m l (by rw [← hx]; exact h)) hx2 K5 st nx0 hw hret hex
  by_cases d1 : op = 28
  · simp [h1, hk1, his, hI, hL, d1]
    exact ⟨⟨k + 1, all1, more, nx1 + 1⟩, by simp; omega, ⟨by simp; omega, hnx (by simp [stuck, d1]) (by simp [succs, d1])⟩, next (by simp [wrap_add (show k < 9223372036854775807 by omega)]) (by simp) (by simp)⟩
  by_cases d2 : op = 29
  · simp [h1, hk1, his, hI, hL, d1, d2]
    exact ⟨⟨k + 1, all1, more, nx1 + 1⟩, by simp; omega, ⟨by simp; omega, hnx (by simp [stuck, d2]) (by simp [succs, d2])⟩, next (by simp [wrap_add (show k < 9223372036854775807 by omega)]) (by simp) (by simp)⟩
  by_cases d3 : op = 13
  · simp [h1, hk1, his, hI, hL, d1, d2, d3]
    have hw := wrap_add (show k < 9223372036854775807 by omega)
    refine toL [(ia, L)] _ _ (nx1 + 3) (by simp [succs, d3]) (by simp) (toWk2 (a := nx1 + 3) (b := nx1 + 4) (by simp; rfl) (by simp) (by simp; rfl) (by simp) (by omega) (by omega) (by omega) (by simp) (by simp) (by simp) knRows_isD (by simp [fzT, D.fz, C.fz, toT, hw])) (fun hnf tm H nx => ?_) (fun all2 more2 hB => ?_)
    · simp
      exact hbad hnf
    · simp [toE, toT, toH]
      exact ⟨⟨k + 1, all2, more2, nx1 + 3⟩, by simp; omega, ⟨by simp; omega, hdone _ _ _ hB (by simp [stuck, d3]) (by simp [succs, d3])⟩, Wk.subH (by simp [wrap_add (show k < 9223372036854775807 by omega)]) (by simp)⟩
  by_cases d4 : op = 14
  · simp [h1, hk1, his, hI, hL, d1, d2, d3, d4]
    have hw := wrap_add (show k < 9223372036854775807 by omega)
    refine toL [(ia, L)] _ _ (nx1 + 3) (by simp [succs, d4]) (by simp) (toWk2 (a := nx1 + 3) (b := nx1 + 4) (by simp; rfl) (by simp) (by simp; rfl) (by simp) (by omega) (by omega) (by omega) (by simp) (by simp) (by simp) knRows_isD (by simp [fzT, D.fz, C.fz, toT, hw])) (fun hnf tm H nx => ?_) (fun all2 more2 hB => ?_)
    · simp
      exact hbad hnf
    · simp [toE, toT, toH]
      exact ⟨⟨k + 1, all2, more2, nx1 + 3⟩, by simp; omega, ⟨by simp; omega, hdone _ _ _ hB (by simp [stuck, d4]) (by simp [succs, d4])⟩, Wk.subH (by simp [wrap_add (show k < 9223372036854775807 by omega)]) (by simp)⟩
  by_cases d5 : op = 15
  · simp [h1, hk1, his, hI, hL, d1, d2, d3, d4, d5]
    have hw := wrap_add (show k < 9223372036854775807 by omega)
    refine toL [(ib, L), ((k : Int) + 1, L)] _ _ (nx1 + 3) (by simp [succs, d5]) (by simp) (toWk2 (a := nx1 + 3) (b := nx1 + 4) (by simp; rfl) (by simp) (by simp; rfl) (by simp) (by omega) (by omega) (by omega) (by simp) (by simp) (by simp) knRows_isD (by simp [fzT, D.fz, C.fz, toT, hw])) (fun hnf tm H nx => ?_) (fun all2 more2 hB => ?_)
    · simp
      exact hbad hnf
    · simp [toE, toT, toH]
      exact ⟨⟨k + 1, all2, more2, nx1 + 3⟩, by simp; omega, ⟨by simp; omega, hdone _ _ _ hB (by simp [stuck, d5]) (by simp [succs, d5])⟩, Wk.subH (by simp [wrap_add (show k < 9223372036854775807 by omega)]) (by simp)⟩
  by_cases d6 : op = 30
  · simp [h1, hk1, his, hI, hL, d1, d2, d3, d4, d5, d6]
    have hw := wrap_add (show k < 9223372036854775807 by omega)
    repeat' (with_reducible constructor)
    all_goals first
      | omega
      | (intro a b e hb; subst e; simp at hb; subst hb; exact ⟨rfl, rfl⟩)
      | skip
    all_goals
      refine toL [(ib, L), ((k : Int) + 1, L ++ [⟨ia, ib⟩])] _ _ (nx1 + 6) (by simp [succs, d6]) (by simp) (toWk3 (a := nx1 + 5) (b := nx1 + 6) (c := nx1 + 7) (z' := ⟨.c 98, 1, [[.d (.sl true (L.map eTry))], [.d (.sl true ((L ++ [(⟨ia, ib⟩ : GTry)]).map eTry))]]⟩) (by simp; rfl) (by simp [or_imp, forall_and]) (by simp; rfl) (by simp) (by simp; rfl) (by simp [C.fz, List.take_of_length_le, Function.comp_def]) (by simp) (by omega) (by omega) (by omega) (by omega) (by omega) (by omega) (by simp) (by simp) (by simp) knRows_isD (by simp [fzT, D.fz, C.fz, toT, hw])) (fun hnf tm H nx => ?_) (fun all2 more2 hB => ?_)
      · simp
        exact hbad hnf
      · simp [toE, toT, toH]
        exact ⟨⟨k + 1, all2, more2, nx1 + 6⟩, by simp; omega, ⟨by simp; omega, hdone _ _ _ hB (by simp [stuck, d6]) (by simp [succs, d6])⟩, Wk.subH (by simp [wrap_add (show k < 9223372036854775807 by omega)]) (by simp)⟩
  by_cases d7 : op = 31
  · by_cases hLe : L = []
    · simp [h1, hk1, his, hI, hL, d1, d2, d3, d4, d5, d6, d7, hLe]
      exact hstk ⟨d7, hLe⟩
    · have hL0 : 0 < L.length := List.length_pos_iff.2 hLe
      have hw1 : IntKind.i64.wrap ((L.length : Int) - 1) = ((L.length - 1 : Nat) : Int) := by rw [wrap_id (by omega) (by omega)]; omega
      have hw := wrap_add (show k < 9223372036854775807 by omega)
      have hdl : List.take (L.length - 1) (List.map eTry L) = List.map eTry L.dropLast := by rw [List.dropLast_eq_take, List.map_take]
      simp [h1, hk1, his, hI, hL, d1, d2, d3, d4, d5, d6, d7, hLe, hL0, hw1, hdl]
      intro _
      constructor
      all_goals
       refine toL [((k : Int) + 1, L.dropLast)] _ _ (nx1 + 3) (by simp [succs, d7]) (by simp) (toWk2 (a := nx1 + 3) (b := nx1 + 4) (by simp; rfl) (by simp) (by simp; rfl) (by simp) (by omega) (by omega) (by omega) (by simp) (by simp) (by simp) knRows_isD (by simp [fzT, D.fz, C.fz, toT, hw])) (fun hnf tm H nx => ?_) (fun all2 more2 hB => ?_)
       · simp
         exact hbad hnf
       · simp [toE, toT, toH]
         exact ⟨⟨k + 1, all2, more2, nx1 + 3⟩, by simp; omega, ⟨by simp; omega, hdone _ _ _ hB (by simp [stuck, hLe]) (by simp [succs, d7])⟩, Wk.subH (by simp [wrap_add (show k < 9223372036854775807 by omega)]) (by simp)⟩
  simp [h1, hk1, his, hI, hL, d1, d2, d3, d4, d5, d6, d7]
  have hw := wrap_add (show k < 9223372036854775807 by omega)
  refine toL [((k : Int) + 1, L)] _ _ (nx1 + 3) (by simp [succs, d1, d2, d3, d4, d5, d6, d7]) (by simp) (toWk2 (a := nx1 + 3) (b := nx1 + 4) (by simp; rfl) (by simp) (by simp; rfl) (by simp) (by omega) (by omega) (by omega) (by simp) (by simp) (by simp) knRows_isD (by simp [fzT, D.fz, C.fz, toT, hw])) (fun hnf tm H nx => ?_) (fun all2 more2 hB => ?_)
  · simp
    exact hbad hnf
  · simp [toE, toT, toH]
    exact ⟨⟨k + 1, all2, more2, nx1 + 3⟩, by simp; omega, ⟨by simp; omega, hdone _ _ _ hB (by simp [stuck, d1, d2, d3, d4, d5, d6, d7]) (by simp [succs, d1, d2, d3, d4, d5, d6, d7])⟩, Wk.subH (by simp [wrap_add (show k < 9223372036854775807 by omega)]) (by simp)⟩
end Go.Proofs.YtbphdcffpobcbaaGreatDoor
