/- Several texts in one. -/
import Derived.Test.YtbphdcffpobcbaaGreatDoorMj
import Derived.Test.YtbphdcffpobcbaaGreatDoorMna
import Derived.Test.YtbphdcffpobcbaaGreatDoorMm
import Derived.Test.YtbphdcffpobcbaaGreatDoorMrc
import Derived.Test.YtbphdcffpobcbaaGreatDoorMre
import Derived.Test.YtbphdcffpobcbaaGreatDoorMrf
import Derived.Test.YtbphdcffpobcbaaGreatDoorMrg
set_option linter.unusedSimpArgs false
set_option linter.unusedVariables false
set_option linter.unusedSectionVars false
set_option maxRecDepth 100000
set_option maxHeartbeats 16000000
namespace Go.Proofs.YtbphdcffpobcbaaGreatDoor
section
open Go.RowKit Go
structure CdI (s:GState) (b:List Bool) (H:Hp) (nx lo:Nat) (A:Ad->Nat) (x:ColS):Prop where
 k:x.k≤s.cells.length
 le:nx≤x.nx
 sol:HSol x.H
 low : ∀ i,i<nx->i≠A .c->x.H i=H i
 own:OwnS x.H lo x.A (colK b s x.k)
 lt : ∀ y,Live (colK b s x.k) y->x.A y<x.nx∧x.A y≠0∧x.A y≠1
 top:oRow x.A=oRow A
 tc:x.A .c=A .c
theorem collectedD_ok (s:GState) (hg:GoodS s) (hz:Sized s) (hs:s.cells.length≤1000) {K:D->List Blk->Prop} (h : ∀ b,SeenB s b->K (aD (eState (colS b s))) []):DPure Tryz.prog 21 [aD (eState s)] K:=by
 refine DPure.ofI ?_
 refine fni_ok [0,1,2,3,4,5,6,7,13,14,15,16,24,32,38,49] [(14,[0,0,2,0,14,30,0,64,0,256,960,1984,4094,8191,16383],(.seg 0 (.seg 1 (.seg 2 (.seg 3 (.seg 4 (.seg 5 (.seg 6 (.seg 7 (.seg 8 (.seg 9 (.seg 10 (.seg 11 (.eff 12 [2,5,7,11] (.eff 13 [] (.seg 14 .last))))))))))))))))] Tryz.func21 rfl (by kernel_rfl) rfl rfl rfl rfl (by kernel_rfl) ?_
 simp
 refine reachedIn_ok s hg hs fun b hb => ?_
 simp
 refine copiedO_ic s hz ?_ (fun H1 A n1 hn1 low1 high1 sol1 hO => ?_)
 ·repeat' (first | exact HSol.nil | exact HSol.zero | refine HSol.set ?_ ?_ | (simp;done))
 have g0:H1 0=some ⟨.c 29,8,[(eState s).map .d]⟩:=by rw [low1 _ (by omega)];simp [Hp.set]
 have g1:H1 1=some ⟨.c 29,8,[[.d .emp,.d .emp,.d .emp,.d .emp,.d .emp,.d .emp,.d (eI 0),.d (eI 0)]]⟩:=by rw [low1 _ (by omega)];simp [Hp.set]
 have hb1 : ∀ y,Live s y->2≤A y∧A y<n1:=fun y hy=>⟨hO.lo y hy,hO.lt high1 hy⟩
 have hO1:OwnS (H1.set 0 (some ⟨.c 29,8,[oRow A s]⟩)) 2 A s:=hO.set_low _ fun y hy=>by have:=hb1 y hy;omega
 have hc:=hb1 .c trivial
 rw [oRow] at hO1 ⊢
 simp [g0,g1]
 intro hlen
 obtain ⟨H0,hH0⟩ : ∃ H0:Hp,H0=H1.set 0 (some ⟨.c 29,8,[oRow A s]⟩):=⟨_,rfl⟩
 rw [oRow] at hH0
 rw [← hH0] at hO1
 have hS0:H0 0=some ⟨.c 29,8,[oRow A s]⟩:=by rw [hH0,Hp.set_same];rfl
 have hT0:H0 1=some ⟨.c 29,8,[[.d .emp,.d .emp,.d .emp,.d .emp,.d .emp,.d .emp,.d (eI 0),.d (eI 0)]]⟩:=by rw [hH0,Hp.set_ne _ _ (by omega)];exact g1
 have hSol0:HSol H0:=by rw [hH0];exact HSol.set sol1 (by simp)
 try rw [← hH0]
 refine loopH_ok (ks := [0,1,2,3,4,5,6,7,13,14,15,16,24,32,38,49]) (pl := [(14,[0,0,2,0,14,30,0,64,0,256,960,1984,4094,8191,16383],(.seg 0 (.seg 1 (.seg 2 (.seg 3 (.seg 4 (.seg 5 (.seg 6 (.seg 7 (.seg 8 (.seg 9 (.seg 10 (.seg 11 (.eff 12 [2,5,7,11] (.eff 13 [] (.seg 14 .last))))))))))))))))]) (n0:=72) (α := {x:ColS//CdI s b H0 n1 2 A x}) (fun x=>[(15,dI x.1.k)]) (fun _ x=>x.1.H) (fun x=>x.1.nx) (fun x=>s.cells.length-x.1.k)
  ⟨⟨0,H0,n1,A⟩,⟨Nat.zero_le _,Nat.le_refl _,hSol0,fun i hi _=>rfl,by rw [colK_zero];exact hO1,fun y hy=>by rw [colK_zero] at hy;exact ⟨(hb1 y hy).2,by have:=hb1 y hy;dsimp only;omega,by have:=hb1 y hy;dsimp only;omega⟩,rfl,rfl⟩⟩ rfl (by kernel_rfl) (Wk.sub (by simp)) ?_
 clear hH0 hSol0 hO1 hO sol1 high1 low1 g0 g1
 rintro ⟨⟨k,H2,nx2,A2⟩,⟨hk,le2,sol2,low2,O2,lt2,top2,tc2⟩⟩
 simp only at hk le2 sol2 low2 O2 lt2 top2 tc2
 have hS2:H2 0=some ⟨.c 29,8,[oRow A s]⟩:=by rw [low2 0 (by omega) (by omega)];exact hS0
 have hT2:H2 1=some ⟨.c 29,8,[[.d .emp,.d .emp,.d .emp,.d .emp,.d .emp,.d .emp,.d (eI 0),.d (eI 0)]]⟩:=by rw [low2 1 (by omega) (by omega)];exact hT0
 by_cases h1:k<s.cells.length
 case neg =>
  obtain rfl:k=s.cells.length:=by omega
  rw [colK_all] at O2 lt2
  have eR:oRow A s=oRow A2 (colS b s):=by rw [top2];simp [oRow,colS]
  rw [oRow] at hS2
  simp [hS2,hT2]
  refine ⟨HSol.set sol2 (by simp),aD (eState (colS b s)),CsS.csShw ?_,h b hb⟩
  have:=(O2.set_low (n:=1) (some ⟨.c 29,8,[oRow A s]⟩) fun y hy=>by have:=lt2 y hy;omega).shw (N:=fun _=>True) fun _ _=>trivial
  rw [← eR] at this
  exact this
 have hkk:k<(colK b s k).cells.length:=by rw [colK_len];exact h1
 obtain ⟨R,r1,r2,r3⟩:=O2.ce
 obtain ⟨r4,r5⟩:=List.getElem?_eq_some_iff.1 (r3 k hkk)
 rw [colK_at h1,oCe,ceR] at r5
 rw [tc2] at r1
 have hb1':k<b.length:=by rw [hb.len];exact h1
 have g2:b.getD k false=b[k]:=by simp [List.getD_eq_getElem?_getD,hb1']
 obtain ⟨c,hce⟩ : ∃ c,c=s.cells[k]:=⟨_,rfl⟩
 simp only [← hce] at r5
 rw [oRow] at hS2
 have hAn : ¬ A .c=nx2:=by omega
 have h0n : ¬ 0=nx2:=by omega
 obtain ⟨G,hG⟩ : ∃ G:Hp,G=H2.set nx2 (some ⟨.c 75,4,[[.d (eI c.kind),.d (eI c.num),.own (A2 (.cv k)) 2 c.vals.length,.own (A2 (.cf k)) 8 c.frames.length]]⟩):=⟨_,rfl⟩
 have Gc:G (A .c)=some ⟨.c 75,4,R⟩:=by rw [hG,Hp.set_ne _ _ hAn];exact r1
 have Gn:G nx2=some ⟨.c 75,4,[[.d (eI c.kind),.d (eI c.num),.own (A2 (.cv k)) 2 c.vals.length,.own (A2 (.cf k)) 8 c.frames.length]]⟩:=by rw [hG,Hp.set_same]
 have GO:OwnS G 2 A2 (colK b s k):=by rw [hG];exact O2.set_low _ fun y hy=>by have:=lt2 y hy;omega
 have Gsol:HSol G:=by rw [hG];exact HSol.set sol2 (by simp)
 have Glow : ∀ i,i<n1->i≠A .c->G i=H0 i:=fun i h1 h2=>by rw [hG,Hp.set_ne _ _ (by omega)];exact low2 i h1 h2
 have G0:G 0=some ⟨.c 29,8,[[C.own (A Ad.c) 4 s.cells.length,C.own (A Ad.sh) 2 s.shapes.length,C.own (A Ad.tx) 1 s.texts.length,C.own (A Ad.t) 5 s.threads.length,C.own (A Ad.en) 3 s.ends.length,C.own (A Ad.sa) 2 s.said.length,C.d (eI s.asked),C.d (eI s.steps)]]⟩:=by rw [hG,Hp.set_ne _ _ h0n];exact hS2
 cases c2:b[k] with
 | false =>
  simp [h1,hS2,r1,r4,r5,hb1',c2,hAn,h0n]
  rw [← hG]
  rw [c2] at g2
  have hGot : ¬ Got s k:=fun e=>by have:=(hb.iff k).2 e;rw [g2] at this;cases this
  have hfree:=hb.free (c:=s.cells[k]) hGot
  have ek:=colK_next (b:=b) h1
  rw [hfree] at ek
  have hset:(R.set k [C.d (Dt.lit (Value.int IntKind.i64 0)),C.d (Dt.lit (Value.int IntKind.i64 0)),C.d Dt.emp,C.d Dt.emp])[k]? = some [C.d (eI 0),C.d (eI 0),C.d Dt.emp,C.d Dt.emp]:=List.getElem?_set_self r4
  obtain ⟨H5,w5,sol5,m5,v5,f5,low5⟩:=freeWk (n:=72) (nx:=nx2+1) (tm := [(0,aD (eState s)),(1,.one (.ptr 0 8 0 0)),(2,.one (.ptr 1 8 0 0)),(3,dL true (b.map fun x=>[eB x])),(13,.one (.own (A .c) 4 s.cells.length)),(14,dI s.cells.length),(15,dI (k+1:Nat))])
   (H:=G.set (A .c) (some ⟨.c 75,4,R.set k [C.d (Dt.lit (Value.int IntKind.i64 0)),C.d (Dt.lit (Value.int IntKind.i64 0)),C.d Dt.emp,C.d Dt.emp]⟩)) (m:=A .c) (Hp.set_same _ _ _) hset (by omega) (Gsol.set (fun r hr c hc=>by
    rcases List.mem_or_eq_of_mem_set hr with hr | rfl
    ·exact Gsol _ _ Gc r hr c hc
    ·simp at hc;rcases hc with rfl | rfl | rfl <;> rfl))
  rw [List.set_set] at m5
  have O5:OwnS H5 2 (withC A2 k (nx2+1) (nx2+1+1) (fun _=>0) (fun _=>0)) (colK b s (k+1)):=by
   rw [ek]
   refine GO.newC (H':=H5) hkk (c':=⟨0,0,[],[]⟩) (nx2+1) (nx2+1+1) _ _ (fun y hy h2 h3 => ?_) (by rw [tc2];exact Gc) (by rw [tc2,m5];rfl) ⟨[],v5⟩ ⟨⟨[],f5,(fun e he=>by cases he),fun j hj=>by simp at hj⟩,fun j hj=>by simp at hj,fun j hj=>by simp at hj⟩ (by omega) (fun j hj=>by simp at hj) ⟨fun j hj=>by simp at hj,fun j _ hj=>by simp at hj,fun j _ hj=>by simp at hj,fun j _ hj=>by simp at hj⟩ (fun y hy _ => ?_) ⟨by omega,by omega,fun j hj=>by simp at hj⟩
   ·have:=lt2 y hy
    have:=GO.ne hy (y := .c) trivial h3
    rw [tc2] at this
    rw [low5 _ this (by omega) (by omega),Hp.set_ne _ _ this]
   ·have:=lt2 y hy
    exact ⟨by omega,by omega,fun j hj=>by simp at hj⟩
  refine ⟨⟨k+1,H5,nx2+1+1+1,withC A2 k (nx2+1) (nx2+1+1) (fun _=>0) (fun _=>0)⟩,by simp only;omega,⟨by dsimp only;omega,by dsimp only;omega,sol5,fun i hi hi2 => ?_,O5,?_,by dsimp only;rw [withC_row];exact top2,by dsimp only;exact tc2⟩,(Wk.sub (by simp [wrap_add (show k<9223372036854775807 by omega)])).trans w5⟩
  ·dsimp only
   rw [low5 i hi2 (by omega) (by omega),Hp.set_ne _ _ hi2];exact Glow i hi hi2
  ·dsimp only
   rw [ek]
   exact withC_lt hkk (P:=fun q=>q<nx2+1+1+1∧q≠0∧q≠1) (fun y hy=>by have:=lt2 y hy;exact ⟨by omega,this.2⟩) ⟨by omega,by omega,by omega⟩ ⟨by omega,by omega,by omega⟩ (fun j hj=>by simp at hj)
 | true =>
  rw [c2] at g2
  have hGot:Got s k:=(hb.iff k).1 g2
  by_cases c7:c.kind=7
  case neg =>
   simp [h1,hS2,r1,r4,r5,hb1',c2,hAn,h0n,c7]
   rw [← hG]
   have ek:=colK_same (b:=b) h1 (hb.same hGot (by rw [← hce];exact c7))
   exact ⟨⟨k+1,G,nx2+1,A2⟩,by simp only;omega,⟨by dsimp only;omega,by dsimp only;omega,Gsol,Glow,by dsimp only;rw [ek];exact GO,fun y hy=>by dsimp only at hy ⊢; rw [ek] at hy;have:=lt2 y hy;exact ⟨by omega,this.2⟩,top2,tc2⟩,Wk.sub (by simp [wrap_add (show k<9223372036854775807 by omega)])⟩
  simp [h1,hS2,r1,r4,r5,hb1',c2,hAn,h0n,c7]
  rw [c7] at hG Gn
  rw [← hG]
  have ek:=colK_next (b:=b) h1
  have hck:cellAt s (k:Int)=c:=by rw [at_nat h1,hce]
  rw [hb.weak hGot (by rw [← hce];exact c7), ← hce] at ek
  obtain ⟨ps,hps⟩:=good_pairs hg h1 (by rw [hck];exact c7)
  rw [hck] at hps
  obtain ⟨-, hkey⟩:=hg.weak k h1 (by rw [hck];exact c7)
  have hvl:=hg.vl k h1
  rw [hck] at hkey hvl
  have hvlen:c.vals.length=2*ps.length:=by rw [hps,unp_len]
  have hps5 : ∀ j (hj:j<ps.length),ps[j].1.kind=5∧0≤ps[j].1.n∧ps[j].1.n<s.cells.length:=fun j hj=>by
   have h5:=hkey j (by omega)
   rw [hps,(unp_val hj).1] at h5
   have:=hg.kid k h1 ps[j].1 (by rw [hck];exact List.mem_append_left _ (by rw [hps,unp_mem];exact ⟨_,List.getElem_mem hj,.inl rfl⟩)) h5
   exact ⟨h5,this⟩
  obtain ⟨ys,hv2⟩:=GO.cv k hkk
  rw [colK_at h1, ← hce,valBlk] at hv2
  have lcv:=lt2 (.cv k) hkk
  have ncv:A2 (.cv k)≠A .c:=by rw [← tc2];exact GO.ne (y := .c) (show Live (colK b s k) (.cv k) from hkk) trivial (fun e=>by cases e)
  refine loopH_ok (ks := [0,1,2,3,4,5,6,7,13,14,15,16,24,32,38,49]) (pl := [(14,[0,0,2,0,14,30,0,64,0,256,960,1984,4094,8191,16383],(.seg 0 (.seg 1 (.seg 2 (.seg 3 (.seg 4 (.seg 5 (.seg 6 (.seg 7 (.seg 8 (.seg 9 (.seg 10 (.seg 11 (.eff 12 [2,5,7,11] (.eff 13 [] (.seg 14 .last))))))))))))))))]) (n0:=72) (α := {x:KwS//KwI b ps G (nx2+1) x}) (fun x=>[(6,.one (.own x.1.n 2 (keptL b ps x.1.j).length)),(7,dI x.1.q)]) (fun _ x=>x.1.H) (fun x=>x.1.nx) (fun x=>ps.length-x.1.j)
   ⟨⟨0,0,G.set (nx2+1) (some ⟨.c 31,2,[]⟩),nx2+1+1,nx2+1⟩,⟨rfl,Nat.zero_le _,by simp only;omega,Hp.set_same _ _ _,fun i hi=>Hp.set_ne _ _ (by omega),Gsol.set (by simp)⟩⟩ rfl (by kernel_rfl) ((Wk.emp (t:=6) 31 2 rfl).trans (Wk.sub (by simp [keptL]))) ?_
  rintro ⟨⟨j,q,H3,nx3,nL⟩,⟨hq,hj,hn3,hL,low3,sol3⟩⟩
  simp only at hq hj hn3 hL low3 sol3
  have r3c:H3 (A .c)=some ⟨.c 75,4,R⟩:=by rw [low3 _ (by omega)];exact Gc
  have v3:H3 (A2 (.cv k))=some ⟨.c 31,2,(c.vals++ys).map fun v=>(eVal v).map C.d⟩:=by rw [low3 _ (by omega)];exact hv2
  have n3:H3 nx2=some ⟨.c 75,4,[[.d (eI 7),.d (eI c.num),.own (A2 (.cv k)) 2 c.vals.length,.own (A2 (.cf k)) 8 c.frames.length]]⟩:=by rw [low3 _ (by omega)];exact Gn
  have s3:H3 0=_:=(low3 0 (by omega)).trans G0
  have hklen:=keptL_len (b:=b) (ps:=ps) (j:=j)
  obtain ⟨q1,hq1⟩ : ∃ q1,q1=q+1:=⟨_,rfl⟩
  have hw1:IntKind.i64.wrap ((q:Int)+1)=(q1:Int):=by rw [wrap_id (by omega) (by omega)];omega
  by_cases h2:j<ps.length
  case neg =>
   obtain rfl:j=ps.length:=by omega
   have hnl : ¬ q1<c.vals.length:=by omega
   simp [n3,s3,r3c,r4,r5,hw1,hnl,h1]
   intro _
   rw [keptL_all, ← hps] at hL
   rw [keptL_all, ← hps]
   have O5:OwnS (H3.set (A .c) (some ⟨.c 75,4,R.set k [C.d (eI c.kind),C.d (eI c.num),C.own nL 2 (keepP b c.vals).length,C.own (A2 (Ad.cf k)) 8 c.frames.length]⟩)) 2 (withC A2 k nL (A2 (.cf k)) (fun j=>A2 (.cr k j)) (fun j=>A2 (.ct k j))) (colK b s (k+1)):=by
    rw [ek]
    have hk':(colK b s k).cells[k]'hkk=c:=(colK_at h1).trans hce.symm
    have hcf:=GO.cf k hkk
    rw [hk'] at hcf
    have llow : ∀ y,Live (colK b s k) y->y ≠ .c->(H3.set (A .c) (some ⟨.c 75,4,R.set k [C.d (eI c.kind),C.d (eI c.num),C.own nL 2 (keepP b c.vals).length,C.own (A2 (Ad.cf k)) 8 c.frames.length]⟩)) (A2 y)=G (A2 y):=fun y hy hne=>by
     have q1:=GO.ne hy (y := .c) trivial hne
     rw [tc2] at q1
     rw [Hp.set_ne _ _ q1]
     exact low3 _ (by have:=lt2 y hy;omega)
    have lcr : ∀ j,j<c.frames.length->Live (colK b s k) (.cr k j):=fun j hj=>live_cr hkk (by rw [hk'];exact hj)
    have lct : ∀ j,j<c.frames.length->Live (colK b s k) (.ct k j):=fun j hj=>live_ct hkk (by rw [hk'];exact hj)
    have lcf:Live (colK b s k) (.cf k):=hkk
    refine GO.newC hkk (c':=⟨c.kind,c.num,keepP b c.vals,c.frames⟩) nL (A2 (.cf k)) _ _ (fun y hy _ h3=>llow y hy h3) (by rw [tc2];exact Gc) (by rw [tc2,Hp.set_same];rfl) ⟨[],by rw [Hp.set_ne _ _ (by omega),List.append_nil];exact hL⟩ (hcf.low (llow _ lcf (fun e=>by cases e)) (fun j hj=>llow _ (lcr j hj) (fun e=>by cases e)) fun j hj=>llow _ (lct j hj) (fun e=>by cases e)) ?_ (fun j hj => ?_) ⟨fun j hj=>⟨GO.ne lcf (lcr j hj) (fun e=>by cases e),GO.ne lcf (lct j hj) (fun e=>by cases e)⟩,fun j i hj hi=>GO.ne (lcr j hj) (lct i hi) (fun e=>by cases e),fun j i hj hi e => ?_,fun j i hj hi e => ?_⟩ (fun y hy hny => ?_) ⟨by omega,GO.lo _ lcf,fun j hj=>⟨GO.lo _ (lcr j hj),GO.lo _ (lct j hj)⟩⟩
    ·have:=lt2 _ lcf;omega
    ·have:=lt2 _ (lcr j hj);have:=lt2 _ (lct j hj);omega
    ·have:=GO.inj _ _ (lcr j hj) (lcr i hi) e;cases this;rfl
    ·have:=GO.inj _ _ (lct j hj) (lct i hi) e;cases this;rfl
    ·refine ⟨by have:=lt2 y hy;omega,GO.ne hy lcf (fun e=>hny (by rw [e];rfl)),fun j hj=>⟨GO.ne hy (lcr j hj) (fun e=>hny (by rw [e];rfl)),GO.ne hy (lct j hj) (fun e=>hny (by rw [e];rfl))⟩⟩
   have lcf:Live (colK b s k) (.cf k):=hkk
   have hk':(colK b s k).cells[k]'hkk=c:=(colK_at h1).trans hce.symm
   refine ⟨⟨k+1,H3.set (A .c) (some ⟨.c 75,4,R.set k [C.d (eI c.kind),C.d (eI c.num),C.own nL 2 (keepP b c.vals).length,C.own (A2 (Ad.cf k)) 8 c.frames.length]⟩),nx3,withC A2 k nL (A2 (.cf k)) (fun j=>A2 (.cr k j)) (fun j=>A2 (.ct k j))⟩,by simp only;omega,⟨by dsimp only;omega,by dsimp only;omega,sol3.set (fun r hr c' hc' => ?_),fun i hi hi2 => ?_,O5,?_,by dsimp only;rw [withC_row];exact top2,by dsimp only;exact tc2⟩,Wk.sub (by simp [wrap_add (show k<9223372036854775807 by omega)])⟩
   ·rcases List.mem_or_eq_of_mem_set hr with hr | rfl
    ·exact Gsol _ _ Gc r hr c' hc'
    ·simp at hc';rcases hc' with rfl | rfl | rfl | rfl <;> rfl
   ·dsimp only
    rw [Hp.set_ne _ _ hi2,low3 i (by omega)];exact Glow i hi hi2
   ·dsimp only
    rw [ek]
    refine withC_lt hkk (P:=fun q=>q<nx3∧q≠0∧q≠1) (fun y hy=>by have:=lt2 y hy;exact ⟨by omega,this.2⟩) ⟨by omega,by omega,by omega⟩ (by have:=lt2 _ lcf;exact ⟨by omega,this.2⟩) (fun j hj => ?_)
    have q1:=lt2 _ (live_cr (s:=colK b s k) hkk (j:=j) (by rw [hk'];exact hj))
    have q2:=lt2 _ (live_ct (s:=colK b s k) hkk (j:=j) (by rw [hk'];exact hj))
    exact ⟨⟨by omega,q1.2⟩,by omega,q2.2⟩
  obtain ⟨p5,p0,p1⟩:=hps5 j h2
  have hnextT:b.getD ps[j].1.n.toNat false=true->keptL b ps (j+1)=keptL b ps j++[ps[j].1,ps[j].2]:=fun e=>by rw [keptL_next h2,if_pos e]
  have hnextF:b.getD ps[j].1.n.toNat false=false->keptL b ps (j+1)=keptL b ps j:=fun e=>by rw [keptL_next h2,if_neg (by rw [e];decide),List.append_nil]
  have a1:q<c.vals.length:=by omega
  have a2:q1<c.vals.length:=by omega
  have x1:=vrow_at (ys:=ys) a1
  have x2:=vrow_at (ys:=ys) a2
  have y1:c.vals[q]=ps[j].1:=by
   have:=(unp_at ps j).1
   rw [← hps, ← hq,List.getElem?_eq_getElem a1,List.getElem?_eq_getElem h2] at this
   simpa using this
  have y2:c.vals[q1]=ps[j].2:=by
   have:=(unp_at ps j).2
   rw [← hps, ← hq, ← hq1,List.getElem?_eq_getElem a2,List.getElem?_eq_getElem h2] at this
   simpa using this
  rw [y1] at x1
  rw [y2] at x2
  obtain ⟨key,hkey2⟩ : ∃ key,key=ps[j].1:=⟨_,rfl⟩
  obtain ⟨val,hval2⟩ : ∃ val,val=ps[j].2:=⟨_,rfl⟩
  rw [← hkey2] at x1 p5 p0 p1 hnextT hnextF
  rw [← hval2] at x2 hnextT
  obtain ⟨kk,n⟩:=key
  simp only at x1 p5 p0 p1 hnextT hnextF
  subst p5
  obtain ⟨n,rfl⟩ : ∃ n':Nat,n=n':=⟨n.toNat,by omega⟩
  simp only [Int.toNat_natCast] at hnextT hnextF
  have hnb:n<b.length:=by rw [hb.len];omega
  have z2:b.getD n false=b[n]:=by simp [List.getD_eq_getElem?_getD,hnb]
  rw [z2] at hnextT hnextF
  generalize hV:((c.vals++ys).map fun v=>(eVal v).map C.d)=V at *
  obtain ⟨x3,x4⟩:=List.getElem?_eq_some_iff.1 x1
  obtain ⟨x5,x6⟩:=List.getElem?_eq_some_iff.1 x2
  have hw2:IntKind.i64.wrap ((q:Int)+2)=((q+2:Nat):Int):=by rw [wrap_id (by omega) (by omega)];simp
  rw [valBlk] at hL
  cases z5:b[n] with
  | false =>
   simp [n3,v3,a1,a2,x1,x3,x4,hnb,z5,hw1]
   intro _
   exact ⟨⟨j+1,q+2,H3,nx3,nL⟩,by simp only;omega,⟨by simp only;omega,by simp only;omega,hn3,by simp only;rw [hnextF z5];exact hL,low3,sol3⟩,Wk.sub (by simp [hw2,hnextF z5])⟩
  | true =>
   rw [z5] at z2
   have f1 : ¬ nL=nx3:=by omega
   have f2 : ¬ nL=nx3+1:=by omega
   have t1:((keptL b ps j).map fun v=>(eVal v).map C.d).take (keptL b ps j).length=(keptL b ps j).map fun v=>(eVal v).map C.d:=List.take_of_length_le (by simp)
   have t2:((keptL b ps j).map fun v=>(eVal v).map C.d).length=(keptL b ps j).length:=by simp
   have hnt:=hnextT z5
   obtain ⟨LL,hLL⟩ : ∃ LL,LL=(keptL b ps j).map fun v=>(eVal v).map C.d:=⟨_,rfl⟩
   rw [← hLL] at hL t1 t2
   simp [n3,v3,a1,a2,x1,x2,x3,x4,x5,x6,hnb,z5,hw1,hL,f1,f2,t1,t2]
   have hLn:(LL++[[C.d (eI 5),C.d (eI ↑n)],[C.d (eI val.kind),C.d (eI val.n)]])=(keptL b ps (j+1)).map fun v=>(eVal v).map C.d:=by rw [hnt,List.map_append,hLL];rfl
   have hln:(keptL b ps (j+1)).length=(keptL b ps j).length+2:=by rw [hnt];simp
   intro _
   refine ⟨?_,.inl (by omega),⟨j+1,q+2,((H3.set nx3 (some ⟨.c 31,2,[[C.d (eI 5),C.d (eI ↑n)],[C.d (eI val.kind),C.d (eI val.n)]]⟩)).set nL none).set (nx3+1) (some ⟨.c 31,2,LL++[[C.d (eI 5),C.d (eI ↑n)],[C.d (eI val.kind),C.d (eI val.n)]]⟩),nx3+1+1,nx3+1⟩,by simp only;omega,⟨by simp only;omega,by simp only;omega,by simp only;omega,by simp only;rw [Hp.set_same,hLn];rfl,fun i hi => ?_,?_⟩,Wk.sub (by simp [hw2,hln])⟩
   ·rintro m b' rfl
    rw [if_neg f1,hL]
    intro e
    cases e
    exact ⟨rfl,rfl⟩
   ·dsimp only
    rw [Hp.set_ne _ _ (by omega),Hp.set_ne _ _ (by omega),Hp.set_ne _ _ (by omega)]
    exact low3 i hi
   ·dsimp only
    rw [hLn]
    exact HSol.set (HSol.none (HSol.set sol3 (by simp))) (valBlk_sol (keptL b ps (j+1)))
end
section
open Go.RowKit Go
open Go.Sort
theorem isNaNI_ok (n:Int) {K:D->List Blk->Prop} (h:K (dB false) []):DPure Tryz.prog 161 [dI n] K:=by
 refine fn_ok [0,2] [] Tryz.func161 rfl (by kernel_rfl) rfl rfl rfl rfl (by kernel_rfl) ?_
 simp
 exact h
def cmpI (a b:Int):Int:=if a<b then -1 else if b<a then 1 else 0
theorem compare_ok (a b:Int) {K:D->List Blk->Prop} (h:K (dI (cmpI a b)) []):DPure Tryz.prog 108 [dI a,dI b] K:=by
 refine fn_ok [0,1,4,5,6,11,12,13,16,19] [] Tryz.func108 rfl (by kernel_rfl) rfl rfl rfl rfl (by kernel_rfl) ?_
 simp
 refine isNaNI_ok a ?_
 simp
 refine isNaNI_ok b ?_
 unfold cmpI at h
 by_cases c1:a<b
 ·rw [if_pos c1] at h
  simp [c1]
  exact h
 ·rw [if_neg c1] at h
  by_cases c2:b<a
  ·rw [if_pos c2] at h
   simp [c1,c2]
   exact h
  ·rw [if_neg c2] at h
   simp [c1,c2]
   exact h
theorem cmpI_neg {a b:Int} : cmpI a b<0↔a<b:=by
 unfold cmpI
 by_cases c1:a<b
 ·rw [if_pos c1];simp [c1]
 ·rw [if_neg c1]
  by_cases c2:b<a
  ·rw [if_pos c2];simp [c1]
  ·rw [if_neg c2];simp [c1]
def freeE (s:GState) (i:Fin s.ends.length):Bool:=decide ((cellAt s s.ends[i].cell).kind=0)
def duesF (s:GState) (k:Nat):List (Fin s.ends.length):=((List.finRange s.ends.length).take k).filter (freeE s)
def encE (s:GState) (i:Fin s.ends.length):Int:=((i.val:Nat):Int)
def ltE (s:GState) (i j:Fin s.ends.length):Bool:=decide (s.ends[i].cell<s.ends[j].cell)
theorem duesF_next {s:GState} {k:Nat} (h:k<s.ends.length):duesF s (k+1)=duesF s k++if freeE s ⟨k,h⟩=true then [⟨k,h⟩] else []:=by
 unfold duesF
 rw [List.take_succ_eq_append_getElem (by simpa using h),List.filter_append]
 congr 1
 simp
 split <;> simp [*]
theorem duesF_len (s:GState) (k:Nat):(duesF s k).length≤k:=by
 unfold duesF
 have:=List.length_filter_le (freeE s) ((List.finRange s.ends.length).take k)
 have:=List.length_take_le k (List.finRange s.ends.length)
 omega
noncomputable def dueL (s:GState):List Int:=if h:0<s.ends.length then
 letI:Inhabited (Fin s.ends.length):=⟨⟨0,h⟩⟩
 ((stable (ltE s) (duesF s s.ends.length).toArray).toList.map (encE s)) else []
theorem aRows_list (s:GState) (l:List (Fin s.ends.length)):aRows (encE s) l.toArray=intRows (l.map (encE s)):=by simp [aRows,intRows]
theorem endsCmp_ic (s:GState) {nb:Nat} (a b:Fin s.ends.length) {H:Hp} {nx:Nat} (hb:H nb=some ⟨.c 62,1,[[.d (.at_ true (eState s))]]⟩) (hS:HSol H) {K:D->Hp->Nat->Prop}
  (h : ∀ H' nx',nx≤nx'->(∀ i,i<nx->H' i=H i)->HSol H'->K (dI (cmpI s.ends[a].cell s.ends[b].cell)) H' nx'):ICall Tryz.prog 107 [dI (encE s a),dI (encE s b),.one (.ptr nb 1 0 0)] H nx K:=by
 obtain ⟨a,ha⟩:=a
 obtain ⟨b,hb2⟩:=b
 refine fni_ok [0,1,2,5] [(1,[0,1,3,7,0,31,63,127,0,256,768,1792,0,7936,16128,32512,65535,131071],(.seg 0 (.seg 1 (.seg 2 (.seg 3 (.seg 4 (.seg 5 (.seg 6 (.seg 7 (.seg 8 (.seg 9 (.seg 10 (.seg 11 (.seg 12 (.seg 13 (.seg 14 (.seg 15 (.eff 16 [] (.seg 17 .last)))))))))))))))))))] Tryz.func107 rfl (by kernel_rfl) rfl rfl rfl rfl (by kernel_rfl) ?_
 simp [encE,hb,ha,hb2]
 refine compare_ok _ _ ?_
 simp
 exact ⟨hS,h H nx (Nat.le_refl _) (fun _ _=>rfl) hS⟩
theorem duesLess_ic (s:GState) {nS nO v l:Nat} [Inhabited (Fin s.ends.length)] (d:Array (Fin s.ends.length)) (hl:d.size=l) (i j:Nat) (hi:i<l) (hj:j<l) {H:Hp} {nx:Nat} (h1:H nS=some ⟨.c 29,8,[(eState s).map .d]⟩) (h2:H nO=some ⟨.c 40,1,[[.own v 1 l]]⟩) (h3:H v=some ⟨.c 3,1,aRows (encE s) d⟩) (hS:HSol H) {K:D->Hp->Nat->Prop}
  (h : ∀ H' nx',nx≤nx'->(∀ i,i<nx->H' i=H i)->HSol H'->K (dB (ltE s (aT d i) (aT d j))) H' nx'):ICall Tryz.prog 60 [dI i,dI j,.one (.ptr nS 8 0 0),.one (.ptr nO 1 0 0)] H nx K:=by
 have g1:=aRows_get (encE s) (d:=d) (i:=i) (by omega)
 have g2:=aRows_get (encE s) (d:=d) (i:=j) (by omega)
 obtain ⟨g3,g4⟩:=List.getElem?_eq_some_iff.1 g1
 obtain ⟨g5,g6⟩:=List.getElem?_eq_some_iff.1 g2
 have l3:=aRows_len (encE s) d
 have hk:=h H nx (Nat.le_refl _) (fun _ _=>rfl) hS
 unfold ltE at hk
 generalize aT d i=a at *
 generalize aT d j=b at *
 obtain ⟨a,ha⟩:=a
 obtain ⟨b,hb2⟩:=b
 simp only [encE] at g1 g2 g4 g6
 refine fni_ok [0,1,2,3,6] [(1,[0,1,0,0,12,28,63,127,255,0,512,0,0,6144,14336,32256,65024,130560,262143,524287],(.seg 0 (.seg 1 (.seg 2 (.seg 3 (.seg 4 (.seg 5 (.seg 6 (.seg 7 (.seg 8 (.seg 9 (.seg 10 (.seg 11 (.seg 12 (.seg 13 (.seg 14 (.seg 15 (.seg 16 (.seg 17 (.seg 18 (.seg 19 .last)))))))))))))))))))))] Tryz.func60 rfl (by kernel_rfl) rfl rfl rfl rfl (by kernel_rfl) ?_
 simp [h1,h2,h3,hi,hj,g1,g2,g4,g6,l3,hl,ha,hb2]
 exact ⟨hS,hk⟩
theorem dueL_len (s:GState):(dueL s).length=(duesF s s.ends.length).length:=by
 unfold dueL
 split
 ·rename_i h
  letI:Inhabited (Fin s.ends.length):=⟨⟨0,h⟩⟩
  rw [List.length_map,Array.length_toList,size_stable]
  simp
 ·rename_i h
  have:=duesF_len s s.ends.length
  simp
  omega
structure DuI (s:GState) (H0:Hp) (nx0:Nat) (x:OfS):Prop where
 k:x.k≤s.ends.length
 n:nx0≤x.n∧x.n<x.nx
 blk:x.H x.n=some ⟨.c 3,1,intRows ((duesF s x.k).map (encE s))⟩
 low : ∀ i,i<nx0->x.H i=H0 i
 sol:HSol x.H
section
variable (s:GState) (he : ∀ e∈s.ends,0≤e.cell∧e.cell<s.cells.length) (hl:s.ends.length≤1000)
include he hl in
theorem endsD_ic {H:Hp} {nx:Nat} (hS:HSol H) {K:D->Hp->Nat->Prop} (h : ∀ H' nx' nO,nx≤nO->nO<nx'->(∀ i,i<nx->H' i=H i)->HSol H'->H' nO=some ⟨.c 3,1,intRows (dueL s)⟩->K (.one (.own nO 1 (dueL s).length)) H' nx'):ICall Tryz.prog 55 [.one (.d (.at_ true (eState s)))] H nx K:=by
 refine fni_ok [0,1,2,3,4,5,9,10,11,12,25] [(5,[0,1,3,7,0,16,63,127,255,511],(.seg 0 (.seg 1 (.seg 2 (.seg 3 (.seg 4 (.seg 5 (.seg 6 (.seg 7 (.seg 8 (.seg 9 .last)))))))))))] Tryz.func55 rfl (by kernel_rfl) rfl rfl rfl rfl (by kernel_rfl) ?_
 simp
 intro _
 generalize hH0:Hp.set _ _ _=H0
 have hB0:H0 nx=some ⟨.c 62,1,[[.d (.at_ true (eState s))]]⟩:=by rw [← hH0,Hp.set_same];rfl
 have hS0:HSol H0:=by rw [← hH0];exact HSol.set hS (by simp)
 have hL0 : ∀ i,i<nx->H0 i=H i:=fun i hi=>by rw [← hH0,Hp.set_ne _ _ (by omega)]
 clear hH0
 refine loopH_ok (ks := [0,1,2,3,4,5,9,10,11,12,25]) (pl := [(5,[0,1,3,7,0,16,63,127,255,511],(.seg 0 (.seg 1 (.seg 2 (.seg 3 (.seg 4 (.seg 5 (.seg 6 (.seg 7 (.seg 8 (.seg 9 .last)))))))))))]) (n0:=35) (α := {x:OfS//DuI s H0 (nx+1) x}) (fun x=>[(3,.one (.own x.1.n 1 (duesF s x.1.k).length)),(11,dI x.1.k)]) (fun _ x=>x.1.H) (fun x=>x.1.nx) (fun x=>s.ends.length-x.1.k)
  ⟨⟨0,H0.set (nx+1) (some ⟨.c 3,1,[]⟩),nx+2,nx+1⟩,⟨Nat.zero_le _,by simp only;omega,by simp [duesF,intRows],fun i hi=>Hp.set_ne _ _ (by omega),HSol.set hS0 (by simp)⟩⟩ rfl (by kernel_rfl) ((Wk.emp (t:=3) 3 1 rfl).trans (Wk.sub (by simp [duesF]))) ?_
 rintro ⟨⟨k,H2,nx2,nL⟩,⟨hk,hn,hL,low2,sol2⟩⟩
 simp only at hk hn hL low2 sol2
 have hb2:H2 nx=some ⟨.c 62,1,[[.d (.at_ true (eState s))]]⟩:=by rw [low2 nx (by omega)];exact hB0
 have hkl:=duesF_len s k
 by_cases c1:k<s.ends.length
 case pos =>
  have hnext:=duesF_next c1
  obtain ⟨y0,y1⟩:=he _ (List.getElem_mem c1)
  obtain ⟨q,hq⟩ : ∃ q:Nat,s.ends[k].cell=q:=⟨s.ends[k].cell.toNat,by omega⟩
  have hql:q<s.cells.length:=by omega
  have hql':(q:Int)<(s.cells.length:Int):=by omega
  have hfe:freeE s ⟨k,c1⟩=decide (s.cells[q].kind=0):=by
   unfold freeE
   rw [show s.ends[(⟨k,c1⟩:Fin s.ends.length)].cell=(q:Int) from hq,cell_nat hql]
  rw [hfe] at hnext
  have f0 : ¬ nx=nx2:=by omega
  have f1 : ¬ nL=nx2:=by omega
  have f2 : ¬ nL=nx2+1:=by omega
  have t1:(intRows ((duesF s k).map (encE s))).take (duesF s k).length=intRows ((duesF s k).map (encE s)):=List.take_of_length_le (by simp [intRows])
  have t2:(intRows ((duesF s k).map (encE s))).length=(duesF s k).length:=by simp [intRows]
  by_cases c2:s.cells[q].kind=0
  case neg =>
   rw [if_neg (by simpa using c2),List.append_nil] at hnext
   simp [c1,hb2,f0,hq,hql,hql',c2]
   refine ⟨⟨k+1,H2.set nx2 (some ⟨.c 88,3,[[.d (eI q),.d (eI s.ends[k].fn.kind),.d (eI s.ends[k].fn.n)]]⟩),nx2+1,nL⟩,by simp only;omega,⟨by simp only;omega,by simp only;omega,by simp only;rw [Hp.set_ne _ _ (by omega),hnext];exact hL,fun i hi=>(Hp.set_ne _ _ (by omega)).trans (low2 i hi),HSol.set sol2 (by simp)⟩,Wk.sub (by simp [hnext,wrap_add (show k<9223372036854775807 by omega)])⟩
  rw [if_pos (by simpa using c2)] at hnext
  simp [c1,hb2,f0,hq,hql,hql',c2,hL,f1,f2,t1,t2]
  have hrow:intRows ((duesF s k).map (encE s))++[[C.d (eI (k:Int))]]=intRows ((duesF s (k+1)).map (encE s)):=by rw [hnext];simp [intRows,encE]
  have hlen:(duesF s (k+1)).length=(duesF s k).length+1:=by rw [hnext];simp
  refine ⟨?_,.inl (by omega),⟨k+1,(((H2.set nx2 (some ⟨.c 88,3,[[.d (eI q),.d (eI s.ends[k].fn.kind),.d (eI s.ends[k].fn.n)]]⟩)).set (nx2+1) (some ⟨.c 3,1,[[.d (eI k)]]⟩)).set nL none).set (nx2+1+1) (some ⟨.c 3,1,intRows ((duesF s k).map (encE s))++[[.d (eI k)]]⟩),nx2+1+1+1,nx2+1+1⟩,by simp only;omega,⟨by simp only;omega,by simp only;omega,?_,fun i hi => ?_,?_⟩,Wk.sub (by simp [hlen,wrap_add (show k<9223372036854775807 by omega)])⟩
  ·rintro m b' rfl
   rw [if_neg f2,if_neg f1,hL]
   intro e
   cases e
   exact ⟨rfl,rfl⟩
  ·simp only
   rw [Hp.set_same,hrow]
  ·dsimp only
   rw [Hp.set_ne _ _ (by omega),Hp.set_ne _ _ (by omega),Hp.set_ne _ _ (by omega),Hp.set_ne _ _ (by omega)]
   exact low2 i hi
  ·dsimp only
   rw [hrow]
   exact HSol.set (HSol.none (HSol.set (HSol.set sol2 (by simp)) (by simp))) (solMap _ _ fun _=>rfl)
 obtain rfl:k=s.ends.length:=by omega
 simp
 have hD:=dueL_len s
 have fin : ∀ H' nx',nx2≤nx'->(∀ i,i<nx2->i≠nL->H' i=H2 i)->HSol H'->H' nL=some ⟨.c 3,1,intRows (dueL s)⟩->HSol H'∧K (.one (.own nL 1 (duesF s s.ends.length).length)) H' nx':=fun H' nx' h1 h2 h3 h4=>by
  refine ⟨h3,?_⟩
  rw [← hD]
  exact h H' nx' nL (by omega) (by omega) (fun i hi=>by rw [h2 i (by omega) (by omega),low2 i (by omega)];exact hL0 i hi) h3 h4
 by_cases h0:0<s.ends.length
 ·letI:Inhabited (Fin s.ends.length):=⟨⟨0,h0⟩⟩
  have hdl:dueL s=(stable (ltE s) (duesF s s.ends.length).toArray).toList.map (encE s):=by unfold dueL;rw [dif_pos h0]
  have hR:RowAt (encE s) H2 nx2 nL (duesF s s.ends.length).toArray H2 nx2:=⟨by rw [aRows_list];exact hL,Nat.le_refl _,fun _ _ _=>rfl,sol2⟩
  refine sortS_ic (ltE s) (enc:=encE s) (H0:=H2) (nx0:=nx2) (v:=nL) (l:=(duesF s s.ends.length).length) 107 [.ptr nx 1 0 0] (by omega) (by omega) (fun _ H3 nx3 n3 low3 sol3 x y K2 hK2 => ?_) (duesF s s.ends.length).toArray (by simp) hR fun H' nx' hR' => ?_
  ·exact endsCmp_ic s x y (by rw [low3 nx (by omega) (by omega)];exact hb2) sol3 fun H4 nx4 q1 q2 q3=>hK2 _ H4 nx4 q1 q2 q3 (by unfold ltE;simp [cmpI_neg])
  ·simp
   refine fin H' nx' hR'.nx hR'.low hR'.sol ?_
   rw [hR'.row,hdl]
   simp [aRows,intRows]
 ·have hd0:duesF s s.ends.length=[]:=by
   have:=duesF_len s s.ends.length
   exact List.eq_nil_of_length_eq_zero (by omega)
  have hdl:dueL s=[]:=by unfold dueL;rw [dif_neg h0]
  rw [hd0] at hL fin ⊢
  have hR:RowAt (fun _:Unit=>(0:Int)) H2 nx2 nL #[] H2 nx2:=⟨hL,Nat.le_refl _,fun _ _ _=>rfl,sol2⟩
  refine sortS_ic (fun _ _=>false) (enc:=fun _:Unit=>(0:Int)) (H0:=H2) (nx0:=nx2) (v:=nL) (l:=0) 107 [.ptr nx 1 0 0] (by omega) (by omega) (fun h=>absurd h (Nat.lt_irrefl 0)) #[] rfl hR fun H' nx' hR' => ?_
  rw [stable_tiny _ (by simp)] at hR'
  simp
  refine fin H' nx' hR'.nx hR'.low hR'.sol ?_
  rw [hR'.row,hdl]
  rfl
end
section
variable (s:GState) (he : ∀ e∈s.ends,0≤e.cell∧e.cell<s.cells.length) (hl:s.ends.length≤1000)
include he hl in
theorem endsL_ic {H:Hp} {nx nS:Nat} (hfr : ∀ i,nx≤i->H i=none) (hsh:Shw H (fun _=>True) (.ptr nS 8 0 0) (.at_ true (eState s))) {K:D->Hp->Nat->Prop}
  (h : ∀ nx' nO,nx≤nO->nO<nx'->K (.one (.own nO 1 (dueL s).length)) (H.set nO (some ⟨.c 3,1,intRows (dueL s)⟩)) nx'):ICall Tryz.prog 55 [.one (.ptr nS 8 0 0)] H nx K:=by
 refine ICall.lend (es := [.one (.d (.at_ true (eState s)))]) ⟨⟨_,rfl,hsh⟩,trivial⟩ (ICall.cut ?_) hfr
 refine endsD_ic s he hl (fun n x hx=>by cases hx) fun H' nx' nO h1 h2 low sol e => ?_
 refine ⟨fun i=>if i=nO then H' nO else none,fun i y hy => ?_,fun i x hx => ?_,rfl,?_⟩
 ·by_cases hi:i=nO
  ·subst hi;simpa using hy
  ·simp [hi] at hy
 ·by_cases hi:i=nO
  ·subst hi
   simp [e] at hx
   subst hx
   refine ⟨h1,fun r hr c hc => ?_⟩
   obtain ⟨q, -, rfl⟩:=List.mem_map.1 hr
   simp at hc
   subst hc;rfl
  ·simp [hi] at hx
 ·have:(fun i=>if i<nx then H i else if i=nO then H' nO else none)=H.set nO (some ⟨.c 3,1,intRows (dueL s)⟩):=by
   funext i
   by_cases hi:i<nx
   ·rw [if_pos hi,Hp.set_ne _ _ (by omega)]
   ·rw [if_neg hi]
    by_cases h3:i=nO
    ·rw [if_pos h3,h3,Hp.set_same,e]
    ·rw [if_neg h3,Hp.set_ne _ _ h3,hfr i (by omega)]
  rw [this]
  exact h nx' nO h1 h2
theorem intRows_shw {H:Hp} {l:List Int} {n:Nat} (h:H n=some ⟨.c 3,1,intRows l⟩):Shw H (fun _=>True) (.own n 1 l.length) (.sl true (l.map eInt)) :=
 Shw.row trivial h rfl (by simp) (by simp [intRows,List.take_of_length_le,eInt]) (by simp [eInt]) (by simp [eInt])
include he hl in
theorem dueEnds_ok {K:D->List Blk->Prop} (h:K (dL true ((dueL s).map eInt)) []):DPure Tryz.prog 22 [aD (eState s)] K:=by
 refine DPure.ofI ?_
 refine fni_ok [0,1,2,3,4,5,7,8,9,10,21] [] Tryz.func22 rfl (by kernel_rfl) rfl rfl rfl rfl (by kernel_rfl) ?_
 simp
 intro _
 generalize hH0:Hp.set _ _ _=H0
 have hB0:H0 0=some ⟨.c 29,8,[(eState s).map .d]⟩:=by rw [← hH0];rfl
 have hO0:H0 1=some ⟨.c 40,1,[[.d .emp]]⟩:=by rw [← hH0];rfl
 have hS0:HSol H0:=by
  rw [← hH0]
  repeat' (first | exact HSol.nil | exact HSol.zero | refine HSol.set ?_ ?_ | (simp;done))
 clear hH0
 refine loopH_ok (ks := [0,1,2,3,4,5,7,8,9,10,21]) (pl := []) (n0:=32) (α := {x:OfS//x.k≤s.ends.length∧2≤x.n∧x.n<x.nx∧x.H x.n=some ⟨.c 3,1,intRows ((duesF s x.k).map (encE s))⟩∧x.H 0=some ⟨.c 29,8,[(eState s).map .d]⟩∧x.H 1=some ⟨.c 40,1,[[.own x.n 1 (duesF s x.k).length]]⟩∧HSol x.H}) (fun x=>[(9,dI x.1.k)]) (fun _ x=>x.1.H) (fun x=>x.1.nx) (fun x=>s.ends.length-x.1.k)
  ⟨⟨0,(H0.set 1 (some ⟨.c 40,1,[[.own 2 1 0]]⟩)).set 2 (some ⟨.c 3,1,[]⟩),3,2⟩,Nat.zero_le _,by simp,by simp,by simp [duesF,intRows],by dsimp only;rw [Hp.set_ne _ _ (by omega),Hp.set_ne _ _ (by omega)];exact hB0,by dsimp only;rw [Hp.set_ne _ _ (by omega),Hp.set_same];simp [duesF],HSol.set (HSol.set hS0 (by simp)) (by simp)⟩ rfl (by kernel_rfl) ((Wk.sub (by simp)).trans (Wk.ownC 3 1 (i:=0) (j:=0) hO0 rfl rfl)) ?_
 rintro ⟨⟨k,H2,nx2,nL⟩,hk,n2,n3,hL,hB,hO,sol2⟩
 simp only at hk n2 n3 hL hB hO sol2
 have hkl:=duesF_len s k
 have f0 : ¬ 0=nx2:=by omega
 have f3 : ¬ 1=nx2:=by omega
 have f1 : ¬ nL=nx2:=by omega
 have f2 : ¬ nL=nx2+1:=by omega
 have f4 : ¬ 1=nx2+1:=by omega
 have f5 : ¬ 1=nx2+1+1:=by omega
 have f6 : ¬ 1=nL:=by omega
 have f7 : ¬ nx2=0:=by omega
 by_cases c1:k<s.ends.length
 case pos =>
  have hnext:=duesF_next c1
  obtain ⟨y0,y1⟩:=he _ (List.getElem_mem c1)
  obtain ⟨q,hq⟩ : ∃ q:Nat,s.ends[k].cell=q:=⟨s.ends[k].cell.toNat,by omega⟩
  have hql:q<s.cells.length:=by omega
  have hql':(q:Int)<(s.cells.length:Int):=by omega
  have hfe:freeE s ⟨k,c1⟩=decide (s.cells[q].kind=0):=by
   unfold freeE
   rw [show s.ends[(⟨k,c1⟩:Fin s.ends.length)].cell=(q:Int) from hq,cell_nat hql]
  rw [hfe] at hnext
  have t1:(intRows ((duesF s k).map (encE s))).take (duesF s k).length=intRows ((duesF s k).map (encE s)):=List.take_of_length_le (by simp [intRows])
  have t2:(intRows ((duesF s k).map (encE s))).length=(duesF s k).length:=by simp [intRows]
  by_cases c2:s.cells[q].kind=0
  case neg =>
   rw [if_neg (by simpa using c2),List.append_nil] at hnext
   simp [c1,hB,f0,hq,hql,hql',c2]
   refine ⟨⟨k+1,H2.set nx2 (some ⟨.c 88,3,[[.d (eI q),.d (eI s.ends[k].fn.kind),.d (eI s.ends[k].fn.n)]]⟩),nx2+1,nL⟩,by simp only;omega,⟨by simp only;omega,n2,by simp only;omega,by simp only;rw [Hp.set_ne _ _ (by omega),hnext];exact hL,by simp only;rw [Hp.set_ne _ _ (by omega)];exact hB,by simp only;rw [Hp.set_ne _ _ (by omega),hnext];exact hO,HSol.set sol2 (by simp)⟩,Wk.sub (by simp [wrap_add (show k<9223372036854775807 by omega)])⟩
  rw [if_pos (by simpa using c2)] at hnext
  have hrow:intRows ((duesF s k).map (encE s))++[[C.d (eI (k:Int))]]=intRows ((duesF s (k+1)).map (encE s)):=by rw [hnext];simp [intRows,encE]
  have hlen:(duesF s (k+1)).length=(duesF s k).length+1:=by rw [hnext];simp
  simp [c1,hB,hO,f0,f3,f4,f5,f6,f7,hq,hql,hql',c2,hL,f1,f2,t1,t2]
  refine ⟨?_,.inl (by omega),⟨k+1,((((H2.set nx2 (some ⟨.c 88,3,[[.d (eI q),.d (eI s.ends[k].fn.kind),.d (eI s.ends[k].fn.n)]]⟩)).set (nx2+1) (some ⟨.c 3,1,[[.d (eI k)]]⟩)).set nL none).set (nx2+1+1) (some ⟨.c 3,1,intRows ((duesF s k).map (encE s))++[[.d (eI k)]]⟩)).set 1 (some ⟨.c 40,1,[[.own (nx2+1+1) 1 ((duesF s k).length+1)]]⟩),nx2+1+1+1,nx2+1+1⟩,by simp only;omega,⟨by simp only;omega,by simp only;omega,by simp only;omega,?_,?_,?_,?_⟩,Wk.sub (by simp [wrap_add (show k<9223372036854775807 by omega)])⟩
  ·rintro m b' rfl
   rw [if_neg f2,if_neg f1,hL]
   intro e
   cases e
   exact ⟨rfl,rfl⟩
  ·dsimp only
   rw [Hp.set_ne _ _ (by omega),Hp.set_same,hrow]
  ·dsimp only
   rw [Hp.set_ne _ _ (by omega),Hp.set_ne _ _ (by omega),Hp.set_ne _ _ (by omega),Hp.set_ne _ _ (by omega),Hp.set_ne _ _ (by omega)]
   exact hB
  ·dsimp only
   rw [Hp.set_same,hlen]
  ·dsimp only
   rw [hrow]
   exact HSol.set (HSol.set (HSol.none (HSol.set (HSol.set sol2 (by simp)) (by simp))) (solMap _ _ fun _=>rfl)) (by simp)
 obtain rfl:k=s.ends.length:=by omega
 simp [hO]
 have hD:=dueL_len s
 have fin : ∀ H' nx',nx2≤nx'->(∀ i,i<nx2->i≠nL->H' i=H2 i)->HSol H'->H' nL=some ⟨.c 3,1,intRows (dueL s)⟩->H' 1=some ⟨.c 40,1,[[.own nL 1 (duesF s s.ends.length).length]]⟩∧HSol H' ∧ ∃ d',DShw H' (fun _=>True) (.one (.own nL 1 (duesF s s.ends.length).length)) d'∧K d' []:=fun H' nx' h1 h2 h3 h4=>by
  refine ⟨(h2 1 (by omega) (by omega)).trans hO,h3,dL true ((dueL s).map eInt),⟨_,rfl,?_⟩,h⟩
  rw [← hD]
  exact intRows_shw h4
 by_cases h0:0<s.ends.length
 ·letI:Inhabited (Fin s.ends.length):=⟨⟨0,h0⟩⟩
  have hdl:dueL s=(stable (ltE s) (duesF s s.ends.length).toArray).toList.map (encE s):=by unfold dueL;rw [dif_pos h0]
  have hR:RowAt (encE s) H2 nx2 nL (duesF s s.ends.length).toArray H2 nx2:=⟨by rw [aRows_list];exact hL,Nat.le_refl _,fun _ _ _=>rfl,sol2⟩
  refine sliceStable_ic (ltE s) (enc:=encE s) (H0:=H2) (nx0:=nx2) (v:=nL) (l:=(duesF s s.ends.length).length) 60 [.ptr 0 8 0 0,.ptr 1 1 0 0] rfl (by omega) (by omega) (fun H3 nx3 d hd hR3 i j hi hj K2 hK2 => ?_) (duesF s s.ends.length).toArray (by simp) hR fun H' nx' hR' => ?_
  ·exact duesLess_ic s d hd i j hi hj (by rw [hR3.low 0 (by omega) (by omega)];exact hB) (by rw [hR3.low 1 (by omega) (by omega)];exact hO) hR3.row hR3.sol hK2
  ·obtain ⟨q1,q2⟩:=fin H' nx' hR'.nx hR'.low hR'.sol (by rw [hR'.row,hdl];simp [aRows,intRows])
   simp [q1]
   exact q2
 ·have hd0:duesF s s.ends.length=[]:=by
   have:=duesF_len s s.ends.length
   exact List.eq_nil_of_length_eq_zero (by omega)
  have hdl:dueL s=[]:=by unfold dueL;rw [dif_neg h0]
  rw [hd0] at hL fin ⊢
  have hR:RowAt (fun _:Unit=>(0:Int)) H2 nx2 nL #[] H2 nx2:=⟨hL,Nat.le_refl _,fun _ _ _=>rfl,sol2⟩
  refine sliceStable_ic (fun _ _=>false) (enc:=fun _:Unit=>(0:Int)) (H0:=H2) (nx0:=nx2) (v:=nL) (l:=0) 60 [.ptr 0 8 0 0,.ptr 1 1 0 0] rfl (by omega) (by omega) (fun H3 nx3 d hd hR3 i j hi hj K2 hK2=>absurd hi (Nat.not_lt_zero _)) #[] rfl hR fun H' nx' hR' => ?_
  rw [stable_tiny _ (by simp)] at hR'
  obtain ⟨q1,q2⟩:=fin H' nx' hR'.nx hR'.low hR'.sol (by rw [hR'.row,hdl];rfl)
  simp [q1]
  simpa using q2
end
end
section
open Go.RowKit Go
theorem seenB_one {s:GState} {b b':List Bool} (h:SeenB s b) (h':SeenB s b'):b=b':=by
 refine List.ext_getElem (by rw [h.len,h'.len]) fun n h1 h2 => ?_
 have e1:=h.iff n
 have e2:=h'.iff n
 rw [List.getD_eq_getElem?_getD,List.getElem?_eq_getElem h1,Option.getD_some] at e1
 rw [List.getD_eq_getElem?_getD,List.getElem?_eq_getElem h2,Option.getD_some] at e2
 rw [Bool.eq_iff_iff,e1,e2]
theorem ends_in {p:GProg} {s:GState} (q1:stateQ wordsT p s=0):(∀ e∈s.ends,0≤e.cell∧e.cell<s.cells.length)∧s.ends.length≤1000:=by
 obtain ⟨h1, -, -, -, -, -, h7⟩:=cellsQ_iff.1 (stateQ_iff.1 q1).2.1
 refine ⟨fun e he => ?_,?_⟩
 ·have:=List.all_eq_true.1 h7 e he
  simp [endB,btw] at this
  omega
 ·simp only [heapLarge,Bool.or_eq_false_iff,decide_eq_false_iff_not] at h1
  omega
theorem due_ok (p:GProg) (hp:okP p) (s:GState) (hs:okSt s) {K:D->List Blk->Prop} (h0:stateQ wordsT p s≠0->K (.tup [.one (.d .emp),dI (stateQ wordsT p s)]) []) (h1:stateQ wordsT p s=0->K (.tup [dL true ((dueL s).map eInt),dI 0]) []):DPure Tryz.prog 18 [aD (eProg p),aD (eState s)] K:=by
 refine DPure.ofI ?_
 refine fni_ok [0,1,2,3,4,5,6,11] [] Tryz.func18 rfl (by kernel_rfl) rfl rfl rfl rfl (by kernel_rfl) ?_
 simp
 refine ⟨_,rfl,Wk.refl _,?_⟩
 simp [vcC0]
 refine stCheck_ok p hp s hs ?_
 by_cases q1:stateQ wordsT p s=0
 case neg =>
  simp [q1]
  refine ⟨?_,.tup [.one (.d .emp),dI (stateQ wordsT p s)],⟨⟨_,rfl,.d rfl⟩,⟨_,rfl,.d rfl⟩,trivial⟩,h0 q1⟩
  repeat' (first | exact HSol.nil | exact HSol.zero | refine HSol.set ?_ ?_ | (simp;done))
 obtain ⟨he,hl⟩:=ends_in q1
 simp [q1]
 refine endsL_ic s he hl (fun i hi=>by rw [Hp.set_ne _ _ (by omega),Hp.set_ne _ _ (by omega)];rfl) (CsS.ptr0 (Hp.set_same _ _ _) trivial (CsS.dat (l:=eState s) (by simp))) fun nx' nO n1 n2 => ?_
 simp
 refine ⟨?_,.tup [dL true ((dueL s).map eInt),dI 0],⟨⟨_,rfl,intRows_shw (Hp.set_same _ _ _)⟩,⟨_,rfl,.d rfl⟩,trivial⟩,h1 q1⟩
 refine HSol.set (HSol.set (HSol.set HSol.zero (by simp)) (by simp)) ?_
 dsimp only
 exact solMap _ _ fun _=>rfl
theorem zero_args : ∀ E w ι vs,RVs E w ι [zSt,zSt] vs->RVs E w ι [aD (eState noS),aD (eState noS)] vs:=fun E w ι vs h=>by
 have hc:CsLe [.d .emp,.d .emp,.d .emp,.d .emp,.d .emp,.d .emp,.d (eI 0),.d (eI 0)] ((eState noS).map .d):=⟨.inr ⟨rfl,rfl⟩,.inr ⟨rfl,rfl⟩,.inr ⟨rfl,rfl⟩,.inr ⟨rfl,rfl⟩,.inr ⟨rfl,rfl⟩,.inr ⟨rfl,rfl⟩,.inl rfl,.inl rfl,trivial⟩
 match vs,h with
 | [v,u],h =>
  simp only [RVs,and_true] at h ⊢
  obtain ⟨h1,h2⟩:=h
  rw [zSt,RV] at h1 h2
  obtain ⟨xs,e1,e2⟩:=h1
  obtain ⟨ys,e3,e4⟩:=h2
  refine ⟨?_,?_⟩
  ·rw [show aD (eState noS)=D.agg ((eState noS).map .d) from rfl,RV];exact ⟨xs,e1,hc.rcs e2⟩
  ·rw [show aD (eState noS)=D.agg ((eState noS).map .d) from rfl,RV];exact ⟨ys,e3,hc.rcs e4⟩
 | [],h=>simp [RVs] at h
 | [_],h=>simp [RVs] at h
 | _::_::_::_,h=>simp [RVs] at h
structure RwI (b:List Bool) (H0:Hp) (x:OfS):Prop where
 k:x.k≤b.length
 n:3≤x.n∧x.n<x.nx
 blk:x.H x.n=some ⟨.c 3,1,intRows (ofK b x.k)⟩
 low : ∀ i,i<3->x.H i=H0 i
 sol:HSol x.H
theorem reachSays_ok (p:GProg) (hp:okP p) (s:GState) (hs:okSt s):DPure Tryz.prog 5 [aD (eProg p),aD (eState s)] fun d _=>d=dB true:=by
 refine DPure.ofI ?_
 refine fni_ok [0,1,2,3,4,5,6,7,8,9,10,11,12,13,14,37,67,68,69,70,74] [(14,[0,0,3,7,15,31,63,127,255,255,767,2047,4095,8191,16383,32767,65535,131071,262143,262143,786431,2097151,4194303,8388607,16777215,33554431,67108863,134217727],(.seg 0 (.seg 1 (.eff 2 [] (.seg 3 (.seg 4 (.seg 5 (.seg 6 (.seg 7 (.seg 8 (.seg 9 (.eff 10 [8] (.eff 11 [] (.seg 12 (.seg 13 (.seg 14 (.seg 15 (.seg 16 (.seg 17 (.seg 18 (.seg 19 (.eff 20 [] (.eff 21 [] (.seg 22 (.seg 23 (.seg 24 (.seg 25 (.seg 26 (.seg 27 .last)))))))))))))))))))))))))))))] Tryz.func5 rfl (by kernel_rfl) rfl rfl rfl rfl (by kernel_rfl) ?_
 simp
 refine ⟨_,rfl,Wk.refl _,?_⟩
 simp [vcC0]
 refine of_ok p hp s hs (fun q1 => ?_) (fun q1 b hb => ?_)
 ·simp
  refine ICall.ofPure (es := [aD (eProg p),aD (eState s)]) (by simp) ?_
  refine collect_ok p hp s hs (fun _ => ?_) (fun e=>absurd e q1)
  simp [zSt]
  refine due_ok p hp s hs (fun _ => ?_) (fun e=>absurd e q1)
  simp
  refine stateFault_ok p hp s hs ?_
  simp [q1]
  refine DPure.args zero_args ?_
  refine sameStates_ok noS noS ?_
  simp
  refine ⟨?_,⟨_,rfl,.d rfl⟩⟩
  repeat' (first | exact HSol.nil | exact HSol.zero | refine HSol.set ?_ ?_ | (simp;done))
 ·simp
  refine ICall.ofPure (es := [aD (eProg p),aD (eState s)]) (by simp) ?_
  refine collect_ok p hp s hs (fun e=>absurd q1 e) (fun _ b2 hb2 => ?_)
  obtain rfl:=seenB_one hb hb2
  simp
  refine due_ok p hp s hs (fun e=>absurd q1 e) (fun _ => ?_)
  simp
  refine stateFault_ok p hp s hs ?_
  simp [q1]
  refine reachedIn_ok s (goodS_of q1) (by have:=(sized_of q1).cells;omega) fun b3 hb3 => ?_
  obtain rfl:=seenB_one hb hb3
  obtain ⟨he,hl⟩:=ends_in q1
  have hbl:b.length≤1000:=by have:=(sized_of q1).cells;rw [hb.len];omega
  simp
  intro _
  generalize hH0:Hp.set _ _ _=H0
  have h0:H0 0=some ⟨.c 39,3,[(eProg p).map .d]⟩:=by rw [← hH0];rfl
  have h1:H0 1=some ⟨.c 29,8,[(eState s).map .d]⟩:=by rw [← hH0];rfl
  have h2:H0 2=some ⟨.c 29,8,[(eState (colS b s)).map .d]⟩:=by rw [← hH0];rfl
  have hS0:HSol H0:=by
   rw [← hH0]
   repeat' (first | exact HSol.nil | exact HSol.zero | refine HSol.set ?_ ?_ | (simp;done))
  clear hH0
  refine loopH_ok (ks := [0,1,2,3,4,5,6,7,8,9,10,11,12,13,14,37,67,68,69,70,74]) (pl := [(14,[0,0,3,7,15,31,63,127,255,255,767,2047,4095,8191,16383,32767,65535,131071,262143,262143,786431,2097151,4194303,8388607,16777215,33554431,67108863,134217727],(.seg 0 (.seg 1 (.eff 2 [] (.seg 3 (.seg 4 (.seg 5 (.seg 6 (.seg 7 (.seg 8 (.seg 9 (.eff 10 [8] (.eff 11 [] (.seg 12 (.seg 13 (.seg 14 (.seg 15 (.seg 16 (.seg 17 (.seg 18 (.seg 19 (.eff 20 [] (.eff 21 [] (.seg 22 (.seg 23 (.seg 24 (.seg 25 (.seg 26 (.seg 27 .last)))))))))))))))))))))))))))))]) (n0:=107) (α := {x:OfS//RwI b H0 x}) (fun x=>[(12,.one (.own x.1.n 1 (ofK b x.1.k).length)),(69,dI x.1.k)]) (fun _ x=>x.1.H) (fun x=>x.1.nx) (fun x=>b.length-x.1.k)
   ⟨⟨0,H0.set 3 (some ⟨.c 3,1,[]⟩),4,3⟩,⟨Nat.zero_le _,by simp,by dsimp only;rw [Hp.set_same];rfl,fun i hi=>Hp.set_ne _ _ (by omega),HSol.set hS0 (by simp)⟩⟩ rfl (by kernel_rfl) ((Wk.emp (t:=12) 3 1 rfl).trans (Wk.sub (by simp [ofK]))) ?_
  rintro ⟨⟨k,H2,nx2,nL⟩,⟨hk,hn,hL,low2,sol2⟩⟩
  simp only at hk hn hL low2 sol2
  have s0:H2 0=some ⟨.c 39,3,[(eProg p).map .d]⟩:=by rw [low2 _ (by omega),h0]
  have s1:H2 1=some ⟨.c 29,8,[(eState s).map .d]⟩:=by rw [low2 _ (by omega),h1]
  have s2:H2 2=some ⟨.c 29,8,[(eState (colS b s)).map .d]⟩:=by rw [low2 _ (by omega),h2]
  have hkl:=ofK_len b k
  by_cases c1:k<b.length
  case neg =>
   obtain rfl:k=b.length:=by omega
   have hL':H2 nL=some ⟨.c 3,1,(ofL b).map fun n=>[C.d (eI n)]⟩:=hL
   have hLl:(ofK b b.length).length=(ofL b).length:=rfl
   simp [s0,s1,s2,hL',hLl]
   have hmap:List.map ((fun e=>List.map C.dt e)∘fun n=>[C.d (eI n)]) (ofL b)=(ofL b).map fun n=>[eI n]:=List.map_congr_left fun _ _=>rfl
   rw [hmap]
   refine equalI_ok true false (ofL b) (ofL b) ?_
   simp [s0,s1,s2]
   refine collectedD_ok s (goodS_of q1) (sized_of q1) (by have:=(sized_of q1).cells;omega) fun b4 hb4 => ?_
   obtain rfl:=seenB_one hb hb4
   simp [s0,s1,s2]
   refine sameStates_ok (colS b s) (colS b s) ?_
   simp [s0,s1,s2]
   refine dueEnds_ok s he hl ?_
   simp
   refine equalI_ok true true (dueL s) (dueL s) ?_
   simp
   exact ⟨sol2,⟨_,rfl,.d rfl⟩⟩
  have hnext:=ofK_next b k
  cases c2:b[k] with
  | false =>
   have g2:b.getD k false=false:=by simp [List.getD_eq_getElem?_getD,c1,c2]
   rw [if_neg (by rw [g2];decide),List.append_nil] at hnext
   simp [c1,c2]
   exact ⟨⟨k+1,H2,nx2,nL⟩,by simp only;omega,⟨by simp only;omega,hn,by simp only;rw [hnext];exact hL,low2,sol2⟩,Wk.sub (by simp [hnext,wrap_add (show k<9223372036854775807 by omega)])⟩
  | true =>
   have g2:b.getD k false=true:=by simp [List.getD_eq_getElem?_getD,c1,c2]
   rw [if_pos g2] at hnext
   have f1 : ¬ nL=nx2:=by omega
   have f2 : ¬ nL=nx2+1:=by omega
   have t1:(intRows (ofK b k)).take (ofK b k).length=intRows (ofK b k):=by simp [intRows]
   have t2:(intRows (ofK b k)).length=(ofK b k).length:=by simp [intRows]
   simp [c1,c2,hL,f1,f2,t1,t2]
   have hLn:intRows (ofK b k)++[[C.d (eI (k:Int))]]=intRows (ofK b (k+1)):=by rw [hnext];simp [intRows]
   have hln:(ofK b (k+1)).length=(ofK b k).length+1:=by rw [hnext];simp
   refine ⟨?_,.inl (by omega),⟨k+1,((H2.set nx2 (some ⟨.c 3,1,[[C.d (eI (k:Int))]]⟩)).set nL none).set (nx2+1) (some ⟨.c 3,1,intRows (ofK b k)++[[C.d (eI (k:Int))]]⟩),nx2+1+1,nx2+1⟩,by simp only;omega,⟨by simp only;omega,by simp only;omega,by simp only;rw [Hp.set_same,hLn],fun i hi => ?_,?_⟩,Wk.sub (by simp [hln,wrap_add (show k<9223372036854775807 by omega)])⟩
   ·rintro m b' rfl
    rw [if_neg f1,hL]
    intro e
    cases e
    exact ⟨rfl,rfl⟩
   ·dsimp only
    rw [Hp.set_ne _ _ (by omega),Hp.set_ne _ _ (by omega),Hp.set_ne _ _ (by omega)]
    exact low2 i hi
   ·dsimp only
    rw [hLn]
    exact HSol.set (HSol.none (HSol.set sol2 (by simp))) (solMap _ _ fun _=>rfl)
end
end Go.Proofs.YtbphdcffpobcbaaGreatDoor
