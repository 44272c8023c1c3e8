/- Several texts in one. -/
import Derived.Test.YtbphdcffpobcbaaGreatDoorMe
import Derived.Test.YtbphdcffpobcbaaGreatDoorMg
import Derived.Test.YtbphdcffpobcbaaGreatDoorMo
import Derived.Test.YtbphdcffpobcbaaGreatDoorMs
import Derived.Test.YtbphdcffpobcbaaGreatDoorMrb
set_option linter.unusedSimpArgs false
set_option linter.unusedVariables false
set_option maxRecDepth 100000
set_option maxHeartbeats 16000000
namespace Go.Proofs.YtbphdcffpobcbaaGreatDoor
open Go.RowKit Go
def colK (b:List Bool) (s:GState) (k:Nat):GState:=⟨s.cells.mapIdx fun n c=>if n<k then colC b n c else c,s.shapes,s.texts,s.threads,s.ends,s.said,s.asked,s.steps⟩
section
variable {s:GState} {b:List Bool} {k:Nat}
theorem colK_zero:colK b s 0=s:=by
 have:(s.cells.mapIdx fun n c=>if n<0 then colC b n c else c)=s.cells:=List.ext_getElem (by simp) fun n h1 h2=>by simp
 unfold colK
 rw [this]
theorem colK_all:colK b s s.cells.length=colS b s:=by
 have:(s.cells.mapIdx fun n c=>if n<s.cells.length then colC b n c else c)=s.cells.mapIdx (colC b):=List.ext_getElem (by simp) fun n h1 h2=>by
  simp at h2
  simp [h2]
 unfold colK colS
 rw [this]
theorem colK_len:(colK b s k).cells.length=s.cells.length:=by simp [colK]
theorem colK_at (hk:k<s.cells.length):(colK b s k).cells[k]'(by rw [colK_len];exact hk)=s.cells[k]:=by simp [colK]
theorem colK_next (hk:k<s.cells.length):colK b s (k+1)=(colK b s k).setC k (colC b k s.cells[k]):=by
 have:(s.cells.mapIdx fun n c=>if n<k+1 then colC b n c else c)=(s.cells.mapIdx fun n c=>if n<k then colC b n c else c).set k (colC b k s.cells[k]):=List.ext_getElem (by simp) fun n h1 h2=>by
  rw [List.getElem_set]
  by_cases e:k=n
  ·subst e;simp
  ·rw [if_neg e]
   simp only [List.getElem_mapIdx]
   have:n<k+1↔n<k:=by omega
   simp only [this]
 unfold colK GState.setC
 rw [this]
theorem colK_same (hk:k<s.cells.length) (h:colC b k s.cells[k]=s.cells[k]):colK b s (k+1)=colK b s k:=by
 rw [colK_next hk,h]
 have:(s.cells.mapIdx fun n c=>if n<k then colC b n c else c).set k s.cells[k]=s.cells.mapIdx fun n c=>if n<k then colC b n c else c:=List.ext_getElem (by simp) fun n h1 h2=>by
  rw [List.getElem_set]
  by_cases e:k=n
  ·subst e;simp
  ·rw [if_neg e]
 unfold colK GState.setC
 rw [this]
end
theorem CsS.ptr0 {H:Hp} {N:Nat->Prop} {n k:Nat} {t:BT} {cs:List C} {ds:List Dt} (hx:H n=some ⟨t,k,[cs]⟩) (hn:N n) (h:CsS H N cs ds):Shw H N (.ptr n k 0 0) (.at_ true ds):=by
 refine .ptr (fun j=>(cs[j]?).getD .any) hn hx rfl (fun j d hd => ?_) (fun j d hd => ?_)
 ·have:=h.get.1
  have hj:j<cs.length:=by have:=(List.getElem?_eq_some_iff.1 hd).1;omega
  simp [nth2,hj]
 ·obtain ⟨c,g1,g2⟩:=h.get.2 j d hd
  rw [g1];exact g2
theorem seenL_ic (s:GState) (hg:GoodS s) (hs:s.cells.length≤1000) {H:Hp} {nx nS:Nat} (hfr : ∀ i,nx≤i->H i=none) (hsh:Shw H (fun _=>True) (.ptr nS 8 0 0) (.at_ true (eState s))) {K:D->Hp->Nat->Prop}
  (h : ∀ nx' b,SeenB s b->nx<nx'->K (.one (.own nx 1 b.length)) (H.set nx (some ⟨.c 4,1,boolRows b⟩)) nx') :
  ICall Tryz.prog 53 [.one (.ptr nS 8 0 0)] H nx K:=by
 refine ICall.lend (es := [.one (.d (.at_ true (eState s)))]) ⟨⟨_,rfl,hsh⟩,trivial⟩ (ICall.cut ?_) hfr
 refine seen_ic s hg hs (fun n x hx=>by cases hx) fun H' nx' b hb hn sol low e => ?_
 refine ⟨fun i=>if i=nx then H' nx else none,fun i y hy => ?_,fun i x hx => ?_,rfl,?_⟩
 ·by_cases hi:i=nx
  ·subst hi;simpa using hy
  ·simp [hi] at hy
 ·by_cases hi:i=nx
  ·subst hi
   simp [e] at hx
   subst hx
   refine ⟨Nat.le_refl _,fun r hr c hc => ?_⟩
   obtain ⟨q, -, rfl⟩:=List.mem_map.1 hr
   simp at hc
   subst hc;rfl
  ·simp [hi] at hx
 ·have:(fun i=>if i<nx then H i else if i=nx then H' nx else none)=H.set nx (some ⟨.c 4,1,boolRows b⟩):=by
   funext i
   rcases Nat.lt_trichotomy i nx with hi | hi | hi
   ·rw [if_pos hi,Hp.set_ne _ _ (by omega)]
   ·rw [if_neg (by omega),if_pos hi,hi,Hp.set_same,e]
   ·rw [if_neg (by omega),if_neg (by omega),Hp.set_ne _ _ (by omega),hfr i (by omega)]
  rw [this]
  exact h nx' b hb hn
theorem withC_lt {s:GState} {A:Ad->Nat} {i v f:Nat} {r t:Nat->Nat} {c':GCell} (hi:i<s.cells.length) {P:Nat->Prop} (h1 : ∀ y,Live s y->P (A y)) (hv:P v) (hf:P f) (hr : ∀ j,j<c'.frames.length->P (r j)∧P (t j)) : ∀ y,Live (s.setC i c') y->P (withC A i v f r t y):=fun y hy=>by
 have hc:(s.setC i c').cells[i]? = some c':=by simp only [GState.setC];exact List.getElem?_set_self hi
 by_cases h:ofC i y
 ·cases y <;> simp only [ofC] at h <;> subst h
  ·simpa [withC] using hv
  ·simpa [withC] using hf
  ·obtain ⟨c,g1,g2⟩:=hy
   rw [hc,Option.some.injEq] at g1
   subst g1
   simpa [withC] using (hr _ g2).1
  ·obtain ⟨c,g1,g2⟩:=hy
   rw [hc,Option.some.injEq] at g1
   subst g1
   simpa [withC] using (hr _ g2).2
 ·rw [withC_out h]
  exact h1 y ((live_setC h).1 hy)
theorem withC_row {A:Ad->Nat} {i v f:Nat} {r t:Nat->Nat} : oRow (withC A i v f r t)=oRow A:=by
 funext s;simp [oRow,withC]
theorem freeWk {n nx:Nat} {tm:List (Nat×D)} {H:Hp} {m k:Nat} {R:List (List C)} {a b:C} (hm:H m=some ⟨.c 75,4,R⟩) (hk:R[k]? = some [a,b,.d .emp,.d .emp]) (hl:m<nx) (hs:HSol H) :
  ∃ H',Wk ⟨n,tm,H,nx⟩ ⟨n,tm,H',nx+1+1⟩∧HSol H'∧H' m=some ⟨.c 75,4,R.set k [a,b,.own nx 2 0,.own (nx+1) 8 0]⟩∧H' nx=some (valBlk [])∧H' (nx+1)=some ⟨.c 100,8,[]⟩ ∧ ∀ i,i≠m->i≠nx->i≠nx+1->H' i=H i:=by
 obtain ⟨hk1,hk2⟩:=List.getElem?_eq_some_iff.1 hk
 have hsol:=hs m _ hm
 have e1 : ∀ r∈R, ∀ c∈r,C.solidC c=true:=fun r hr c hc=>hsol r hr c hc
 have ea:a.solidC=true:=e1 _ (List.getElem_mem hk1) a (by rw [hk2];simp)
 have eb:b.solidC=true:=e1 _ (List.getElem_mem hk1) b (by rw [hk2];simp)
 have w1:=Wk.ownC (n:=n) (nx:=nx) (tm:=tm) 31 2 (j:=2) hm hk rfl
 have w2:=Wk.ownC (n:=n) (nx:=nx+1) (tm:=tm) (H:=(H.set m (some ⟨.c 75,4,R.set k [a,b,.own nx 2 0,.d .emp]⟩)).set nx (some ⟨.c 31,2,[]⟩)) (m:=m) (t := .c 75) (k:=4) (R:=R.set k [a,b,.own nx 2 0,.d .emp]) (row := [a,b,.own nx 2 0,.d .emp]) (i:=k) 100 8 (j:=3) (by rw [Hp.set_ne _ _ (by omega),Hp.set_same]) (List.getElem?_set_self hk1) rfl
 refine ⟨_,w1.trans w2,?_,?_,?_,Hp.set_same _ _ _,fun i h1 h2 h3 => ?_⟩
 ·have hset : ∀ row:List C,(∀ c∈row,C.solidC c=true) -> ∀ R':List (List C),(∀ r∈R', ∀ c∈r,C.solidC c=true) -> ∀ r∈R'.set k row, ∀ c∈r,C.solidC c=true:=fun row hrow R' hR' r hr c hc=>by
   rcases List.mem_or_eq_of_mem_set hr with hr | rfl
   ·exact hR' r hr c hc
   ·exact hrow c hc
  have h1:=hset [a,b,.own nx 2 0,.d .emp] (by simp [ea,eb]) R e1
  have h2:=hset [a,b,.own nx 2 0,.own (nx+1) 8 0] (by simp [ea,eb]) _ h1
  exact HSol.set (HSol.set (HSol.set (HSol.set hs h1) (by simp)) h2) (by simp)
 ·rw [Hp.set_ne _ _ (by omega),Hp.set_same,List.set_set];rfl
 ·rw [Hp.set_ne _ _ (by omega),Hp.set_ne _ _ (by omega),Hp.set_same];rfl
 ·rw [Hp.set_ne _ _ h3,Hp.set_ne _ _ h1,Hp.set_ne _ _ h2,Hp.set_ne _ _ h1]
theorem vrow_at {l ys:List GVal} {i:Nat} (h:i<l.length):((l++ys).map fun v=>(eVal v).map C.d)[i]? = some [.d (eI l[i].kind),.d (eI l[i].n)]:=by
 rw [List.getElem?_map,List.getElem?_append_left h,List.getElem?_eq_getElem h];rfl
def keptL (b:List Bool) (ps:List (GVal×GVal)) (j:Nat):List GVal:=unp ((ps.take j).filter fun q=>b.getD q.1.n.toNat false)
theorem keptL_next {b:List Bool} {ps:List (GVal×GVal)} {j:Nat} (hj:j<ps.length):keptL b ps (j+1)=keptL b ps j++if b.getD ps[j].1.n.toNat false=true then [ps[j].1,ps[j].2] else []:=by
 unfold keptL
 rw [List.take_succ_eq_append_getElem hj,List.filter_append,unp_app,List.filter_cons]
 split <;> simp
theorem keptL_all {b:List Bool} {ps:List (GVal×GVal)} : keptL b ps ps.length=keepP b (unp ps):=by
 rw [keptL,List.take_length,keepP_unp]
theorem keptL_len {b:List Bool} {ps:List (GVal×GVal)} {j:Nat} : (keptL b ps j).length≤2*j:=by
 rw [keptL,unp_len]
 have:=List.length_filter_le (fun q:GVal×GVal=>b.getD q.1.n.toNat false) (ps.take j)
 have:=List.length_take_le j ps
 omega
structure KwS where
 j:Nat
 q:Nat
 H:Hp
 nx:Nat
 n:Nat
structure KwI (b:List Bool) (ps:List (GVal×GVal)) (H:Hp) (nx:Nat) (x:KwS):Prop where
 q:x.q=2*x.j
 j:x.j≤ps.length
 n:nx≤x.n∧x.n<x.nx
 blk:x.H x.n=some (valBlk (keptL b ps x.j))
 low : ∀ i,i<nx->x.H i=H i
 sol:HSol x.H
structure ColS where
 k:Nat
 H:Hp
 nx:Nat
 A:Ad->Nat
structure ColI (s:GState) (b:List Bool) (H:Hp) (nx lo nS:Nat) (A:Ad->Nat) (x:ColS):Prop where
 k:x.k≤s.cells.length
 le:nx<x.nx
 sol:HSol x.H
 low : ∀ i,i<nx->i≠A .c->x.H i=H i
 seen:x.H nx=some ⟨.c 4,1,boolRows b⟩
 own:OwnS x.H lo x.A (colK b s x.k)
 lt : ∀ y,Live (colK b s x.k) y->x.A y<x.nx∧x.A y≠nx∧x.A y≠nS
 top:oRow x.A=oRow A
 tc:x.A .c=A .c
theorem do_ic (s:GState) (hg:GoodS s) (hs:s.cells.length≤1000) {H:Hp} {nx lo nS:Nat} {A:Ad->Nat} (hSol:HSol H) (hO:OwnS H lo A s) (hlo:lo≤nx) (hS:H nS=some ⟨.c 29,8,[oRow A s]⟩) (hn : ∀ y,Live s y->A y≠nS) {K:D->Hp->Nat->Prop}
  (h : ∀ H' nx' A' b,SeenB s b->nx≤nx'->HSol H'->OwnS H' lo A' (colS b s)->(∀ y,Live (colS b s) y->A' y≠nS)->oRow A'=oRow A->(∀ i,i<nx->i≠A .c->H' i=H i)->K (.tup []) H' nx') :
  ICall Tryz.prog 54 [.one (.ptr nS 8 0 0)] H nx K:=by
 refine ICall.fresh (by kernel_rfl) fun hfr => ?_
 have pS:=fresh_lt hfr hS
 have lt0 : ∀ y,Live s y->A y<nx:=fun y hy=>hO.lt hfr hy
 refine fni_ok [0,2,3,4,5,6,13,14,15,27,35,42,55] [(13,[0,0,2,6,14,0,62,126,0,256,768,1792,0,4096,16128,32512,65534,131071,262143],(.seg 0 (.seg 1 (.seg 2 (.seg 3 (.seg 4 (.seg 5 (.seg 6 (.seg 7 (.seg 8 (.seg 9 (.seg 10 (.seg 11 (.seg 12 (.seg 13 (.seg 14 (.seg 15 (.eff 16 [4,7,11,15] (.eff 17 [] (.seg 18 .last))))))))))))))))))))] Tryz.func54 rfl (by kernel_rfl) rfl rfl rfl rfl (by kernel_rfl) ?_
 simp
 refine seenL_ic s hg hs hfr (CsS.ptr0 hS trivial (hO.shw fun _ _=>trivial)) (fun nx1 b hb hn1 => ?_)
 have hSne : ¬ nS=nx:=by omega
 have hc:=hn .c trivial
 rw [oRow] at hS
 simp [hSne,hS]
 intro hlen
 refine loopH_ok (ks := [0,2,3,4,5,6,13,14,15,27,35,42,55]) (pl := [(13,[0,0,2,6,14,0,62,126,0,256,768,1792,0,4096,16128,32512,65534,131071,262143],(.seg 0 (.seg 1 (.seg 2 (.seg 3 (.seg 4 (.seg 5 (.seg 6 (.seg 7 (.seg 8 (.seg 9 (.seg 10 (.seg 11 (.seg 12 (.seg 13 (.seg 14 (.seg 15 (.eff 16 [4,7,11,15] (.eff 17 [] (.seg 18 .last))))))))))))))))))))]) (n0:=79) (α := {x:ColS//ColI s b H nx lo nS A x}) (fun x=>[(14,dI x.1.k)]) (fun _ x=>x.1.H) (fun x=>x.1.nx) (fun x=>s.cells.length-x.1.k)
  ⟨⟨0,H.set nx (some ⟨.c 4,1,boolRows b⟩),nx1,A⟩,⟨Nat.zero_le _,hn1,hSol.set (by dsimp only;exact solMap _ _ fun _=>rfl),fun i hi _=>Hp.set_ne _ _ (by omega),Hp.set_same _ _ _,by rw [colK_zero];exact hO.set_low _ fun x hx=>by have:=lt0 x hx;omega,fun y hy=>by rw [colK_zero] at hy;exact ⟨by have:=lt0 y hy;dsimp only;omega,by have:=lt0 y hy;dsimp only;omega,hn y hy⟩,rfl,rfl⟩⟩ rfl (by kernel_rfl) (Wk.sub (by simp)) ?_
 rintro ⟨⟨k,H2,nx2,A2⟩,⟨hk,le2,sol2,low2,see2,O2,lt2,top2,tc2⟩⟩
 simp only at hk le2 sol2 low2 see2 O2 lt2 top2 tc2
 have hS2:H2 nS=some ⟨.c 29,8,[oRow A s]⟩:=by rw [low2 nS pS (fun e=>hc e.symm)];rw [oRow];exact hS
 by_cases h1:k<s.cells.length
 case neg =>
  obtain rfl:k=s.cells.length:=by omega
  rw [colK_all] at O2 lt2
  simp
  exact ⟨sol2,h H2 nx2 A2 b hb (by omega) sol2 O2 (fun y hy=>(lt2 y hy).2.2) top2 low2⟩
 have hkk:k<(colK b s k).cells.length:=by rw [colK_len];exact h1
 obtain ⟨R,r1,r2,r3⟩:=O2.ce
 obtain ⟨r4,r5⟩:=List.getElem?_eq_some_iff.1 (r3 k hkk)
 rw [colK_at h1,oCe,ceR] at r5
 rw [tc2] at r1
 have hb1:k<b.length:=by rw [hb.len];exact h1
 have g1:(boolRows b)[k]? = some [.d (eB b[k])]:=by rw [boolRows,List.getElem?_map,List.getElem?_eq_getElem hb1];rfl
 obtain ⟨g4,g5⟩:=List.getElem?_eq_some_iff.1 g1
 have g2:b.getD k false=b[k]:=by simp [List.getD_eq_getElem?_getD,hb1]
 have e1 : ¬ A .c=nx:=by have:=lt0 .c trivial;omega
 obtain ⟨c,hce⟩ : ∃ c,c=s.cells[k]:=⟨_,rfl⟩
 simp only [← hce] at r5
 rw [oRow] at hS2
 cases c2:b[k] with
 | false =>
  rw [c2] at g1 g2 g5
  simp [h1,hS2,r1,r4,r5,see2,hb1,g1,g4,g5,e1]
  have hG : ¬ Got s k:=fun e=>by have:=(hb.iff k).2 e;rw [g2] at this;cases this
  have hfree:=hb.free (c:=s.cells[k]) hG
  have ek:=colK_next (b:=b) h1
  rw [hfree] at ek
  have hAc:A .c<nx:=lt0 .c trivial
  have hset:(R.set k [C.d (Dt.lit (Value.int IntKind.i64 0)),C.d (Dt.lit (Value.int IntKind.i64 0)),C.d Dt.emp,C.d Dt.emp])[k]? = some [C.d (eI 0),C.d (eI 0),C.d Dt.emp,C.d Dt.emp]:=List.getElem?_set_self r4
  obtain ⟨H5,w5,sol5,m5,v5,f5,low5⟩:=freeWk (n:=79) (nx:=nx2) (tm := [(0,D.one (C.ptr nS 8 0 0)),(2,D.one (C.own nx 1 b.length)),(3,dI ↑k),(4,D.one (C.ptr (A Ad.c) 4 k 0)),(13,D.one (C.d (Dt.lit (Value.int IntKind.i64 ↑s.cells.length)))),(14,D.one (C.d (Dt.lit (Value.int IntKind.i64 (IntKind.i64.wrap (↑k+1)))))),(15,D.one (C.d (Dt.lit (Value.bool true)))),(27,D.one (C.d (Dt.lit (Value.bool true))))])
   (H:=H2.set (A .c) (some ⟨.c 75,4,R.set k [C.d (Dt.lit (Value.int IntKind.i64 0)),C.d (Dt.lit (Value.int IntKind.i64 0)),C.d Dt.emp,C.d Dt.emp]⟩)) (m:=A .c) (Hp.set_same _ _ _) hset (by omega) (sol2.set (fun r hr c hc=>by
    rcases List.mem_or_eq_of_mem_set hr with hr | rfl
    ·exact sol2 _ _ r1 r hr c hc
    ·simp at hc;rcases hc with rfl | rfl | rfl <;> rfl))
  rw [List.set_set] at m5
  have O5:OwnS H5 lo (withC A2 k nx2 (nx2+1) (fun _=>0) (fun _=>0)) (colK b s (k+1)):=by
   rw [ek]
   refine O2.newC (H':=H5) hkk (c':=⟨0,0,[],[]⟩) nx2 (nx2+1) _ _ (fun y hy h2 h3 => ?_) (by rw [tc2];exact r1) (by rw [tc2,m5];rfl) ⟨[],v5⟩ ⟨⟨[],f5,(fun e he=>by cases he),fun j hj=>by simp at hj⟩,fun j hj=>by simp at hj,fun j hj=>by simp at hj⟩ (by omega) (fun j hj=>by simp at hj) ⟨fun j hj=>by simp at hj,fun j _ hj=>by simp at hj,fun j _ hj=>by simp at hj,fun j _ hj=>by simp at hj⟩ (fun y hy _ => ?_) ⟨by omega,by omega,fun j hj=>by simp at hj⟩
   ·have:=lt2 y hy
    have:=O2.ne hy (y := .c) trivial h3
    rw [tc2] at this
    rw [low5 _ this (by omega) (by omega),Hp.set_ne _ _ this]
   ·have:=lt2 y hy
    exact ⟨by omega,by omega,fun j hj=>by simp at hj⟩
  refine ⟨⟨k+1,H5,nx2+1+1,withC A2 k nx2 (nx2+1) (fun _=>0) (fun _=>0)⟩,by simp only;omega,⟨by dsimp only;omega,by dsimp only;omega,sol5,fun i hi hi2 => ?_,?_,O5,?_,by dsimp only;rw [withC_row];exact top2,by dsimp only;exact tc2⟩,w5.trans (Wk.sub (by simp [wrap_add (show k<9223372036854775807 by omega)]))⟩
  ·dsimp only
   rw [low5 i hi2 (by omega) (by omega),Hp.set_ne _ _ hi2];exact low2 i hi hi2
  ·dsimp only
   rw [low5 nx (by omega) (by omega) (by omega),Hp.set_ne _ _ (by omega)];exact see2
  ·dsimp only
   rw [ek]
   exact withC_lt hkk (P:=fun q=>q<nx2+1+1∧q≠nx∧q≠nS) (fun y hy=>by have:=lt2 y hy;exact ⟨by omega,this.2⟩) ⟨by omega,by omega,by omega⟩ ⟨by omega,by omega,by omega⟩ (fun j hj=>by simp at hj)
 | true =>
  rw [c2] at g1 g2 g5
  have hG:Got s k:=(hb.iff k).1 g2
  by_cases c7:c.kind=7
  case neg =>
   simp [h1,hS2,r1,r4,r5,see2,hb1,g1,g4,g5,e1,c7]
   have ek:=colK_same (b:=b) h1 (hb.same hG (by rw [← hce];exact c7))
   exact ⟨⟨k+1,H2,nx2,A2⟩,by simp only;omega,⟨by dsimp only;omega,le2,sol2,low2,see2,by dsimp only;rw [ek];exact O2,by dsimp only;rw [ek];exact lt2,top2,tc2⟩,Wk.sub (by simp [wrap_add (show k<9223372036854775807 by omega)])⟩
  simp [h1,hS2,r1,r4,r5,see2,hb1,g1,g4,g5,e1,c7]
  have ek:=colK_next (b:=b) h1
  have hck:cellAt s (k:Int)=c:=by rw [at_nat h1,hce]
  rw [hb.weak hG (by rw [← hce];exact c7), ← hce] at ek
  obtain ⟨ps,hps⟩:=good_pairs hg h1 (by rw [hck];exact c7)
  rw [hck] at hps
  obtain ⟨-, hkey⟩:=hg.weak k h1 (by rw [hck];exact c7)
  have hvl:=hg.vl k h1
  rw [hck] at hkey hvl
  have hvlen:c.vals.length=2*ps.length:=by rw [hps,unp_len]
  have hps5 : ∀ j (hj:j<ps.length),ps[j].1.kind=5∧0≤ps[j].1.n∧ps[j].1.n<s.cells.length:=fun j hj=>by
   have h5:=hkey j (by omega)
   rw [hps,(unp_val hj).1] at h5
   have:=hg.kid k h1 ps[j].1 (by rw [hck];exact List.mem_append_left _ (by rw [hps,unp_mem];exact ⟨_,List.getElem_mem hj,.inl rfl⟩)) h5
   exact ⟨h5,this⟩
  have hAc:A .c<nx:=lt0 .c trivial
  obtain ⟨ys,hv2⟩:=O2.cv k hkk
  rw [colK_at h1, ← hce,valBlk] at hv2
  have lcv:=lt2 (.cv k) hkk
  have ncv:A2 (.cv k)≠A .c:=by rw [← tc2];exact O2.ne (y := .c) (show Live (colK b s k) (.cv k) from hkk) trivial (fun e=>by cases e)
  refine loopH_ok (ks := [0,2,3,4,5,6,13,14,15,27,35,42,55]) (pl := [(13,[0,0,2,6,14,0,62,126,0,256,768,1792,0,4096,16128,32512,65534,131071,262143],(.seg 0 (.seg 1 (.seg 2 (.seg 3 (.seg 4 (.seg 5 (.seg 6 (.seg 7 (.seg 8 (.seg 9 (.seg 10 (.seg 11 (.seg 12 (.seg 13 (.seg 14 (.seg 15 (.eff 16 [4,7,11,15] (.eff 17 [] (.seg 18 .last))))))))))))))))))))]) (n0:=79) (α := {x:KwS//KwI b ps H2 nx2 x}) (fun x=>[(5,.one (.own x.1.n 2 (keptL b ps x.1.j).length)),(6,dI x.1.q)]) (fun _ x=>x.1.H) (fun x=>x.1.nx) (fun x=>ps.length-x.1.j)
   ⟨⟨0,0,H2.set nx2 (some ⟨.c 31,2,[]⟩),nx2+1,nx2⟩,⟨rfl,Nat.zero_le _,by simp only;omega,Hp.set_same _ _ _,fun i hi=>Hp.set_ne _ _ (by omega),sol2.set (by simp)⟩⟩ rfl (by kernel_rfl) ((Wk.emp (t:=5) 31 2 rfl).trans (Wk.sub (by simp [keptL]))) ?_
  rintro ⟨⟨j,q,H3,nx3,nL⟩,⟨hq,hj,hn3,hL,low3,sol3⟩⟩
  simp only at hq hj hn3 hL low3 sol3
  have r3c:H3 (A .c)=some ⟨.c 75,4,R⟩:=by rw [low3 _ (by omega)];exact r1
  have v3:H3 (A2 (.cv k))=some ⟨.c 31,2,(c.vals++ys).map fun v=>(eVal v).map C.d⟩:=by rw [low3 _ (by omega)];exact hv2
  have s3:H3 nx=some ⟨.c 4,1,boolRows b⟩:=by rw [low3 _ (by omega)];exact see2
  have hklen:=keptL_len (b:=b) (ps:=ps) (j:=j)
  by_cases h2:j<ps.length
  case neg =>
   obtain rfl:j=ps.length:=by omega
   simp [r3c,r4,r5,hq,hvlen]
   intro _
   rw [keptL_all, ← hps] at hL
   rw [keptL_all, ← hps]
   have O5:OwnS (H3.set (A .c) (some ⟨.c 75,4,R.set k [C.d (eI c.kind),C.d (eI c.num),C.own nL 2 (keepP b c.vals).length,C.own (A2 (Ad.cf k)) 8 c.frames.length]⟩)) lo (withC A2 k nL (A2 (.cf k)) (fun j=>A2 (.cr k j)) (fun j=>A2 (.ct k j))) (colK b s (k+1)):=by
    rw [ek]
    have hk':(colK b s k).cells[k]'hkk=c:=(colK_at h1).trans hce.symm
    have hcf:=O2.cf k hkk
    rw [hk'] at hcf
    have llow : ∀ y,Live (colK b s k) y->y ≠ .c->(H3.set (A .c) (some ⟨.c 75,4,R.set k [C.d (eI c.kind),C.d (eI c.num),C.own nL 2 (keepP b c.vals).length,C.own (A2 (Ad.cf k)) 8 c.frames.length]⟩)) (A2 y)=H2 (A2 y):=fun y hy hne=>by
     have q1:=O2.ne hy (y := .c) trivial hne
     rw [tc2] at q1
     rw [Hp.set_ne _ _ q1]
     exact low3 _ (lt2 y hy).1
    have lcr : ∀ j,j<c.frames.length->Live (colK b s k) (.cr k j):=fun j hj=>live_cr hkk (by rw [hk'];exact hj)
    have lct : ∀ j,j<c.frames.length->Live (colK b s k) (.ct k j):=fun j hj=>live_ct hkk (by rw [hk'];exact hj)
    have lcf:Live (colK b s k) (.cf k):=hkk
    refine O2.newC hkk (c':=⟨c.kind,c.num,keepP b c.vals,c.frames⟩) nL (A2 (.cf k)) _ _ (fun y hy _ h3=>llow y hy h3) (by rw [tc2];exact r1) (by rw [tc2,Hp.set_same];rfl) ⟨[],by rw [Hp.set_ne _ _ (by omega),List.append_nil];exact hL⟩ (hcf.low (llow _ lcf (fun e=>by cases e)) (fun j hj=>llow _ (lcr j hj) (fun e=>by cases e)) fun j hj=>llow _ (lct j hj) (fun e=>by cases e)) ?_ (fun j hj => ?_) ⟨fun j hj=>⟨O2.ne lcf (lcr j hj) (fun e=>by cases e),O2.ne lcf (lct j hj) (fun e=>by cases e)⟩,fun j i hj hi=>O2.ne (lcr j hj) (lct i hi) (fun e=>by cases e),fun j i hj hi e => ?_,fun j i hj hi e => ?_⟩ (fun y hy hny => ?_) ⟨by omega,O2.lo _ lcf,fun j hj=>⟨O2.lo _ (lcr j hj),O2.lo _ (lct j hj)⟩⟩
    ·have:=lt2 _ lcf;omega
    ·have:=lt2 _ (lcr j hj);have:=lt2 _ (lct j hj);omega
    ·have:=O2.inj _ _ (lcr j hj) (lcr i hi) e;cases this;rfl
    ·have:=O2.inj _ _ (lct j hj) (lct i hi) e;cases this;rfl
    ·refine ⟨by have:=lt2 y hy;omega,O2.ne hy lcf (fun e=>hny (by rw [e];rfl)),fun j hj=>⟨O2.ne hy (lcr j hj) (fun e=>hny (by rw [e];rfl)),O2.ne hy (lct j hj) (fun e=>hny (by rw [e];rfl))⟩⟩
   have lcf:Live (colK b s k) (.cf k):=hkk
   have hk':(colK b s k).cells[k]'hkk=c:=(colK_at h1).trans hce.symm
   refine ⟨⟨k+1,H3.set (A .c) (some ⟨.c 75,4,R.set k [C.d (eI c.kind),C.d (eI c.num),C.own nL 2 (keepP b c.vals).length,C.own (A2 (Ad.cf k)) 8 c.frames.length]⟩),nx3,withC A2 k nL (A2 (.cf k)) (fun j=>A2 (.cr k j)) (fun j=>A2 (.ct k j))⟩,by simp only;omega,⟨by dsimp only;omega,by dsimp only;omega,sol3.set (fun r hr c' hc' => ?_),fun i hi hi2 => ?_,?_,O5,?_,by dsimp only;rw [withC_row];exact top2,by dsimp only;exact tc2⟩,Wk.sub (by simp [wrap_add (show k<9223372036854775807 by omega)])⟩
   ·rcases List.mem_or_eq_of_mem_set hr with hr | rfl
    ·exact sol2 _ _ r1 r hr c' hc'
    ·simp at hc';rcases hc' with rfl | rfl | rfl | rfl <;> rfl
   ·dsimp only
    rw [Hp.set_ne _ _ hi2,low3 i (by omega)];exact low2 i hi hi2
   ·dsimp only
    rw [Hp.set_ne _ _ (by omega)];exact s3
   ·dsimp only
    rw [ek]
    refine withC_lt hkk (P:=fun q=>q<nx3∧q≠nx∧q≠nS) (fun y hy=>by have:=lt2 y hy;exact ⟨by omega,this.2⟩) ⟨by omega,by omega,by omega⟩ (by have:=lt2 _ lcf;exact ⟨by omega,this.2⟩) (fun j hj => ?_)
    have q1:=lt2 _ (live_cr (s:=colK b s k) hkk (j:=j) (by rw [hk'];exact hj))
    have q2:=lt2 _ (live_ct (s:=colK b s k) hkk (j:=j) (by rw [hk'];exact hj))
    exact ⟨⟨by omega,q1.2⟩,by omega,q2.2⟩
  obtain ⟨p5,p0,p1⟩:=hps5 j h2
  have hnextT:b.getD ps[j].1.n.toNat false=true->keptL b ps (j+1)=keptL b ps j++[ps[j].1,ps[j].2]:=fun e=>by rw [keptL_next h2,if_pos e]
  have hnextF:b.getD ps[j].1.n.toNat false=false->keptL b ps (j+1)=keptL b ps j:=fun e=>by rw [keptL_next h2,if_neg (by rw [e];decide),List.append_nil]
  have a1:q<c.vals.length:=by omega
  have a2:q+1<c.vals.length:=by omega
  have x1:=vrow_at (ys:=ys) a1
  have x2:=vrow_at (ys:=ys) a2
  have y1:c.vals[q]=ps[j].1:=by
   have:=(unp_at ps j).1
   rw [← hps, ← hq,List.getElem?_eq_getElem a1,List.getElem?_eq_getElem h2] at this
   simpa using this
  have y2:c.vals[q+1]=ps[j].2:=by
   have:=(unp_at ps j).2
   rw [← hps, ← hq,List.getElem?_eq_getElem a2,List.getElem?_eq_getElem h2] at this
   simpa using this
  rw [y1] at x1
  rw [y2] at x2
  obtain ⟨key,hkey2⟩ : ∃ key,key=ps[j].1:=⟨_,rfl⟩
  obtain ⟨val,hval2⟩ : ∃ val,val=ps[j].2:=⟨_,rfl⟩
  rw [← hkey2] at x1 p5 p0 p1 hnextT hnextF
  rw [← hval2] at x2 hnextT
  obtain ⟨kk,n⟩:=key
  simp only at x1 p5 p0 p1 hnextT hnextF
  subst p5
  obtain ⟨n,rfl⟩ : ∃ n':Nat,n=n':=⟨n.toNat,by omega⟩
  simp only [Int.toNat_natCast] at hnextT hnextF
  have hnb:n<b.length:=by rw [hb.len];omega
  have z1:(boolRows b)[n]? = some [.d (eB b[n])]:=by rw [boolRows,List.getElem?_map,List.getElem?_eq_getElem hnb];rfl
  have z2:b.getD n false=b[n]:=by simp [List.getD_eq_getElem?_getD,hnb]
  obtain ⟨z3,z4⟩:=List.getElem?_eq_some_iff.1 z1
  rw [z2] at hnextT hnextF
  generalize hV:((c.vals++ys).map fun v=>(eVal v).map C.d)=V at *
  obtain ⟨x3,x4⟩:=List.getElem?_eq_some_iff.1 x1
  obtain ⟨x5,x6⟩:=List.getElem?_eq_some_iff.1 x2
  have hw1:IntKind.i64.wrap ((q:Int)+1)=(q:Int)+1:=wrap_id (by omega) (by omega)
  have hw2:IntKind.i64.wrap ((q:Int)+2)=((q+2:Nat):Int):=by rw [wrap_id (by omega) (by omega)];simp
  rw [valBlk] at hL
  cases z5:b[n] with
  | false =>
   rw [z5] at z1 z4
   simp [r3c,r4,r5,v3,s3,a1,x1,x3,x4,hnb,z1,z3,z4]
   intro _
   exact ⟨⟨j+1,q+2,H3,nx3,nL⟩,by simp only;omega,⟨by simp only;omega,by simp only;omega,hn3,by simp only;rw [hnextF z5];exact hL,low3,sol3⟩,Wk.sub (by simp [hw2,hnextF z5])⟩
  | true =>
   rw [z5] at z1 z2 z4
   have f1 : ¬ nL=nx3:=by omega
   have f2 : ¬ nL=nx3+1:=by omega
   have t1:((keptL b ps j).map fun v=>(eVal v).map C.d).take (keptL b ps j).length=(keptL b ps j).map fun v=>(eVal v).map C.d:=List.take_of_length_le (by simp)
   have t2:((keptL b ps j).map fun v=>(eVal v).map C.d).length=(keptL b ps j).length:=by simp
   have hnt:=hnextT z5
   obtain ⟨LL,hLL⟩ : ∃ LL,LL=(keptL b ps j).map fun v=>(eVal v).map C.d:=⟨_,rfl⟩
   rw [← hLL] at hL t1 t2
   simp [r3c,r4,r5,v3,s3,a1,a2,x1,x2,x3,x4,x5,x6,hnb,z1,z3,z4,hw1,hL,f1,f2,t1,t2]
   have hLn:(LL++[[C.d (eI 5),C.d (eI ↑n)],[C.d (eI val.kind),C.d (eI val.n)]])=(keptL b ps (j+1)).map fun v=>(eVal v).map C.d:=by rw [hnt,List.map_append,hLL];rfl
   have hln:(keptL b ps (j+1)).length=(keptL b ps j).length+2:=by rw [hnt];simp
   intro _
   refine ⟨by omega,?_,.inl (by omega),⟨j+1,q+2,((H3.set nx3 (some ⟨.c 31,2,[[C.d (eI 5),C.d (eI ↑n)],[C.d (eI val.kind),C.d (eI val.n)]]⟩)).set nL none).set (nx3+1) (some ⟨.c 31,2,LL++[[C.d (eI 5),C.d (eI ↑n)],[C.d (eI val.kind),C.d (eI val.n)]]⟩),nx3+1+1,nx3+1⟩,by simp only;omega,⟨by simp only;omega,by simp only;omega,by simp only;omega,by simp only;rw [Hp.set_same,hLn];rfl,fun i hi => ?_,?_⟩,Wk.sub (by simp [hw2,hln])⟩
   ·rintro m b' rfl
    rw [if_neg f1,hL]
    intro e
    cases e
    exact ⟨rfl,rfl⟩
   ·dsimp only
    rw [Hp.set_ne _ _ (by omega),Hp.set_ne _ _ (by omega),Hp.set_ne _ _ (by omega)]
    exact low3 i hi
   ·dsimp only
    rw [hLn]
    exact HSol.set (HSol.none (HSol.set sol3 (by simp))) (valBlk_sol (keptL b ps (j+1)))
def ofK (b:List Bool) (k:Nat):List Int:=((List.range k).filter fun n=>b.getD n false).map fun n:Nat=>(n:Int)
def ofL (b:List Bool):List Int:=ofK b b.length
theorem ofK_next (b:List Bool) (k:Nat):ofK b (k+1)=ofK b k++if b.getD k false=true then [(k:Int)] else []:=by
 unfold ofK
 rw [List.range_succ,List.filter_append,List.map_append]
 by_cases h:b.getD k false=true
 ·rw [if_pos h];simp only [List.filter_cons,List.filter_nil,h,if_true,List.map_cons,List.map_nil]
 ·rw [if_neg h];simp only [List.filter_cons,List.filter_nil,h,List.map_nil];rfl
theorem ofK_len (b:List Bool) (k:Nat):(ofK b k).length≤k:=by
 unfold ofK
 rw [List.length_map]
 have:=List.length_filter_le (fun n=>b.getD n false) (List.range k)
 simpa using this
structure OfS where
 k:Nat
 H:Hp
 nx:Nat
 n:Nat
structure OfI (b:List Bool) (H:Hp) (nx:Nat) (x:OfS):Prop where
 k:x.k≤b.length
 n:nx≤x.n∧x.n<x.nx
 blk:x.H x.n=some ⟨.c 3,1,intRows (ofK b x.k)⟩
 low : ∀ i,i<nx->x.H i=H i
 sol:HSol x.H
theorem of_ok (p:GProg) (hp:okP p) (s:GState) (hs:okSt s) {K:D->List Blk->Prop} (h0:stateQ wordsT p s≠0->K (.tup [.one (.d .emp),dI (stateQ wordsT p s)]) []) (h1:stateQ wordsT p s=0 -> ∀ b,SeenB s b->K (.tup [dL true ((ofL b).map eInt),dI 0]) []):DPure Tryz.prog 16 [aD (eProg p),aD (eState s)] K:=by
 refine DPure.ofI ?_
 refine fni_ok [0,1,2,3,4,5,6,7,8,9,14,16,17,18,19,23] [] Tryz.func16 rfl (by kernel_rfl) rfl rfl rfl rfl (by kernel_rfl) ?_
 simp
 refine ⟨_,rfl,Wk.refl _,?_⟩
 simp [vcC0]
 refine stCheck_ok p hp s hs ?_
 by_cases q1:stateQ wordsT p s=0
 case neg =>
  simp [q1]
  refine ⟨?_,.tup [.one (.d .emp),dI (stateQ wordsT p s)],⟨⟨_,rfl,.d rfl⟩,⟨_,rfl,.d rfl⟩,trivial⟩,h0 q1⟩
  repeat' (first | exact HSol.nil | exact HSol.zero | refine HSol.set ?_ ?_ | (simp;done))
 simp [q1]
 refine seenL_ic s (goodS_of q1) (by have:=(sized_of q1).cells;omega) (fun i hi=>by rw [Hp.set_ne _ _ (by omega),Hp.set_ne _ _ (by omega)];rfl) (CsS.ptr0 (Hp.set_same _ _ _) trivial (CsS.dat (l:=eState s) (by simp))) (fun n1 b hb hn1 => ?_)
 have hbl:b.length≤1000:=by have:=(sized_of q1).cells;rw [hb.len];omega
 simp
 intro _
 refine loopH_ok (ks := [0,1,2,3,4,5,6,7,8,9,14,16,17,18,19,23]) (pl := []) (n0:=30) (α := {x:OfS//OfI b (((Hp.none.set 0 (some ⟨.c 39,3,[(eProg p).map .d]⟩)).set 1 (some ⟨.c 29,8,[(eState s).map .d]⟩)).set 2 (some ⟨.c 4,1,boolRows b⟩)) n1 x}) (fun x=>[(7,.one (.own x.1.n 1 (ofK b x.1.k).length)),(18,dI x.1.k)]) (fun _ x=>x.1.H) (fun x=>x.1.nx) (fun x=>b.length-x.1.k)
  ⟨⟨0,(((Hp.none.set 0 (some ⟨.c 39,3,[(eProg p).map .d]⟩)).set 1 (some ⟨.c 29,8,[(eState s).map .d]⟩)).set 2 (some ⟨.c 4,1,boolRows b⟩)).set n1 (some ⟨.c 3,1,[]⟩),n1+1,n1⟩,⟨Nat.zero_le _,by simp only;omega,Hp.set_same _ _ _,fun i hi=>Hp.set_ne _ _ (by omega),?_⟩⟩ rfl (by kernel_rfl) ((Wk.emp (t:=7) 3 1 rfl).trans (Wk.sub (by simp [ofK]))) ?_
 ·refine HSol.set (HSol.set (HSol.set (HSol.set HSol.zero ?_) ?_) ?_) ?_
  ·simp
  ·simp
  ·exact solMap _ _ fun _=>rfl
  ·simp
 rintro ⟨⟨k,H2,nx2,nL⟩,⟨hk,hn,hL,low2,sol2⟩⟩
 simp only at hk hn hL low2 sol2
 have s2:H2 2=some ⟨.c 4,1,boolRows b⟩:=by rw [low2 _ (by omega),Hp.set_same]
 have hkl:=ofK_len b k
 by_cases c1:k<b.length
 case neg =>
  obtain rfl:k=b.length:=by omega
  simp
  refine ⟨sol2,.tup [dL true ((ofL b).map eInt),dI 0],⟨⟨_,rfl,Shw.row trivial hL rfl (es:=(ofL b).map eInt) (by simp [ofL]) ?_ (by simp [eInt]) (by simp [eInt])⟩,⟨_,rfl,.d rfl⟩,trivial⟩,h1 q1 b hb⟩
  rw [List.take_of_length_le (by simp [intRows])]
  simp [intRows,ofL,eInt]
 have g1:(boolRows b)[k]? = some [.d (eB b[k])]:=by rw [boolRows,List.getElem?_map,List.getElem?_eq_getElem c1];rfl
 obtain ⟨g4,g5⟩:=List.getElem?_eq_some_iff.1 g1
 have g2:b.getD k false=b[k]:=by simp [List.getD_eq_getElem?_getD,c1]
 have hnext:=ofK_next b k
 cases c2:b[k] with
 | false =>
  rw [c2] at g1 g2 g5
  rw [if_neg (by rw [g2];decide),List.append_nil] at hnext
  simp [c1,s2,g1,g4,g5]
  exact ⟨⟨k+1,H2,nx2,nL⟩,by simp only;omega,⟨by simp only;omega,hn,by simp only;rw [hnext];exact hL,low2,sol2⟩,Wk.sub (by simp [hnext,wrap_add (show k<9223372036854775807 by omega)])⟩
 | true =>
  rw [c2] at g1 g2 g5
  rw [if_pos g2] at hnext
  have f1 : ¬ nL=nx2:=by omega
  have f2 : ¬ nL=nx2+1:=by omega
  have t1:(intRows (ofK b k)).take (ofK b k).length=intRows (ofK b k):=by simp [intRows]
  have t2:(intRows (ofK b k)).length=(ofK b k).length:=by simp [intRows]
  simp [c1,s2,g1,g4,g5,hL,f1,f2,t1,t2]
  have hLn:intRows (ofK b k)++[[C.d (eI (k:Int))]]=intRows (ofK b (k+1)):=by rw [hnext];simp [intRows]
  have hln:(ofK b (k+1)).length=(ofK b k).length+1:=by rw [hnext];simp
  refine ⟨?_,.inl (by omega),⟨k+1,((H2.set nx2 (some ⟨.c 3,1,[[C.d (eI (k:Int))]]⟩)).set nL none).set (nx2+1) (some ⟨.c 3,1,intRows (ofK b k)++[[C.d (eI (k:Int))]]⟩),nx2+1+1,nx2+1⟩,by simp only;omega,⟨by simp only;omega,by simp only;omega,by simp only;rw [Hp.set_same,hLn],fun i hi => ?_,?_⟩,Wk.sub (by simp [hln,wrap_add (show k<9223372036854775807 by omega)])⟩
  ·rintro m b' rfl
   rw [if_neg f1,hL]
   intro e
   cases e
   exact ⟨rfl,rfl⟩
  ·dsimp only
   rw [Hp.set_ne _ _ (by omega),Hp.set_ne _ _ (by omega),Hp.set_ne _ _ (by omega)]
   exact low2 i hi
  ·dsimp only
   rw [hLn]
   exact HSol.set (HSol.none (HSol.set sol2 (by simp))) (solMap _ _ fun _=>rfl)
def zSt:D := .agg [.d .emp,.d .emp,.d .emp,.d .emp,.d .emp,.d .emp,.d (eI 0),.d (eI 0)]
theorem collect_ok (p:GProg) (hp:okP p) (s:GState) (hs:okSt s) {K:D->List Blk->Prop} (h0:stateQ wordsT p s≠0->K (.tup [zSt,dI (stateQ wordsT p s)]) []) (h1:stateQ wordsT p s=0 -> ∀ b,SeenB s b->K (.tup [aD (eState (colS b s)),dI 0]) []):DPure Tryz.prog 17 [aD (eProg p),aD (eState s)] K:=by
 refine DPure.ofI ?_
 refine fni_ok [0,1,2,3,4,5,6,11] [] Tryz.func17 rfl (by kernel_rfl) rfl rfl rfl rfl (by kernel_rfl) ?_
 simp
 refine ⟨_,rfl,Wk.refl _,?_⟩
 simp [vcC0]
 refine stCheck_ok p hp s hs ?_
 by_cases q1:stateQ wordsT p s=0
 case neg =>
  simp [q1]
  refine ⟨?_,.tup [zSt,dI (stateQ wordsT p s)],⟨⟨⟨_,rfl,.d rfl⟩,⟨_,rfl,.d rfl⟩,⟨_,rfl,.d rfl⟩,⟨_,rfl,.d rfl⟩,⟨_,rfl,.d rfl⟩,⟨_,rfl,.d rfl⟩,⟨_,rfl,.d rfl⟩,⟨_,rfl,.d rfl⟩,trivial⟩,⟨_,rfl,.d rfl⟩,trivial⟩,h0 q1⟩
  repeat' (first | exact HSol.nil | exact HSol.zero | refine HSol.set ?_ ?_ | (simp;done))
 simp [q1]
 refine copyO_ic s (sized_of q1) ?_ (fun H1 A n1 hn1 low1 high1 sol1 hO => ?_)
 ·repeat' (first | exact HSol.nil | exact HSol.zero | refine HSol.set ?_ ?_ | (simp;done))
 have g0:H1 1=some ⟨.c 29,8,[(eState s).map .d]⟩:=by rw [low1 _ (by omega)];simp [Hp.set]
 have g2:H1 2=some ⟨.c 29,8,[[.d .emp,.d .emp,.d .emp,.d .emp,.d .emp,.d .emp,.d (eI 0),.d (eI 0)]]⟩:=by rw [low1 _ (by omega)];simp [Hp.set]
 have hb1 : ∀ y,Live s y->3≤A y∧A y<n1:=fun y hy=>⟨hO.lo y hy,hO.lt high1 hy⟩
 have hO1:OwnS (H1.set 1 (some ⟨.c 29,8,[oRow A s]⟩)) 3 A s:=hO.set_low _ fun y hy=>by have:=hb1 y hy;omega
 rw [oRow] at hO1 ⊢
 simp [g0,g2]
 refine do_ic s (goodS_of q1) (by have:=(sized_of q1).cells;omega) (HSol.set sol1 (by simp)) hO1 (by omega) (Hp.set_same _ _ _) (fun y hy=>by have:=hb1 y hy;omega) (fun H2 n2 A2 b hb hn2 sol2 hO2 hne2 top2 low2 => ?_)
 have eR:oRow A s=oRow A2 (colS b s):=by rw [top2];simp [oRow,colS]
 have hc:=hb1 .c trivial
 have k1:H2 1=some ⟨.c 29,8,[oRow A s]⟩:=by rw [low2 1 (by omega) (by omega),Hp.set_same];rfl
 have k2:H2 2=some ⟨.c 29,8,[[.d .emp,.d .emp,.d .emp,.d .emp,.d .emp,.d .emp,.d (eI 0),.d (eI 0)]]⟩:=by rw [low2 2 (by omega) (by omega),Hp.set_ne _ _ (by omega)];exact g2
 rw [oRow] at k1
 simp [k1,k2]
 refine ⟨HSol.set sol2 (by simp),.tup [aD (eState (colS b s)),dI 0],⟨CsS.csShw ?_,⟨_,rfl,.d rfl⟩,trivial⟩,h1 q1 b hb⟩
 have:=(hO2.set_low (n:=2) (some ⟨.c 29,8,[oRow A s]⟩) fun y hy=>by have:=hO2.lo y hy;omega).shw (N:=fun _=>True) fun _ _=>trivial
 rw [← eR] at this
 exact this
end Go.Proofs.YtbphdcffpobcbaaGreatDoor
