/- Several texts in one. -/
import Derived.Test.YtbphdcffpobcbaaGreatDoorMs
import Derived.Test.YtbphdcffpobcbaaGreatDoorMw
set_option linter.unusedSimpArgs false
set_option linter.unusedVariables false
set_option maxRecDepth 100000
set_option maxHeartbeats 16000000
namespace Go.Proofs.YtbphdcffpobcbaaGreatDoor
open Go.RowKit Go
structure WN where
 e:Nat
 t:Nat
 k:Nat
def walkRow (xS:Dt) (N:WN) (w:RW):List C := [.d xS,.own N.e 1 w.seen.length,.own N.t 1 w.todo.length,.own N.k 1 w.weak.length]
def boolRows (l:List Bool):List (List C):=l.map fun b=>[.d (eB b)]
def intRows (l:List Int):List (List C):=l.map fun b=>[.d (eI b)]
structure WAt (H:Hp) (nW:Nat) (xS:Dt) (N:WN) (w:RW):Prop where
 blk:H nW=some ⟨.c 172,4,[walkRow xS N w]⟩
 seen:H N.e=some ⟨.c 4,1,boolRows w.seen⟩
 todo : ∃ r,H N.t=some ⟨.c 3,1,intRows (w.todo++r)⟩
 weak:H N.k=some ⟨.c 3,1,intRows w.weak⟩
 sx:xS.solidT=true
 ne1:nW≠N.e
 ne2:nW≠N.t
 ne3:nW≠N.k
 ne4:N.e≠N.t
 ne5:N.e≠N.k
 ne6:N.t≠N.k
theorem WAt.low {H G:Hp} {nW:Nat} {xS:Dt} {N:WN} {w:RW} (h:WAt H nW xS N w) (h1:G nW=H nW) (h2:G N.e=H N.e) (h3:G N.t=H N.t) (h4:G N.k=H N.k):WAt G nW xS N w :=
 ⟨h1.trans h.blk,h2.trans h.seen,h3▸h.todo,h4.trans h.weak,h.sx,h.ne1,h.ne2,h.ne3,h.ne4,h.ne5,h.ne6⟩
theorem WAt.come1 {H HF:Hp} {nW:Nat} {xS:Dt} {N:WN} {w:RW} {q:Nat} (h:WAt H nW xS N w) (hq:q<w.seen.length) (c:w.at_ q=false) {nT:Nat}
  (h1:HF nW=some ⟨.c 172,4,[[.d xS,.own N.e 1 w.seen.length,.own nT 1 (w.todo.length+1),.own N.k 1 w.weak.length]]⟩) (h2:HF N.e=some ⟨.c 4,1,(boolRows w.seen).set q [.d (eB true)]⟩)
  (h3:HF nT=some ⟨.c 3,1,intRows w.todo++[[.d (eI q)]]⟩) (h4:HF N.k=H N.k) (n1:nW≠nT) (n2:N.e≠nT) (n3:nT≠N.k):WAt HF nW xS ⟨N.e,nT,N.k⟩ (comeV w ⟨5,q⟩):=by
 have e:comeV w ⟨5,q⟩=⟨w.seen.set q true,w.todo++[(q:Int)],w.weak⟩:=by rw [comeV,if_pos ⟨rfl,by simpa using c⟩];simp
 rw [e]
 refine ⟨?_,?_,⟨[],?_⟩,h4.trans h.weak,h.sx,h.ne1,n1,h.ne3,n2,h.ne5,n3⟩
 ·rw [h1,walkRow];simp
 ·rw [h2,boolRows,boolRows,List.map_set]
 ·rw [h3];simp [intRows]
structure CmS where
 k:Nat
 H:Hp
 nx:Nat
 N:WN
structure CmI (H:Hp) (nx nW:Nat) (xS:Dt) (N:WN) (w:RW) (l:List GVal) (x:CmS):Prop where
 k:x.k≤l.length
 le:nx≤x.nx
 at_:WAt x.H nW xS x.N (comeL w (l.take x.k))
 low : ∀ i,i<nx->i≠nW->i≠N.e->i≠N.t->x.H i=H i
 sol:HSol x.H
 e:x.N.e=N.e
 kk:x.N.k=N.k
 t:x.N.t=N.t∨nx≤x.N.t
 lt:x.N.t<x.nx
theorem rcCome_ok (l:List GVal) (w:RW) {nW:Nat} {xS:Dt} {N:WN} {H:Hp} {nx:Nat} (hSol:HSol H) (hW:WAt H nW xS N w) (hl : ∀ v∈l,In w.seen.length v) (hb:w.todo.length+w.un≤1000) {K:D->Hp->Nat->Prop}
  (h : ∀ H' nx' N',nx≤nx'->HSol H'->WAt H' nW xS N' (comeL w l)->(∀ i,i<nx->i≠nW->i≠N.e->i≠N.t->H' i=H i)->N'.e=N.e->N'.k=N.k->(N'.t=N.t∨nx≤N'.t)->N'.t<nx'->K (.tup []) H' nx') :
  ICall Tryz.prog 103 [.one (.ptr nW 4 0 0),.one (.d (.sl true (l.map eVal)))] H nx K:=by
 refine ICall.fresh (by kernel_rfl) fun hfr => ?_
 have p1:=fresh_lt hfr hW.blk
 have p2:=fresh_lt hfr hW.seen
 have p3:N.t<nx:=by obtain ⟨r,e⟩:=hW.todo;exact fresh_lt hfr e
 have p4:=fresh_lt hfr hW.weak
 refine fni_ok [0,1,5,6,7,8,9,25] [(3,[0,1,3,7,15,31,63,127,15,271,1023,2047,4095,8191],(.seg 0 (.seg 1 (.seg 2 (.seg 3 (.seg 4 (.seg 5 (.seg 6 (.seg 7 (.seg 8 (.seg 9 (.seg 10 (.seg 11 (.seg 12 (.seg 13 .last))))))))))))))),(4,[0,1,3,7,0,16,63,127],(.seg 0 (.seg 1 (.seg 2 (.seg 3 (.seg 4 (.seg 5 (.seg 6 (.eff 7 [] .last))))))))),(5,[0,0,2,6,14,0,32,96,254,511,1023,2047],(.seg 0 (.seg 1 (.seg 2 (.seg 3 (.seg 4 (.seg 5 (.seg 6 (.eff 7 [2,3,4] (.eff 8 [] (.seg 9 (.seg 10 (.eff 11 [] .last)))))))))))))] Tryz.func103 rfl (by kernel_rfl) rfl rfl rfl rfl (by kernel_rfl) ?_
 simp
 intro hlen
 refine loopH_ok (ks := [0,1,5,6,7,8,9,25]) (pl := [(3,[0,1,3,7,15,31,63,127,15,271,1023,2047,4095,8191],(.seg 0 (.seg 1 (.seg 2 (.seg 3 (.seg 4 (.seg 5 (.seg 6 (.seg 7 (.seg 8 (.seg 9 (.seg 10 (.seg 11 (.seg 12 (.seg 13 .last))))))))))))))),(4,[0,1,3,7,0,16,63,127],(.seg 0 (.seg 1 (.seg 2 (.seg 3 (.seg 4 (.seg 5 (.seg 6 (.eff 7 [] .last))))))))),(5,[0,0,2,6,14,0,32,96,254,511,1023,2047],(.seg 0 (.seg 1 (.seg 2 (.seg 3 (.seg 4 (.seg 5 (.seg 6 (.eff 7 [2,3,4] (.eff 8 [] (.seg 9 (.seg 10 (.eff 11 [] .last)))))))))))))]) (n0:=45) (α := {x:CmS//CmI H nx nW xS N w l x}) (fun x=>[(8,dI x.1.k)]) (fun _ x=>x.1.H) (fun x=>x.1.nx) (fun x=>l.length-x.1.k) ⟨⟨0,H,nx,N⟩,⟨Nat.zero_le _,Nat.le_refl _,by simpa [comeL_nil] using hW,fun _ _ _ _ _=>rfl,hSol,rfl,rfl,.inl rfl,p3⟩⟩ rfl (by kernel_rfl) (Wk.sub (by simp)) ?_
 rintro ⟨⟨k,H2,nx2,N2⟩,hI⟩
 obtain ⟨hk,hn,hA,hlow,hsol,hE,hK,hT,hTl⟩:=hI
 simp only at hk hn hA hlow hsol hE hK hT hTl
 by_cases h1:k<l.length
 case neg =>
  simp [h1]
  obtain rfl:k=l.length:=by omega
  rw [List.take_length] at hA
  exact ⟨hsol,h _ _ _ hn hsol hA hlow hE hK hT hTl⟩
 have hnext:comeL w (l.take (k+1))=comeV (comeL w (l.take k)) l[k]:=by
  rw [List.take_succ_eq_append_getElem h1,comeL_snoc]
 have hv:=hl l[k] (List.getElem_mem h1)
 have hi : ∀ v∈l.take k,In w.seen.length v:=fun v hv=>hl v (List.mem_of_mem_take hv)
 have hlen2:=comeL_len (l.take k) w
 have hsum:=comeL_sum (l.take k) w hi
 obtain ⟨W,hWe⟩ : ∃ W,W=comeL w (l.take k):=⟨_,rfl⟩
 rw [← hWe] at hA hnext hlen2 hsum
 rw [← hlen2] at hv
 simp [h1]
 obtain ⟨v,hve⟩ : ∃ v,v=l[k]:=⟨_,rfl⟩
 simp only [← hve] at hv hnext ⊢
 have bW:=hA.blk
 have bE:=hA.seen
 obtain ⟨r,bT⟩:=hA.todo
 rw [walkRow] at bW
 have e0:=hA.ne1
 have e1:=hA.ne2
 have e2:=hA.ne3
 have e3:=hA.ne4
 have e4:=hA.ne5
 have e5:=hA.ne6
 have f0 : ¬ nW=nx2:=by omega
 have f1 : ¬ N2.e=nx2:=by omega
 have f2 : ¬ N2.t=nx2:=by omega
 have f3 : ¬ N2.k=nx2:=by omega
 have solV:HSol (H2.set nx2 (some ⟨.c 31,2,[[.d (eI v.kind),.d (eI v.n)]]⟩)):=hsol.set (by simp)
 have skip:comeV W v=W->CmI H nx nW xS N w l ⟨k+1,H2.set nx2 (some ⟨.c 31,2,[[.d (eI v.kind),.d (eI v.n)]]⟩),nx2+1,N2⟩:=fun e=>⟨by simp;omega,by simp;omega,by
  rw [hnext,e]
  exact hA.low (Hp.set_ne _ _ f0) (Hp.set_ne _ _ f1) (Hp.set_ne _ _ f2) (Hp.set_ne _ _ f3),fun i i0 i1 i2 i3=>Eq.trans (Hp.set_ne _ _ (by omega)) (hlow i i0 i1 i2 i3),solV,hE,hK,hT,by simp;omega⟩
 by_cases c1:v.kind=5
 case neg =>
  have es:comeV W v=W:=by rw [comeV,if_neg fun e=>c1 e.1]
  simp [c1]
  exact ⟨_,by simp only;omega,skip es,Wk.sub (by simp [wrap_add (show k<9223372036854775807 by omega)])⟩
 obtain ⟨v0,v1⟩:=hv c1
 obtain ⟨vk,q⟩:=v
 obtain ⟨q,rfl⟩ : ∃ q':Nat,q=q':=⟨q.toNat,by simp at v0;omega⟩
 simp only at c1 v0 v1
 subst c1
 have hq:q<W.seen.length:=by omega
 have g1:(boolRows W.seen)[q]? = some [.d (eB W.seen[q])]:=by rw [boolRows,List.getElem?_map,List.getElem?_eq_getElem hq];rfl
 have g2:W.at_ q=W.seen[q]:=by simp [RW.at_,List.getD_eq_getElem?_getD,hq]
 have g3:(boolRows W.seen).set q [.d (eB true)]=boolRows (W.seen.set q true):=by rw [boolRows,boolRows,List.map_set]
 obtain ⟨g4,g5⟩:=List.getElem?_eq_some_iff.1 g1
 cases c2:W.seen[q] with
 | true =>
  have es:comeV W ⟨5,q⟩=W:=by rw [comeV,if_neg fun e=>by have:=e.2;rw [Int.toNat_natCast,g2,c2] at this;cases this]
  rw [c2] at g5 g1
  simp [f0,f1,f2,f3,bW,bE,g1,g4,g5,hq]
  exact ⟨_,by simp only;omega,skip es,Wk.sub (by simp [wrap_add (show k<9223372036854775807 by omega)])⟩
 | false =>
  rw [c2] at g5 g1
  have f4 : ¬ nx2=nW:=by omega
  have f5 : ¬ nx2=N2.e:=by omega
  have f6 : ¬ nx2=N2.t:=by omega
  have f7 : ¬ nW=nx2+1:=by omega
  have f8 : ¬ N2.e=nx2+1:=by omega
  have f9 : ¬ N2.t=nx2+1:=by omega
  have e6 : ¬ N2.t=N2.e:=fun e=>e3 e.symm
  have t1:(intRows (W.todo++r)).take W.todo.length=intRows W.todo:=by simp [intRows]
  have t2:W.todo.length≤(intRows (W.todo++r)).length:=by simp [intRows]
  have t4:(intRows W.todo).length=W.todo.length:=by simp [intRows]
  have f10 : ¬ nW=nx2+1+1:=by omega
  have f11 : ¬ N2.e=nx2+1+1:=by omega
  have f12 : ¬ N2.k=nx2+1+1:=by omega
  simp [f0,f1,f2,f3,f4,f5,f6,f7,f8,f9,e0,e1,e2,e3,e6,bW,bE,bT,g1,g4,g5,hq,t1,t2,t4,f10,f11,f12]
  refine ⟨?_,.inl (by omega),⟨k+1,(((((H2.set nx2 (some ⟨.c 31,2,[[.d (eI 5),.d (eI q)]]⟩)).set N2.e (some ⟨.c 4,1,(boolRows W.seen).set q [.d (eB true)]⟩)).set (nx2+1) (some ⟨.c 3,1,[[.d (eI q)]]⟩)).set N2.t none).set (nx2+1+1) (some ⟨.c 3,1,intRows W.todo++[[.d (eI q)]]⟩)).set nW (some ⟨.c 172,4,[[.d xS,.own N2.e 1 W.seen.length,.own (nx2+1+1) 1 (W.todo.length+1),.own N2.k 1 W.weak.length]]⟩),nx2+1+1+1,⟨N2.e,nx2+1+1,N2.k⟩⟩,by simp only;omega,⟨by simp only;omega,by simp only;omega,?_,fun i i0 i1 i2 i3 => ?_,?_,hE,hK,.inr (by simp only;omega),by simp only;omega⟩,Wk.sub (by simp [wrap_add (show k<9223372036854775807 by omega)])⟩
  ·rintro m b rfl
   rw [if_neg (by omega),if_neg e6,if_neg f2,bT]
   intro e
   cases e
   exact ⟨rfl,rfl⟩
  ·rw [hnext]
   dsimp only
   refine hA.come1 hq (by rw [g2,c2]) (Hp.set_same _ _ _) ?_ ?_ ?_ f10 f11 (fun e=>f12 e.symm)
   ·rw [Hp.set_ne _ _ (fun e=>e0 e.symm),Hp.set_ne _ _ f11,Hp.set_ne _ _ e3,Hp.set_ne _ _ f8,Hp.set_same]
   ·rw [Hp.set_ne _ _ (fun e=>f10 e.symm),Hp.set_same]
   ·rw [Hp.set_ne _ _ (fun e=>e2 e.symm),Hp.set_ne _ _ f12,Hp.set_ne _ _ (fun e=>e5 e.symm),Hp.set_ne _ _ (by omega),Hp.set_ne _ _ (fun e=>e4 e.symm),Hp.set_ne _ _ f3]
  ·dsimp only
   rcases hT with hT | hT
   ·rw [Hp.set_ne _ _ i1,Hp.set_ne _ _ (by omega),Hp.set_ne _ _ (by omega),Hp.set_ne _ _ (by omega),Hp.set_ne _ _ (by omega),Hp.set_ne _ _ (by omega)];exact hlow i i0 i1 i2 i3
   ·rw [Hp.set_ne _ _ i1,Hp.set_ne _ _ (by omega),Hp.set_ne _ _ (by omega),Hp.set_ne _ _ (by omega),Hp.set_ne _ _ (by omega),Hp.set_ne _ _ (by omega)];exact hlow i i0 i1 i2 i3
  ·dsimp only
   repeat' (first | exact hsol | refine HSol.none ?_ | refine HSol.set ?_ ?_)
   ·simp
   ·dsimp only
    rw [g3]
    exact solMap _ _ fun _=>rfl
   ·simp
   ·dsimp only
    rw [show intRows W.todo++[[C.d (eI q)]]=intRows (W.todo++[(q:Int)]) by simp [intRows]]
    exact solMap _ _ fun _=>rfl
   ·simp [hA.sx]
theorem rcCome1_ok (v:GVal) (w:RW) {nW nA:Nat} {xS:Dt} {N:WN} {H:Hp} {nx:Nat} (hSol:HSol H) (hA:H nA=some ⟨.c 31,2,[[.d (eI v.kind),.d (eI v.n)]]⟩) (hW:WAt H nW xS N w) (d1:nW≠nA) (d2:N.e≠nA) (d3:N.t≠nA) (d4:N.k≠nA) (hl:In w.seen.length v) (hb:w.todo.length+w.un≤1000) {K:D->Hp->Nat->Prop}
  (h : ∀ H' nx' N',nx≤nx'->HSol H'->WAt H' nW xS N' (comeV w v)->(∀ i,i<nx->i≠nW->i≠N.e->i≠N.t->i≠nA->H' i=H i)->N'.e=N.e->N'.k=N.k->(N'.t=N.t∨nx≤N'.t)->N'.t<nx'->K (.tup []) H' nx') :
  ICall Tryz.prog 103 [.one (.ptr nW 4 0 0),.one (.own nA 2 1)] H nx K:=by
 refine ICall.frz (ds := [.one (.ptr nW 4 0 0)]) (es := []) hA (by simp [C.isD]) rfl (by simp) ?_
 have e:((([[.d (eI v.kind),.d (eI v.n)]]:List (List C)).take 1).map fun e=>e.map C.dt)=[v].map eVal:=rfl
 rw [e]
 exact rcCome_ok [v] w (HSol.none hSol) (hW.low (Hp.set_ne _ _ d1) (Hp.set_ne _ _ d2) (Hp.set_ne _ _ d3) (Hp.set_ne _ _ d4)) (by simpa using hl) hb fun H' nx' N' h1 h2 h3 h4 h5 h6 h7 h8=>h H' nx' N' h1 h2 h3 (fun i i0 i1 i2 i3 i4=>(h4 i i0 i1 i2 i3).trans (Hp.set_ne _ _ i4)) h5 h6 h7 h8
structure FmI (H:Hp) (nx nW:Nat) (xS:Dt) (N:WN) (w:RW) (l:List GFrame) (x:CmS):Prop where
 k:x.k≤l.length
 le:nx≤x.nx
 at_:WAt x.H nW xS x.N (comeL w ((l.take x.k).flatMap valsF))
 low : ∀ i,i<nx->i≠nW->i≠N.e->i≠N.t->x.H i=H i
 sol:HSol x.H
 e:x.N.e=N.e
 kk:x.N.k=N.k
 t:x.N.t=N.t∨nx≤x.N.t
 lt:x.N.t<x.nx
theorem rcFrames_ok (l:List GFrame) (w:RW) {nW:Nat} {xS:Dt} {N:WN} {H:Hp} {nx:Nat} (hSol:HSol H) (hW:WAt H nW xS N w) (hl : ∀ v∈l.flatMap valsF,In w.seen.length v) (hb:w.todo.length+w.un≤1000) {K:D->Hp->Nat->Prop}
  (h : ∀ H' nx' N',nx≤nx'->HSol H'->WAt H' nW xS N' (comeL w (l.flatMap valsF))->(∀ i,i<nx->i≠nW->i≠N.e->i≠N.t->H' i=H i)->N'.e=N.e->N'.k=N.k->(N'.t=N.t∨nx≤N'.t)->N'.t<nx'->K (.tup []) H' nx') :
  ICall Tryz.prog 102 [.one (.ptr nW 4 0 0),.one (.d (.sl true (l.map eFrame)))] H nx K:=by
 refine ICall.fresh (by kernel_rfl) fun hfr => ?_
 have p1:=fresh_lt hfr hW.blk
 have p2:=fresh_lt hfr hW.seen
 have p3:N.t<nx:=by obtain ⟨r,e⟩:=hW.todo;exact fresh_lt hfr e
 have p4:=fresh_lt hfr hW.weak
 refine fni_ok [0,1,5,6,7,8,9,23] [] Tryz.func102 rfl (by kernel_rfl) rfl rfl rfl rfl (by kernel_rfl) ?_
 simp
 intro hlen
 refine loopH_ok (ks := [0,1,5,6,7,8,9,23]) (pl := []) (n0:=31) (α := {x:CmS//FmI H nx nW xS N w l x}) (fun x=>[(8,dI x.1.k)]) (fun _ x=>x.1.H) (fun x=>x.1.nx) (fun x=>l.length-x.1.k) ⟨⟨0,H,nx,N⟩,⟨Nat.zero_le _,Nat.le_refl _,by simpa [comeL_nil] using hW,fun _ _ _ _ _=>rfl,hSol,rfl,rfl,.inl rfl,p3⟩⟩ rfl (by kernel_rfl) (Wk.sub (by simp)) ?_
 rintro ⟨⟨k,H2,nx2,N2⟩,hI⟩
 obtain ⟨hk,hn,hA,hlow,hsol,hE,hK,hT,hTl⟩:=hI
 simp only at hk hn hA hlow hsol hE hK hT hTl
 by_cases h1:k<l.length
 case neg =>
  simp [h1]
  obtain rfl:k=l.length:=by omega
  rw [List.take_length] at hA
  exact ⟨hsol,h _ _ _ hn hsol hA hlow hE hK hT hTl⟩
 have hi : ∀ v∈(l.take k).flatMap valsF,In w.seen.length v:=fun v hv=>by
  obtain ⟨f,q1,q2⟩:=List.mem_flatMap.1 hv
  exact hl v (List.mem_flatMap.2 ⟨f,List.mem_of_mem_take q1,q2⟩)
 have hlen2:=comeL_len ((l.take k).flatMap valsF) w
 have hsum:=comeL_sum ((l.take k).flatMap valsF) w hi
 have hnext:comeL w ((l.take (k+1)).flatMap valsF)=comeL (comeL w ((l.take k).flatMap valsF)) (valsF l[k]):=by
  rw [List.take_succ_eq_append_getElem h1,List.flatMap_append,comeL_app];simp
 have hv : ∀ v∈valsF l[k],In w.seen.length v:=fun v hv=>hl v (List.mem_flatMap.2 ⟨_,List.getElem_mem h1,hv⟩)
 obtain ⟨W,hWe⟩ : ∃ W,W=comeL w ((l.take k).flatMap valsF):=⟨_,rfl⟩
 rw [← hWe] at hA hnext hlen2 hsum
 rw [← hlen2] at hv
 simp [h1]
 obtain ⟨f,hfe⟩ : ∃ f,f=l[k]:=⟨_,rfl⟩
 simp only [← hfe] at hv hnext ⊢
 have w1:W.todo.length+W.un≤1000:=by omega
 have q1:nW<nx2:=by omega
 have q2:N2.e<nx2:=by omega
 have q4:N2.k<nx2:=by omega
 have sol1:HSol (H2.set nx2 (some ⟨.c 100,8,[(eFrame f).map C.d]⟩)):=hsol.set (by simp)
 refine rcCome1_ok f.self W (xS:=xS) (N:=N2) ?_ ?_ (hA.low ?_ ?_ ?_ ?_) ?_ ?_ ?_ ?_ (hv _ (by simp [valsF])) w1 (fun H3 nx3 N3 n3 sol3 A3 low3 E3 K3 T3 L3 => ?_)
 ·repeat' (first | exact hsol | refine HSol.set ?_ (by simp))
 ·simp
 ·rw [Hp.set_ne _ _ (by omega),Hp.set_ne _ _ (by omega)]
 ·rw [Hp.set_ne _ _ (by omega),Hp.set_ne _ _ (by omega)]
 ·rw [Hp.set_ne _ _ (by omega),Hp.set_ne _ _ (by omega)]
 ·rw [Hp.set_ne _ _ (by omega),Hp.set_ne _ _ (by omega)]
 ·omega
 ·omega
 ·omega
 ·omega
 have b3:=low3 nx2 (by omega) (by omega) (by omega) (by omega) (by omega)
 rw [Hp.set_ne _ _ (by omega),Hp.set_same] at b3
 have w2:=comeV_sum (hv f.self (by simp [valsF]))
 have len3:=comeV_len W f.self
 simp [b3]
 refine rcCome_ok f.regs (comeV W f.self) (xS:=xS) (N:=N3) sol3 A3 (fun v hv2=>by rw [len3];exact hv v (by simp [valsF,hv2])) (by omega) (fun H4 nx4 N4 n4 sol4 A4 low4 E4 K4 T4 L4 => ?_)
 have b4:=low4 nx2 (by omega) (by omega) (by omega) (by omega)
 rw [b3] at b4
 have w3:=comeL_sum f.regs (comeV W f.self) (fun v hv2=>by rw [len3];exact hv v (by simp [valsF,hv2]))
 have len4:=comeL_len f.regs (comeV W f.self)
 have low5 : ∀ i,i<nx->i≠nW->i≠N.e->i≠N.t->H4 i=H i:=fun i i0 i1 i2 i3=>by
  rw [low4 i (by omega) i1 (by omega) (by omega),low3 i (by omega) i1 (by omega) (by omega) (by omega),Hp.set_ne _ _ (by omega),Hp.set_ne _ _ (by omega)]
  exact hlow i i0 i1 i2 i3
 by_cases c1:0≤f.gen
 case neg =>
  have e:comeL W (valsF f)=comeL (comeV W f.self) f.regs:=by rw [valsF,if_neg c1,List.append_nil];rfl
  simp [b4,c1]
  exact ⟨⟨k+1,H4,nx4,N4⟩,by simp only;omega,⟨by simp only;omega,by simp only;omega,by rw [hnext,e];exact A4,low5,sol4,by simp only;omega,by simp only;omega,by simp only;omega,by simp only;omega⟩,Wk.sub (by simp [wrap_add (show k<9223372036854775807 by omega)])⟩
 have e:comeL W (valsF f)=comeV (comeL (comeV W f.self) f.regs) ⟨5,f.gen⟩:=by rw [valsF,if_pos c1,comeL_app];rfl
 simp [b4,c1]
 refine rcCome1_ok ⟨5,f.gen⟩ (comeL (comeV W f.self) f.regs) (xS:=xS) (N:=N4) ?_ ?_ (A4.low ?_ ?_ ?_ ?_) ?_ ?_ ?_ ?_ (by rw [len4,len3];exact hv _ (by simp [valsF,c1])) (by omega) (fun H6 nx6 N6 n6 sol6 A6 low6 E6 K6 T6 L6 => ?_)
 ·exact sol4.set (by simp)
 ·simp
 ·rw [Hp.set_ne _ _ (by omega)]
 ·rw [Hp.set_ne _ _ (by omega)]
 ·rw [Hp.set_ne _ _ (by omega)]
 ·rw [Hp.set_ne _ _ (by omega)]
 ·omega
 ·omega
 ·omega
 ·omega
 simp
 exact ⟨⟨k+1,H6,nx6,N6⟩,by simp only;omega,⟨by simp only;omega,by simp only;omega,by rw [hnext,e];exact A6,fun i i0 i1 i2 i3=>by
  dsimp only
  rw [low6 i (by omega) i1 (by omega) (by omega) (by omega),Hp.set_ne _ _ (by omega)]
  exact low5 i i0 i1 i2 i3,sol6,by simp only;omega,by simp only;omega,by simp only;omega,by simp only;omega⟩,Wk.sub (by simp [wrap_add (show k<9223372036854775807 by omega)])⟩
structure WPo (H:Hp) (nx nW:Nat) (N:WN) (H':Hp) (nx':Nat) (N':WN):Prop where
 le:nx≤nx'
 sol:HSol H'
 low : ∀ i,i<nx->i≠nW->i≠N.e->i≠N.t->i≠N.k->H' i=H i
 e:N'.e=N.e
 t:N'.t=N.t∨nx≤N'.t
 k:N'.k=N.k∨nx≤N'.k
 tl:N'.t<nx'
 kl:N'.k<nx'
theorem comeL_un {l:List GVal} {w:RW} (h : ∀ v∈l,In w.seen.length v):(comeL w l).un≤w.un:=by
 have h1:=comeL_sum l w h
 obtain ⟨a,e,_⟩:=comeL_todo l w
 rw [e,List.length_append] at h1
 omega
theorem comeL_mono {l:List GVal} {w:RW} (h : ∀ v∈l,In w.seen.length v) {n:Nat} (hn:w.at_ n=true):(comeL w l).at_ n=true:=(comeL_at l w h n).2 (.inl hn)
theorem orT {a b c n m:Nat} (h1:b=a∨n≤b) (h2:c=b∨m≤c) (h:n≤m):c=a∨n≤c:=by
 rcases h2 with rfl | h2
 ·exact h1
 ·exact .inr (Nat.le_trans h h2)
theorem orN {a b n i:Nat} (h1:b=a∨n≤b) (h2:i<n) (h:i≠a):i≠b:=by
 rcases h1 with rfl | h1
 ·exact h
 ·omega
structure AlS where
 H:Hp
 nx:Nat
 N:WN
 w:RW
structure AlI (s:GState) (H:Hp) (nx nW:Nat) (xS:Dt) (N:WN) (w:RW) (x:AlS):Prop where
 po:WPo H nx nW N x.H x.nx x.N
 at_:WAt x.H nW xS x.N x.w
 ri:RI s x.w
 mono : ∀ n,w.at_ n=true->x.w.at_ n=true
 un:x.w.un≤w.un
theorem rcAll_ok (s:GState) (hg:GoodS s) (hs:s.cells.length≤1000) (w:RW) (hR:RI s w) {nW:Nat} {N:WN} {H:Hp} {nx:Nat} (hSol:HSol H) (hW:WAt H nW (.at_ true (eState s)) N w) {K:D->Hp->Nat->Prop}
  (h : ∀ H' nx' N' w',WPo H nx nW N H' nx' N'->WAt H' nW (.at_ true (eState s)) N' w'->RI s w'->(∀ n,w.at_ n=true->w'.at_ n=true)->w'.un≤w.un->w'.todo=[]->K (.tup []) H' nx') :
  ICall Tryz.prog 104 [.one (.ptr nW 4 0 0)] H nx K:=by
 refine ICall.fresh (by kernel_rfl) fun hfr => ?_
 have p1:=fresh_lt hfr hW.blk
 have p2:=fresh_lt hfr hW.seen
 have p3:N.t<nx:=by obtain ⟨r,e⟩:=hW.todo;exact fresh_lt hfr e
 have p4:=fresh_lt hfr hW.weak
 refine fni_ok [0,2,3,9,48] [(1,[0,1,3,7,0,16,48,112,240,496,1023,2047,4095],(.seg 0 (.seg 1 (.seg 2 (.seg 3 (.seg 4 (.seg 5 (.seg 6 (.seg 7 (.seg 8 (.seg 9 (.seg 10 (.seg 11 (.seg 12 .last)))))))))))))),(2,[0,0,2,6,14,0,32,96,224,480,992,2046,4095,8191,16383],(.seg 0 (.seg 1 (.seg 2 (.seg 3 (.seg 4 (.seg 5 (.seg 6 (.seg 7 (.seg 8 (.seg 9 (.seg 10 (.seg 11 (.seg 12 (.seg 13 (.eff 14 [] .last))))))))))))))))] Tryz.func104 rfl (by kernel_rfl) rfl rfl rfl rfl (by kernel_rfl) ?_
 simp
 refine loopH_ok (ks := [0,2,3,9,48]) (pl := [(1,[0,1,3,7,0,16,48,112,240,496,1023,2047,4095],(.seg 0 (.seg 1 (.seg 2 (.seg 3 (.seg 4 (.seg 5 (.seg 6 (.seg 7 (.seg 8 (.seg 9 (.seg 10 (.seg 11 (.seg 12 .last)))))))))))))),(2,[0,0,2,6,14,0,32,96,224,480,992,2046,4095,8191,16383],(.seg 0 (.seg 1 (.seg 2 (.seg 3 (.seg 4 (.seg 5 (.seg 6 (.seg 7 (.seg 8 (.seg 9 (.seg 10 (.seg 11 (.seg 12 (.seg 13 (.eff 14 [] .last))))))))))))))))]) (n0:=67) (α := {x:AlS//AlI s H nx nW (.at_ true (eState s)) N w x}) (fun x=>[]) (fun _ x=>x.1.H) (fun x=>x.1.nx) (fun x=>x.1.w.todo.length+x.1.w.un) ⟨⟨H,nx,N,w⟩,⟨⟨Nat.le_refl _,hSol,fun _ _ _ _ _ _=>rfl,rfl,.inl rfl,.inl rfl,p3,p4⟩,hW,hR,fun _ h=>h,Nat.le_refl _⟩⟩ rfl (by kernel_rfl) (Wk.sub (by simp)) ?_
 rintro ⟨⟨H2,nx2,N2,W⟩,hI⟩
 obtain ⟨⟨le2,sol2,low2,E2,T2,K2,tl2,kl2⟩,hA,hRI,hmono,hun⟩:=hI
 simp only at le2 sol2 low2 E2 T2 K2 tl2 kl2 hA hRI hmono hun
 have bW:=hA.blk
 have bE:=hA.seen
 obtain ⟨r,bT⟩:=hA.todo
 have bK:=hA.weak
 rw [walkRow] at bW
 have hsum:=hRI.sum
 by_cases h1:W.todo=[]
 ·simp [bW,h1]
  exact ⟨sol2,h _ _ _ _ ⟨le2,sol2,low2,E2,T2,K2,tl2,kl2⟩ hA hRI hmono hun h1⟩
 obtain ⟨a,n,e⟩ : ∃ a n,W.todo=a++[n]:=⟨_,_,(List.dropLast_concat_getLast h1).symm⟩
 obtain ⟨n0,n1,stepW,stepC⟩:=hRI.step hg e
 obtain ⟨m,rfl⟩ : ∃ m:Nat,n=m:=⟨n.toNat,by omega⟩
 have hm:m<s.cells.length:=by omega
 have hcell:cellAt s m=s.cells[m]:=by simp [cellAt,List.getD_eq_getElem?_getD,hm]
 have hlen:W.todo.length=a.length+1:=by rw [e];simp
 have t1:(intRows (W.todo++r))[a.length]? = some [.d (eI m)]:=by rw [e];simp [intRows]
 obtain ⟨t2,t3⟩:=List.getElem?_eq_some_iff.1 t1
 have hw0:IntKind.i64.wrap ((a.length:Int))=(a.length:Int):=wrap_id (by omega) (by omega)
 have d1 : ¬ nW=nx2:=by omega
 have d3 : ¬ N2.k=nx2:=by omega
 have d4 : ¬ nW=N2.k:=hA.ne3
 have d5 : ¬ N2.k=nW:=fun e=>d4 e.symm
 have d6 : ¬ nW=nx2+1:=by omega
 have d7 : ¬ N2.k=nx2+1:=by omega
 have d8 : ¬ nx2=nW:=by omega
 have d9 : ¬ nW=nx2+1+1:=by omega
 have k1:(intRows W.weak).take W.weak.length=intRows W.weak:=by simp [intRows]
 have k2:(intRows W.weak).length=W.weak.length:=by simp [intRows]
 rw [hcell] at stepW stepC
 simp [bW,bT,hlen,hw0,t1,t2,t3,d1,hm]
 intro hlt
 by_cases c7:s.cells[m].kind=7
 ·simp [c7,bW,bT,bK,hlen,hw0,t1,t2,t3,d1,d3,d4,d5,d6,d7,d8,d9,hm,k1,k2]
  have e1:=hA.ne1
  have e2:=hA.ne2
  have e4:=hA.ne4
  have e5:=hA.ne5
  have e6:=hA.ne6
  have hun2:(RW.mk W.seen a (W.weak++[(m:Int)])).un=W.un:=rfl
  refine ⟨by omega,?_,.inl (by omega),⟨(((((H2.set nW (some ⟨.c 172,4,[[.d (.at_ true (eState s)),.own N2.e 1 W.seen.length,.own N2.t 1 a.length,.own N2.k 1 W.weak.length]]⟩)).set nx2 (some ⟨.c 75,4,[[.d (eI 7),.d (eI s.cells[m].num),.d (.sl true (s.cells[m].vals.map eVal)),.d (.sl true (s.cells[m].frames.map eFrame))]]⟩)).set (nx2+1) (some ⟨.c 3,1,[[.d (eI m)]]⟩)).set N2.k none).set (nx2+1+1) (some ⟨.c 3,1,intRows W.weak++[[.d (eI m)]]⟩)).set nW (some ⟨.c 172,4,[[.d (.at_ true (eState s)),.own N2.e 1 W.seen.length,.own N2.t 1 a.length,.own (nx2+1+1) 1 (W.weak.length+1)]]⟩),nx2+1+1+1,⟨N2.e,N2.t,nx2+1+1⟩,⟨W.seen,a,W.weak++[(m:Int)]⟩⟩,by simp only [hun2];omega,⟨⟨by simp only;omega,?_,fun i i0 i1 i2 i3 i4 => ?_,E2,T2,.inr (by simp only;omega),by simp only;omega,by simp only;omega⟩,⟨?_,?_,⟨(m:Int)::r,?_⟩,?_,hA.sx,e1,e2,by simp only;omega,e4,by simp only;omega,by simp only;omega⟩,stepW c7,hmono,by simp only [hun2];omega⟩,Wk.sub (by simp)⟩
  ·rintro z b rfl
   rw [if_neg d7,if_neg d3,if_neg d5,bK]
   intro e
   cases e
   exact ⟨rfl,rfl⟩
  ·dsimp only
   repeat' (first | exact sol2 | refine HSol.none ?_ | refine HSol.set ?_ ?_)
   ·simp
   ·simp
   ·simp
   ·dsimp only
    rw [show intRows W.weak++[[C.d (eI m)]]=intRows (W.weak++[(m:Int)]) by simp [intRows]]
    exact solMap _ _ fun _=>rfl
   ·simp
  ·dsimp only
   rw [Hp.set_ne _ _ i1,Hp.set_ne _ _ (by omega),Hp.set_ne _ _ (by omega),Hp.set_ne _ _ (by omega),Hp.set_ne _ _ (by omega),Hp.set_ne _ _ i1]
   exact low2 i i0 i1 i2 i3 i4
  ·dsimp only
   rw [Hp.set_same,walkRow]
   simp
  ·dsimp only
   rw [Hp.set_ne _ _ (fun e=>e1 e.symm),Hp.set_ne _ _ (by omega),Hp.set_ne _ _ e5,Hp.set_ne _ _ (by omega),Hp.set_ne _ _ (by omega),Hp.set_ne _ _ (fun e=>e1 e.symm)]
   exact bE
  ·dsimp only
   rw [Hp.set_ne _ _ (fun e=>e2 e.symm),Hp.set_ne _ _ (by omega),Hp.set_ne _ _ e6,Hp.set_ne _ _ (by omega),Hp.set_ne _ _ (by omega),Hp.set_ne _ _ (fun e=>e2 e.symm),bT,e]
   simp [intRows]
  ·dsimp only
   rw [Hp.set_ne _ _ (by omega),Hp.set_same]
   simp [intRows]
 ·simp [c7,bW,bT,bK,hlen,hw0,t1,t2,t3,d1,d3,d4,d5,d6,d7,d8,d9,hm,k1,k2]
  refine ⟨by omega,?_⟩
  have e1:=hA.ne1
  have e2:=hA.ne2
  have hin : ∀ v∈valsC s.cells[m],In W.seen.length v:=by
   have:=hg.kid m hm
   rw [show cellAt s (m:Int)=s.cells[m] from hcell] at this
   rw [hRI.len];exact this
  have hR3:=stepC c7
  have un1:(RW.mk W.seen a W.weak).un=W.un:=rfl
  have A1:WAt ((H2.set nW (some ⟨.c 172,4,[[.d (.at_ true (eState s)),.own N2.e 1 W.seen.length,.own N2.t 1 a.length,.own N2.k 1 W.weak.length]]⟩)).set nx2 (some ⟨.c 75,4,[[.d (eI s.cells[m].kind),.d (eI s.cells[m].num),.d (.sl true (s.cells[m].vals.map eVal)),.d (.sl true (s.cells[m].frames.map eFrame))]]⟩)) nW (.at_ true (eState s)) N2 ⟨W.seen,a,W.weak⟩:=by
   refine ⟨?_,?_,⟨(m:Int)::r,?_⟩,?_,hA.sx,e1,e2,hA.ne3,hA.ne4,hA.ne5,hA.ne6⟩
   ·rw [Hp.set_ne _ _ (by omega),Hp.set_same,walkRow]
   ·rw [Hp.set_ne _ _ (by omega),Hp.set_ne _ _ (fun e=>e1 e.symm)];exact bE
   ·rw [Hp.set_ne _ _ (by omega),Hp.set_ne _ _ (fun e=>e2 e.symm),bT,e];simp [intRows]
   ·rw [Hp.set_ne _ _ (by omega),Hp.set_ne _ _ d5];exact bK
  refine rcCome_ok s.cells[m].vals ⟨W.seen,a,W.weak⟩ (xS := .at_ true (eState s)) (N:=N2) ?_ A1 (fun v hv=>hin v (by simp [valsC,hv])) (by simp only [un1];omega) (fun H3 nx3 N3 n3 sol3 A3 low3 E3 K3 T3 L3 => ?_)
  ·exact (sol2.set (by simp)).set (by simp)
  have b3:=low3 nx2 (by omega) (by omega) (by omega) (by omega)
  rw [Hp.set_same] at b3
  simp [b3]
  have len3:=comeL_len s.cells[m].vals ⟨W.seen,a,W.weak⟩
  have sum3:=comeL_sum s.cells[m].vals ⟨W.seen,a,W.weak⟩ (fun v hv=>hin v (by simp [valsC,hv]))
  have sum4:=comeL_sum (valsC s.cells[m]) ⟨W.seen,a,W.weak⟩ hin
  have un4:=comeL_un (w:=⟨W.seen,a,W.weak⟩) hin
  have mono4 : ∀ n,W.at_ n=true->(comeL ⟨W.seen,a,W.weak⟩ (valsC s.cells[m])).at_ n=true:=fun n hn=>comeL_mono (w:=⟨W.seen,a,W.weak⟩) hin (n:=n) hn
  have ec:comeL ⟨W.seen,a,W.weak⟩ (valsC s.cells[m])=comeL (comeL ⟨W.seen,a,W.weak⟩ s.cells[m].vals) (s.cells[m].frames.flatMap valsF):=by rw [valsC,comeL_app]
  have todo1:(RW.mk W.seen a W.weak).todo.length=a.length:=rfl
  have seen1:(RW.mk W.seen a W.weak).seen.length=W.seen.length:=rfl
  rw [todo1,un1] at sum3 sum4
  rw [un1] at un4
  rw [seen1] at len3
  obtain ⟨X,hX⟩ : ∃ X,X=comeL ⟨W.seen,a,W.weak⟩ s.cells[m].vals:=⟨_,rfl⟩
  obtain ⟨Y,hY⟩ : ∃ Y,Y=comeL ⟨W.seen,a,W.weak⟩ (valsC s.cells[m]):=⟨_,rfl⟩
  rw [← hX] at A3 len3 sum3
  rw [← hX, ← hY] at ec
  rw [← hY] at sum4 un4 mono4 hR3
  clear hX hY
  refine rcFrames_ok s.cells[m].frames X (xS := .at_ true (eState s)) (N:=N3) sol3 A3 (fun v hv=>by rw [len3];exact hin v (by rw [valsC];exact List.mem_append_right _ hv)) (by omega) (fun H4 nx4 N4 n4 sol4 A4 low4 E4 K4 T4 L4 => ?_)
  rw [← ec] at A4
  simp
  have h1:Y.todo.length+Y.un<W.todo.length+W.un:=by rw [sum4,hlen];exact Nat.add_lt_add_right (Nat.lt_succ_self _) _
  have h2:Y.un≤w.un:=Nat.le_trans un4 hun
  have h3a:nx≤nx3:=Nat.le_trans le2 (Nat.le_trans (Nat.le_succ _) n3)
  have h3:nx≤nx4:=Nat.le_trans h3a n4
  have h4:N4.t=N.t∨nx≤N4.t:=orT (orT T2 T3 (Nat.le_trans le2 (Nat.le_succ _))) T4 h3a
  have hk4:N4.k=N2.k:=K4.trans K3
  have h5:N4.k=N.k∨nx≤N4.k:=by rw [hk4];exact K2
  have h6:N4.k<nx4:=by rw [hk4];exact Nat.lt_of_lt_of_le kl2 (Nat.le_trans (Nat.le_succ _) (Nat.le_trans n3 n4))
  have h7:N4.e=N.e:=E4.trans (E3.trans E2)
  have h8 : ∀ i,i<nx->i≠nW->i≠N.e->i≠N.t->i≠N.k->H4 i=H i:=fun i i0 i1 i2 i3 i4=>by
   have j2:i≠N2.e:=by rw [E2];exact i2
   have j3:i≠N2.t:=orN T2 i0 i3
   have j4:i≠N3.e:=by rw [E3];exact j2
   have j5:i≠N3.t:=orN T3 (Nat.lt_of_lt_of_le i0 (Nat.le_trans le2 (Nat.le_succ _))) j3
   have j6:i<nx2:=Nat.lt_of_lt_of_le i0 le2
   rw [low4 i (Nat.lt_of_lt_of_le i0 h3a) i1 j4 j5,low3 i (Nat.lt_succ_of_lt j6) i1 j2 j3,Hp.set_ne _ _ (Nat.ne_of_lt j6),Hp.set_ne _ _ i1]
   exact low2 i i0 i1 i2 i3 i4
  exact ⟨⟨H4,nx4,N4,Y⟩,h1,⟨⟨h3,sol4,h8,h7,h4,h5,L4,h6⟩,A4,hR3,fun n hn=>mono4 n (hmono n hn),h2⟩,Wk.sub (by simp)⟩
structure KsI (s:GState) (H:Hp) (nx nW:Nat) (xS:Dt) (N:WN) (w:RW) (P:Prop) (x:AlS):Prop where
 po:WPo H nx nW N x.H x.nx x.N
 kk:x.N.k=N.k
 at_:WAt x.H nW xS x.N x.w
 ri:RI s x.w
 mono : ∀ n,w.at_ n=true->x.w.at_ n=true
 wk:x.w.weak=w.weak
 sum:x.w.todo.length+x.w.un=w.todo.length+w.un
 shut:x.w.todo=[]->x.w.seen=w.seen∧P
theorem WPo.trans {H H2 H3:Hp} {nx nx2 nx3 nW:Nat} {N N2 N3:WN} (a:WPo H nx nW N H2 nx2 N2) (b:WPo H2 nx2 nW N2 H3 nx3 N3):WPo H nx nW N H3 nx3 N3:=by
 obtain ⟨a1,a2,a3,a4,a5,a6,a7,a8⟩:=a
 obtain ⟨b1,b2,b3,b4,b5,b6,b7,b8⟩:=b
 refine ⟨Nat.le_trans a1 b1,b2,fun i i0 i1 i2 i3 i4 => ?_,b4.trans a4,orT a5 b5 a1,orT a6 b6 a1,b7,b8⟩
 rw [b3 i (Nat.lt_of_lt_of_le i0 a1) i1 (by rw [a4];exact i2) (orN a5 i0 i3) (orN a6 i0 i4)]
 exact a3 i i0 i1 i2 i3 i4
def allShut (s:GState) (w:RW) (i:Nat):Prop := ∀ k,k<i -> ∀ n,w.weak[k]? = some n -> ∀ j,shut s w n j
structure KmS extends AlS where
 k:Nat
structure KyS extends AlS where
 more:Bool
structure KyI (s:GState) (H:Hp) (nx nW:Nat) (xS:Dt) (N:WN) (w:RW) (x:KyS):Prop where
 po:WPo H nx nW N x.H x.nx x.N
 at_:WAt x.H nW xS x.N x.w
 ri:RI s x.w
 mono : ∀ n,w.at_ n=true->x.w.at_ n=true
 todo:x.w.todo=[]
 shut:x.more=false->allShut s x.w x.w.weak.length
theorem rcKeys_ok (s:GState) (hg:GoodS s) (hs:s.cells.length≤1000) (w:RW) (hR:RI s w) (h0:w.todo=[]) {nW:Nat} {N:WN} {H:Hp} {nx:Nat} (hSol:HSol H) (hW:WAt H nW (.at_ true (eState s)) N w) {K:D->Hp->Nat->Prop}
  (h : ∀ H' nx' N' w',WPo H nx nW N H' nx' N'->WAt H' nW (.at_ true (eState s)) N' w'->RI s w'->(∀ n,w.at_ n=true->w'.at_ n=true)->w'.todo=[]->allShut s w' w'.weak.length->K (.tup []) H' nx') :
  ICall Tryz.prog 105 [.one (.ptr nW 4 0 0)] H nx K:=by
 refine ICall.fresh (by kernel_rfl) fun hfr => ?_
 have p1:=fresh_lt hfr hW.blk
 have p2:=fresh_lt hfr hW.seen
 have p3:N.t<nx:=by obtain ⟨r,e⟩:=hW.todo;exact fresh_lt hfr e
 have p4:=fresh_lt hfr hW.weak
 refine fni_ok [0,2,4,5,6,7,11,12,13,14,31,44,59] [(10,[0,1,3,7,0,0,48,112,240,511,1023],(.seg 0 (.seg 1 (.seg 2 (.seg 3 (.seg 4 (.seg 5 (.seg 6 (.seg 7 (.seg 8 (.seg 9 (.seg 10 .last))))))))))))] Tryz.func105 rfl (by kernel_rfl) rfl rfl rfl rfl (by kernel_rfl) ?_
 simp
 refine loopH_ok (ks := [0,2,4,5,6,7,11,12,13,14,31,44,59]) (pl := [(10,[0,1,3,7,0,0,48,112,240,511,1023],(.seg 0 (.seg 1 (.seg 2 (.seg 3 (.seg 4 (.seg 5 (.seg 6 (.seg 7 (.seg 8 (.seg 9 (.seg 10 .last))))))))))))]) (n0:=62) (α := {x:KyS//KyI s H nx nW (.at_ true (eState s)) N w x}) (fun x=>[(2,dB x.1.more)]) (fun _ x=>x.1.H) (fun x=>x.1.nx) (fun x=>if x.1.more then x.1.w.un+1 else 0) ⟨⟨⟨H,nx,N,w⟩,true⟩,⟨⟨Nat.le_refl _,hSol,fun _ _ _ _ _ _=>rfl,rfl,.inl rfl,.inl rfl,p3,p4⟩,hW,hR,fun _ h=>h,h0,fun e=>by cases e⟩⟩ rfl (by kernel_rfl) (Wk.sub (by simp)) ?_
 rintro ⟨⟨⟨H2,nx2,N2,W⟩,more⟩,hI⟩
 obtain ⟨⟨le2,sol2,low2,E2,T2,K2,tl2,kl2⟩,hA,hRI,hmono,htodo,hshut⟩:=hI
 simp only at le2 sol2 low2 E2 T2 K2 tl2 kl2 hA hRI hmono htodo hshut
 have bW:=hA.blk
 have bK:=hA.weak
 rw [walkRow] at bW
 cases more with
 | false =>
  simp
  exact ⟨sol2,h _ _ _ _ ⟨le2,sol2,low2,E2,T2,K2,tl2,kl2⟩ hA hRI hmono htodo (hshut rfl)⟩
 | true =>
 simp [bW]
 intro hlen
 have hwl:W.weak.length≤1000:=by have:=hRI.sum;omega
 have pW:=hA.blk
 refine loopH_ok (ks := [0,2,4,5,6,7,11,12,13,14,31,44,59]) (pl := [(10,[0,1,3,7,0,0,48,112,240,511,1023],(.seg 0 (.seg 1 (.seg 2 (.seg 3 (.seg 4 (.seg 5 (.seg 6 (.seg 7 (.seg 8 (.seg 9 (.seg 10 .last))))))))))))]) (n0:=62) (α := {x:KmS//KsI s H2 nx2 nW (.at_ true (eState s)) N2 W (allShut s W x.k) x.toAlS∧x.k≤W.weak.length}) (fun x=>[(13,dI x.1.k)]) (fun _ x=>x.1.H) (fun x=>x.1.nx) (fun x=>W.weak.length-x.1.k) ⟨⟨⟨H2,nx2,N2,W⟩,0⟩,⟨⟨Nat.le_refl _,sol2,fun _ _ _ _ _ _=>rfl,rfl,.inl rfl,.inl rfl,tl2,kl2⟩,rfl,hA,hRI,fun _ h=>h,rfl,rfl,fun _=>⟨rfl,fun k hk=>absurd hk (Nat.not_lt_zero _)⟩⟩,Nat.zero_le _⟩ rfl (by kernel_rfl) (Wk.sub (by simp)) ?_
 rintro ⟨⟨⟨H3,nx3,N3,W3⟩,i⟩,⟨⟨le3,sol3,low3,E3,T3,K3,tl3,kl3⟩,kk3,A3,R3,mono3,wk3,sum3,shut3⟩,hi⟩
 simp only at le3 sol3 low3 E3 T3 K3 tl3 kl3 kk3 A3 R3 mono3 wk3 sum3 shut3 hi
 by_cases h1:i<W.weak.length
 case neg =>
  obtain rfl:i=W.weak.length:=by omega
  have bW3:=A3.blk
  rw [walkRow] at bW3
  by_cases h2:W3.todo=[]
  ·simp [bW3,h2]
   obtain ⟨g1,g2⟩:=shut3 h2
   have hat : ∀ n,W3.at_ n=W.at_ n:=fun n=>by rw [RW.at_,RW.at_,g1]
   refine ⟨⟨⟨H3,nx3,N3,W3⟩,false⟩,by simp,⟨WPo.trans ⟨le2,sol2,low2,E2,T2,K2,tl2,kl2⟩ ⟨le3,sol3,low3,E3,T3,K3,tl3,kl3⟩,A3,R3,fun n hn=>mono3 n (hmono n hn),h2,fun _ k hk n hn j => ?_⟩,Wk.sub (by simp)⟩
   simp only at hk hn ⊢
   rw [wk3] at hk hn
   have:=g2 k hk n hn j
   unfold shut at this ⊢
   simp only [hat]
   exact this
  ·have h3:0<W3.todo.length:=List.length_pos_iff.2 h2
   simp [bW3,h3]
   intro _
   refine rcAll_ok s hg hs W3 R3 sol3 A3 (fun H4 nx4 N4 W4 po4 A4 R4 mono4 un4 t4 => ?_)
   simp
   exact ⟨⟨⟨H4,nx4,N4,W4⟩,true⟩,by simp only [if_true];rw [htodo] at sum3;simp only [List.length_nil] at sum3;clear h1 hi;omega,⟨WPo.trans ⟨le2,sol2,low2,E2,T2,K2,tl2,kl2⟩ (WPo.trans ⟨le3,sol3,low3,E3,T3,K3,tl3,kl3⟩ po4),A4,R4,fun n hn=>mono4 n (mono3 n (hmono n hn)),t4,fun e=>by cases e⟩,Wk.sub (by simp)⟩
 obtain ⟨n0,n1,n7⟩:=R3.weak W.weak[i] (by rw [wk3];exact List.getElem_mem h1)
 obtain ⟨m,hme⟩ : ∃ m:Nat,W.weak[i]=(m:Int):=⟨W.weak[i].toNat,by omega⟩
 rw [hme] at n0 n1 n7
 rw [Int.toNat_natCast] at n1
 have hm:m<s.cells.length:=R3.len▸RW.at_lt n1
 have hcell:cellAt s m=s.cells[m]:=by simp [cellAt,List.getD_eq_getElem?_getD,hm]
 have hmW:W.at_ m=true:=by
  have:=(hRI.weak W.weak[i] (List.getElem_mem h1)).2.1
  rwa [hme,Int.toNat_natCast] at this
 obtain ⟨hev,hkey⟩:=hg.weak m hm n7
 have hvl:=hg.vl m hm
 rw [hcell] at hev hkey n7 hvl
 have bW3:=A3.blk
 have bK3:=A3.weak
 rw [walkRow] at bW3
 rw [kk3,wk3] at bK3
 have t1:(intRows W.weak)[i]? = some [.d (eI m)]:=by rw [intRows,List.getElem?_map,List.getElem?_eq_getElem h1,hme];rfl
 obtain ⟨t2,t3⟩:=List.getElem?_eq_some_iff.1 t1
 simp [h1,bW3,bK3,t1,t2,t3,hm]
 have hkid : ∀ v∈s.cells[m].vals,In s.cells.length v:=fun v hv=>hg.kid m hm v (by rw [show cellAt s (m:Int)=s.cells[m] from hcell];exact List.mem_append_left _ hv)
 obtain ⟨vs,hvs⟩ : ∃ vs,vs=s.cells[m].vals:=⟨_,rfl⟩
 rw [← hvs] at hev hkey hkid hvl
 simp only [← hvs]
 refine loopH_ok (ks := [0,2,4,5,6,7,11,12,13,14,31,44,59]) (pl := [(10,[0,1,3,7,0,0,48,112,240,511,1023],(.seg 0 (.seg 1 (.seg 2 (.seg 3 (.seg 4 (.seg 5 (.seg 6 (.seg 7 (.seg 8 (.seg 9 (.seg 10 .last))))))))))))]) (n0:=62) (α := {x:KmS//KsI s H2 nx2 nW (.at_ true (eState s)) N2 W (allShut s W i∧shut s W m (x.k/2)) x.toAlS∧x.k%2=0∧x.k≤vs.length}) (fun x=>[(6,dI x.1.k)]) (fun _ x=>x.1.H) (fun x=>x.1.nx) (fun x=>vs.length-x.1.k) ⟨⟨⟨H3,nx3,N3,W3⟩,0⟩,⟨⟨le3,sol3,low3,E3,T3,K3,tl3,kl3⟩,kk3,A3,R3,mono3,wk3,sum3,fun e=>⟨(shut3 e).1,(shut3 e).2,fun k hk=>absurd hk (by simp)⟩⟩,rfl,Nat.zero_le _⟩ rfl (by kernel_rfl) (Wk.sub (by simp)) ?_
 rintro ⟨⟨⟨H3,nx3,N3,W3⟩,q⟩,⟨⟨le3,sol3,low3,E3,T3,K3,tl3,kl3⟩,kk3,A3,R3,mono3,wk3,sum3,shut3⟩,hq,hql⟩
 simp only at le3 sol3 low3 E3 T3 K3 tl3 kl3 kk3 A3 R3 mono3 wk3 sum3 shut3 hq hql
 have hcv:(cellAt s (m:Int)).vals=vs:=by rw [hcell];exact hvs.symm
 by_cases h2:q<vs.length
 case neg =>
  obtain rfl:q=vs.length:=by omega
  simp
  intro _
  refine ⟨⟨⟨H3,nx3,N3,W3⟩,i+1⟩,by simp only;omega,⟨⟨⟨le3,sol3,low3,E3,T3,K3,tl3,kl3⟩,kk3,A3,R3,mono3,wk3,sum3,fun e=>⟨(shut3 e).1,fun k hk n hn j k' hk' hl => ?_⟩⟩,by simp only;omega⟩,Wk.sub (by simp [wrap_add (show i<9223372036854775807 by omega)])⟩
  have hk:k<i+1:=hk
  rcases Nat.lt_or_ge k i with hki | hki
  ·exact (shut3 e).2.1 k hki n hn j k' hk' hl
  ·obtain rfl:k=i:=by omega
   rw [List.getElem?_eq_getElem h1,hme,Option.some.injEq] at hn
   subst hn
   have h9:2*k'+1<vs.length:=by rw [← hcv];exact hl
   exact (shut3 e).2.2 k' (by omega) hl
 obtain ⟨j,rfl⟩ : ∃ j,q=2*j:=⟨q/2,by omega⟩
 have hj2:2*j/2=j:=by omega
 rw [hj2] at shut3
 have hl1:2*j+1<vs.length:=by omega
 have v1:valAt vs (2*j)=vs[2*j]:=by simp [valAt,List.getD_eq_getElem?_getD,h2]
 have v2:valAt vs (2*j+1)=vs[2*j+1]:=by simp [valAt,List.getD_eq_getElem?_getD,hl1]
 have k5:=hkey j h2
 rw [v1] at k5
 obtain ⟨k0,k1⟩:=hkid _ (List.getElem_mem h2) k5
 have hin:=hkid _ (List.getElem_mem hl1)
 have hG:Got s vs[2*j].n.toNat->vs[2*j+1].kind=5->Got s vs[2*j+1].n.toNat:=fun g1 g2=>by
  have:=Got.key (s:=s) (m:=m) (k:=j) (R3.rch m (mono3 m hmW)) (by rw [hcell];exact n7) (by rw [hcv];exact hl1)
  rw [hcv,v1,v2] at this
  exact this g1 g2
 have hnext : ∀ W4:RW,(W4.todo=[]->W3.todo=[]∧W4.seen=W3.seen∧(W3.at_ vs[2*j].n.toNat=true->vs[2*j+1].kind=5->W3.at_ vs[2*j+1].n.toNat=true))->W4.todo=[]->W4.seen=W.seen∧allShut s W i∧shut s W m (j+1):=fun W4 h4 e4=>by
  obtain ⟨a1,a2,a3⟩:=h4 e4
  obtain ⟨b1,b2,b3⟩:=shut3 a1
  have hat : ∀ n,W3.at_ n=W.at_ n:=fun n=>by rw [RW.at_,RW.at_,b1]
  refine ⟨a2.trans b1,b2,fun k hk hl g1 g2 => ?_⟩
  rcases Nat.lt_or_ge k j with hkj | hkj
  ·exact b3 k hkj hl g1 g2
  ·obtain rfl:k=j:=by omega
   rw [hcv,v1, ← hat] at g1
   rw [hcv,v2] at g2 ⊢
   rw [← hat]
   exact a3 g1 g2
 obtain ⟨key,hke⟩ : ∃ key,key=vs[2*j]:=⟨_,rfl⟩
 obtain ⟨val,hve⟩ : ∃ val,val=vs[2*j+1]:=⟨_,rfl⟩
 have bW3:=A3.blk
 have bE3:=A3.seen
 rw [walkRow] at bW3
 simp only [← hke, ← hve] at k5 k0 k1 hin hG hnext
 obtain ⟨kk,x⟩:=key
 simp only at k5 k0 k1 hG hnext
 subst k5
 obtain ⟨x,rfl⟩ : ∃ x':Nat,x=x':=⟨x.toNat,by omega⟩
 simp only [Int.toNat_natCast] at hG hnext
 have hx:x<W3.seen.length:=by rw [R3.len];omega
 have g1:(boolRows W3.seen)[x]? = some [.d (eB W3.seen[x])]:=by rw [boolRows,List.getElem?_map,List.getElem?_eq_getElem hx];rfl
 have g2:W3.at_ x=W3.seen[x]:=by simp [RW.at_,List.getD_eq_getElem?_getD,hx]
 obtain ⟨g4,g5⟩:=List.getElem?_eq_some_iff.1 g1
 have hvk:vs[2*j]? = some ⟨5,x⟩:=by rw [List.getElem?_eq_getElem h2, ← hke]
 have hvv:vs[2*j+1]? = some val:=by rw [List.getElem?_eq_getElem hl1, ← hve]
 obtain ⟨q,hqe⟩ : ∃ q,q=2*j:=⟨_,rfl⟩
 have hvk1:vs[q]=⟨5,x⟩:=by simp only [hqe];exact hke.symm
 rw [← hqe] at h2 hl1 hvk hvv hq hql
 simp only [← hqe]
 have hvv1:vs[q+1]=val:=by simp only [hqe];exact hve.symm
 have hw1:IntKind.i64.wrap ((q:Int)+1)=(q:Int)+1:=wrap_id (by omega) (by omega)
 have hw2:IntKind.i64.wrap ((q:Int)+2)=((q+2:Nat):Int):=by rw [wrap_id (by omega) (by omega)];simp
 have hqj:(q+2)/2=j+1:=by omega
 cases c2:W3.seen[x] with
 | false =>
  rw [c2] at g5 g1 g2
  simp [h2,hvk1,bW3,bE3,g1,g4,g5,hx]
  intro _
  exact ⟨⟨⟨H3,nx3,N3,W3⟩,q+2⟩,by simp only;omega,⟨⟨⟨le3,sol3,low3,E3,T3,K3,tl3,kl3⟩,kk3,A3,R3,mono3,wk3,sum3,by simp only [hqj];exact hnext W3 fun e=>⟨e,rfl,fun g=>by rw [g2] at g;cases g⟩⟩,by simp only;omega,by simp only;omega⟩,Wk.sub (by simp [hw2])⟩
 | true =>
  rw [c2] at g5 g1 g2
  simp [h2,hvk1,bW3,bE3,g1,g4,g5,hx,hw1,hl1,hvv1]
  intro _
  refine ⟨by omega,?_⟩
  have n1:nW<nx3:=by omega
  have n2:N3.e<nx3:=by omega
  have n4:N3.k<nx3:=by omega
  have sum0:=R3.sum
  refine rcCome1_ok val W3 (xS := .at_ true (eState s)) (N:=N3) ?_ ?_ (A3.low ?_ ?_ ?_ ?_) ?_ ?_ ?_ ?_ (by rw [R3.len];exact hin) (by omega) (fun H6 nx6 N6 n6 sol6 A6 low6 E6 K6 T6 L6 => ?_)
  ·exact sol3.set (by simp)
  ·simp
  ·rw [Hp.set_ne _ _ (by omega)]
  ·rw [Hp.set_ne _ _ (by omega)]
  ·rw [Hp.set_ne _ _ (by omega)]
  ·rw [Hp.set_ne _ _ (by omega)]
  ·omega
  ·omega
  ·omega
  ·omega
  simp
  have hRI6:RI s (comeV W3 val):=R3.come [val] (by simpa using hin) (by simpa using hG ((R3.rch x g2)))
  have hsum6:=comeV_sum (w:=W3) (v:=val) (by rw [R3.len];exact hin)
  exact ⟨⟨⟨H6,nx6,N6,comeV W3 val⟩,q+2⟩,by simp only;omega,⟨⟨WPo.trans ⟨le3,sol3,low3,E3,T3,K3,tl3,kl3⟩ ⟨by dsimp only;omega,sol6,fun i i0 i1 i2 i3 i4=>by
    dsimp only
    rw [low6 i (by omega) i1 i2 i3 (by omega),Hp.set_ne _ _ (by omega)],E6,by simp only;omega,.inl K6,by simp only;omega,by simp only;omega⟩,K6.trans kk3,A6,hRI6,fun n hn=>(comeV_at (w:=W3) (v:=val) (by rw [R3.len];exact hin) n).2 (.inl (mono3 n hn)),(comeV_weak W3 val).trans wk3,hsum6.trans sum3,by
     simp only [hqj]
     refine hnext (comeV W3 val) fun e => ?_
     by_cases c5:val.kind=5∧W3.at_ val.n.toNat=false
     ·rw [comeV,if_pos c5] at e
      simp at e
     ·have e6:comeV W3 val=W3:=by rw [comeV,if_neg c5]
      rw [e6] at e ⊢
      refine ⟨e,rfl,fun _ h5 => ?_⟩
      cases z:W3.at_ val.n.toNat with
      | true=>rfl
      | false=>exact absurd ⟨h5,z⟩ c5⟩,by simp only;omega,by simp only;omega⟩,Wk.sub (by simp [hw2])⟩
theorem RI.start {s:GState} : RI s ⟨List.replicate s.cells.length false,[],[]⟩:=by
 have hat : ∀ n,(RW.mk (List.replicate s.cells.length false) [] []).at_ n=false:=fun n=>by
  simp only [RW.at_,List.getD_eq_getElem?_getD,List.getElem?_replicate]
  split <;> rfl
 refine ⟨by simp,fun n h => ?_,fun x hx=>(by cases hx),fun x hx=>(by cases hx),fun n h => ?_,?_⟩
 ·rw [hat] at h;cases h
 ·rw [hat] at h;cases h
 ·simp [RW.un]
structure SnI (s:GState) (H:Hp) (nx:Nat) (L:List GVal) (x:AlS):Prop where
 le:nx+2≤x.nx
 sol:HSol x.H
 low : ∀ i,i<nx->x.H i=H i
 e:x.N.e=nx
 t:nx+2≤x.N.t∧x.N.t<x.nx
 k:nx+2≤x.N.k∧x.N.k<x.nx
 at_:WAt x.H (nx+1) (.at_ true (eState s)) x.N x.w
 ri:RI s x.w
 came : ∀ v∈L,v.kind=5->x.w.at_ v.n.toNat=true
theorem came_come {s:GState} {w:RW} (h:RI s w) {L l:List GVal} (hl : ∀ v∈l,In s.cells.length v) (hc : ∀ v∈L,v.kind=5->w.at_ v.n.toNat=true) : ∀ v∈L++l,v.kind=5->(comeL w l).at_ v.n.toNat=true:=fun v hv hk=>by
 have hi : ∀ v∈l,In w.seen.length v:=by rw [h.len];exact hl
 rcases List.mem_append.1 hv with hv | hv
 ·exact (comeL_at l w hi _).2 (.inl (hc v hv hk))
 ·exact (comeL_at l w hi _).2 (.inr ⟨v,hv,hk,rfl⟩)
def seenH (H:Hp) (nx:Nat) (x:Dt) (n:Nat):Hp:=(((((H.set nx (some ⟨.c 4,1,List.replicate n [.d (eB false)]⟩)).set (nx+1) (some ⟨.c 172,4,[[.d x,.own nx 1 n,.d .emp,.d .emp]]⟩)).set (nx+1) (some ⟨.c 172,4,[[.d x,.own nx 1 n,.own (nx+2) 1 0,.d .emp]]⟩)).set (nx+2) (some ⟨.c 3,1,[]⟩)).set (nx+1) (some ⟨.c 172,4,[[.d x,.own nx 1 n,.own (nx+2) 1 0,.own (nx+3) 1 0]]⟩)).set (nx+3) (some ⟨.c 3,1,[]⟩)
theorem seenWk {m nx n:Nat} {tm:List (Nat×D)} {H:Hp} {x:Dt} : Wk ⟨m,tm,(H.set nx (some ⟨.c 4,1,List.replicate n [.d (eB false)]⟩)).set (nx+1) (some ⟨.c 172,4,[[.d x,.own nx 1 n,.d .emp,.d .emp]]⟩),nx+1+1⟩ ⟨m,tm,seenH H nx x n,nx+4⟩ :=
 (Wk.ownC 3 1 (m:=nx+1) (t := .c 172) (k:=4) (R := [[.d x,.own nx 1 n,.d .emp,.d .emp]]) (row := [.d x,.own nx 1 n,.d .emp,.d .emp]) (i:=0) (j:=2) (Hp.set_same _ _ _) rfl rfl).trans
  (Wk.ownC 3 1 (m:=nx+1) (t := .c 172) (k:=4) (R := [[.d x,.own nx 1 n,.own (nx+2) 1 0,.d .emp]]) (row := [.d x,.own nx 1 n,.own (nx+2) 1 0,.d .emp]) (i:=0) (j:=3) (by rw [Hp.set_ne _ _ (by omega),Hp.set_same];rfl) rfl rfl)
theorem seenH_at {H:Hp} {nx n:Nat} {x:Dt} (hx:x.solidT=true):WAt (seenH H nx x n) (nx+1) x ⟨nx,nx+2,nx+3⟩ ⟨List.replicate n false,[],[]⟩:=by
 refine ⟨?_,?_,⟨[],?_⟩,?_,hx,by simp only;omega,by simp only;omega,by simp only;omega,by simp only;omega,by simp only;omega,by simp only;omega⟩
 ·simp [seenH,Hp.set,walkRow]
 ·simp [seenH,Hp.set,boolRows]
 ·simp [seenH,Hp.set,intRows]
 ·simp [seenH,Hp.set,intRows]
theorem seenH_low {H:Hp} {nx n i:Nat} {x:Dt} (hi:i<nx):seenH H nx x n i=H i:=by
 unfold seenH
 repeat rw [Hp.set_ne _ _ (by omega)]
theorem seenH_sol {H:Hp} {nx n:Nat} {x:Dt} (hx:x.solidT=true) (hS:HSol H):HSol (seenH H nx x n):=by
 unfold seenH
 repeat' (first | exact hS | refine HSol.set ?_ ?_)
 all_goals simp [hx]
structure SmS extends AlS where
 k:Nat
theorem seen_ic (s:GState) (hg:GoodS s) (hs:s.cells.length≤1000) {H:Hp} {nx:Nat} (hSol:HSol H) {K:D->Hp->Nat->Prop}
  (h : ∀ H' nx' b,SeenB s b->nx<nx'->HSol H'->(∀ i,i<nx->H' i=H i)->H' nx=some ⟨.c 4,1,boolRows b⟩->K (.one (.own nx 1 b.length)) H' nx') :
  ICall Tryz.prog 53 [.one (.d (.at_ true (eState s)))] H nx K:=by
 have hx:(Dt.at_ true (eState s)).solidT=true:=rfl
 refine ICall.fresh (by kernel_rfl) fun hfr => ?_
 refine fni_ok [0,2,3,5,7,20,21,22,23,37,48,49,50,51] [] Tryz.func53 rfl (by kernel_rfl) rfl rfl rfl rfl (by kernel_rfl) ?_
 simp
 intro _
 refine ⟨by omega,fun hlen => ?_⟩
 refine loopH_ok (ks := [0,2,3,5,7,20,21,22,23,37,48,49,50,51]) (pl := []) (n0:=68) (α := {x:SmS//SnI s H nx ((s.threads.take x.k).flatMap valsT) x.toAlS∧x.k≤s.threads.length}) (fun x=>[(22,dI x.1.k)]) (fun _ x=>x.1.H) (fun x=>x.1.nx) (fun x=>s.threads.length-x.1.k)
  ⟨⟨⟨seenH H nx (.at_ true (eState s)) s.cells.length,nx+4,⟨nx,nx+2,nx+3⟩,⟨List.replicate s.cells.length false,[],[]⟩⟩,0⟩,⟨by simp only;omega,seenH_sol hx hSol,fun i hi=>seenH_low hi,rfl,by simp only;omega,by simp only;omega,seenH_at hx,RI.start,fun v hv=>by simp at hv⟩,Nat.zero_le _⟩ rfl (by kernel_rfl) (seenWk.trans (Wk.sub (by simp))) ?_
 rintro ⟨⟨⟨H2,nx2,N2,W⟩,k⟩,⟨le2,sol2,low2,E2,T2,K2,A2,R2,C2⟩,hk⟩
 simp only at le2 sol2 low2 E2 T2 K2 A2 R2 C2 hk
 by_cases h1:k<s.threads.length
 case neg =>
  obtain rfl:k=s.threads.length:=by omega
  rw [List.take_length] at C2
  simp
  intro hlen2
  refine loopH_ok (ks := [0,2,3,5,7,20,21,22,23,37,48,49,50,51]) (pl := []) (n0:=68) (α := {x:SmS//SnI s H nx (s.threads.flatMap valsT++(s.ends.take x.k).map (·.fn)) x.toAlS∧x.k≤s.ends.length}) (fun x=>[(50,dI x.1.k)]) (fun _ x=>x.1.H) (fun x=>x.1.nx) (fun x=>s.ends.length-x.1.k)
   ⟨⟨⟨H2,nx2,N2,W⟩,0⟩,⟨le2,sol2,low2,E2,T2,K2,A2,R2,by simpa using C2⟩,Nat.zero_le _⟩ rfl (by kernel_rfl) (Wk.sub (by simp)) ?_
  rintro ⟨⟨⟨H3,nx3,N3,W3⟩,k⟩,⟨le3,sol3,low3,E3,T3,K3,A3,R3,C3⟩,hk3⟩
  simp only at le3 sol3 low3 E3 T3 K3 A3 R3 C3 hk3
  by_cases h1:k<s.ends.length
  case neg =>
   obtain rfl:k=s.ends.length:=by omega
   rw [List.take_length] at C3
   simp
   refine rcAll_ok s hg hs W3 R3 sol3 A3 (fun H4 nx4 N4 W4 po4 A4 R4 mono4 un4 t4 => ?_)
   simp
   refine rcKeys_ok s hg hs W4 R4 t4 po4.sol A4 (fun H5 nx5 N5 W5 po5 A5 R5 mono5 t5 sh5 => ?_)
   have bW:=A5.blk
   have bE:=A5.seen
   have ee:N5.e=nx:=po5.e.trans (po4.e.trans E3)
   rw [walkRow,ee] at bW
   rw [ee] at bE
   have q1:=po4.t
   have q2:=po4.k
   have q3:=po4.le
   have q4:=po5.le
   have q5:=po5.t
   have q6:=po4.e
   have hall:=R5.all t5 (fun v hv hk=>mono5 _ (mono4 _ (C3 v hv hk))) (fun n hn j=>by
    obtain ⟨i,hi,rfl⟩:=List.getElem_of_mem hn
    exact sh5 i hi _ (List.getElem?_eq_getElem hi) j)
   simp [bW]
   refine ⟨po5.sol,h H5 nx5 W5.seen ⟨R5.len,fun n=>hall n⟩ (by omega) po5.sol (fun i hi => ?_) bE⟩
   rw [po5.low i (by omega) (by omega) (by omega) (by omega) (by omega),po4.low i (by omega) (by omega) (by omega) (by omega) (by omega)]
   exact low3 i hi
  obtain ⟨e,hee⟩ : ∃ e,e=s.ends[k]:=⟨_,rfl⟩
  have hroot:e.fn∈valsS s:=List.mem_append_right _ (List.mem_map.2 ⟨e,by rw [hee];exact List.getElem_mem h1,rfl⟩)
  have hin:=hg.root _ hroot
  have htake:(s.ends.take (k+1)).map (·.fn)=(s.ends.take k).map (·.fn)++[e.fn]:=by
   rw [List.take_succ_eq_append_getElem h1,List.map_append,hee];simp
  have RF:=R3.come [e.fn] (by simpa using hin) (by simpa using Got.root hroot)
  have CF:=came_come R3 (l := [e.fn]) (by simpa using hin) C3
  rw [List.append_assoc, ← htake,List.map_take] at CF
  have sum0:=R3.sum
  have ne1:=A3.ne1
  simp [h1]
  simp only [← hee]
  refine rcCome1_ok e.fn W3 (xS := .at_ true (eState s)) (N:=N3) ?_ ?_ (A3.low ?_ ?_ ?_ ?_) ?_ ?_ ?_ ?_ (by rw [R3.len];exact hin) (by omega) (fun H6 nx6 N6 n6 sol6 A6 low6 E6 K6 T6 L6 => ?_)
  ·exact (sol3.set (by simp)).set (by simp)
  ·simp
  ·rw [Hp.set_ne _ _ (by omega),Hp.set_ne _ _ (by omega)]
  ·rw [Hp.set_ne _ _ (by omega),Hp.set_ne _ _ (by omega)]
  ·rw [Hp.set_ne _ _ (by omega),Hp.set_ne _ _ (by omega)]
  ·rw [Hp.set_ne _ _ (by omega),Hp.set_ne _ _ (by omega)]
  ·omega
  ·omega
  ·omega
  ·omega
  simp
  refine ⟨⟨⟨H6,nx6,N6,comeV W3 e.fn⟩,k+1⟩,by simp only;omega,⟨⟨by dsimp only;omega,sol6,fun i hi => ?_,by dsimp only;omega,by dsimp only;omega,by dsimp only;omega,A6,RF,by dsimp only;exact CF⟩,by dsimp only;omega⟩,Wk.sub (by simp [wrap_add (show k<9223372036854775807 by omega)])⟩
  dsimp only
  rw [low6 i (by omega) (by omega) (by omega) (by omega) (by omega),Hp.set_ne _ _ (by omega),Hp.set_ne _ _ (by omega)]
  exact low3 i hi
 obtain ⟨t,hte⟩ : ∃ t,t=s.threads[k]:=⟨_,rfl⟩
 have hmem:t∈s.threads:=by rw [hte];exact List.getElem_mem h1
 have hroot : ∀ v∈valsT t,v∈valsS s:=fun v hv=>List.mem_append_left _ (List.mem_flatMap.2 ⟨t,hmem,hv⟩)
 have hin : ∀ v∈valsT t,In s.cells.length v:=fun v hv=>hg.root v (hroot v hv)
 have hgot : ∀ v∈valsT t,v.kind=5->Got s v.n.toNat:=fun v hv=>Got.root (hroot v hv)
 have htake:(s.threads.take (k+1)).flatMap valsT=(s.threads.take k).flatMap valsT++valsT t:=by
  rw [List.take_succ_eq_append_getElem h1,List.flatMap_append,hte];simp
 have hin1 : ∀ v∈t.frames.flatMap valsF,In s.cells.length v:=fun v hv=>hin v (List.mem_append_left _ hv)
 have hin2:In s.cells.length t.val:=hin _ (List.mem_append_right _ List.mem_cons_self)
 have RF:=R2.come (valsT t) hin hgot
 have CF:=came_come R2 hin C2
 rw [← htake] at CF
 have sum0:=R2.sum
 have R3:=R2.come (t.frames.flatMap valsF) hin1 (fun v hv=>hgot v (List.mem_append_left _ hv))
 have sum1:=R3.sum
 have len1:=R3.len
 have ne1:=A2.ne1
 simp [h1]
 simp only [← hte]
 refine rcFrames_ok t.frames W (xS := .at_ true (eState s)) (N:=N2) ?_ (A2.low ?_ ?_ ?_ ?_) (by rw [R2.len];exact hin1) (by omega) (fun H3 nx3 N3 n3 sol3 A3 low3 E3 K3 T3 L3 => ?_)
 ·exact sol2.set (by simp)
 ·rw [Hp.set_ne _ _ (by omega)]
 ·rw [Hp.set_ne _ _ (by omega)]
 ·rw [Hp.set_ne _ _ (by omega)]
 ·rw [Hp.set_ne _ _ (by omega)]
 have b3:=low3 nx2 (by omega) (by omega) (by omega) (by omega)
 rw [Hp.set_same] at b3
 simp [b3]
 have hin3:In (comeL W (t.frames.flatMap valsF)).seen.length t.val:=by rw [len1];exact hin2
 have sumV:=comeV_sum hin3
 refine rcCome1_ok t.val _ (xS := .at_ true (eState s)) (N:=N3) ?_ ?_ (A3.low ?_ ?_ ?_ ?_) ?_ ?_ ?_ ?_ hin3 (by omega) (fun H5 nx5 N5 n5 sol5 A5 low5 E5 K5 T5 L5 => ?_)
 ·exact sol3.set (by simp)
 ·simp
 ·rw [Hp.set_ne _ _ (by omega)]
 ·rw [Hp.set_ne _ _ (by omega)]
 ·rw [Hp.set_ne _ _ (by omega)]
 ·rw [Hp.set_ne _ _ (by omega)]
 ·omega
 ·omega
 ·omega
 ·omega
 have b5:=low5 nx2 (by omega) (by omega) (by omega) (by omega) (by omega)
 rw [Hp.set_ne _ _ (by omega),b3] at b5
 have low6 : ∀ i,i<nx->H5 i=H i:=fun i hi=>by
  rw [low5 i (by omega) (by omega) (by omega) (by omega) (by omega),Hp.set_ne _ _ (by omega),low3 i (by omega) (by omega) (by omega) (by omega),Hp.set_ne _ _ (by omega)]
  exact low2 i hi
 by_cases c1:t.state=1
 case neg =>
  have e:comeV (comeL W (t.frames.flatMap valsF)) t.val=comeL W (valsT t):=by rw [valsT,if_neg c1,comeL_app];rfl
  rw [e] at A5
  simp [b5,c1]
  exact ⟨⟨⟨H5,nx5,N5,comeL W (valsT t)⟩,k+1⟩,by simp only;omega,⟨⟨by dsimp only;omega,sol5,low6,by dsimp only;omega,by dsimp only;omega,by dsimp only;omega,A5,RF,CF⟩,by dsimp only;omega⟩,Wk.sub (by simp [wrap_add (show k<9223372036854775807 by omega)])⟩
 have e:comeV (comeV (comeL W (t.frames.flatMap valsF)) t.val) ⟨5,t.on⟩=comeL W (valsT t):=by rw [valsT,if_pos c1,comeL_app];rfl
 have hin4:In (comeV (comeL W (t.frames.flatMap valsF)) t.val).seen.length ⟨5,t.on⟩:=by
  rw [comeV_len,len1]
  exact hin _ (List.mem_append_right _ (by simp [c1]))
 simp [b5,c1]
 refine rcCome1_ok ⟨5,t.on⟩ _ (xS := .at_ true (eState s)) (N:=N5) ?_ ?_ (A5.low ?_ ?_ ?_ ?_) ?_ ?_ ?_ ?_ hin4 (by omega) (fun H7 nx7 N7 n7 sol7 A7 low7 E7 K7 T7 L7 => ?_)
 ·exact sol5.set (by simp)
 ·simp
 ·rw [Hp.set_ne _ _ (by omega)]
 ·rw [Hp.set_ne _ _ (by omega)]
 ·rw [Hp.set_ne _ _ (by omega)]
 ·rw [Hp.set_ne _ _ (by omega)]
 ·omega
 ·omega
 ·omega
 ·omega
 rw [e] at A7
 simp
 refine ⟨⟨⟨H7,nx7,N7,comeL W (valsT t)⟩,k+1⟩,by simp only;omega,⟨⟨by dsimp only;omega,sol7,fun i hi => ?_,by dsimp only;omega,by dsimp only;omega,by dsimp only;omega,A7,RF,CF⟩,by dsimp only;omega⟩,Wk.sub (by simp [wrap_add (show k<9223372036854775807 by omega)])⟩
 dsimp only
 rw [low7 i (by omega) (by omega) (by omega) (by omega) (by omega),Hp.set_ne _ _ (by omega)]
 exact low6 i hi
end Go.Proofs.YtbphdcffpobcbaaGreatDoor
