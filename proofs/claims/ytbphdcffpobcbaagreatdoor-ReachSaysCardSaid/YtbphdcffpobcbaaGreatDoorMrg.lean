/- Several texts in one. -/
import Derived.Test.YtbphdcffpobcbaaGreatDoorMrc
set_option linter.unusedSimpArgs false
set_option linter.unusedVariables false
set_option maxRecDepth 100000
set_option maxHeartbeats 16000000
namespace Go.Proofs.YtbphdcffpobcbaaGreatDoor
open Go.RowKit Go
def cmB (b:List Bool) (v:GVal):List Bool:=if v.kind=5∧b.getD v.n.toNat false=false then b.set v.n.toNat true else b
def cmL (b:List Bool) (l:List GVal):List Bool:=l.foldl cmB b
theorem cmL_nil (b:List Bool):cmL b []=b:=rfl
theorem cmL_app (b:List Bool) (l m:List GVal):cmL b (l++m)=cmL (cmL b l) m:=List.foldl_append
theorem cmL_snoc (b:List Bool) (l:List GVal) (v:GVal):cmL b (l++[v])=cmB (cmL b l) v:=by rw [cmL_app];rfl
theorem cmB_len (b:List Bool) (v:GVal):(cmB b v).length=b.length:=by unfold cmB;split <;> simp
theorem cmL_len : ∀ (l:List GVal) (b:List Bool),(cmL b l).length=b.length
 | [],_=>rfl
 | v::l,b=>(cmL_len l (cmB b v)).trans (cmB_len b v)
theorem cmB_at {b:List Bool} {v:GVal} (h:In b.length v) (n:Nat):(cmB b v).getD n false=true↔b.getD n false=true∨(v.kind=5∧v.n.toNat=n):=by
 unfold cmB
 split
 ·rename_i e
  have hb:=h e.1
  simp only [List.getD_eq_getElem?_getD]
  by_cases q:v.n.toNat=n
  ·subst q
   rw [List.getElem?_set_self (by omega)]
   simp [e.1]
  ·rw [List.getElem?_set_ne q]
   simp [q]
 ·rename_i e
  constructor
  ·exact .inl
  ·rintro (q | ⟨q,rfl⟩)
   ·exact q
   ·cases z:b.getD v.n.toNat false with
    | true=>rfl
    | false=>exact absurd ⟨q,z⟩ e
theorem cmL_at : ∀ (l:List GVal) (b:List Bool),(∀ v∈l,In b.length v) -> ∀ n,(cmL b l).getD n false=true↔b.getD n false=true ∨ ∃ v∈l,v.kind=5∧v.n.toNat=n
 | [],_,_,n=>by simp [cmL_nil]
 | v::l,b,h,n=>by
  have e:cmL b (v::l)=cmL (cmB b v) l:=rfl
  rw [e,cmL_at l (cmB b v) (fun x hx=>by rw [cmB_len];exact h x (List.mem_cons_of_mem _ hx)) n,cmB_at (h v List.mem_cons_self)]
  simp only [List.mem_cons,exists_eq_or_imp,or_assoc]
theorem count_true : ∀ (l:List Bool) (n:Nat),n<l.length->l.getD n false=false->(l.set n true).count true=l.count true+1
 | [],_,h,_=>absurd h (by simp)
 | a::l,0,_,h=>by
  simp at h;subst h;simp
 | a::l,n+1,h,hg=>by
  have:=count_true l n (by simpa using h) (by simpa using hg)
  simp only [List.set_cons_succ,List.count_cons]
  omega
theorem cmB_cnt {b:List Bool} {v:GVal} (h:In b.length v):cmB b v=b∨(cmB b v).count true=b.count true+1:=by
 unfold cmB
 split
 ·rename_i e
  have hb:=h e.1
  exact .inr (count_true b _ (by omega) e.2)
 ·exact .inl rfl
theorem cmL_cnt : ∀ (l:List GVal) (b:List Bool),(∀ v∈l,In b.length v)->cmL b l=b∨b.count true<(cmL b l).count true
 | [],_,_ => .inl rfl
 | v::l,b,h=>by
  have e:cmL b (v::l)=cmL (cmB b v) l:=rfl
  rw [e]
  have h2:=cmL_cnt l (cmB b v) (fun x hx=>by rw [cmB_len];exact h x (List.mem_cons_of_mem _ hx))
  rcases cmB_cnt (h v List.mem_cons_self) with h1 | h1
  ·rw [h1] at h2 ⊢; exact h2
  ·rcases h2 with h2 | h2
   ·right;rw [h2];omega
   ·right;omega
structure CmAt (H:Hp) (nB nC nR:Nat) (b:List Bool):Prop where
 is:H nB=some ⟨.c 55,1,[[.own nR 1 b.length]]⟩
 cnt:H nC=some ⟨.c 3,1,[[.d (eI (b.count true:Nat))]]⟩
 row:H nR=some ⟨.c 4,1,boolRows b⟩
 ne1:nB≠nC
 ne2:nB≠nR
 ne3:nC≠nR
theorem CmAt.low {H G:Hp} {nB nC nR:Nat} {b:List Bool} (h:CmAt H nB nC nR b) (h1:G nB=H nB) (h2:G nC=H nC) (h3:G nR=H nR):CmAt G nB nC nR b:=⟨h1.trans h.is,h2.trans h.cnt,h3.trans h.row,h.ne1,h.ne2,h.ne3⟩
structure CrS where
 k:Nat
 H:Hp
 nx:Nat
structure CrI (H:Hp) (nx nB nC nR:Nat) (b:List Bool) (x:CrS):Prop where
 le:nx≤x.nx
 at_:CmAt x.H nB nC nR b
 low : ∀ i,i<nx->i≠nC->i≠nR->x.H i=H i
 sol:HSol x.H
theorem cmD_ic (S:Bool) (l:List GVal) (b:List Bool) {nB nC nR:Nat} {H:Hp} {nx:Nat} (hSol:HSol H) (hW:CmAt H nB nC nR b) (hl : ∀ v∈l,In b.length v) (hb:b.length≤1000) {K:D->Hp->Nat->Prop}
  (h : ∀ H' nx',CrI H nx nB nC nR (cmL b l) ⟨0,H',nx'⟩->K (.tup []) H' nx'):ICall Tryz.prog 56 [dL S (l.map eVal),.one (.ptr nB 1 0 0),.one (.ptr nC 1 0 0)] H nx K:=by
 refine ICall.fresh (by kernel_rfl) fun hfr => ?_
 have p1:=fresh_lt hfr hW.is
 have p2:=fresh_lt hfr hW.cnt
 have p3:=fresh_lt hfr hW.row
 refine fni_ok [0,1,2,5,6,7,8,9,22] [] Tryz.func56 rfl (by kernel_rfl) rfl rfl rfl rfl (by kernel_rfl) ?_
 simp
 intro hlen
 refine loopH_ok (ks := [0,1,2,5,6,7,8,9,22]) (pl := []) (n0:=30) (α := {x:CrS//x.k≤l.length∧CrI H nx nB nC nR (cmL b (l.take x.k)) x}) (fun x=>[(8,dI x.1.k)]) (fun _ x=>x.1.H) (fun x=>x.1.nx) (fun x=>l.length-x.1.k) ⟨⟨0,H,nx⟩,Nat.zero_le _,⟨Nat.le_refl _,by simpa [cmL_nil] using hW,fun _ _ _ _=>rfl,hSol⟩⟩ rfl (by kernel_rfl) (Wk.sub (by simp)) ?_
 rintro ⟨⟨k,H2,nx2⟩,hk,⟨hn,hA,hlow,hsol⟩⟩
 simp only at hk hn hA hlow hsol
 by_cases h1:k<l.length
 case neg =>
  simp [h1]
  obtain rfl:k=l.length:=by omega
  rw [List.take_length] at hA
  exact ⟨hsol,h _ _ ⟨hn,hA,hlow,hsol⟩⟩
 have hnext:cmL b (l.take (k+1))=cmB (cmL b (l.take k)) l[k]:=by
  rw [List.take_succ_eq_append_getElem h1,cmL_snoc]
 have hv:=hl l[k] (List.getElem_mem h1)
 have hlen2:=cmL_len (l.take k) b
 obtain ⟨W,hWe⟩ : ∃ W,W=cmL b (l.take k):=⟨_,rfl⟩
 rw [← hWe] at hA hnext hlen2
 rw [← hlen2] at hv
 simp [h1]
 obtain ⟨v,hve⟩ : ∃ v,v=l[k]:=⟨_,rfl⟩
 simp only [← hve] at hv hnext ⊢
 have bB:=hA.is
 have bC:=hA.cnt
 have bR:=hA.row
 have e0:=hA.ne1
 have e1:=hA.ne2
 have e2:=hA.ne3
 have f0 : ¬ nB=nx2:=by omega
 have f1 : ¬ nC=nx2:=by omega
 have f2 : ¬ nR=nx2:=by omega
 have skip:cmB W v=W->CrI H nx nB nC nR (cmL b (l.take (k+1))) ⟨k+1,H2.set nx2 (some ⟨.c 31,2,[[.d (eI v.kind),.d (eI v.n)]]⟩),nx2+1⟩:=fun e=>⟨by simp;omega,by
  rw [hnext,e]
  exact hA.low (Hp.set_ne _ _ f0) (Hp.set_ne _ _ f1) (Hp.set_ne _ _ f2),fun i i0 i1 i2=>Eq.trans (Hp.set_ne _ _ (by omega)) (hlow i i0 i1 i2),hsol.set (by simp)⟩
 by_cases c1:v.kind=5
 case neg =>
  have es:cmB W v=W:=by rw [cmB,if_neg fun e=>c1 e.1]
  simp [c1]
  exact ⟨⟨k+1,H2.set nx2 (some ⟨.c 31,2,[[.d (eI v.kind),.d (eI v.n)]]⟩),nx2+1⟩,by simp only;omega,⟨by simp only;omega,skip es⟩,Wk.sub (by simp [wrap_add (show k<9223372036854775807 by omega)])⟩
 obtain ⟨v0,v1⟩:=hv c1
 obtain ⟨vk,q⟩:=v
 obtain ⟨q,rfl⟩ : ∃ q':Nat,q=q':=⟨q.toNat,by simp at v0;omega⟩
 simp only at c1 v0 v1
 subst c1
 have hq:q<W.length:=by omega
 have g1:(boolRows W)[q]? = some [.d (eB W[q])]:=by rw [boolRows,List.getElem?_map,List.getElem?_eq_getElem hq];rfl
 have g2:W.getD q false=W[q]:=by simp [List.getD_eq_getElem?_getD,hq]
 have g3:(boolRows W).set q [.d (eB true)]=boolRows (W.set q true):=by rw [boolRows,boolRows,List.map_set]
 obtain ⟨g4,g5⟩:=List.getElem?_eq_some_iff.1 g1
 have hcl:W.count true≤W.length:=List.count_le_length
 cases c2:W[q] with
 | true =>
  have es:cmB W ⟨5,q⟩=W:=by rw [cmB,if_neg fun e=>by have:=e.2;rw [Int.toNat_natCast,g2,c2] at this;cases this]
  rw [c2] at g5 g1
  simp [f0,f1,f2,bB,bR,g1,g4,g5,hq]
  exact ⟨⟨k+1,H2.set nx2 (some ⟨.c 31,2,[[.d (eI 5),.d (eI q)]]⟩),nx2+1⟩,by simp only;omega,⟨by simp only;omega,skip es⟩,Wk.sub (by simp [wrap_add (show k<9223372036854775807 by omega)])⟩
 | false =>
  rw [c2] at g5 g1
  have ec:=count_true W q hq (by rw [g2,c2])
  have es:cmB W ⟨5,q⟩=W.set q true:=by
   rw [cmB,if_pos ⟨rfl,by rw [Int.toNat_natCast,g2,c2]⟩];simp
  have hw:=wrap_add (show W.count true<9223372036854775807 by omega)
  have f3 : ¬ nx2=nB:=by omega
  have f4 : ¬ nx2=nC:=by omega
  have f5 : ¬ nx2=nR:=by omega
  have e3 : ¬ nC=nB:=fun e=>e0 e.symm
  have e4 : ¬ nR=nB:=fun e=>e1 e.symm
  have e5 : ¬ nR=nC:=fun e=>e2 e.symm
  simp [f0,f1,f2,f3,f4,f5,e0,e1,e2,e3,e4,e5,bB,bC,bR,g1,g4,g5,hq,hw]
  refine ⟨⟨k+1,((H2.set nx2 (some ⟨.c 31,2,[[.d (eI 5),.d (eI q)]]⟩)).set nR (some ⟨.c 4,1,(boolRows W).set q [.d (eB true)]⟩)).set nC (some ⟨.c 3,1,[[.d (eI ((W.count true:Nat)+1))]]⟩),nx2+1⟩,by simp only;omega,⟨by simp only;omega,⟨by simp only;omega,?_,fun i i0 i1 i2 => ?_,?_⟩⟩,Wk.sub (by simp [wrap_add (show k<9223372036854775807 by omega)])⟩
  ·rw [hnext,es]
   dsimp only
   refine ⟨?_,?_,?_,e0,e1,e2⟩
   ·rw [Hp.set_ne _ _ e0,Hp.set_ne _ _ e1,Hp.set_ne _ _ f0,bB];simp
   ·rw [Hp.set_same,ec];simp
   ·rw [Hp.set_ne _ _ e5,Hp.set_same,g3]
  ·dsimp only
   rw [Hp.set_ne _ _ i1,Hp.set_ne _ _ i2,Hp.set_ne _ _ (by omega)]
   exact hlow i i0 i1 i2
  ·dsimp only
   refine HSol.set (HSol.set (HSol.set hsol (by simp)) ?_) (by simp)
   dsimp only
   rw [g3]
   exact solMap _ _ fun _=>rfl
theorem cm1_ic (v:GVal) (b:List Bool) {nB nC nR nA:Nat} {H:Hp} {nx:Nat} (hSol:HSol H) (hA:H nA=some ⟨.c 31,2,[[.d (eI v.kind),.d (eI v.n)]]⟩) (hW:CmAt H nB nC nR b) (d1:nB≠nA) (d2:nC≠nA) (d3:nR≠nA) (hl:In b.length v) (hb:b.length≤1000) {K:D->Hp->Nat->Prop}
  (h : ∀ H' nx',CrI (H.set nA none) nx nB nC nR (cmB b v) ⟨0,H',nx'⟩->K (.tup []) H' nx'):ICall Tryz.prog 56 [.one (.own nA 2 1),.one (.ptr nB 1 0 0),.one (.ptr nC 1 0 0)] H nx K:=by
 refine ICall.frz (ds := []) (es := [.one (.ptr nB 1 0 0),.one (.ptr nC 1 0 0)]) hA (by simp [C.isD]) rfl (by simp) ?_
 have e:((([[.d (eI v.kind),.d (eI v.n)]]:List (List C)).take 1).map fun e=>e.map C.dt)=[v].map eVal:=rfl
 rw [e]
 exact cmD_ic true [v] b (HSol.none hSol) (hW.low (Hp.set_ne _ _ d1) (Hp.set_ne _ _ d2) (Hp.set_ne _ _ d3)) (by simpa using hl) hb h
theorem fmD_ic (S:Bool) (l:List GFrame) (b:List Bool) {nF nB nC nR:Nat} {H:Hp} {nx:Nat} (hSol:HSol H) (hW:CmAt H nB nC nR b) (hF:H nF=some ⟨.c 110,1,[[.fnp (.func 56) [.ptr nB 1 0 0,.ptr nC 1 0 0]]]⟩) (n1:nF≠nC) (n2:nF≠nR) (hl : ∀ v∈l.flatMap valsF,In b.length v) (hb:b.length≤1000) {K:D->Hp->Nat->Prop}
  (h : ∀ H' nx',CrI H nx nB nC nR (cmL b (l.flatMap valsF)) ⟨0,H',nx'⟩->K (.tup []) H' nx'):ICall Tryz.prog 57 [dL S (l.map eFrame),.one (.ptr nF 1 0 0)] H nx K:=by
 refine ICall.fresh (by kernel_rfl) fun hfr => ?_
 have p1:=fresh_lt hfr hW.is
 have p2:=fresh_lt hfr hW.cnt
 have p3:=fresh_lt hfr hW.row
 have p4:=fresh_lt hfr hF
 refine fni_ok [0,1,4,5,6,7,8,22] [] Tryz.func57 rfl (by kernel_rfl) rfl rfl rfl rfl (by kernel_rfl) ?_
 simp
 intro hlen
 refine loopH_ok (ks := [0,1,4,5,6,7,8,22]) (pl := []) (n0:=30) (α := {x:CrS//x.k≤l.length∧CrI H nx nB nC nR (cmL b ((l.take x.k).flatMap valsF)) x}) (fun x=>[(7,dI x.1.k)]) (fun _ x=>x.1.H) (fun x=>x.1.nx) (fun x=>l.length-x.1.k) ⟨⟨0,H,nx⟩,Nat.zero_le _,⟨Nat.le_refl _,by simpa [cmL_nil] using hW,fun _ _ _ _=>rfl,hSol⟩⟩ rfl (by kernel_rfl) (Wk.sub (by simp)) ?_
 rintro ⟨⟨k,H2,nx2⟩,hk,⟨hn,hA,hlow,hsol⟩⟩
 simp only at hk hn hA hlow hsol
 by_cases h1:k<l.length
 case neg =>
  simp [h1]
  obtain rfl:k=l.length:=by omega
  rw [List.take_length] at hA
  exact ⟨hsol,h _ _ ⟨hn,hA,hlow,hsol⟩⟩
 have hnext:cmL b ((l.take (k+1)).flatMap valsF)=cmL (cmL b ((l.take k).flatMap valsF)) (valsF l[k]):=by
  rw [List.take_succ_eq_append_getElem h1,List.flatMap_append,cmL_app];simp
 have hv : ∀ v∈valsF l[k],In b.length v:=fun v hv=>hl v (List.mem_flatMap.2 ⟨_,List.getElem_mem h1,hv⟩)
 have hlen2:=cmL_len ((l.take k).flatMap valsF) b
 obtain ⟨W,hWe⟩ : ∃ W,W=cmL b ((l.take k).flatMap valsF):=⟨_,rfl⟩
 rw [← hWe] at hA hnext hlen2
 rw [← hlen2] at hv
 obtain ⟨f,hfe⟩ : ∃ f,f=l[k]:=⟨_,rfl⟩
 have hF2:H2 nF=some ⟨.c 110,1,[[.fnp (.func 56) [.ptr nB 1 0 0,.ptr nC 1 0 0]]]⟩:=(hlow nF p4 n1 n2).trans hF
 have f0 : ¬ nF=nx2:=by omega
 have f1 : ¬ nF=nx2+1:=by omega
 simp [h1,hF2,f0,f1]
 simp only [← hfe] at hv hnext ⊢
 have q1:nB<nx2:=by omega
 have q2:nC<nx2:=by omega
 have q3:nR<nx2:=by omega
 have q4:nF<nx2:=by omega
 refine cm1_ic f.self W (nB:=nB) (nC:=nC) (nR:=nR) ?_ (Hp.set_same _ _ _) (hA.low ?_ ?_ ?_) (by omega) (by omega) (by omega) (hv f.self (by simp [valsF])) (by omega) fun H3 nx3 hI3 => ?_
 ·exact HSol.set (HSol.set hsol (by simp)) (by simp)
 ·rw [Hp.set_ne _ _ (by omega),Hp.set_ne _ _ (by omega)]
 ·rw [Hp.set_ne _ _ (by omega),Hp.set_ne _ _ (by omega)]
 ·rw [Hp.set_ne _ _ (by omega),Hp.set_ne _ _ (by omega)]
 obtain ⟨n3,A3,low3,sol3⟩:=hI3
 simp only at n3 A3 low3 sol3
 have b3:H3 nx2=some ⟨.c 100,8,[(eFrame f).map .d]⟩:=by rw [low3 nx2 (by omega) (by omega) (by omega),Hp.set_ne _ _ (by omega),Hp.set_ne _ _ (by omega),Hp.set_same];rfl
 have F3:H3 nF=some ⟨.c 110,1,[[.fnp (.func 56) [.ptr nB 1 0 0,.ptr nC 1 0 0]]]⟩:=by rw [low3 nF (by omega) n1 n2,Hp.set_ne _ _ (by omega),Hp.set_ne _ _ (by omega),Hp.set_ne _ _ (by omega)];exact hF2
 have len3:=cmB_len W f.self
 simp [b3,F3]
 refine cmD_ic true f.regs (cmB W f.self) sol3 A3 (fun v hv2=>by rw [len3];exact hv v (by simp [valsF,hv2])) (by omega) fun H4 nx4 hI4 => ?_
 obtain ⟨n4,A4,low4,sol4⟩:=hI4
 simp only at n4 A4 low4 sol4
 have b4:H4 nx2=some ⟨.c 100,8,[(eFrame f).map .d]⟩:=by rw [low4 nx2 (by omega) (by omega) (by omega)];exact b3
 have F4:H4 nF=some ⟨.c 110,1,[[.fnp (.func 56) [.ptr nB 1 0 0,.ptr nC 1 0 0]]]⟩:=by rw [low4 nF (by omega) n1 n2];exact F3
 have len4:=cmL_len f.regs (cmB W f.self)
 have low5 : ∀ i,i<nx->i≠nC->i≠nR->H4 i=H i:=fun i i0 i1 i2=>by
  rw [low4 i (by omega) i1 i2,low3 i (by omega) i1 i2,Hp.set_ne _ _ (by omega),Hp.set_ne _ _ (by omega),Hp.set_ne _ _ (by omega)]
  exact hlow i i0 i1 i2
 by_cases c1:0≤f.gen
 case neg =>
  have e:cmL W (valsF f)=cmL (cmB W f.self) f.regs:=by rw [valsF,if_neg c1,List.append_nil];rfl
  simp [b4,c1]
  exact ⟨⟨k+1,H4,nx4⟩,by simp only;omega,⟨by simp only;omega,⟨by simp only;omega,by rw [hnext,e];exact A4,low5,sol4⟩⟩,Wk.sub (by simp [wrap_add (show k<9223372036854775807 by omega)])⟩
 have e:cmL W (valsF f)=cmB (cmL (cmB W f.self) f.regs) ⟨5,f.gen⟩:=by rw [valsF,if_pos c1,cmL_app];rfl
 have g1 : ¬ nF=nx4:=by omega
 have g2 : ¬ nx2=nx4:=by omega
 simp [b4,F4,c1,g1,g2]
 refine cm1_ic ⟨5,f.gen⟩ (cmL (cmB W f.self) f.regs) (nB:=nB) (nC:=nC) (nR:=nR) (sol4.set (by simp)) (Hp.set_same _ _ _) (A4.low (Hp.set_ne _ _ (by omega)) (Hp.set_ne _ _ (by omega)) (Hp.set_ne _ _ (by omega))) (by omega) (by omega) (by omega) (by rw [len4,len3];exact hv _ (by simp [valsF,c1])) (by omega) fun H6 nx6 hI6 => ?_
 obtain ⟨n6,A6,low6,sol6⟩:=hI6
 simp only at n6 A6 low6 sol6
 simp
 exact ⟨⟨k+1,H6,nx6⟩,by simp only;omega,⟨by simp only;omega,⟨by simp only;omega,by rw [hnext,e];exact A6,fun i i0 i1 i2=>by
  dsimp only
  rw [low6 i (by omega) i1 i2,Hp.set_ne _ _ (by omega),Hp.set_ne _ _ (by omega)]
  exact low5 i i0 i1 i2,sol6⟩⟩,Wk.sub (by simp [wrap_add (show k<9223372036854775807 by omega)])⟩
structure RdI (s:GState) (b:List Bool):Prop where
 len:b.length=s.cells.length
 rch : ∀ n,b.getD n false=true->Got s n
def CloAtB (s:GState) (b:List Bool) (m:Nat):Prop:=((cellAt s m).kind≠7 -> ∀ v∈valsC (cellAt s m),v.kind=5->b.getD v.n.toNat false=true) ∧
 ((cellAt s m).kind=7 -> ∀ j,2*j+1<(cellAt s m).vals.length->b.getD (valAt (cellAt s m).vals (2*j)).n.toNat false=true->(valAt (cellAt s m).vals (2*j+1)).kind=5->b.getD (valAt (cellAt s m).vals (2*j+1)).n.toNat false=true)
def CloAllB (s:GState) (b:List Bool):Prop := ∀ m:Nat,m<s.cells.length->b.getD m false=true->CloAtB s b m
section
variable {s:GState} {b:List Bool}
theorem RdI.come (hb:RdI s b) {l:List GVal} (hl : ∀ v∈l,In s.cells.length v) (hr : ∀ v∈l,v.kind=5->Got s v.n.toNat):RdI s (cmL b l):=by
 refine ⟨(cmL_len l b).trans hb.len,fun n hn => ?_⟩
 rcases (cmL_at l b (by rw [hb.len];exact hl) n).1 hn with q | ⟨v,q1,q2,rfl⟩
 ·exact hb.rch n q
 ·exact hr v q1 q2
theorem RdI.seen (hb:RdI s b) (hg:GoodS s) (hr : ∀ v∈valsS s,v.kind=5->b.getD v.n.toNat false=true) (hc:CloAllB s b):SeenB s b:=by
 refine ⟨hb.len,fun n=>⟨hb.rch n,fun h => ?_⟩⟩
 induction h with
 | root hv hk=>exact hr _ hv hk
 | @kid m v hm h7 hv hk ih=>exact (hc m (Got.lt hg hm) ih).1 h7 v hv hk
 | @key m k hm h7 hl hk5 hkey ih1 ih2=>exact (hc m (Got.lt hg hm) ih1).2 h7 k hl ih2 hkey
theorem mono_cm {l:List GVal} (hl : ∀ v∈l,In b.length v) {n:Nat} (h:b.getD n false=true):(cmL b l).getD n false=true:=(cmL_at l b hl n).2 (.inl h)
end
structure RdAt (s:GState) (b:List Bool) (H:Hp) (nx:Nat):Prop where
 st:H 0=some ⟨.c 29,8,[(eState s).map .d]⟩
 fn:H 4=some ⟨.c 110,1,[[.fnp (.func 56) [.ptr 2 1 0 0,.ptr 3 1 0 0]]]⟩
 at_:CmAt H 2 3 1 b
 sol:HSol H
 nx:5≤nx
theorem RdAt.next {s:GState} {b b':List Bool} {H H':Hp} {nx nx':Nat} (h:RdAt s b H nx) (hI:CrI H nx 2 3 1 b' ⟨0,H',nx'⟩):RdAt s b' H' nx':=by
 have:=h.nx
 exact ⟨(hI.low 0 (by omega) (by omega) (by omega)).trans h.st,(hI.low 4 (by omega) (by omega) (by omega)).trans h.fn,hI.at_,hI.sol,by have:=hI.le;simp only at this;omega⟩
theorem RdAt.none {s:GState} {b:List Bool} {H:Hp} {nx i:Nat} (h:RdAt s b H nx) (hi:5≤i):RdAt s b (H.set i Option.none) nx :=
 ⟨(Hp.set_ne _ _ (by omega)).trans h.st,(Hp.set_ne _ _ (by omega)).trans h.fn,h.at_.low (Hp.set_ne _ _ (by omega)) (Hp.set_ne _ _ (by omega)) (Hp.set_ne _ _ (by omega)),HSol.none h.sol,h.nx⟩
theorem RdAt.set {s:GState} {b:List Bool} {H:Hp} {nx i:Nat} {x:Blk} (h:RdAt s b H nx) (hi:5≤i) (hx : ∀ e∈x.es, ∀ c∈e,C.solidC c=true):RdAt s b (H.set i (some x)) (nx+1) :=
 ⟨(Hp.set_ne _ _ (by omega)).trans h.st,(Hp.set_ne _ _ (by omega)).trans h.fn,h.at_.low (Hp.set_ne _ _ (by omega)) (Hp.set_ne _ _ (by omega)) (Hp.set_ne _ _ (by omega)),HSol.set h.sol hx,by have:=h.nx;omega⟩
theorem RdAt.one {s:GState} {b:List Bool} {H:Hp} {nx:Nat} (h:RdAt s b H nx) {m:Nat} (hm:5≤m) (v:GVal) (hA:H m=some ⟨.c 31,2,[[.d (eI v.kind),.d (eI v.n)]]⟩) (hl:In b.length v) (hb:b.length≤1000) {K:D->Hp->Nat->Prop}
  (hK : ∀ H' nx',nx≤nx'->(∀ i,i<nx->5≤i->i≠m->H' i=H i)->RdAt s (cmB b v) H' nx'->K (.tup []) H' nx'):ICall Tryz.prog 56 [.one (.own m 2 1),.one (.ptr 2 1 0 0),.one (.ptr 3 1 0 0)] H nx K :=
 cm1_ic v b h.sol hA h.at_ (by omega) (by omega) (by omega) hl hb fun H' nx' hI=>hK H' nx' (by have:=hI.le;simpa using this) (fun i i0 i1 i2=>(hI.low i i0 (by omega) (by omega)).trans (Hp.set_ne _ _ i2)) ((h.none hm).next hI)
theorem RdAt.many {s:GState} {b:List Bool} {H:Hp} {nx:Nat} (h:RdAt s b H nx) (l:List GVal) (hl : ∀ v∈l,In b.length v) (hb:b.length≤1000) {K:D->Hp->Nat->Prop}
  (hK : ∀ H' nx',nx≤nx'->(∀ i,i<nx->5≤i->H' i=H i)->RdAt s (cmL b l) H' nx'->K (.tup []) H' nx'):ICall Tryz.prog 56 [dL true (l.map eVal),.one (.ptr 2 1 0 0),.one (.ptr 3 1 0 0)] H nx K :=
 cmD_ic true l b h.sol h.at_ hl hb fun H' nx' hI=>hK H' nx' (by have:=hI.le;simpa using this) (fun i i0 i1=>hI.low i i0 (by omega) (by omega)) (h.next hI)
theorem RdAt.frames {s:GState} {b:List Bool} {H:Hp} {nx:Nat} (h:RdAt s b H nx) (l:List GFrame) (hl : ∀ v∈l.flatMap valsF,In b.length v) (hb:b.length≤1000) {K:D->Hp->Nat->Prop}
  (hK : ∀ H' nx',nx≤nx'->(∀ i,i<nx->5≤i->H' i=H i)->RdAt s (cmL b (l.flatMap valsF)) H' nx'->K (.tup []) H' nx'):ICall Tryz.prog 57 [dL true (l.map eFrame),.one (.ptr 4 1 0 0)] H nx K :=
 fmD_ic true l b h.sol h.at_ h.fn (by omega) (by omega) hl hb fun H' nx' hI=>hK H' nx' (by have:=hI.le;simpa using this) (fun i i0 i1=>hI.low i i0 (by omega) (by omega)) (h.next hI)
structure RdS where
 k:Nat
 b:List Bool
 w:Int
 H:Hp
 nx:Nat
def PairAt (s:GState) (b:List Bool) (m j:Nat):Prop:=b.getD (valAt (cellAt s m).vals (2*j)).n.toNat false=true->(valAt (cellAt s m).vals (2*j+1)).kind=5->b.getD (valAt (cellAt s m).vals (2*j+1)).n.toNat false=true
structure RdR (s:GState) (B b:List Bool) (Q:Prop):Prop where
 i:RdI s b
 le:B.count true≤b.count true
 eq:b.count true=B.count true->b=B∧Q
 root : ∀ v∈valsS s,v.kind=5->b.getD v.n.toNat false=true
section
variable {s:GState} {B b:List Bool} {Q Q':Prop}
theorem RdR.mono (h:RdR s B b Q) (hq:b=B->Q->Q'):RdR s B b Q':=⟨h.i,h.le,fun e=>⟨(h.eq e).1,hq (h.eq e).1 (h.eq e).2⟩,h.root⟩
theorem RdR.come (h:RdR s B b Q) (hg:GoodS s) {l:List GVal} (hl : ∀ v∈l,In s.cells.length v) (hr : ∀ v∈l,v.kind=5->Got s v.n.toNat) (hq:b=B->Q->(∀ v∈l,v.kind=5->B.getD v.n.toNat false=true)->Q'):RdR s B (cmL b l) Q':=by
 have hl' : ∀ v∈l,In b.length v:=by rw [h.i.len];exact hl
 have hc:=cmL_cnt l b hl'
 refine ⟨h.i.come hl hr,?_,fun e => ?_,fun v hv hk=>mono_cm hl' (h.root v hv hk)⟩
 ·rcases hc with hc | hc
  ·rw [hc];exact h.le
  ·have:=h.le;omega
 ·have hc':cmL b l=b:=by
   rcases hc with hc | hc
   ·exact hc
   ·have:=h.le;omega
  rw [hc'] at e
  obtain ⟨e1,e2⟩:=h.eq e
  refine ⟨hc'.trans e1,hq e1 e2 fun v hv hk => ?_⟩
  rw [← e1, ← hc']
  exact (cmL_at l b hl' v.n.toNat).2 (.inr ⟨v,hv,hk,rfl⟩)
end
def endsV (s:GState) (k:Nat):List GVal:=(s.ends.take k).map (·.fn)
theorem cell_nat {s:GState} {k:Nat} (h:k<s.cells.length):cellAt s k=s.cells[k]:=by
 simp [cellAt,List.getD_eq_getElem?_getD,h]
theorem reachedIn_ok (s:GState) (hg:GoodS s) (hs:s.cells.length≤1000) {K:D->List Blk->Prop} (h : ∀ b,SeenB s b->K (dL true (b.map fun x=>[eB x])) []):DPure Tryz.prog 19 [aD (eState s)] K:=by
 refine DPure.ofI ?_
 refine fni_ok [0,1,2,3,4,5,6,8,10,11,12,13,14,22,23,24,25,39,48,49,50,51,62,65,66,67,68,76,79,93,104] [(31,[0,0,2,0,14,30,62,127,255],(.seg 0 (.seg 1 (.seg 2 (.seg 3 (.seg 4 (.seg 5 (.seg 6 (.seg 7 (.seg 8 .last)))))))))),(32,[0,0,2,0,8,30,62,126,255],(.seg 0 (.seg 1 (.seg 2 (.seg 3 (.seg 4 (.seg 5 (.seg 6 (.eff 7 [0] (.eff 8 [] .last))))))))))] Tryz.func19 rfl (by kernel_rfl) rfl rfl rfl rfl (by kernel_rfl) ?_
 simp
 intro _
 refine ⟨by omega,fun hlT => ?_⟩
 generalize hH0:Hp.set _ _ _=H0
 obtain ⟨B0,hB0⟩ : ∃ B0,B0=List.replicate s.cells.length false:=⟨_,rfl⟩
 have hA0:RdAt s B0 H0 5:=by
  rw [← hH0,hB0]
  refine ⟨rfl,rfl,⟨?_,?_,?_,by omega,by omega,by omega⟩,?_,Nat.le_refl _⟩
  ·simp [Hp.set]
  ·simp [Hp.set,List.count_replicate]
  ·simp [Hp.set,boolRows]
  ·refine HSol.set (HSol.set (HSol.set (HSol.set (HSol.set HSol.zero (by simp)) ?_) (by simp)) (by simp)) ?_
   ·intro e he c hc
    rw [List.eq_of_mem_replicate he] at hc
    simp at hc
    subst hc;rfl
   ·intro e he c hc
    simp at he
    subst he
    simp at hc
    subst hc;rfl
 have hI0:RdI s B0:=⟨by rw [hB0];simp,fun n hn=>by rw [hB0,List.getD_eq_getElem?_getD] at hn;by_cases q:n<s.cells.length <;> simp [List.getElem?_replicate,q] at hn⟩
 clear hH0 hB0
 refine loopH_ok (ks := [0,1,2,3,4,5,6,8,10,11,12,13,14,22,23,24,25,39,48,49,50,51,62,65,66,67,68,76,79,93,104]) (pl := [(31,[0,0,2,0,14,30,62,127,255],(.seg 0 (.seg 1 (.seg 2 (.seg 3 (.seg 4 (.seg 5 (.seg 6 (.seg 7 (.seg 8 .last)))))))))),(32,[0,0,2,0,8,30,62,126,255],(.seg 0 (.seg 1 (.seg 2 (.seg 3 (.seg 4 (.seg 5 (.seg 6 (.eff 7 [0] (.eff 8 [] .last))))))))))]) (n0:=116) (α := {x:RdS//x.k≤s.threads.length∧x.b=cmL B0 ((s.threads.take x.k).flatMap valsT)∧RdAt s x.b x.H x.nx}) (fun x=>[(24,dI x.1.k)]) (fun _ x=>x.1.H) (fun x=>x.1.nx) (fun x=>s.threads.length-x.1.k) ⟨⟨0,B0,0,H0,5⟩,Nat.zero_le _,rfl,hA0⟩ rfl (by kernel_rfl) (Wk.sub (by simp)) ?_
 rintro ⟨⟨k,b, -, H,nx⟩,hk,hb,hA⟩
 simp only at hk hb hA
 have hbl:b.length=s.cells.length:=by rw [hb,cmL_len,hI0.len]
 by_cases h1:k<s.threads.length
 case pos =>
  have hnext:cmL B0 ((s.threads.take (k+1)).flatMap valsT)=cmL b (valsT s.threads[k]):=by
   rw [List.take_succ_eq_append_getElem h1,List.flatMap_append,cmL_app,hb];simp
  have hv : ∀ v∈valsT s.threads[k],In b.length v:=fun v hv=>by
   rw [hbl];exact hg.root v (List.mem_append_left _ (List.mem_flatMap.2 ⟨_,List.getElem_mem h1,hv⟩))
  obtain ⟨t,ht⟩ : ∃ t,t=s.threads[k]:=⟨_,rfl⟩
  have hn5:=hA.nx
  simp [h1]
  simp only [← ht] at hnext hv ⊢
  refine (hA.set (i:=nx) hn5 ?_).frames t.frames (fun v hv2=>hv v (List.mem_append_left _ hv2)) (by omega) fun H3 nx3 n3 low3 A3 => ?_
  ·simp
  have b3:=(low3 nx (by omega) hn5).trans (Hp.set_same _ _ _)
  have f3 : ¬ nx=nx3:=by omega
  have f4 : ¬ 4=nx3:=by omega
  have len3:=cmL_len (t.frames.flatMap valsF) b
  simp [A3.fn,b3]
  refine (A3.set (i:=nx3) (by omega) ?_).one (m:=nx3) (by omega) t.val (Hp.set_same _ _ _) (by rw [len3];exact hv _ (List.mem_append_right _ (by simp))) (by omega) fun H4 nx4 n4 low4 A4 => ?_
  ·simp
  have b4:=(low4 nx (by omega) hn5 (by omega)).trans ((Hp.set_ne _ _ (by omega)).trans b3)
  have len4:=cmB_len (cmL b (t.frames.flatMap valsF)) t.val
  by_cases c1:t.state=1
  ·have e:cmL b (valsT t)=cmB (cmB (cmL b (t.frames.flatMap valsF)) t.val) ⟨5,t.on⟩:=by rw [valsT,if_pos c1,cmL_app];rfl
   simp [A4.fn,b4,c1]
   refine (A4.set (i:=nx4) (by omega) ?_).one (m:=nx4) (by omega) ⟨5,t.on⟩ (Hp.set_same _ _ _) (by rw [len4,len3];exact hv _ (List.mem_append_right _ (by simp [c1]))) (by omega) fun H5 nx5 n5 low5 A5 => ?_
   ·simp
   rw [← e, ← hnext] at A5
   simp
   exact ⟨⟨k+1,_,0,H5,nx5⟩,by simp only;omega,⟨by simp only;omega,rfl,A5⟩,Wk.sub (by simp [wrap_add (show k<9223372036854775807 by omega)])⟩
  ·have e:cmL b (valsT t)=cmB (cmL b (t.frames.flatMap valsF)) t.val:=by rw [valsT,if_neg c1,cmL_app];rfl
   rw [← e, ← hnext] at A4
   simp [b4,c1]
   exact ⟨⟨k+1,_,0,H4,nx4⟩,by simp only;omega,⟨by simp only;omega,rfl,A4⟩,Wk.sub (by simp [wrap_add (show k<9223372036854775807 by omega)])⟩
 obtain rfl:k=s.threads.length:=by omega
 rw [List.take_length] at hb
 simp [hA.st]
 intro hlE
 refine loopH_ok (ks := [0,1,2,3,4,5,6,8,10,11,12,13,14,22,23,24,25,39,48,49,50,51,62,65,66,67,68,76,79,93,104]) (pl := [(31,[0,0,2,0,14,30,62,127,255],(.seg 0 (.seg 1 (.seg 2 (.seg 3 (.seg 4 (.seg 5 (.seg 6 (.seg 7 (.seg 8 .last)))))))))),(32,[0,0,2,0,8,30,62,126,255],(.seg 0 (.seg 1 (.seg 2 (.seg 3 (.seg 4 (.seg 5 (.seg 6 (.eff 7 [0] (.eff 8 [] .last))))))))))]) (n0:=116) (α := {x:RdS//x.k≤s.ends.length∧x.b=cmL b (endsV s x.k)∧RdAt s x.b x.H x.nx}) (fun x=>[(50,dI x.1.k)]) (fun _ x=>x.1.H) (fun x=>x.1.nx) (fun x=>s.ends.length-x.1.k) ⟨⟨0,b,0,H,nx⟩,Nat.zero_le _,rfl,hA⟩ rfl (by kernel_rfl) (Wk.sub (by simp)) ?_
 rintro ⟨⟨k,b2, -, H2,nx2⟩,hk2,hb2,hA2⟩
 simp only at hk2 hb2 hA2
 have hbl2:b2.length=s.cells.length:=by rw [hb2,cmL_len,hbl]
 by_cases h2:k<s.ends.length
 case pos =>
  have hnext:cmL b (endsV s (k+1))=cmB b2 s.ends[k].fn:=by
   unfold endsV at hb2 ⊢
   rw [List.take_succ_eq_append_getElem h2,List.map_append,cmL_app,hb2];rfl
  have hv:In b2.length s.ends[k].fn:=by
   rw [hbl2];exact hg.root _ (List.mem_append_right _ (List.mem_map.2 ⟨_,List.getElem_mem h2,rfl⟩))
  obtain ⟨t,ht⟩ : ∃ t,t=s.ends[k]:=⟨_,rfl⟩
  have hn5:=hA2.nx
  have f4 : ¬ 4=nx2:=by omega
  simp [h2,hA2.fn,f4]
  simp only [← ht] at hnext hv ⊢
  refine ((hA2.set (i:=nx2) hn5 ?_).set (i:=nx2+1) (by omega) ?_).one (m:=nx2+1) (by omega) t.fn (Hp.set_same _ _ _) hv (by omega) fun H3 nx3 n3 low3 A3 => ?_
  ·simp
  ·simp
  rw [← hnext] at A3
  simp
  exact ⟨⟨k+1,_,0,H3,nx3⟩,by simp only;omega,⟨by simp only;omega,rfl,A3⟩,Wk.sub (by simp [wrap_add (show k<9223372036854775807 by omega)])⟩
 obtain rfl:k=s.ends.length:=by omega
 unfold endsV at hb2
 rw [List.take_length] at hb2
 have hroots:b2=cmL B0 (valsS s):=by rw [hb2,hb, ← cmL_app];rfl
 have hin0 : ∀ v∈valsS s,In B0.length v:=by rw [hI0.len];exact hg.root
 have hI2:RdI s b2:=by rw [hroots];exact hI0.come hg.root fun v hv hk=>Got.root hv hk
 have hR2 : ∀ v∈valsS s,v.kind=5->b2.getD v.n.toNat false=true:=fun v hv hk=>by rw [hroots];exact (cmL_at _ B0 hin0 _).2 (.inr ⟨v,hv,hk,rfl⟩)
 simp
 refine loopH_ok (ks := [0,1,2,3,4,5,6,8,10,11,12,13,14,22,23,24,25,39,48,49,50,51,62,65,66,67,68,76,79,93,104]) (pl := [(31,[0,0,2,0,14,30,62,127,255],(.seg 0 (.seg 1 (.seg 2 (.seg 3 (.seg 4 (.seg 5 (.seg 6 (.seg 7 (.seg 8 .last)))))))))),(32,[0,0,2,0,8,30,62,126,255],(.seg 0 (.seg 1 (.seg 2 (.seg 3 (.seg 4 (.seg 5 (.seg 6 (.eff 7 [0] (.eff 8 [] .last))))))))))]) (n0:=116) (α := {x:RdS//RdI s x.b∧(∀ v∈valsS s,v.kind=5->x.b.getD v.n.toNat false=true)∧(x.w=(x.b.count true:Nat)->CloAllB s x.b)∧RdAt s x.b x.H x.nx}) (fun x=>[(11,dI x.1.w)]) (fun _ x=>x.1.H) (fun x=>x.1.nx) (fun x=>2*(s.cells.length-x.1.b.count true)+if x.1.w=(x.1.b.count true:Nat) then 0 else 1) ⟨⟨0,b2, -1,H2,nx2⟩,hI2,hR2,fun e=>by simp only at e;omega,hA2⟩ rfl (by kernel_rfl) (Wk.sub (by simp)) ?_
 clear hI2 hR2 hA2
 rintro ⟨⟨-, B,w,H,nx⟩,hI,hR,hC,hA⟩
 simp only at hI hR hC hA
 have hcl:B.count true≤s.cells.length:=by rw [← hI.len];exact List.count_le_length
 by_cases c1:w=(B.count true:Nat)
 ·have hS:=hI.seen hg hR (hC c1)
  simp [hA.at_.cnt,hA.at_.is,c1]
  refine ⟨hA.sol,dL true (B.map fun x=>[eB x]),⟨_,rfl,Shw.row trivial hA.at_.row rfl (by simp) (by simp [boolRows,List.take_of_length_le]) (fun e he=>by obtain ⟨x, -, rfl⟩:=List.mem_map.1 he;rfl) (fun e he d hd=>by obtain ⟨x, -, rfl⟩:=List.mem_map.1 he;simp at hd;subst hd;rfl)⟩,h B hS⟩
 have hn5:=hA.nx
 simp [hA.at_.cnt,hA.st,c1]
 intro hlC
 refine loopH_ok (ks := [0,1,2,3,4,5,6,8,10,11,12,13,14,22,23,24,25,39,48,49,50,51,62,65,66,67,68,76,79,93,104]) (pl := [(31,[0,0,2,0,14,30,62,127,255],(.seg 0 (.seg 1 (.seg 2 (.seg 3 (.seg 4 (.seg 5 (.seg 6 (.seg 7 (.seg 8 .last)))))))))),(32,[0,0,2,0,8,30,62,126,255],(.seg 0 (.seg 1 (.seg 2 (.seg 3 (.seg 4 (.seg 5 (.seg 6 (.eff 7 [0] (.eff 8 [] .last))))))))))]) (n0:=116) (α := {x:RdS//x.k≤s.cells.length∧RdR s B x.b (∀ m:Nat,m<x.k->B.getD m false=true->CloAtB s B m)∧RdAt s x.b x.H x.nx}) (fun x=>[(67,dI x.1.k)]) (fun _ x=>x.1.H) (fun x=>x.1.nx) (fun x=>s.cells.length-x.1.k) ⟨⟨0,B,0,H,nx⟩,Nat.zero_le _,⟨hI,Nat.le_refl _,fun _=>⟨rfl,fun m hm=>absurd hm (Nat.not_lt_zero _)⟩,hR⟩,hA⟩ rfl (by kernel_rfl) (Wk.sub (by simp)) ?_
 rintro ⟨⟨k,b, -, H,nx⟩,hk,hr,hA⟩
 simp only at hk hr hA
 have hbl:=hr.i.len
 have hn5:=hA.nx
 by_cases h3:k<s.cells.length
 case neg =>
  obtain rfl:k=s.cells.length:=by omega
  simp
  have hcl2:b.count true≤s.cells.length:=by rw [← hbl];exact List.count_le_length
  have hle:=hr.le
  refine ⟨⟨0,b,(B.count true:Nat),H,nx⟩,⟨⟨hr.i,hr.root,fun e => ?_,hA⟩,?_⟩,Wk.sub (by simp)⟩
  ·simp only at e ⊢
   obtain ⟨e1,e2⟩:=hr.eq (by omega)
   rw [e1]
   exact fun m hm=>e2 m hm
  ·show 2*(s.cells.length-b.count true)+(if ((B.count true:Nat):Int)=(b.count true:Nat) then 0 else 1)<2*(s.cells.length-B.count true)+(if w=(B.count true:Nat) then 0 else 1)
   rw [if_neg c1]
   by_cases e:b.count true=B.count true
   ·rw [if_pos (by omega),e];omega
   ·rw [if_neg (by omega)];omega
 have hck:=cell_nat h3
 obtain ⟨c,hc⟩ : ∃ c,c=s.cells[k]:=⟨_,rfl⟩
 have hkid:=hg.kid k h3
 have hwk:=hg.weak k h3
 have hvl:=hg.vl k h3
 rw [hck, ← hc] at hkid hwk hvl
 have hkb:k<b.length:=by omega
 have g1:(boolRows b)[k]? = some [.d (eB b[k])]:=by rw [boolRows,List.getElem?_map,List.getElem?_eq_getElem hkb];rfl
 have g2:b.getD k false=b[k]:=by simp [List.getD_eq_getElem?_getD,hkb]
 obtain ⟨g4,g5⟩:=List.getElem?_eq_some_iff.1 g1
 have e0 : ¬ 0=nx:=by omega
 have e1 : ¬ 1=nx:=by omega
 have e2 : ¬ 2=nx:=by omega
 have e4 : ¬ 4=nx:=by omega
 have stepQ : ∀ {b':List Bool}, RdR s B b' ((∀ m:Nat,m<k->B.getD m false=true->CloAtB s B m)∧(B.getD k false=true->CloAtB s B k))->RdR s B b' (∀ m:Nat,m<k+1->B.getD m false=true->CloAtB s B m):=fun h=>h.mono fun _ hq m hm=>by
  by_cases e:m=k
  ·subst e;exact hq.2
  ·exact hq.1 m (by omega)
 have hA1:=hA.set (i:=nx) (x:=⟨.c 75,4,[(eCell c).map .d]⟩) hn5 (by simp)
 cases c2:b[k] with
 | false =>
  rw [c2] at g1 g2 g5
  simp [h3, ← hc,hA.at_.is,hA.at_.row,e2,e1,hkb,g1,g4,g5]
  refine ⟨⟨k+1,b,0,_,nx+1⟩,by simp only;omega,⟨by simp only;omega,stepQ (hr.mono fun e hq=>⟨hq,fun hB => ?_⟩),hA1⟩,Wk.sub (by simp [wrap_add (show k<9223372036854775807 by omega)])⟩
  rw [← e,g2] at hB
  cases hB
 | true =>
  rw [c2] at g1 g2 g5
  have hgot:=hr.i.rch k g2
  by_cases c7:c.kind=7
  case neg =>
   simp [h3, ← hc,hA.at_.is,hA.at_.row,hA.fn,e2,e1,e4,hkb,g1,g4,g5,c7]
   refine hA1.many c.vals (fun v hv=>by rw [hbl];exact hkid v (List.mem_append_left _ hv)) (by omega) fun H3 nx3 n3 low3 A3 => ?_
   have b3:=(low3 nx (by omega) hn5).trans (Hp.set_same _ _ _)
   have len3:=cmL_len c.vals b
   simp [b3]
   refine A3.frames c.frames (fun v hv=>by rw [len3,hbl];exact hkid v (List.mem_append_right _ hv)) (by omega) fun H4 nx4 n4 low4 A4 => ?_
   rw [← cmL_app] at A4
   simp
   refine ⟨⟨k+1,cmL b (valsC c),0,H4,nx4⟩,by simp only;omega,⟨by simp only;omega,stepQ (hr.come hg hkid (fun v hv hk5 => ?_) fun e hq hall=>⟨hq,fun _ => ?_⟩),A4⟩,Wk.sub (by simp [wrap_add (show k<9223372036854775807 by omega)])⟩
   ·have:=Got.kid (s:=s) (m:=k) (v:=v) hgot (by rw [hck, ← hc];exact c7) (by rw [hck, ← hc];exact hv) hk5
    exact this
   ·unfold CloAtB
    rw [hck, ← hc]
    exact ⟨fun _=>hall,fun e=>absurd e c7⟩
  obtain ⟨w1,w2⟩:=hwk c7
  have hA7:=hA.set (i:=nx) (x:=⟨.c 75,4,[[.d (eI 7),.d (eI c.num),.d (.sl true (c.vals.map eVal)),.d (.sl true (c.frames.map eFrame))]]⟩) hn5 (by simp)
  simp [h3, ← hc,hA.at_.is,hA.at_.row,hA.fn,e2,e1,e4,hkb,g1,g4,g5,c7]
  refine loopH_ok (ks := [0,1,2,3,4,5,6,8,10,11,12,13,14,22,23,24,25,39,48,49,50,51,62,65,66,67,68,76,79,93,104]) (pl := [(31,[0,0,2,0,14,30,62,127,255],(.seg 0 (.seg 1 (.seg 2 (.seg 3 (.seg 4 (.seg 5 (.seg 6 (.seg 7 (.seg 8 .last)))))))))),(32,[0,0,2,0,8,30,62,126,255],(.seg 0 (.seg 1 (.seg 2 (.seg 3 (.seg 4 (.seg 5 (.seg 6 (.eff 7 [0] (.eff 8 [] .last))))))))))]) (n0:=116) (α := {x:RdS//x.k%2=0∧x.k≤c.vals.length∧RdR s B x.b ((∀ m:Nat,m<k->B.getD m false=true->CloAtB s B m) ∧ ∀ j,2*j<x.k->PairAt s B k j)∧x.b.getD k false=true∧RdAt s x.b x.H x.nx∧nx<x.nx∧x.H nx=some ⟨.c 75,4,[[.d (eI 7),.d (eI c.num),.d (.sl true (c.vals.map eVal)),.d (.sl true (c.frames.map eFrame))]]⟩}) (fun x=>[(14,dI x.1.k)]) (fun _ x=>x.1.H) (fun x=>x.1.nx) (fun x=>c.vals.length-x.1.k) ⟨⟨0,b,0,H.set nx (some ⟨.c 75,4,[[.d (eI 7),.d (eI c.num),.d (.sl true (c.vals.map eVal)),.d (.sl true (c.frames.map eFrame))]]⟩),nx+1⟩,rfl,Nat.zero_le _,hr.mono fun _ hq=>⟨hq,fun j hj=>absurd hj (Nat.not_lt_zero _)⟩,g2,hA7,by simp only;omega,Hp.set_same _ _ _⟩ rfl (by kernel_rfl) (Wk.sub (by simp)) ?_
  rintro ⟨⟨kk,b3, -, H3,nx3⟩,hk0,hkl,hr3,hbk,hA3,hlt,hcel⟩
  simp only at hk0 hkl hr3 hbk hA3 hlt hcel
  have hn53:=hA3.nx
  have hbl3:=hr3.i.len
  have wk:IntKind.i64.wrap ((kk:Int)+1)=((kk+1:Nat):Int):=by rw [wrap_id (by omega) (by omega)];omega
  obtain ⟨k1,hk1⟩ : ∃ k1,k1=kk+1:=⟨_,rfl⟩
  rw [← hk1] at wk
  by_cases h8:k1<c.vals.length
  case neg =>
   simp [hcel,wk,h8]
   intro _
   refine ⟨⟨k+1,b3,0,H3,nx3⟩,by simp only;omega,⟨by simp only;omega,stepQ (hr3.mono fun e hq=>⟨hq.1,fun hB => ?_⟩),hA3⟩,Wk.sub (by simp [wrap_add (show k<9223372036854775807 by omega)])⟩
   unfold CloAtB
   rw [hck, ← hc]
   refine ⟨fun e=>absurd c7 e,fun _ j hj => ?_⟩
   have:=hq.2 j (by omega)
   unfold PairAt at this
   rw [hck, ← hc] at this
   exact this
  obtain ⟨j,rfl⟩ : ∃ j,kk=2*j:=⟨kk/2,by omega⟩
  obtain ⟨kk,hkk⟩ : ∃ kk,kk=2*j:=⟨_,rfl⟩
  rw [← hkk] at wk hk1 hkl hk0
  simp only [← hkk]
  have hkv:kk<c.vals.length:=by omega
  have vk:valAt c.vals (2*j)=c.vals[kk]:=by rw [← hkk];simp [valAt,List.getD_eq_getElem?_getD,hkv]
  have vv:valAt c.vals (2*j+1)=c.vals[k1]:=by rw [← hkk, ← hk1];simp [valAt,List.getD_eq_getElem?_getD,h8]
  have hkey:=w2 j (by omega)
  rw [vk] at hkey
  have hin:=hkid c.vals[kk] (List.mem_append_left _ (List.getElem_mem hkv))
  have hinv:=hkid c.vals[k1] (List.mem_append_left _ (List.getElem_mem h8))
  obtain ⟨y0,y1⟩:=hin hkey
  obtain ⟨q,hq⟩ : ∃ q:Nat,c.vals[kk].n=q:=⟨c.vals[kk].n.toNat,by omega⟩
  have hqb:q<b3.length:=by omega
  have g6:(boolRows b3)[q]? = some [.d (eB b3[q])]:=by rw [boolRows,List.getElem?_map,List.getElem?_eq_getElem hqb];rfl
  have g7:b3.getD q false=b3[q]:=by simp [List.getD_eq_getElem?_getD,hqb]
  obtain ⟨g8,g9⟩:=List.getElem?_eq_some_iff.1 g6
  have wk2:IntKind.i64.wrap ((kk:Int)+2)=((kk+2:Nat):Int):=by rw [wrap_id (by omega) (by omega)];omega
  obtain ⟨k2,hk2'⟩ : ∃ k2,k2=kk+2:=⟨_,rfl⟩
  rw [← hk2'] at wk2
  have pairQ : ∀ {b':List Bool}, RdR s B b' (((∀ m:Nat,m<k->B.getD m false=true->CloAtB s B m) ∧ ∀ i,2*i<2*j->PairAt s B k i)∧PairAt s B k j)->RdR s B b' ((∀ m:Nat,m<k->B.getD m false=true->CloAtB s B m) ∧ ∀ i,2*i<k2->PairAt s B k i):=fun h=>h.mono fun _ hh=>⟨hh.1.1,fun i hi=>by
   by_cases e:i=j
   ·subst e;exact hh.2
   ·exact hh.1.2 i (by omega)⟩
  cases c3:b3[q] with
  | false =>
   rw [c3] at g6 g7 g9
   simp [hcel,wk,wk2,h8,hkv,hq,hA3.at_.is,hA3.at_.row,hqb,g6,g8,g9]
   intro _
   refine ⟨⟨k2,b3,0,H3,nx3⟩,by simp only;omega,⟨by simp only;omega,by simp only;omega,pairQ (hr3.mono fun e hh=>⟨hh,fun hB => ?_⟩),hbk,hA3,hlt,hcel⟩,Wk.sub (by simp)⟩
   rw [hck, ← hc,vk,hq,Int.toNat_natCast, ← e,g7] at hB
   cases hB
  | true =>
   rw [c3] at g6 g7 g9
   simp [hcel,wk,wk2,h8,hkv,hq,hA3.at_.is,hA3.at_.row,hA3.fn,hqb,g6,g8,g9]
   intro _
   have hgv:c.vals[k1].kind=5->Got s c.vals[k1].n.toNat:=fun h5=>by
    have:=Got.key (s:=s) (m:=k) (k:=j) hgot (by rw [hck, ← hc];exact c7) (by rw [hck, ← hc];omega) (by rw [hck, ← hc,vk,hq,Int.toNat_natCast];exact hr3.i.rch q g7) (by rw [hck, ← hc,vv];exact h5)
    rw [hck, ← hc,vv] at this
    exact this
   have hinb : ∀ v ∈ [c.vals[k1]],In b3.length v:=by rw [hbl3];simpa using hinv
   refine (hA3.set (i:=nx3) hn53 ?_).one (m:=nx3) hn53 c.vals[k1] (Hp.set_same _ _ _) (by rw [hbl3];exact hinv) (by omega) fun H4 nx4 n4 low4 A4 => ?_
   ·simp
   simp [wk2]
   refine ⟨⟨k2,cmL b3 [c.vals[k1]],0,H4,nx4⟩,by simp only;omega,⟨by simp only;omega,by simp only;omega,pairQ (hr3.come hg (l := [c.vals[k1]]) (by simpa using hinv) (by simpa using hgv) fun e hh hall=>⟨hh,fun _ h5 => ?_⟩),mono_cm hinb hbk,A4,by simp only;omega,?_⟩,Wk.sub (by simp)⟩
   ·rw [hck, ← hc,vv] at h5 ⊢
    exact hall _ (by simp) h5
   ·simp only
    rw [low4 nx (by omega) hn5 (by omega),Hp.set_ne _ _ (by omega)]
    exact hcel
end Go.Proofs.YtbphdcffpobcbaaGreatDoor
