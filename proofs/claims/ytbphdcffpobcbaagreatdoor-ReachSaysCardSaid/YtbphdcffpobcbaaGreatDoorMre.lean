/- Several texts in one. -/
import Derived.Lib.ReflectliteSwap
import Derived.Lib.SmallJoins
import Derived.Deep.Heap
import Derived.Laws.Externs
import Derived.Shelf.GgSortFunc.Small
import Derived.Shelf.GgSortMore.Stable
import Derived.Test.YtbphdcffpobcbaaGreatDoorProg
import Derived.Test.YtbphdcffpobcbaaGreatDoorMrd
set_option linter.unusedSimpArgs false
set_option linter.unusedVariables false
set_option linter.unusedSectionVars false
set_option maxRecDepth 100000
set_option maxHeartbeats 16000000
namespace Go.Proofs.YtbphdcffpobcbaaGreatDoor
open Go.RowKit Go
open Go.Sort
@[simp] theorem fld184_0:fldOf Tryz.prog 184 0=some (0,1):=by kernel_rfl
@[simp] theorem fld184_1:fldOf Tryz.prog 184 1=some (1,1):=by kernel_rfl
@[simp] theorem row113:rowT Tryz.prog 113=some false:=by kernel_rfl
@[simp] theorem row180:rowT Tryz.prog 180=some false:=by kernel_rfl
@[simp] theorem row184:rowT Tryz.prog 184=some true:=by kernel_rfl
@[simp] theorem sz184:szOf Tryz.prog 184=some 2:=by kernel_rfl
section
variable {α:Type} [Inhabited α]
theorem RowAt.trans {enc:α->Int} {H0 H H':Hp} {nx0 nx nx' v:Nat} {d d':Array α} (h:RowAt enc H0 nx0 v d H nx) (h':RowAt enc H nx v d' H' nx'):RowAt enc H0 nx0 v d' H' nx' :=
 ⟨h'.row,Nat.le_trans h.nx h'.nx,fun i hi hn=>(h'.low i (by have:=h.nx;omega) hn).trans (h.low i hi hn),h'.sol⟩
theorem RowAt.box {enc:α->Int} {H H':Hp} {nx nx' v:Nat} {d':Array α} {b:Option Blk} (h':RowAt enc (H.set nx b) (nx+1) v d' H' nx'):RowAt enc H nx v d' H' nx' :=
 ⟨h'.row,by have:=h'.nx;omega,fun i hi hn=>(h'.low i (by omega) hn).trans (Hp.set_ne _ _ (by omega)),h'.sol⟩
def lsC (g:FuncId) (cs:List Cap) (v l:Nat) (hd:Value):List C := [.fnp (.func g) cs,.fnp (.func 166) [.own v 1 l,.d (.lit hd)]]
theorem RowAt.start {enc:α->Int} {H0 H:Hp} {nx0 nx v l:Nat} {d:Array α} {g:FuncId} {cs:List Cap} {hd:Value} (h:RowAt enc H0 nx0 v d H nx) (hv:v<nx0) (hs:cs.all Cap.solid=true) (t:BT) (n:Nat):RowAt enc (H.set nx (some ⟨t,n,[lsC g cs v l hd]⟩)) (nx+1) v d (H.set nx (some ⟨t,n,[lsC g cs v l hd]⟩)) (nx+1) :=
 ⟨by rw [Hp.set_ne _ _ (by have:=h.nx;omega)];exact h.row,Nat.le_refl _,fun _ _ _=>rfl,HSol.set h.sol fun e he c hc=>by
  rw [List.mem_singleton] at he
  subst he
  simp only [lsC,List.mem_cons,List.not_mem_nil,or_false] at hc
  rcases hc with rfl | rfl
  ·exact hs
  ·rfl⟩
def LessOk (enc:α->Int) (lt:α->α->Bool) (g:FuncId) (cs:List Cap) (H0:Hp) (nx0 v l:Nat):Prop := ∀ H nx (d:Array α),d.size=l->RowAt enc H0 nx0 v d H nx -> ∀ (i j:Nat),i<l->j<l -> ∀ (K:D->Hp->Nat->Prop),(∀ H' nx',nx≤nx'->(∀ q,q<nx->H' q=H q)->HSol H'->K (dB (lt (aT d i) (aT d j))) H' nx')->ICall Tryz.prog g ([dI i,dI j]++cs.map Cap.D) H nx K
noncomputable def hdI:Value:=Go.typeHandle Tryz.prog 3
theorem swap_x {enc:α->Int} {H:Hp} {nx v l:Nat} {d:Array α} (hl:d.size=l) (hlm:l≤maxLen) {i j:Nat} (hi:i<l) (hj:j<l) (hrow:H v=some ⟨.c 3,1,aRows enc d⟩) {K:D->Hp->Nat->Prop}
  (hK:K (.tup []) (H.set v (some ⟨.c 3,1,aRows enc (Go.Sort.swp d i j)⟩)) nx):XCall Tryz.prog 166 [dI i,dI j,.one (.own v 1 l),.one (.d (.lit hdI))] H nx K:=by
 intro β F ι w vs hg hH hvs
 match vs,hvs with
 | [a,b,c,e],hvs =>
  simp only [RVs,RV,RC] at hvs
  obtain ⟨h1,h2,⟨b0,cap,e1,e2,e3,e4⟩,h4, -⟩:=hvs
  cases h1 with | lit _=>cases h2 with | lit _=>cases h4 with | lit _ =>
  have hc:0<cap:=by omega
  rcases e4 with ⟨e, -⟩ | ⟨-, rfl⟩
  ·omega
  obtain ⟨b',cap',g1,g2,g3,g4⟩:=hH.blk v _ hrow
  rw [e1] at g1
  simp only [Option.some.injEq,Prod.mk.injEq] at g1
  obtain ⟨rfl,rfl⟩:=g1
  obtain ⟨arr,k1,k2,k3,k4⟩:=g4 hc
  simp only at g2 g3 k1 k2 k3 k4
  have k1:w.heap[b0]? = some (.cells arr 3 (0,0)):=k1
  have hget : ∀ t,t<l->arr[t]? = some (.int .i64 (enc (aT d t))):=fun t ht=>by
   have hn:nth2 (aRows enc d) t 0=some (.d (eI (enc (aT d t)))):=by unfold nth2;rw [aRows_get enc (by omega)];rfl
   obtain ⟨u,r1,r2⟩:=k4 t 0 _ hn
   rw [show t*1+0=t by omega] at r1
   rw [RC] at r2
   cases r2 with | lit _=>exact r1
  have hsi:arr.size=cap:=by omega
  have hfz : ∀ t,t<l->w.frozen? ⟨b0,0+t,none⟩=false:=fun t ht=>by simp [World.frozen?, k1]
  have hcell : ∀ t,t<l->w.cell? ⟨b0,0+t,none⟩=some (.int .i64 (enc (aT d t))):=fun t ht=>by
   have:=hget t ht
   simp [World.cell?, k1,this]
  obtain ⟨ie,hie,hs1⟩ : ∃ ie,Tryz.prog.info? 3=some ie∧ie.size=1:=by
   have h:szOf Tryz.prog 3=some 1:=by kernel_rfl
   unfold szOf at h
   cases hq:Tryz.prog.info? 3 with
   | none=>simp [hq] at h
   | some i=>exact ⟨i,rfl,by simpa [hq] using h⟩
  have hrun:=Lib.run_swap_one (P:=Tryz.prog) true 3 ie hie hs1 (fun _=>by kernel_rfl) b0 0 l cap i j hi hj (.int .i64 (enc (aT d i))) (.int .i64 (enc (aT d j))) rfl rfl w (hcell i hi) (hcell j hj) (hfz i hi) (hfz j hj)
  have hx:=run_callFunc_extern (P:=Tryz.prog) Tryz.func166 (by kernel_rfl) (by kernel_rfl) (by kernel_rfl) (e:=Go.Extern.ReflectliteSwapper.swap true) (by kernel_rfl) #[.int .i64 i,.int .i64 j,.slice (some ⟨b0,0,none⟩) l cap,hdI] w
  rw [show (#[.int .i64 i,.int .i64 j,.slice (some ⟨b0,0,none⟩) l cap,hdI]:Array Value) = #[.int .i64 i,.int .i64 j,.slice (some ⟨b0,0,none⟩) l cap,Go.typeHandle Tryz.prog 3] from rfl,hrun] at hx
  simp only [Result.andThen] at hx
  have q1:=Go.Joins.block_setCell (i:=0+i) k1 (.int .i64 (enc (aT d j)))
  have q2:=Go.Joins.block_setCell (i:=0+j) q1 (.int .i64 (enc (aT d i)))
  obtain ⟨z1,z2⟩:=hH.write (w':=(w.setCell ⟨b0,0+i,none⟩ (.int .i64 (enc (aT d j)))).setCell ⟨b0,0+j,none⟩ (.int .i64 (enc (aT d i)))) hrow e1 hc ((arr.setIfInBounds (0+i) (.int .i64 (enc (aT d j)))).setIfInBounds (0+j) (.int .i64 (enc (aT d i)))) ⟨.c 3,1,aRows enc (Go.Sort.swp d i j)⟩
   (fun b' hb'=>by rw [Go.Deep.blk_setCell_other _ _ _ _ hb',Go.Deep.blk_setCell_other _ _ _ _ hb']) (by rw [Go.Deep.nblk_setCell,Go.Deep.nblk_setCell]) ⟨rfl,rfl,rfl⟩ q2 (by rw [aRows_len,size_swp];omega) (fun e he=>by obtain ⟨x, -, rfl⟩:=List.mem_map.1 he;rfl) (by simp;omega)
   (fun u hu=>by
    rcases Array.mem_or_eq_of_mem_setIfInBounds hu with hu | rfl
    ·rcases Array.mem_or_eq_of_mem_setIfInBounds hu with hu | rfl
     ·exact k3 _ hu
     ·rfl
    ·rfl) (fun p q c hc2=>by
    have hc2:nth2 (aRows enc (Go.Sort.swp d i j)) p q=some c:=hc2
    unfold nth2 at hc2
    by_cases hp:p<l
    ·rw [aRows_get enc (by rw [size_swp];omega)] at hc2
     simp only [Option.bind_some] at hc2
     cases q with
     | succ q=>simp at hc2
     | zero =>
      simp only [List.getElem?_cons_zero,Option.some.injEq] at hc2
      subst hc2
      refine ⟨.int .i64 (enc (aT (Go.Sort.swp d i j) p)),?_,by rw [RC];exact .lit rfl⟩
      show ((arr.setIfInBounds (0+i) _).setIfInBounds (0+j) _)[p*1+0]? = _
      rw [show p*1+0=p by omega,Nat.zero_add,Nat.zero_add]
      simp only [Array.getElem?_setIfInBounds,Array.size_setIfInBounds]
      have hsw:aT (Go.Sort.swp d i j) p=if j=p then aT d i else if i=p then aT d j else aT d p:=by
       unfold aT Go.Sort.swp
       by_cases c1:j=p
       ·subst c1;simp [hl,hj]
       ·by_cases c2:i=p
        ·subst c2;simp [hl,hi,c1]
        ·simp [hl,hp,c1,c2]
      rw [hsw]
      by_cases c1:j=p
      ·rw [if_pos c1,if_pos (by omega),if_pos c1]
      ·rw [if_neg c1,if_neg c1]
       by_cases c2:i=p
       ·rw [if_pos c2,if_pos (by omega),if_pos c2]
       ·rw [if_neg c2,if_neg c2];exact hget p hp
    ·rw [List.getElem?_eq_none (by rw [aRows_len,size_swp];omega)] at hc2
     cases hc2)
  exact ⟨F,ι,_,nx,.tup [],.tuple #[],_,hx,z1,z2,Nms.le_refl _,by rw [RV];exact ⟨#[],rfl,by rw [RVs];trivial⟩,hK⟩
 | [],hvs=>simp [RVs] at hvs
 | [_],hvs=>simp [RVs] at hvs
 | [_,_],hvs=>simp [RVs] at hvs
 | [_,_,_],hvs=>simp [RVs] at hvs
 | _::_::_::_::_::_,hvs=>simp [RVs] at hvs
variable {enc:α->Int}
theorem swrF_ic {H0:Hp} {nx0 v l:Nat} (g:FuncId) (cs:List Cap) (hcs:cs.all Cap.solid=true) (hv:v<nx0) (hsz:l≤1000000) (a b n:Nat) (d:Array α) (hl:d.size=l) (h1:a+n≤l) (h2:b+n≤l) (hab:a≠b) {H:Hp} {nx:Nat} (hR:RowAt enc H0 nx0 v d H nx) {K:D->Hp->Nat->Prop}
  (hK : ∀ H' nx',RowAt enc H nx v (swpR a b n 0 d) H' nx'->K (.tup []) H' nx'):ICall Tryz.prog 237 [.agg (lsC g cs v l hdI),dI a,dI b,dI n] H nx K:=by
 obtain ⟨M,hM⟩ : ∃ M:Hp,M=H.set nx (some ⟨.c 184,2,[lsC g cs v l hdI]⟩):=⟨_,rfl⟩
 have hvn:v<nx:=by have:=hR.nx;omega
 have hS:RowAt enc M (nx+1) v d M (nx+1):=by rw [hM];exact hR.start hv hcs _ _
 have hB : ∀ {e:Array α} {H':Hp} {nx':Nat}, RowAt enc M (nx+1) v e H' nx'->H' nx=(some ⟨.c 184,2,[lsC g cs v l hdI]⟩):=fun h=>by rw [h.low nx (by omega) (by omega),hM,Hp.set_same]
 have hE : ∀ {e:Array α} {H':Hp} {nx':Nat}, RowAt enc M (nx+1) v e H' nx'->RowAt enc H nx v e H' nx':=fun h=>by rw [hM] at h;exact h.box
 have hlm:l≤maxLen:=by unfold maxLen;omega
 simp only [lsC] at hM hB
 refine fni_ok [0,1,2,3,4,8,11] [] Tryz.func237 rfl (by kernel_rfl) rfl rfl rfl rfl (by kernel_rfl) ?_
 simp [lsC]
 rw [← hM]
 refine loopH_ok (ks := [0,1,2,3,4,8,11]) (pl := []) (n0:=23) (α := {x:SwS α//x.i≤n∧x.d.size=l∧swpR a b (n-x.i) x.i x.d=swpR a b n 0 d∧RowAt enc M (nx+1) v x.d x.H x.nx}) (fun x=>[(8,dI x.1.i)]) (fun _ x=>x.1.H) (fun x=>x.1.nx) (fun x=>n-x.1.i) ⟨⟨0,0,d,M,nx+1⟩,Nat.zero_le _,hl,rfl,hS⟩ rfl (by kernel_rfl) (Wk.sub (by simp)) ?_
 rintro ⟨⟨i, -, e,H1,nx1⟩,hi,hs,hd,hR1⟩
 simp only at hi hs hd hR1
 have hb:=hB hR1
 by_cases c1:i<n
 ·obtain ⟨p,hp⟩ : ∃ p,p=a+i:=⟨_,rfl⟩
  obtain ⟨q,hq⟩ : ∃ q,q=b+i:=⟨_,rfl⟩
  have w1:IntKind.i64.wrap ((a:Int)+(i:Int))=(p:Int):=by rw [int_add (by omega),hp]
  have w2:IntKind.i64.wrap ((b:Int)+(i:Int))=(q:Int):=by rw [int_add (by omega),hq]
  simp [c1,w1,w2,hb]
  refine swap_x (i:=p) (j:=q) hs hlm (by omega) (by omega) hR1.row ?_
  simp
  refine ⟨⟨i+1,0,Go.Sort.swp e p q,H1.set v (some ⟨.c 3,1,aRows enc (Go.Sort.swp e p q)⟩),nx1⟩,by simp only;omega,⟨by simp only;omega,by simp only;rw [size_swp,hs],?_,hR1.put _⟩,Wk.sub (by simp [wrap_add (show i<9223372036854775807 by omega)])⟩
  simp only
  rw [← hd,show n-i=(n-(i+1))+1 by omega,swpR,hp,hq]
 ·obtain rfl:i=n:=by omega
  rw [Nat.sub_self] at hd
  simp [c1]
  exact ⟨hR1.sol,hK _ _ (by rw [← hd];exact hE hR1)⟩
theorem rotF_ic {H0:Hp} {nx0 v l:Nat} (g:FuncId) (cs:List Cap) (hcs:cs.all Cap.solid=true) (hv:v<nx0) (hsz:l≤1000000) (a m b:Nat) (d:Array α) (hl:d.size=l) (h1:a<m) (h2:m<b) (h3:b≤l) {H:Hp} {nx:Nat} (hR:RowAt enc H0 nx0 v d H nx) {K:D->Hp->Nat->Prop}
  (hK : ∀ H' nx',RowAt enc H nx v (rot a m b d) H' nx'->K (.tup []) H' nx'):ICall Tryz.prog 214 [.agg (lsC g cs v l hdI),dI a,dI m,dI b] H nx K:=by
 obtain ⟨M,hM⟩ : ∃ M:Hp,M=H.set nx (some ⟨.c 184,2,[lsC g cs v l hdI]⟩):=⟨_,rfl⟩
 have hvn:v<nx:=by have:=hR.nx;omega
 have hS:RowAt enc M (nx+1) v d M (nx+1):=by rw [hM];exact hR.start hv hcs _ _
 have hB : ∀ {e:Array α} {H':Hp} {nx':Nat}, RowAt enc M (nx+1) v e H' nx'->H' nx=(some ⟨.c 184,2,[lsC g cs v l hdI]⟩):=fun h=>by rw [h.low nx (by omega) (by omega),hM,Hp.set_same]
 have hE : ∀ {e:Array α} {H':Hp} {nx':Nat}, RowAt enc M (nx+1) v e H' nx'->RowAt enc H nx v e H' nx':=fun h=>by rw [hM] at h;exact h.box
 have hlm:l≤maxLen:=by unfold maxLen;omega
 simp only [lsC] at hM hB
 refine fni_ok [0,1,2,3,4,8,9,18,21] [] Tryz.func214 rfl (by kernel_rfl) rfl rfl rfl rfl (by kernel_rfl) ?_
 have w1:=int_sub (a:=m) (b:=a) (by omega) (by omega)
 have w2:=int_sub (a:=b) (b:=m) (by omega) (by omega)
 have h0:rotA m (m-a+(b-m)) (m-a) (b-m) d=rot a m b d:=by unfold rot;rw [show m-a+(b-m)=b-a by omega]
 obtain ⟨i0,e1⟩ : ∃ i,i=m-a:=⟨_,rfl⟩
 obtain ⟨j0,e2⟩ : ∃ j,j=b-m:=⟨_,rfl⟩
 rw [← e1] at w1 h0
 rw [← e2] at w2 h0
 simp [w1,w2,lsC]
 rw [← hM]
 refine loopH_ok (ks := [0,1,2,3,4,8,9,18,21]) (pl := []) (n0:=53) (α := {x:SwS α//0<x.i∧x.i≤m-a∧0<x.j∧x.j≤b-m∧x.d.size=l∧rotA m (x.i+x.j) x.i x.j x.d=rot a m b d∧RowAt enc M (nx+1) v x.d x.H x.nx}) (fun x=>[(8,dI x.1.i),(9,dI x.1.j)]) (fun _ x=>x.1.H) (fun x=>x.1.nx) (fun x=>x.1.i+x.1.j) ⟨⟨i0,j0,d,M,nx+1⟩,by simp only;omega,by simp only;omega,by simp only;omega,by simp only;omega,hl,h0,hS⟩ rfl (by kernel_rfl) (Wk.sub (by simp)) ?_
 rintro ⟨⟨i,j,e,H1,nx1⟩,hi,hi2,hj,hj2,hs,hd,hR1⟩
 simp only at hi hi2 hj hj2 hs hd hR1
 clear h0 w1 w2
 have hb:=hB hR1
 have hv1:v<nx+1:=by omega
 have w3:=int_sub (a:=m) (b:=i) (by omega) (by omega)
 obtain ⟨p,hp⟩ : ∃ p,p=m-i:=⟨_,rfl⟩
 rw [← hp] at w3
 by_cases c1:i=j
 ·subst c1
  rw [rot_eq hi] at hd
  simp [w3,hb]
  refine swrF_ic g cs hcs hv1 hsz p m i e hs (by omega) (by omega) (by omega) hR1 fun H' nx' hR' => ?_
  have hR':=hR1.trans hR'
  rw [hp,hd] at hR'
  simp
  exact ⟨hR'.sol,hK _ _ (hE hR')⟩
 ·have c1' : ¬ (i:Int)=(j:Int):=by omega
  by_cases c2:j<i
  ·rw [rot_gt c2 hj] at hd
   have w4:=int_sub (a:=i) (b:=j) (by omega) (by omega)
   obtain ⟨q,hq⟩ : ∃ q,q=i-j:=⟨_,rfl⟩
   rw [← hq] at w4 hd
   simp [c1,c1',c2,w3,w4,hb]
   refine swrF_ic g cs hcs hv1 hsz p m j e hs (by omega) (by omega) (by omega) hR1 fun H' nx' hR' => ?_
   have hR':=hR1.trans hR'
   rw [hp] at hR'
   simp [w4]
   exact ⟨⟨q,j,swpR (m-i) m j 0 e,H',nx'⟩,by simp only;omega,⟨by simp only;omega,by simp only;omega,hj,hj2,by simp only;rw [size_swpR,hs],hd,hR'⟩,Wk.sub (by simp)⟩
  ·rw [rot_lt (by omega) hi] at hd
   have w4:=int_sub (a:=j) (b:=i) (by omega) (by omega)
   obtain ⟨q,hq⟩ : ∃ q,q=j-i:=⟨_,rfl⟩
   rw [← hq] at w4 hd
   have w5:=int_add (a:=m) (b:=j) (by omega)
   obtain ⟨r,hr⟩ : ∃ r,r=m+j:=⟨_,rfl⟩
   rw [← hr] at w5 hd
   have w6:=int_sub (a:=r) (b:=i) (by omega) (by omega)
   obtain ⟨t,ht⟩ : ∃ t,t=r-i:=⟨_,rfl⟩
   rw [← ht] at w6 hd
   simp [c1,c1',c2,w3,w4,w5,w6,hb]
   refine swrF_ic g cs hcs hv1 hsz p t i e hs (by omega) (by omega) (by omega) hR1 fun H' nx' hR' => ?_
   have hR':=hR1.trans hR'
   rw [hp] at hR'
   simp [w4]
   exact ⟨⟨i,q,swpR (m-i) t i 0 e,H',nx'⟩,by simp only;omega,⟨hi,hi2,by simp only;omega,by simp only;omega,by simp only;rw [size_swpR,hs],hd,hR'⟩,Wk.sub (by simp)⟩
variable (lt:α->α->Bool)
theorem insF_ic {H0:Hp} {nx0 v l:Nat} (g:FuncId) (cs:List Cap) (hcs:cs.all Cap.solid=true) (hv:v<nx0) (hsz:l≤1000000) (hc:LessOk enc lt g cs H0 nx0 v l) (a b:Nat) (d:Array α) (hl:d.size=l) (h1:a≤b) (h2:b≤l) {H:Hp} {nx:Nat} (hR:RowAt enc H0 nx0 v d H nx) {K:D->Hp->Nat->Prop}
  (hK : ∀ H' nx',RowAt enc H nx v (insA lt d a b) H' nx'->K (.tup []) H' nx'):ICall Tryz.prog 171 [.agg (lsC g cs v l hdI),dI a,dI b] H nx K:=by
 obtain ⟨M,hM⟩ : ∃ M:Hp,M=H.set nx (some ⟨.c 184,2,[lsC g cs v l hdI]⟩):=⟨_,rfl⟩
 have hvn:v<nx:=by have:=hR.nx;omega
 have hS:RowAt enc M (nx+1) v d M (nx+1):=by rw [hM];exact hR.start hv hcs _ _
 have hB : ∀ {e:Array α} {H':Hp} {nx':Nat}, RowAt enc M (nx+1) v e H' nx'->H' nx=(some ⟨.c 184,2,[lsC g cs v l hdI]⟩):=fun h=>by rw [h.low nx (by omega) (by omega),hM,Hp.set_same]
 have hE : ∀ {e:Array α} {H':Hp} {nx':Nat}, RowAt enc M (nx+1) v e H' nx'->RowAt enc H nx v e H' nx':=fun h=>by rw [hM] at h;exact h.box
 have hlm:l≤maxLen:=by unfold maxLen;omega
 simp only [lsC] at hM hB
 have hT : ∀ {e:Array α} {H':Hp} {nx':Nat}, RowAt enc M (nx+1) v e H' nx'->RowAt enc H0 nx0 v e H' nx':=fun h=>hR.trans (hE h)
 refine fni_ok [0,1,2,3,6,7,12,26] [] Tryz.func171 rfl (by kernel_rfl) rfl rfl rfl rfl (by kernel_rfl) ?_
 simp [lsC]
 rw [← hM]
 refine loopH_ok (ks := [0,1,2,3,6,7,12,26]) (pl := []) (n0:=35) (α := {x:SwS α//a<x.i∧x.i≤b+1∧x.d.size=l∧insOuter lt a b x.i x.d=insOuter lt a b (a+1) d∧RowAt enc M (nx+1) v x.d x.H x.nx}) (fun x=>[(6,dI x.1.i)]) (fun _ x=>x.1.H) (fun x=>x.1.nx) (fun x=>b+1-x.1.i) ⟨⟨a+1,0,d,M,nx+1⟩,by simp only;omega,by simp only;omega,hl,rfl,hS⟩ rfl (by kernel_rfl) (Wk.sub (by simp [wrap_add (show a<9223372036854775807 by omega)])) ?_
 rintro ⟨⟨i, -, e,H1,nx1⟩,hi,hi2,hs,hd,hR1⟩
 simp only at hi hi2 hs hd hR1
 by_cases c1:i<b
 case neg =>
  simp [c1]
  refine ⟨hR1.sol,hK _ _ ?_⟩
  rw [insOuter_stop lt a b i e c1] at hd
  rw [show insA lt d a b=e from hd.symm]
  exact hE hR1
 rw [insOuter_go lt a b i e c1] at hd
 simp [c1]
 refine loopH_ok (ks := [0,1,2,3,6,7,12,26]) (pl := []) (n0:=35) (α := {x:SwS α//a≤x.i∧x.i≤i∧x.d.size=l∧insInner lt a x.i x.d=insInner lt a i e∧RowAt enc M (nx+1) v x.d x.H x.nx}) (fun x=>[(7,dI x.1.i)]) (fun _ x=>x.1.H) (fun x=>x.1.nx) (fun x=>x.1.i) ⟨⟨i,0,e,H1,nx1⟩,by simp only;omega,Nat.le_refl _,hs,rfl,hR1⟩ rfl (by kernel_rfl) (Wk.sub (by simp)) ?_
 rintro ⟨⟨j, -, e2,H2,nx2⟩,hj,hj2,hs2,hd2,hR2⟩
 simp only at hj hj2 hs2 hd2 hR2
 have hb:=hB hR2
 have out:j≤a∨lt (aT e2 j) (aT e2 (j-1))=false->insOuter lt a b (i+1) e2=insOuter lt a b (a+1) d:=fun h=>by
  rw [insInner_stop lt a j e2 h] at hd2
  rw [hd2];exact hd
 by_cases c2:a<j
 case neg =>
  have hout:=out (.inl (by omega))
  simp [c1,c2]
  exact ⟨⟨i+1,0,e2,H2,nx2⟩,by simp only;omega,⟨by simp only;omega,by simp only;omega,hs2,hout,hR2⟩,Wk.sub (by simp [wrap_add (show i<9223372036854775807 by omega)])⟩
 obtain ⟨q,hq⟩ : ∃ q,q=j-1:=⟨_,rfl⟩
 rw [← hq] at out
 have w1:IntKind.i64.wrap ((j:Int)-1)=(q:Int):=by rw [wrap_id (by omega) (by omega)];omega
 have hgx:extP g=false:=extP_no (hc H2 nx2 e2 hs2 (hT hR2) j q (by omega) (by omega) (fun _ _ _=>True) fun _ _ _ _ _=>trivial).1
 simp [c1,c2,w1,hb,hgx, -extP]
 refine hc H2 nx2 e2 hs2 (hT hR2) j q (by omega) (by omega) _ fun H3 nx3 hn3 low3 sol3 => ?_
 have hR3:=hR2.mono (by omega) hn3 low3 sol3
 by_cases c3:lt (aT e2 j) (aT e2 q)=true
 case neg =>
  have hout:=out (.inr (by simpa using c3))
  rw [Bool.not_eq_true] at c3
  simp [c3]
  exact ⟨⟨i+1,0,e2,H3,nx3⟩,by simp only;omega,⟨by simp only;omega,by simp only;omega,hs2,hout,hR3⟩,Wk.sub (by simp [wrap_add (show i<9223372036854775807 by omega)])⟩
 have hgo:insInner lt a j e2=insInner lt a q (Go.Sort.swp e2 j q):=by
  rw [hq]
  exact insInner_go lt a j e2 c2 (by rw [hq] at c3;exact c3)
 have hb3:=hB hR3
 simp [c3,w1,hb3]
 refine swap_x (i:=j) (j:=q) hs2 hlm (by omega) (by omega) hR3.row ?_
 simp
 refine ⟨⟨q,0,Go.Sort.swp e2 j q,H3.set v (some ⟨.c 3,1,aRows enc (Go.Sort.swp e2 j q)⟩),nx3⟩,by simp only;omega,⟨by simp only;omega,by simp only;omega,by simp only;rw [size_swp,hs2],?_,hR3.put _⟩,Wk.sub (by simp [w1])⟩
 simp only
 rw [← hd2,hgo]
end
end Go.Proofs.YtbphdcffpobcbaaGreatDoor

namespace Go.Proofs.YtbphdcffpobcbaaGreatDoor
open Go.RowKit Go
open Go.Sort
section
variable {α:Type} [Inhabited α] {enc:α->Int} (lt:α->α->Bool)
theorem symF_ic {H0 : Hp} {nx0 v l : Nat} (g : FuncId) (cs : List Cap) (hcs : cs.all Cap.solid = true) (hv : v < nx0) (hsz : l ≤ 1000000) (hc : LessOk enc lt g cs H0 nx0 v l) : ∀ (f a m b : Nat) (d : Array α) (hl : d.size = l) (h1 : a < m) (h2 : m < b) (h3 : b ≤ l) (hf : b - a ≤ f) {H : Hp} {nx : Nat} (hR : RowAt enc H0 nx0 v d H nx) {K : D → Hp → Nat → Prop}
    (hK : ∀ H' nx', RowAt enc H nx v (sym lt a m b d) H' nx' → K (.tup []) H' nx'), ICall Tryz.prog 172 [.agg (lsC g cs v l hdI), dI a, dI m, dI b] H nx K := by
  intro f
  induction f with
  | zero => intro a m b d hl h1 h2 h3 hf; omega
  | succ f ih =>
  intro a m b d hl h1 h2 h3 hf H nx hR K hK
  obtain ⟨M, hM⟩ : ∃ M : Hp, M = H.set nx (some ⟨.c 184, 2, [lsC g cs v l hdI]⟩) := ⟨_, rfl⟩
  have hvn : v < nx := by have := hR.nx; omega
  have hS : RowAt enc M (nx + 1) v d M (nx + 1) := by rw [hM]; exact hR.start hv hcs _ _
  have hB : ∀ {e : Array α} {H' : Hp} {nx' : Nat}, RowAt enc M (nx + 1) v e H' nx' → H' nx = (some ⟨.c 184, 2, [lsC g cs v l hdI]⟩) := fun h => by rw [h.low nx (by omega) (by omega), hM, Hp.set_same]
  have hE : ∀ {e : Array α} {H' : Hp} {nx' : Nat}, RowAt enc M (nx + 1) v e H' nx' → RowAt enc H nx v e H' nx' := fun h => by rw [hM] at h; exact h.box
  have hlm : l ≤ maxLen := by unfold maxLen; omega
  simp only [lsC] at hM hB
  have hT : ∀ {e : Array α} {H' : Hp} {nx' : Nat}, RowAt enc M (nx + 1) v e H' nx' → RowAt enc H0 nx0 v e H' nx' := fun h => hR.trans (hE h)
  have hv1 : v < nx + 1 := by omega
  have hgx : extP g = false := extP_no (hc M (nx + 1) d hl (hT hS) a m (by omega) (by omega) (fun _ _ _ => True) fun _ _ _ _ _ => trivial).1
  refine fni_ok [0,1,2,3,4,8,9,10,11,12,13,14,15,16,17,18,19,20,21,22,26,31,42,50,62,67,79,86,106,117,131,145,158,171] [] Tryz.func172 rfl (by kernel_rfl) rfl rfl rfl rfl (by kernel_rfl) ?_
  have u1 := int_sub (a := m) (b := a) (by omega) (by omega)
  obtain ⟨p, hp⟩ : ∃ p, p = m - a := ⟨_, rfl⟩
  rw [← hp] at u1
  by_cases c1 : p = 1
  · have c1' : (p : Int) = 1 := by omega
    rw [sym_up lt h1 h2 (by omega)] at hK
    simp [u1, c1, c1', lsC]
    rw [← hM]
    refine loopH_ok (ks := [0,1,2,3,4,8,9,10,11,12,13,14,15,16,17,18,19,20,21,22,26,31,42,50,62,67,79,86,106,117,131,145,158,171]) (pl := []) (n0 := 177) (α := {x : SwS α // m ≤ x.i ∧ x.i ≤ x.j ∧ x.j ≤ b ∧ bs (fun h => lt (aT d h) (aT d a)) x.i x.j = bs (fun h => lt (aT d h) (aT d a)) m b ∧ RowAt enc M (nx + 1) v d x.H x.nx}) (fun x => [(8, dI x.1.i), (9, dI x.1.j)]) (fun _ x => x.1.H) (fun x => x.1.nx) (fun x => x.1.j - x.1.i) ⟨⟨m, b, d, M, nx + 1⟩, Nat.le_refl _, by simp only; omega, Nat.le_refl _, rfl, hS⟩ rfl (by kernel_rfl) (Wk.sub (by simp)) ?_
    rintro ⟨⟨i, j, -, H1, nx1⟩, hi, hij, hj, hb, hR1⟩
    simp only at hi hij hj hb hR1
    have hbx := hB hR1
    by_cases c2 : i < j
    · obtain ⟨s, t, hs, ht, w1, w2, w3, w4⟩ := half_at (i := i) (j := j) (by omega)
      simp [c2, w1, w2, w3, w4, hbx, hgx, -extP]
      refine hc H1 nx1 d hl (hT hR1) t a (by omega) (by omega) _ fun H3 nx3 hn3 low3 sol3 => ?_
      have hR3 := hR1.mono hv1 hn3 low3 sol3
      by_cases c3 : lt (aT d t) (aT d a) = true
      · simp [c3]
        rw [bs_yes c2 (by rw [← ht]; exact c3), ← ht] at hb
        exact ⟨⟨t + 1, j, d, H3, nx3⟩, by simp only; omega, ⟨by simp only; omega, by simp only; omega, hj, hb, hR3⟩, Wk.sub (by simp [wrap_add (show t < 9223372036854775807 by omega)])⟩
      · rw [Bool.not_eq_true] at c3
        simp [c3]
        rw [bs_no c2 (by rw [← ht]; exact c3), ← ht] at hb
        exact ⟨⟨i, t, d, H3, nx3⟩, by simp only; omega, ⟨hi, by simp only; omega, by simp only; omega, hb, hR3⟩, Wk.sub (by simp)⟩
    obtain rfl : i = j := by omega
    rw [bs_stop (by omega)] at hb
    have hup : symUp lt a m b d = movU (i - 1 - a) a d := by
      unfold symUp
      rw [show bs (fun h => lt d[h]! d[a]!) m b = i from hb.symm]
    rw [hup] at hK
    clear hup hb
    have u2 := int_sub (a := i) (b := 1) (by omega) (by omega)
    rw [show ((1 : Nat) : Int) = 1 from rfl] at u2
    obtain ⟨q, hq⟩ : ∃ q, q = i - 1 := ⟨_, rfl⟩
    rw [← hq] at u2 hK
    simp [u2]
    refine loopH_ok (ks := [0,1,2,3,4,8,9,10,11,12,13,14,15,16,17,18,19,20,21,22,26,31,42,50,62,67,79,86,106,117,131,145,158,171]) (pl := []) (n0 := 177) (α := {x : SwS α // a ≤ x.i ∧ x.i ≤ q ∧ x.d.size = l ∧ movU (q - x.i) x.i x.d = movU (q - a) a d ∧ RowAt enc M (nx + 1) v x.d x.H x.nx}) (fun x => [(11, dI x.1.i)]) (fun _ x => x.1.H) (fun x => x.1.nx) (fun x => q - x.1.i) ⟨⟨a, 0, d, H1, nx1⟩, Nat.le_refl _, by simp only; omega, hl, rfl, hR1⟩ rfl (by kernel_rfl) (Wk.sub (by simp)) ?_
    clear hR1 hbx
    rintro ⟨⟨k, -, e, H1, nx1⟩, hk, hk2, hs, hd, hR1⟩
    simp only at hk hk2 hs hd hR1
    have hbx := hB hR1
    by_cases c3 : k < q
    · obtain ⟨k1, hk1⟩ : ∃ k1, k1 = k + 1 := ⟨_, rfl⟩
      have w1 : IntKind.i64.wrap ((k : Int) + 1) = (k1 : Int) := by rw [wrap_id (by omega) (by omega)]; omega
      simp [c3, u2, w1, hbx]
      refine swap_x (i := k) (j := k1) hs hlm (by omega) (by omega) hR1.row ?_
      simp
      refine ⟨⟨k1, 0, Go.Sort.swp e k k1, H1.set v (some ⟨.c 3, 1, aRows enc (Go.Sort.swp e k k1)⟩), nx1⟩, by simp only; omega, ⟨by simp only; omega, by simp only; omega, by simp only; rw [size_swp, hs], ?_, hR1.put _⟩, Wk.sub (by simp [w1])⟩
      simp only
      rw [← hd, show q - k = (q - k1) + 1 by omega, movU, hk1]
    · obtain rfl : k = q := by omega
      rw [Nat.sub_self, movU] at hd
      simp [u2]
      exact ⟨hR1.sol, hK _ _ (by rw [← hd]; exact hE hR1)⟩
  have c1' : ¬ (p : Int) = 1 := by omega
  have v1 := int_sub (a := b) (b := m) (by omega) (by omega)
  obtain ⟨r, hr⟩ : ∃ r, r = b - m := ⟨_, rfl⟩
  rw [← hr] at v1
  by_cases c2 : r = 1
  · have c2' : (r : Int) = 1 := by omega
    rw [sym_dn lt h1 h2 (by omega) (by omega)] at hK
    simp [u1, c1, c1', v1, c2, c2', lsC]
    rw [← hM]
    refine loopH_ok (ks := [0,1,2,3,4,8,9,10,11,12,13,14,15,16,17,18,19,20,21,22,26,31,42,50,62,67,79,86,106,117,131,145,158,171]) (pl := []) (n0 := 177) (α := {x : SwS α // a ≤ x.i ∧ x.i ≤ x.j ∧ x.j ≤ m ∧ bs (fun h => !lt (aT d m) (aT d h)) x.i x.j = bs (fun h => !lt (aT d m) (aT d h)) a m ∧ RowAt enc M (nx + 1) v d x.H x.nx}) (fun x => [(12, dI x.1.i), (13, dI x.1.j)]) (fun _ x => x.1.H) (fun x => x.1.nx) (fun x => x.1.j - x.1.i) ⟨⟨a, m, d, M, nx + 1⟩, Nat.le_refl _, by simp only; omega, Nat.le_refl _, rfl, hS⟩ rfl (by kernel_rfl) (Wk.sub (by simp)) ?_
    rintro ⟨⟨i, j, -, H1, nx1⟩, hi, hij, hj, hb, hR1⟩
    simp only at hi hij hj hb hR1
    have hbx := hB hR1
    by_cases c3 : i < j
    · obtain ⟨s, t, hs, ht, w1, w2, w3, w4⟩ := half_at (i := i) (j := j) (by omega)
      simp [c3, w1, w2, w3, w4, hbx, hgx, -extP]
      refine hc H1 nx1 d hl (hT hR1) m t (by omega) (by omega) _ fun H3 nx3 hn3 low3 sol3 => ?_
      have hR3 := hR1.mono hv1 hn3 low3 sol3
      by_cases c4 : lt (aT d m) (aT d t) = true
      · simp [c4]
        rw [bs_no c3 (by rw [← ht]; simpa using c4), ← ht] at hb
        exact ⟨⟨i, t, d, H3, nx3⟩, by simp only; omega, ⟨hi, by simp only; omega, by simp only; omega, hb, hR3⟩, Wk.sub (by simp)⟩
      · have c4' : lt (aT d m) (aT d t) = false := by simpa using c4
        simp [c4']
        rw [bs_yes c3 (by rw [← ht]; simpa using c4), ← ht] at hb
        exact ⟨⟨t + 1, j, d, H3, nx3⟩, by simp only; omega, ⟨by simp only; omega, by simp only; omega, hj, hb, hR3⟩, Wk.sub (by simp [wrap_add (show t < 9223372036854775807 by omega)])⟩
    obtain rfl : i = j := by omega
    rw [bs_stop (by omega)] at hb
    have hdn : symDn lt a m b d = movD (m - i) m d := by
      unfold symDn
      rw [show bs (fun h => !lt d[m]! d[h]!) a m = i from hb.symm]
    rw [hdn] at hK
    clear hdn hb
    simp
    refine loopH_ok (ks := [0,1,2,3,4,8,9,10,11,12,13,14,15,16,17,18,19,20,21,22,26,31,42,50,62,67,79,86,106,117,131,145,158,171]) (pl := []) (n0 := 177) (α := {x : SwS α // i ≤ x.i ∧ x.i ≤ m ∧ x.d.size = l ∧ movD (x.i - i) x.i x.d = movD (m - i) m d ∧ RowAt enc M (nx + 1) v x.d x.H x.nx}) (fun x => [(15, dI x.1.i)]) (fun _ x => x.1.H) (fun x => x.1.nx) (fun x => x.1.i) ⟨⟨m, 0, d, H1, nx1⟩, by simp only; omega, Nat.le_refl _, hl, rfl, hR1⟩ rfl (by kernel_rfl) (Wk.sub (by simp)) ?_
    clear hR1 hbx
    rintro ⟨⟨k, -, e, H1, nx1⟩, hk, hk2, hs, hd, hR1⟩
    simp only at hk hk2 hs hd hR1
    have hbx := hB hR1
    by_cases c4 : i < k
    · obtain ⟨k1, hk1⟩ : ∃ k1, k1 = k - 1 := ⟨_, rfl⟩
      have w1 : IntKind.i64.wrap ((k : Int) - 1) = (k1 : Int) := by rw [wrap_id (by omega) (by omega)]; omega
      simp [c4, w1, hbx]
      refine swap_x (i := k) (j := k1) hs hlm (by omega) (by omega) hR1.row ?_
      simp
      refine ⟨⟨k1, 0, Go.Sort.swp e k k1, H1.set v (some ⟨.c 3, 1, aRows enc (Go.Sort.swp e k k1)⟩), nx1⟩, by simp only; omega, ⟨by simp only; omega, by simp only; omega, by simp only; rw [size_swp, hs], ?_, hR1.put _⟩, Wk.sub (by simp [w1])⟩
      simp only
      rw [← hd, show k - i = (k1 - i) + 1 by omega, movD, hk1]
    · obtain rfl : k = i := by omega
      rw [Nat.sub_self, movD] at hd
      simp
      exact ⟨hR1.sol, hK _ _ (by rw [← hd]; exact hE hR1)⟩
  have c2' : ¬ (r : Int) = 1 := by omega
  obtain ⟨s, mid, hs, hmid, w1, w2, w3, w4⟩ := half_at (i := a) (j := b) (by omega)
  have w5 := int_add (a := mid) (b := m) (by omega)
  obtain ⟨n, hn⟩ : ∃ n, n = mid + m := ⟨_, rfl⟩
  rw [← hn] at w5
  have w6 : IntKind.i64.wrap ((n : Int) - 1) = ((n - 1 : Nat) : Int) := by rw [wrap_id (by omega) (by omega)]; omega
  obtain ⟨n1, hn1⟩ : ∃ n1, n1 = n - 1 := ⟨_, rfl⟩
  rw [← hn1] at w6
  obtain ⟨q1, q2, q3, q4⟩ := symS_range h1 h2
  have qq := fun t => symQ_range (t := t) h1 h2
  have hst : symStart lt a m b d = bs (symP lt d n) (symS a m b) (symE a m b) := by rw [hn, hmid]; rfl
  have hS : (mid < m → symS a m b = n - b ∧ symE a m b = mid) ∧ (¬ mid < m → symS a m b = a ∧ symE a m b = m) := by
    constructor
    · intro h; unfold symS symE; rw [← hmid, if_pos h, if_pos h, ← hn]; exact ⟨rfl, rfl⟩
    · intro h; unfold symS symE; rw [← hmid, if_neg h, if_neg h]; exact ⟨rfl, rfl⟩
  rw [← hmid, ← hn] at qq
  generalize symS a m b = S at *
  generalize symE a m b = E at *
  have hSE : (mid < m ∧ IntKind.i64.wrap ((n : Int) - (b : Int)) = (S : Int) ∧ mid = E) ∨ (¬ mid < m ∧ a = S ∧ m = E) := by
    by_cases c : mid < m
    · obtain ⟨e1, e2⟩ := hS.1 c
      exact .inl ⟨c, by rw [int_sub (by omega) (by omega), e1], e2.symm⟩
    · obtain ⟨e1, e2⟩ := hS.2 c
      exact .inr ⟨c, e1.symm, e2.symm⟩
  clear hS
  refine cutS (R := ?Rsym) ?cutsa ?cutsb
  case cutsa =>
    intro rr
    refine hSE.elim (fun hh => ?_) (fun hh => ?_)
    · obtain ⟨c3, e1, e2⟩ := hh
      simp [u1, c1, c1', v1, c2, c2', w1, w2, w3, w4, w5, w6, c3, e1, lsC]
      rw [← hM]
      refine Ev.weak (st' := ⟨177, [(1, dI a), (2, dI m), (3, dI b), (4, .one (.ptr nx 2 0 0)), (16, dI mid), (17, dI n), (18, dI S), (19, dI E), (20, dI n1)], M, nx + 1⟩) ?_ (Wk.sub (by simp [e1, e2]))
      exact rr
    · obtain ⟨c3, e1, e2⟩ := hh
      simp [u1, c1, c1', v1, c2, c2', w1, w2, w3, w4, w5, w6, c3, lsC]
      rw [← hM]
      refine Ev.weak (st' := ⟨177, [(1, dI a), (2, dI m), (3, dI b), (4, .one (.ptr nx 2 0 0)), (16, dI mid), (17, dI n), (18, dI S), (19, dI E), (20, dI n1)], M, nx + 1⟩) ?_ (Wk.sub (by simp [e1, e2]))
      exact rr
  case cutsb =>
    refine loopH_ok (ks := [0,1,2,3,4,8,9,10,11,12,13,14,15,16,17,18,19,20,21,22,26,31,42,50,62,67,79,86,106,117,131,145,158,171]) (pl := []) (n0 := 177) (α := {x : SwS α // S ≤ x.i ∧ x.i ≤ x.j ∧ x.j ≤ E ∧ bs (symP lt d n) x.i x.j = bs (symP lt d n) S E ∧ RowAt enc M (nx + 1) v d x.H x.nx}) (fun x => [(18, dI x.1.i), (19, dI x.1.j)]) (fun _ x => x.1.H) (fun x => x.1.nx) (fun x => x.1.j - x.1.i) ⟨⟨S, E, d, M, nx + 1⟩, Nat.le_refl _, q1, Nat.le_refl _, rfl, hS⟩ rfl (by kernel_rfl) (Wk.sub (by simp)) ?_
    rintro ⟨⟨i, j, -, H1, nx1⟩, hi, hij, hj, hb, hR1⟩
    simp only at hi hij hj hb hR1
    have hbx := hB hR1
    by_cases c4 : i < j
    · obtain ⟨s', t, hs', ht, x1, x2, x3, x4⟩ := half_at (i := i) (j := j) (by omega)
      obtain ⟨y1, y2, y3⟩ := qq t (by omega) (by omega)
      have x5 := int_sub (a := n1) (b := t) (by omega) (by omega)
      obtain ⟨u, hu⟩ : ∃ u, u = n1 - t := ⟨_, rfl⟩
      rw [← hu] at x5
      have hp : symP lt d n t = !lt (aT d u) (aT d t) := by unfold symP aT; rw [hu, hn1]
      simp [c4, x1, x2, x3, x4, x5, hbx, hgx, -extP]
      refine hc H1 nx1 d hl (hT hR1) u t (by omega) (by omega) _ fun H3 nx3 hn3 low3 sol3 => ?_
      have hR3 := hR1.mono hv1 hn3 low3 sol3
      by_cases c5 : lt (aT d u) (aT d t) = true
      · simp [c5]
        rw [bs_no c4 (by rw [← ht, hp, c5]; rfl), ← ht] at hb
        exact ⟨⟨i, t, d, H3, nx3⟩, by simp only; omega, ⟨hi, by simp only; omega, by simp only; omega, hb, hR3⟩, Wk.sub (by simp)⟩
      · have c5' : lt (aT d u) (aT d t) = false := by simpa using c5
        simp [c5']
        rw [bs_yes c4 (by rw [← ht, hp]; simpa using c5), ← ht] at hb
        exact ⟨⟨t + 1, j, d, H3, nx3⟩, by simp only; omega, ⟨by simp only; omega, by simp only; omega, hj, hb, hR3⟩, Wk.sub (by simp [wrap_add (show t < 9223372036854775807 by omega)])⟩
    obtain rfl : i = j := by omega
    rw [bs_stop (by omega), ← hst] at hb
    obtain ⟨z1, z2, z3, z4, z5, z6⟩ := symStart_range lt d h1 h2
    rw [← hb, ← hmid, ← hn] at z4 z5 z6
    rw [← hb] at z1 z2 z3
    rw [← hmid] at z3
    have x6 := int_sub (a := n) (b := i) (by omega) (by omega)
    have eR : symRot lt a m b d = if i < m ∧ m < n - i then rot i m (n - i) d else d := by unfold symRot; rw [← hb, ← hmid, ← hn]
    have eL : symL lt a m b d = if a < i ∧ i < mid then sym lt a i mid (symRot lt a m b d) else symRot lt a m b d := by unfold symL; rw [← hb, ← hmid]
    have eS := sym_at lt (d := d) h1 h2 (by omega) (by omega)
    rw [← hb, ← hmid, ← hn] at eS
    rw [eS] at hK
    clear eS
    obtain ⟨en, hen⟩ : ∃ en, en = n - i := ⟨_, rfl⟩
    rw [← hen] at x6 eR hK z4 z5 z6
    have k1 : (¬ i < m ∧ ¬ i < m) ∨ (i < m ∧ ¬ m < en) ∨ (i < m ∧ m < en) := by omega
    have k2 : (¬ a < i ∧ ¬ a < i) ∨ (a < i ∧ ¬ i < mid) ∨ (a < i ∧ i < mid) := by omega
    have k3 : (¬ mid < en ∧ ¬ mid < en) ∨ (mid < en ∧ ¬ en < b) ∨ (mid < en ∧ en < b) := by omega
    have hsR := size_symRot lt a m b d
    have hsL := size_symL lt a m b d
    rw [hl] at hsR hsL
    generalize symRot lt a m b d = dR at *
    generalize symL lt a m b d = dL at *
    rcases k1 with ⟨c4, c5⟩ | ⟨c4, c5⟩ | ⟨c4, c5⟩ <;> rcases k2 with ⟨c6, c7⟩ | ⟨c6, c7⟩ | ⟨c6, c7⟩ <;> rcases k3 with ⟨c8, c9⟩ | ⟨c8, c9⟩ | ⟨c8, c9⟩ 
    all_goals simp [x6, c4, c5, c6, c7, c8, c9, hbx]
    all_goals
      first
        | (refine rotF_ic g cs hcs hv1 hsz i m en d hl (by omega) (by omega) (by omega) hR1 fun H2 nx2 hR2 => ?_
           have hR2 := hR1.trans hR2
           rw [show rot i m en d = dR from (eR.trans (if_pos ⟨c4, c5⟩)).symm] at hR2
           have hbx2 := hB hR2
           simp [c6, c7, c8, c9, x6, hbx2])
        | (have hR2 := hR1
           rw [show d = dR from (eR.trans (if_neg (by omega))).symm] at hR2)
      first
        | (refine ih a i mid dR hsR (by omega) (by omega) (by omega) (by omega) (hT hR2) fun H3 nx3 hR3 => ?_
           have hR3 := hR2.trans hR3
           rw [show sym lt a i mid dR = dL from (eL.trans (if_pos ⟨c6, c7⟩)).symm] at hR3
           have hbx3 := hB hR3
           simp [c8, c9, x6, hbx3])
        | (have hR3 := hR2
           rw [show dR = dL from (eL.trans (if_neg (by omega))).symm] at hR3)
      first
        | (refine ih mid en b dL hsL (by omega) (by omega) (by omega) (by omega) (hT hR3) fun H4 nx4 hR4 => ?_
           have hR4 := hR3.trans hR4
           rw [if_pos ⟨c8, c9⟩] at hK
           simp
           exact ⟨hR4.sol, hK _ _ (hE hR4)⟩)
        | (rw [if_neg (by omega)] at hK
           exact ⟨hR3.sol, hK _ _ (hE hR3)⟩)
end
end Go.Proofs.YtbphdcffpobcbaaGreatDoor

namespace Go.Proofs.YtbphdcffpobcbaaGreatDoor
open Go.RowKit Go
open Go.Sort
section
variable {α:Type} [Inhabited α] {enc:α->Int} (lt:α->α->Bool)
theorem staF_ic {H0:Hp} {nx0 v l:Nat} (g:FuncId) (cs:List Cap) (hcs:cs.all Cap.solid=true) (hv:v<nx0) (hsz:l≤1000000) (hc:LessOk enc lt g cs H0 nx0 v l) (d:Array α) (hl:d.size=l) {H:Hp} {nx:Nat} (hR:RowAt enc H0 nx0 v d H nx) {K:D->Hp->Nat->Prop}
  (hK : ∀ H' nx',RowAt enc H nx v (stable lt d) H' nx'->K (.tup []) H' nx'):ICall Tryz.prog 112 [.agg (lsC g cs v l hdI),dI l] H nx K:=by
 rw [stable_at lt hl] at hK
 obtain ⟨M,hM⟩ : ∃ M:Hp,M=H.set nx (some ⟨.c 184,2,[lsC g cs v l hdI]⟩):=⟨_,rfl⟩
 have hvn:v<nx:=by have:=hR.nx;omega
 have hS:RowAt enc M (nx+1) v d M (nx+1):=by rw [hM];exact hR.start hv hcs _ _
 have hB : ∀ {e:Array α} {H':Hp} {nx':Nat}, RowAt enc M (nx+1) v e H' nx'->H' nx=(some ⟨.c 184,2,[lsC g cs v l hdI]⟩):=fun h=>by rw [h.low nx (by omega) (by omega),hM,Hp.set_same]
 have hE : ∀ {e:Array α} {H':Hp} {nx':Nat}, RowAt enc M (nx+1) v e H' nx'->RowAt enc H nx v e H' nx':=fun h=>by rw [hM] at h;exact h.box
 have hlm:l≤maxLen:=by unfold maxLen;omega
 simp only [lsC] at hM hB
 have hT : ∀ {e:Array α} {H':Hp} {nx':Nat}, RowAt enc M (nx+1) v e H' nx'->RowAt enc H0 nx0 v e H' nx':=fun h=>hR.trans (hE h)
 have hv1:v<nx+1:=by omega
 refine fni_ok [0,1,2,4,5,6,7,11,26,31,49] [] Tryz.func112 rfl (by kernel_rfl) rfl rfl rfl rfl (by kernel_rfl) ?_
 simp [lsC]
 rw [← hM]
 refine loopH_ok (ks := [0,1,2,4,5,6,7,11,26,31,49]) (pl := []) (n0:=57) (α := {x:SwS α//x.j=x.i+20∧x.i≤l∧x.d.size=l∧stI lt l (l-x.i) x.i x.d=stI lt l l 0 d∧RowAt enc M (nx+1) v x.d x.H x.nx}) (fun x=>[(5,dI x.1.i),(6,dI x.1.j)]) (fun _ x=>x.1.H) (fun x=>x.1.nx) (fun x=>l-x.1.i) ⟨⟨0,20,d,M,nx+1⟩,rfl,Nat.zero_le _,hl,rfl,hS⟩ rfl (by kernel_rfl) (Wk.sub (by simp)) ?_
 rintro ⟨⟨a,b,e,H1,nx1⟩,hb,ha,hs,hd,hR1⟩
 simp only at hb ha hs hd hR1
 have hbx:=hB hR1
 by_cases c1:b≤l
 ·rw [stI_go lt (by omega), ← hb] at hd
  have w1:IntKind.i64.wrap ((b:Int)+20)=((b+20:Nat):Int):=by rw [wrap_id (by omega) (by omega)];omega
  obtain ⟨b2,hb2⟩ : ∃ b2,b2=b+20:=⟨_,rfl⟩
  rw [← hb2] at w1
  simp [c1,hbx]
  refine insF_ic lt g cs hcs hv hsz hc a b e hs (by omega) c1 (hT hR1) fun H2 nx2 hR2 => ?_
  have hR1:=hR1.trans hR2
  simp [w1]
  exact ⟨⟨b,b2,insA lt e a b,H2,nx2⟩,by simp only;omega,⟨hb2,c1,by simp only;rw [size_insA,hs],hd,hR1⟩,Wk.sub (by simp)⟩
 rw [stI_stop lt (by omega)] at hd
 simp [c1,hbx]
 refine insF_ic lt g cs hcs hv hsz hc a l e hs ha (Nat.le_refl _) (hT hR1) fun H2 nx2 hR2 => ?_
 have hR1:=hR1.trans hR2
 rw [hd] at hR1
 have hs1:(stI lt l l 0 d).size=l:=by rw [size_stI,hl]
 generalize stI lt l l 0 d=d1 at *
 clear hd hs hbx
 simp
 refine Ev.weak (st':=⟨57,[(1,dI l),(2,.one (.ptr nx 2 0 0)),(4,dI 20)],H2,nx2⟩) ?_ (Wk.sub (by simp))
 refine loopH_ok (ks := [0,1,2,4,5,6,7,11,26,31,49]) (pl := []) (n0:=57) (α := {x:SwS α//0<x.i∧x.i≤2*l+20∧x.d.size=l∧stL lt l (l-x.i) x.i x.d=stL lt l (l-20) 20 d1∧RowAt enc M (nx+1) v x.d x.H x.nx}) (fun x=>[(4,dI x.1.i)]) (fun _ x=>x.1.H) (fun x=>x.1.nx) (fun x=>l-x.1.i) ⟨⟨20,0,d1,H2,nx2⟩,by simp,by simp,hs1,rfl,hR1⟩ rfl (by kernel_rfl) (Wk.sub (by simp)) ?_
 clear hR1 hs1
 rintro ⟨⟨k, -, e,H1,nx1⟩,hk,hk2,hs,hd,hR1⟩
 simp only at hk hk2 hs hd hR1
 by_cases c2:k<l
 case neg =>
  rw [stL_stop lt c2] at hd
  simp [c2]
  exact ⟨hR1.sol,hK _ _ (by rw [← hd];exact hE hR1)⟩
 rw [stL_go lt hk c2] at hd
 have w2:IntKind.i64.wrap (2*(k:Int))=((2*k:Nat):Int):=by rw [wrap_id (by omega) (by omega)];omega
 have w3:IntKind.i64.wrap ((k:Int)*2)=((2*k:Nat):Int):=by rw [wrap_id (by omega) (by omega)];omega
 obtain ⟨k2,hk3⟩ : ∃ k2,k2=2*k:=⟨_,rfl⟩
 rw [← hk3] at w2 w3 hd
 have hsM:(stM lt l k l 0 e).size=l:=by rw [size_stM,hs]
 simp [c2,w2]
 refine loopH_ok (ks := [0,1,2,4,5,6,7,11,26,31,49]) (pl := []) (n0:=57) (α := {x:SwS α//x.j=x.i+k2∧x.i≤l∧x.d.size=l∧stM lt l k (l-x.i) x.i x.d=stM lt l k l 0 e∧RowAt enc M (nx+1) v x.d x.H x.nx}) (fun x=>[(5,dI x.1.i),(6,dI x.1.j)]) (fun _ x=>x.1.H) (fun x=>x.1.nx) (fun x=>l-x.1.i) ⟨⟨0,k2,e,H1,nx1⟩,by simp,Nat.zero_le _,hs,rfl,hR1⟩ rfl (by kernel_rfl) (Wk.sub (by simp)) ?_
 rintro ⟨⟨a,b,e2,H2,nx2⟩,hb,ha,hs2,hd2,hR2⟩
 simp only at hb ha hs2 hd2 hR2
 have hbx:=hB hR2
 have w4:=int_add (a:=a) (b:=k) (by omega)
 obtain ⟨m,hm⟩ : ∃ m,m=a+k:=⟨_,rfl⟩
 rw [← hm] at w4
 by_cases c3:b≤l
 ·rw [stM_go lt hk (by omega), ← hk3, ← hb, ← hm] at hd2
  have w5:=int_add (a:=b) (b:=k2) (by omega)
  obtain ⟨b2,hb2⟩ : ∃ b2,b2=b+k2:=⟨_,rfl⟩
  rw [← hb2] at w5
  simp [c3,w4,hbx]
  refine symF_ic lt g cs hcs hv hsz hc l a m b e2 hs2 (by omega) (by omega) c3 (by omega) (hT hR2) fun H3 nx3 hR3 => ?_
  have hR3:=hR2.trans hR3
  simp [w2,w5]
  exact ⟨⟨b,b2,sym lt a m b e2,H3,nx3⟩,by simp only;omega,⟨hb2,c3,by simp only;rw [size_sym,hs2],hd2,hR3⟩,Wk.sub (by simp)⟩
 rw [stM_stop lt hk (by omega), ← hm] at hd2
 by_cases c4:m<l
 ·rw [if_pos c4] at hd2
  simp [c3,w4,c4,hbx]
  refine symF_ic lt g cs hcs hv hsz hc l a m l e2 hs2 (by omega) c4 (Nat.le_refl _) (by omega) (hT hR2) fun H3 nx3 hR3 => ?_
  have hR3:=hR2.trans hR3
  rw [hd2] at hR3
  simp [w3]
  exact ⟨⟨k2,0,stM lt l k l 0 e,H3,nx3⟩,by simp only;omega,⟨by simp only;omega,by simp only;omega,hsM,hd,hR3⟩,Wk.sub (by simp)⟩
 ·rw [if_neg c4] at hd2
  rw [hd2] at hR2
  simp [c3,w4,c4,w3]
  exact ⟨⟨k2,0,stM lt l k l 0 e,H2,nx2⟩,by simp only;omega,⟨by simp only;omega,by simp only;omega,hsM,hd,hR2⟩,Wk.sub (by simp)⟩
end
end Go.Proofs.YtbphdcffpobcbaaGreatDoor

namespace Go.Proofs
open Go.Shelf
def Tryz.laysGt8_ren:Go.Shelf.Ren:=⟨fun | 8=>59 | 13=>110 | 14=>111 | 16=>113 | 15=>112 | 29=>171 | 30=>172 | 42=>214 | 49=>237 | n=>n,fun | 20=>20 | 26=>113 | 36=>178 | 0=>0 | 38=>180 | 42=>184 | 3=>3 | 4=>4 | 47=>210 | 17=>17 | 33=>175 | 34=>176 | 89=>321 | 12=>12 | 56=>262 | 82=>315 | 5=>5 | 83=>316 | 84=>317 | 85=>267 | 86=>318 | 87=>319 | n=>n,fun | n=>n⟩
theorem Tryz.laysGt8:Go.Proofs.LaysGt.n8 Tryz.prog Tryz.laysGt8_ren := {
 mixed:=by kernel_rfl
 f8:=Tryz.func59.trans (congrArg some (by kernel_rfl))
 f13:=Tryz.func110.trans (congrArg some (by kernel_rfl))
 f14:=Tryz.func111.trans (congrArg some (by kernel_rfl))
 f15:=Tryz.func112.trans (congrArg some (by kernel_rfl))
 f16:=Tryz.func113.trans (congrArg some (by kernel_rfl))
 f29:=Tryz.func171.trans (congrArg some (by kernel_rfl))
 f30:=Tryz.func172.trans (congrArg some (by kernel_rfl))
 f42:=Tryz.func214.trans (congrArg some (by kernel_rfl))
 f49:=Tryz.func237.trans (congrArg some (by kernel_rfl))
 t0:=Tryz.underlying0
 a0:=Tryz.isAgg0
 z0:=Tryz.sizeOf0
 v0:=Tryz.zeroValue0
 i0:=by kernel_rfl
 t3:=Tryz.underlying3
 a3:=Tryz.isAgg3
 z3:=Tryz.sizeOf3
 v3:=Tryz.zeroValue3
 i3:=by kernel_rfl
 t4:=Tryz.underlying4
 a4:=Tryz.isAgg4
 z4:=Tryz.sizeOf4
 v4:=Tryz.zeroValue4
 i4:=by kernel_rfl
 t5:=Tryz.underlying5
 a5:=Tryz.isAgg5
 z5:=Tryz.sizeOf5
 v5:=Tryz.zeroValue5
 i5:=by kernel_rfl
 t12:=Tryz.underlying12
 a12:=Tryz.isAgg12
 z12:=Tryz.sizeOf12
 v12:=Tryz.zeroValue12
 i12:=by kernel_rfl
 t17:=Tryz.underlying17
 a17:=Tryz.isAgg17
 z17:=Tryz.sizeOf17
 v17:=Tryz.zeroValue17
 i17:=by kernel_rfl
 t20:=Tryz.underlying20
 a20:=Tryz.isAgg20
 z20:=Tryz.sizeOf20
 v20:=Tryz.zeroValue20
 i20:=by kernel_rfl
 t26:=Tryz.underlying113
 a26:=Tryz.isAgg113
 z26:=Tryz.sizeOf113
 v26:=Tryz.zeroValue113
 i26:=by kernel_rfl
 t33:=Tryz.underlying175
 a33:=Tryz.isAgg175
 z33:=Tryz.sizeOf175
 v33:=Tryz.zeroValue175
 i33:=by kernel_rfl
 t34:=Tryz.underlying176
 a34:=Tryz.isAgg176
 z34:=Tryz.sizeOf176
 v34:=Tryz.zeroValue176
 i34:=by kernel_rfl
 t36:=Tryz.underlying178
 a36:=Tryz.isAgg178
 z36:=Tryz.sizeOf178
 v36:=Tryz.zeroValue178
 i36:=by kernel_rfl
 t38:=Tryz.underlying180
 a38:=Tryz.isAgg180
 z38:=Tryz.sizeOf180
 v38:=Tryz.zeroValue180
 i38:=by kernel_rfl
 t42:=Tryz.underlying184
 a42:=Tryz.isAgg184
 z42:=Tryz.sizeOf184
 v42:=Tryz.zeroValue184
 i42:=by kernel_rfl
 t47:=Tryz.underlying210
 a47:=Tryz.isAgg210
 z47:=Tryz.sizeOf210
 v47:=Tryz.zeroValue210
 i47:=by kernel_rfl
 t56:=Tryz.underlying262
 a56:=Tryz.isAgg262
 z56:=Tryz.sizeOf262
 v56:=Tryz.zeroValue262
 i56:=by kernel_rfl
 t82:=Tryz.underlying315
 a82:=Tryz.isAgg315
 z82:=Tryz.sizeOf315
 v82:=Tryz.zeroValue315
 i82:=by kernel_rfl
 t83:=Tryz.underlying316
 a83:=Tryz.isAgg316
 z83:=Tryz.sizeOf316
 v83:=Tryz.zeroValue316
 i83:=by kernel_rfl
 t84:=Tryz.underlying317
 a84:=Tryz.isAgg317
 z84:=Tryz.sizeOf317
 v84:=Tryz.zeroValue317
 i84:=by kernel_rfl
 t85:=Tryz.underlying267
 a85:=Tryz.isAgg267
 z85:=Tryz.sizeOf267
 v85:=Tryz.zeroValue267
 i85:=by kernel_rfl
 t86:=Tryz.underlying318
 a86:=Tryz.isAgg318
 z86:=Tryz.sizeOf318
 v86:=Tryz.zeroValue318
 i86:=by kernel_rfl
 t87:=Tryz.underlying319
 a87:=Tryz.isAgg319
 z87:=Tryz.sizeOf319
 v87:=Tryz.zeroValue319
 i87:=by kernel_rfl
 t89:=Tryz.underlying321
 a89:=Tryz.isAgg321
 z89:=Tryz.sizeOf321
 v89:=Tryz.zeroValue321
 i89:=by kernel_rfl }
end Go.Proofs

namespace Go.Proofs.YtbphdcffpobcbaaGreatDoor
open Go.RowKit Go
open Go.Sort
theorem HpOk.grows {β:Base} {F:Nat->Prop} {w w':World} {ι:Nms} {H:Hp} {nx:Nat} (h:HpOk β F w ι H nx) (hsz:w.heap.size≤w'.heap.size) (hb : ∀ b,b<w.heap.size->w'.heap[b]? = w.heap[b]?) (hio:SameIo w w'):HpOk β F w' ι H nx∧Env.le ⟨F,β.B⟩ ⟨F,β.B⟩ w w':=by
 have hle:=h.env (w':=w') (fun b hb' _=>hb b hb')
 exact ⟨⟨Nat.le_trans h.size hsz,fun b h1 h2=>by rw [hb b (by have:=h.size;omega)];exact h.keep b h1 h2,fun b h1=>Nat.lt_of_lt_of_le (h.Flt b h1) hsz,h.Fof,h.F0,fun n x hn=>(h.blk n x hn).keep hle (Nms.le_refl _) fun b cap h1 h2=>hb b (h.own n b cap (by rw [hn];simp) h1 h2).1,fun n b cap h1 h2 h3=>by obtain ⟨a1,a2,a3⟩:=h.own n b cap h1 h2 h3;exact ⟨by omega,a2,a3⟩,h.inj,h.nx,h.nm,h.io.trans hio⟩,hle⟩
theorem HpOk.grow {β:Base} {F:Nat->Prop} {w:World} {ι:Nms} {H:Hp} {nx:Nat} (h:HpOk β F w ι H nx) (os:Array Obj):HpOk β F (Go.Sort.grow w os) ι H nx∧Env.le ⟨F,β.B⟩ ⟨F,β.B⟩ w (Go.Sort.grow w os) :=
 h.grows (by simp [Go.Sort.grow]) (fun b hb=>by simp [Go.Sort.grow,Array.getElem?_append,hb]) ⟨rfl,rfl,rfl⟩
section
variable {α:Type} [Inhabited α]
theorem stable_tiny (lt:α->α->Bool) {d:Array α} (h:d.size≤1):stable lt d=d:=by
 rw [stable_at lt rfl,stL_stop lt (by omega)]
 have:stI lt d.size d.size 0 d=insA lt d 0 d.size:=by
  have:=stI_stop lt (n:=d.size) (a:=0) (d:=d) (by omega)
  rwa [Nat.sub_zero] at this
 rw [this]
 unfold insA Go.Sort.insertionSort
 exact insOuter_stop lt 0 d.size 1 d (by omega)
noncomputable def siT:TypeInfo:=(Tryz.prog.info? 40).get (by kernel_rfl)
noncomputable def siE:TypeInfo:=(Tryz.prog.info? 3).get (by kernel_rfl)
theorem siK (n:Nat) (h2:2≤n):Lib.swapperK n siE 2=5:=by
 have a:siE.hasPointers=false:=by kernel_rfl
 have b:siE.bytes=8:=by kernel_rfl
 have c:(n == 0)=false:=by simp;omega
 have d:(n == 1)=false:=by simp;omega
 simp [Lib.swapperK,a,b,c,d]
variable {enc:α->Int} (lt:α->α->Bool)
theorem sliceStable_ic {H0 : Hp} {nx0 v l : Nat} (g : FuncId) (cs : List Cap) (hcs : cs.all Cap.solid = true) (hv : v < nx0) (hsz : l ≤ 1000000) (hc : LessOk enc lt g cs H0 nx0 v l) (d : Array α) (hl : d.size = l) {H : Hp} {nx : Nat} (hR : RowAt enc H0 nx0 v d H nx) {K : D → Hp → Nat → Prop}
    (hK : ∀ H' nx', RowAt enc H nx v (stable lt d) H' nx' → K (.tup []) H' nx') : ICall Tryz.prog 59 [.one (.ifo 40 v 1 l), .one (.fnp (.func g) cs)] H nx K :=
  ⟨by kernel_rfl, fun β F ι w vs hg hH hvs => by
    match vs, hvs with
    | [a, b], hvs =>
      simp only [RVs, RV, RC] at hvs
      obtain ⟨⟨b0, cap, e1, e2, e3, e4⟩, ⟨ys, rfl, hys⟩, -⟩ := hvs
      obtain ⟨p, n, c, rfl, hn⟩ : ∃ (p : Option Addr) (n c : Nat), a = .iface 40 (.slice p n c) ∧ ((cap = 0 ∧ n = 0 ∧ l = 0) ∨ (0 < cap ∧ n = l ∧ p = some ⟨b0, 0, none⟩ ∧ c = cap)) := by
        rcases e4 with ⟨h, A, rfl⟩ | ⟨h, rfl⟩
        · exact ⟨A, 0, 0, rfl, .inl ⟨h, rfl, by omega⟩⟩
        · exact ⟨_, l, cap, rfl, .inr ⟨h, rfl, rfl, rfl⟩⟩
      by_cases h2 : 2 ≤ l
      case neg =>
        have hn1 : n ≤ 1 := by omega
        have hKd : K (.tup []) H nx := by
          rw [stable_tiny lt (by omega)] at hK
          exact hK H nx ⟨hR.row, Nat.le_refl _, fun _ _ _ => rfl, hR.sol⟩
        obtain ⟨f, hf⟩ : ∃ f, Tryz.prog.funcs.findIdx? (·.name == "internal/reflectlite" ++ ".Swapper$" ++ toString (Lib.swapperK n siE 2)) = some f := by
          rcases (show n = 0 ∨ n = 1 by omega) with rfl | rfl
          · exact ⟨162, by rw [show Lib.swapperK 0 siE 2 = 1 from rfl]; kernel_rfl⟩
          · exact ⟨163, by rw [show Lib.swapperK 1 siE 2 = 2 from rfl]; kernel_rfl⟩
        have ht := Any.sort_SliceStable_tiny Tryz.laysGt8 40 3 siT siE (by kernel_rfl) (by kernel_rfl) (by kernel_rfl) (by kernel_rfl) 2 (fun _ => by kernel_rfl) p n c hn1 f hf (.func g) #[] ys w
        refine Calls.mono ht ?_
        rintro e w' ⟨rfl, os, rfl⟩
        obtain ⟨z1, z2⟩ := hH.grow os
        exact ⟨F, ι, H, nx, .tup [], .tuple #[], rfl, z1, z2, Nms.le_refl _, by rw [RV]; exact ⟨#[], rfl, by rw [RVs]; trivial⟩, hKd⟩
      obtain ⟨hc0, rfl, rfl, rfl⟩ : 0 < cap ∧ n = l ∧ p = some ⟨b0, 0, none⟩ ∧ c = cap := by
        rcases hn with ⟨-, -, h⟩ | h
        · omega
        · exact h
      have hb : sliceBound Tryz.prog 3 siE 2 (some ⟨b0, 0, none⟩) n c = #[.slice (some ⟨b0, 0, none⟩) n c, Go.typeHandle Tryz.prog 3] := by
        unfold sliceBound; rw [if_neg (swapperK_gt _ _ _ h2)]
      have hS := Any.sort_SliceStable_of_stable Tryz.laysGt8 40 3 siT siE (by kernel_rfl) (by kernel_rfl) (by kernel_rfl) (by kernel_rfl) 2 (fun _ => by kernel_rfl) (some ⟨b0, 0, none⟩) n c (by omega) 166 (by rw [siK _ h2]; kernel_rfl) (.func g) #[] ys w
        (fun w' => ∃ F' ι' H' nx', HpOk β F' w' ι' H' nx' ∧ Env.le ⟨F, β.B⟩ ⟨F', β.B⟩ w w' ∧ Nms.le ι ι' ∧ K (.tup []) H' nx') ?_
      · refine Calls.mono hS ?_
        rintro e w' ⟨rfl, F', ι', H', nx', z1, z2, z3, z4⟩
        exact ⟨F', ι', H', nx', .tup [], .tuple #[], rfl, z1, z2, z3, by rw [RV]; exact ⟨#[], rfl, by rw [RVs]; trivial⟩, z4⟩
      · rw [hb]
        have hg2 : HpOk β F (stableWorld Tryz.prog Tryz.laysGt8_ren 40 (some ⟨b0, 0, none⟩) n c w) ι H nx ∧ Env.le ⟨F, β.B⟩ ⟨F, β.B⟩ w (stableWorld Tryz.prog Tryz.laysGt8_ren 40 (some ⟨b0, 0, none⟩) n c w) := by
          unfold stableWorld
          rw [alloc_eq_grow, alloc_eq_grow, grow_grow]
          exact hH.grow _
        generalize stableWorld Tryz.prog Tryz.laysGt8_ren 40 (some ⟨b0, 0, none⟩) n c w = w2 at *
        obtain ⟨hH2, hle2⟩ := hg2
        have hC := (staF_ic lt g cs hcs hv hsz hc d hl hR (K := fun d H' nx' => d = .tup [] ∧ K (.tup []) H' nx') (fun H' nx' hR' => ⟨rfl, hK H' nx' hR'⟩)).2 β F ι w2 [.agg #[.func (.func g) #[] ys, .func (.func 166) #[] #[.slice (some ⟨b0, 0, none⟩) n c, Go.typeHandle Tryz.prog 3]], .int .i64 n] hg hH2 ?_
        · refine Calls.mono hC ?_
          rintro e w' ⟨F', ι', H', nx', d', v', rfl, z1, z2, z3, z4, rfl, z6⟩
          rw [RV] at z4
          obtain ⟨xs, rfl, hx⟩ := z4
          have : xs = #[] := by
            cases hxs : xs.toList with
            | nil => exact Array.ext' (by simpa using hxs)
            | cons _ _ => rw [hxs] at hx; simp [RVs] at hx
          subst this
          exact ⟨rfl, F', ι', H', nx', z1, ⟨fun b h => z2.F b h, fun _ h => h, fun b h => (z2.f b h).trans (hle2.f b h), fun b h => (z2.b b h).trans (hle2.b b h)⟩, z3, z6⟩
        · simp only [RVs, RV, and_true]
          refine ⟨⟨_, rfl, ⟨ys, rfl, hys.keep hle2 (Nms.le_refl _)⟩, ⟨_, rfl, ⟨b0, c, e1, e2, e3, .inr ⟨hc0, rfl⟩⟩, .lit rfl, trivial⟩, trivial⟩, .lit rfl⟩
    | [], hvs => simp [RVs] at hvs
    | [_], hvs => simp [RVs] at hvs
    | _ :: _ :: _ :: _, hvs => simp [RVs] at hvs⟩
end
end Go.Proofs.YtbphdcffpobcbaaGreatDoor

