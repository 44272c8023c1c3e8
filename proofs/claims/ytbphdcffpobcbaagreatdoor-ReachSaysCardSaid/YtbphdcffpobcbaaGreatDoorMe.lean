/- Several texts in one. -/
import Derived.WalkKit
import Derived.ProofKit
import Ieee.Arith
import Derived.Shelf.Strings.Fields
import Derived.Test.YtbphdcffpobcbaaGreatDoorProg
import Derived.WalkLawsBesides
import Derived.WalkSpells
import Derived.OwnWalk
import Derived.Deep.DeepAppendWide
import Derived.Laws.AppendOwnNone
import Derived.Test.YtbphdcffpobcbaaGreatDoorMa
import Derived.Test.YtbphdcffpobcbaaGreatDoorMd
set_option linter.unusedSimpArgs false
set_option linter.unusedVariables false
set_option maxRecDepth 100000
set_option maxHeartbeats 16000000
namespace Go.Proofs.YtbphdcffpobcbaaGreatDoor
open Go.RowKit Go
theorem come0_ok (f:GFn) {H:Hp} {nx nw ns no:Nat} (hw:H nw=some ⟨.c 252,9,[[.d (eI f.params),.d (eI f.regs),.d (eB f.gen),.d (.sl true (f.caught.map eInt)),.d (.sl true (f.code.map eIns)),.own ns 1 f.code.length,.own no 1 f.code.length,.d .emp,.d (eB false)]]⟩)
  (hs:H ns=some ⟨.c 4,1,(initQ f).seen.map fun b=>[.d (eB b)]⟩) (ho:H no=some ⟨.c 98,1,(initQ f).out.map fun l=>[.d (.sl true (l.map eTry))]⟩) (d1:nw≠ns) (d2:nw≠no) (d4:ns≠no) (lw:nw<nx) (ls:ns<nx) (lo:no<nx) (sol:HSol H) (hc:0<f.code.length) (hc2:f.code.length≤1000) {K:D->Hp->Nat->Prop}
  (h : ∀ H' nx' nt',WH f H' nx' nw ns no nt' (comeQ f (initQ f) 0 [])->nx≤nx'->K (.tup []) H' nx'):ICall Tryz.prog 197 [.one (.ptr nw 9 0 0),dI 0,dL true (([]:List GTry).map eTry)] H nx K:=by
 refine fni_ok [0,1,2,6,23,55] [(3,[0,1,3,7,0,0,32,96,224,0,0,511,2559,8191,16383],(.seg 0 (.seg 1 (.seg 2 (.seg 3 (.seg 4 (.seg 5 (.seg 6 (.seg 7 (.seg 8 (.seg 9 (.seg 10 (.seg 11 (.eff 12 [] (.seg 13 (.eff 14 [] .last))))))))))))))))] Tryz.func197 rfl (by kernel_rfl) rfl rfl rfl rfl (by kernel_rfl) ?_
 have g1:0<(initQ f).seen.length:=by simpa [initQ] using hc
 have g2:0<(initQ f).out.length:=by simpa [initQ] using hc
 have hsn:(initQ f).seen[0]=false:=by simp [initQ]
 have hne:f.code ≠ []:=List.length_pos_iff.1 hc
 simp [hc,hne,hw,hs,ho,List.getElem?_eq_getElem g1,List.getElem?_eq_getElem g2,hsn,d1,d2,d4,d1.symm,d2.symm,d4.symm,show nw≠nx+1 by omega,show nw≠nx by omega,show ns≠nx by omega,show no≠nx by omega]
 intro _
 have es1:((initQ f).seen.map fun b=>[C.d (eB b)]).set 0 [C.d (Dt.lit (Value.bool true))]=((initQ f).seen.set 0 true).map fun b=>[C.d (eB b)]:=by rw [List.map_set]
 have es2:((initQ f).out.map fun l=>[C.d (Dt.sl true (l.map eTry))]).set 0 [C.d (Dt.sl true [])]=((initQ f).out.set 0 []).map fun l=>[C.d (Dt.sl true (l.map eTry))]:=by rw [List.map_set];rfl
 rw [es1,es2]
 have hq:comeQ f (initQ f) 0 []=⟨(initQ f).seen.set 0 true,(initQ f).out.set 0 [],[0],false⟩:=by
  unfold comeQ
  rw [if_neg (by simp;omega),if_pos (by simp [initQ,List.getD_eq_getElem?_getD,List.getElem?_replicate,hc])]
  rfl
 have hsol:=HSol.set (n:=nw) (b:=⟨.c 252,9,[[.d (eI f.params),.d (eI f.regs),.d (eB f.gen),.d (.sl true (f.caught.map eInt)),.d (.sl true (f.code.map eIns)),.own ns 1 f.code.length,.own no 1 f.code.length,.own (nx+1) 1 1,.d (eB false)]]⟩)
  (HSol.set (n:=nx+1) (b:=⟨.c 3,1,[[C.d (eI 0)]]⟩) (HSol.set (n:=nx) (b:=⟨.c 3,1,[[C.d (eI 0)]]⟩) (HSol.set (n:=no) (b:=⟨.c 98,1,((initQ f).out.set 0 []).map fun l=>[C.d (Dt.sl true (l.map eTry))]⟩)
   (HSol.set (n:=ns) (b:=⟨.c 4,1,((initQ f).seen.set 0 true).map fun b=>[C.d (eB b)]⟩) sol (solMap _ _ fun _=>rfl)) (solMap _ _ fun _=>rfl)) (by simp)) (by simp)) (by simp)
 refine ⟨hsol,h _ _ (nx+1) ?_ (by omega)⟩
 rw [hq]
 have q1:ns≠nx+1:=by omega
 have q2:no≠nx+1:=by omega
 have q3:nw≠nx+1:=by omega
 have q4:ns≠nx:=by omega
 have q5:no≠nx:=by omega
 refine ⟨by simp,?_,?_,⟨[],?_⟩,d1,d2,q3,d4,q1,q2,by omega,by omega,by omega,by omega,hsol,by simp [initQ],by simp [initQ]⟩
 ·simp only [Hp.set];simp [d1.symm,q1,q4,d4]
 ·simp only [Hp.set];simp [d2.symm,q2,q5]
 ·simp only [Hp.set];simp [q3.symm]
abbrev walk0 (f:GFn) (ns no:Nat):Blk:=⟨.c 252,9,[[.d (eI f.params),.d (eI f.regs),.d (eB f.gen),.d (.sl true (f.caught.map eInt)),.d (.sl true (f.code.map eIns)),.own ns 1 f.code.length,.own no 1 f.code.length,.d .emp,.d (eB false)]]⟩
def goodH (f:GFn) (ns no:Nat):Hp:=fun i=>if i=3 then some (walk0 f ns no) else if i=ns then some ⟨.c 4,1,(initQ f).seen.map fun b=>[.d (eB b)]⟩ else if i=no then some ⟨.c 98,1,(initQ f).out.map fun l=>[.d (.sl true (l.map eTry))]⟩ else none
theorem goodH_sol (f:GFn) (ns no:Nat):HSol (goodH f ns no):=fun n x hx=>by
 unfold goodH at hx
 split at hx
 ·cases hx;simp
 split at hx
 ·cases hx;exact solMap _ _ fun _=>rfl
 split at hx
 ·cases hx;exact solMap _ _ fun _=>rfl
 ·cases hx
theorem goodH_less (f:GFn) {H:Hp} {ns no:Nat} (h3:H 3=some (walk0 f ns no)) (hs:H ns=some ⟨.c 4,1,List.replicate f.code.length [C.d (Dt.lit (Value.bool false))]⟩) (ho:H no=some ⟨.c 98,1,List.replicate f.code.length [C.d Dt.emp]⟩) :
  ∀ n y,goodH f ns no n=some y -> ∃ x,H n=some x∧x.less y:=by
 intro n y hy
 unfold goodH at hy
 split at hy
 ·rename_i e;subst e;cases hy
  exact ⟨_,h3,rfl,rfl,rfl,by simp,fun i j c hc=>⟨c,hc,.inl rfl⟩⟩
 split at hy
 ·rename_i e;subst e;cases hy
  refine ⟨_,hs,rfl,rfl,by simp [initQ],fun e he=>by (obtain ⟨x, -, rfl⟩:=List.mem_map.1 he;rfl),fun i j c hc=>⟨c,?_,.inl rfl⟩⟩
  simpa [initQ] using hc
 split at hy
 ·rename_i e;subst e;cases hy
  refine ⟨_,ho,rfl,rfl,by simp [initQ],fun e he=>by (obtain ⟨x, -, rfl⟩:=List.mem_map.1 he;rfl),fun i j c hc => ?_⟩
  simp only [initQ,nth2,List.map_replicate,List.getElem?_replicate] at hc
  split at hc
  ·rename_i hi
   cases j with
   | zero =>
    simp at hc
    refine ⟨.d .emp,by simp [nth2,List.getElem?_replicate,hi],.inr ⟨rfl,true,hc.symm⟩⟩
   | succ j=>simp at hc
  ·cases hc
 ·cases hy
theorem last_get (l:List Int) (junk:List (List C)) (h:l ≠ []):(l.map (fun n=>[C.d (eI n)])++junk)[l.length-1]? = some [C.d (eI (l.getLast h))]:=by
 have hp:0<l.length:=List.length_pos_iff.2 h
 rw [List.getElem?_append_left (by simp;omega),List.getElem?_map,List.getElem?_eq_getElem (by omega),List.getLast_eq_getElem]
 rfl
theorem popE (l:List Int) (junk:List (List C)) (h0:l ≠ []):l.map (fun n=>[C.d (eI n)])++junk=l.dropLast.map (fun n=>[C.d (eI n)])++([C.d (eI (l.getLast h0))]::junk):=by
 refine (congrArg (fun l=>l.map (fun n=>[C.d (eI n)])++junk) (List.dropLast_concat_getLast h0).symm).trans ?_
 rw [List.map_append,List.append_assoc];rfl
theorem boolRow_isD {L:List Bool} : ∀ x∈L.map (fun b=>[C.d (eB b)]), ∀ c∈x,c.isD=true:=fun x hx c hc=>by
 obtain ⟨b, -, rfl⟩:=List.mem_map.1 hx
 obtain rfl:=List.mem_singleton.1 hc
 rfl
theorem WH.pop {f:GFn} {H:Hp} {nx nw ns no nt:Nat} {q:Wlk} (h:WH f H nx nw ns no nt q) (h0:q.todo ≠ []) (hb:q.bad=false):WH f (H.set nw (some ⟨.c 252,9,[[.d (eI f.params),.d (eI f.regs),.d (eB f.gen),.d (.sl true (f.caught.map eInt)),.d (.sl true (f.code.map eIns)),.own ns 1 f.code.length,.own no 1 f.code.length,.own nt 1 (q.todo.length-1),.d (eB false)]]⟩)) nx nw ns no nt { q with todo:=q.todo.dropLast } := by
 obtain ⟨junk,hj⟩:=h.t
 exact ⟨by simp [hb],by rw [Hp.set_ne _ _ h.d1.symm];exact h.s,by rw [Hp.set_ne _ _ h.d2.symm];exact h.o,⟨[C.d (eI (q.todo.getLast h0))]::junk,by rw [Hp.set_ne _ _ h.d3.symm,hj,popE _ _ h0]⟩,h.d1,h.d2,h.d3,h.d4,h.d5,h.d6,h.lw,h.ls,h.lo,h.lt,h.sol.set (by simp),h.ks,h.ko⟩
theorem tries_pos (f:GFn) (hg:goesAll f) (hc:0<f.code.length) (hc2:f.code.length≤1000) {K:D->List Blk->Prop}
  (h:K (.tup [.one (.own 0 1 f.code.length),.one (.own 1 1 f.code.length),dB (!(triesQ f).bad)]) [⟨.c 98,1,(triesQ f).out.map fun l=>[.d (.sl true (l.map eTry))]⟩,⟨.c 4,1,(triesQ f).seen.map fun b=>[.d (eB b)]⟩]):DPure Tryz.prog 144 [aD (eFn f)] K:=by
 refine fn_ok [0,1,2,3,4,5,6,32] [(1,[0,0,2,6,14,0,32,96,224,511,1023,2047],(.seg 0 (.seg 1 (.seg 2 (.seg 3 (.seg 5 (.seg 6 (.seg 7 (.fork 4 [0,5,6,7] (.eff 8 [0,1,2,3] (.seg 9 (.eff 10 [] (.seg 11 .last)))) (.eff 8 [0,1,2,3] (.eff 4 [0,5,6,7] (.seg 9 (.eff 10 [] (.seg 11 .last)))))))))))))),(4,[0,1,3,7,0,16,48,112,240,496,1023,2047,4095],(.seg 0 (.seg 1 (.seg 2 (.seg 3 (.seg 4 (.seg 5 (.seg 6 (.seg 7 (.seg 8 (.seg 9 (.seg 10 (.seg 11 (.seg 12 .last)))))))))))))),(5,[0,0,2,6,14,0,32,96,224,480,992,2046,4095,8191,16383],(.seg 0 (.seg 1 (.seg 2 (.seg 3 (.seg 4 (.seg 5 (.seg 6 (.seg 7 (.seg 8 (.seg 9 (.seg 10 (.seg 11 (.seg 12 (.seg 13 (.eff 14 [] .last)))))))))))))))),(7,[0,1,3,7,0,16,48,112,0,256,768,1792,3840,15,8447,32767],(.seg 0 (.seg 1 (.seg 2 (.seg 3 (.seg 4 (.seg 5 (.seg 6 (.seg 7 (.seg 8 (.seg 9 (.seg 10 (.seg 11 (.seg 12 (.seg 13 (.seg 14 (.seg 15 .last)))))))))))))))))] Tryz.func144 rfl (by kernel_rfl) rfl rfl rfl rfl (by kernel_rfl) ?_
 simp
 intro _
 have h1:=(CInv.init (f:=f)).come Rch.start (Int.le_refl 0)
 have hm0:msr (comeQ f (initQ f) 0 [])≤2*f.code.length+1:=by
  have:=comeQ_msr f (initQ f) 0 [] (by simp [initQ]) (Int.le_refl 0)
  have:=msr_init f
  omega
 refine ⟨⟨by omega,?_⟩,by omega,?_⟩
 ·refine ICall.less (es := [.one (.ptr 3 9 0 0),dI 0,dL true (([]:List GTry).map eTry)]) (H':=goodH f 1 2) ⟨.inl rfl,.inl rfl,.inr ⟨rfl,true,rfl⟩,trivial⟩ (goodH_less f (by simp) (by simp) (by simp)) ?_
  refine come0_ok f (ns:=1) (no:=2) (by simp [goodH]) (by simp [goodH]) (by simp [goodH]) (by omega) (by omega) (by omega) (by omega) (by omega) (by omega) (goodH_sol f 1 2) hc hc2 fun H1 nx1 nt1 hW1 hle1 => ?_
  simp
  refine loopH_ok (ks := [0,1,2,3,4,5,6,32]) (pl := [(1,[0,0,2,6,14,0,32,96,224,511,1023,2047],(.seg 0 (.seg 1 (.seg 2 (.seg 3 (.seg 5 (.seg 6 (.seg 7 (.fork 4 [0,5,6,7] (.eff 8 [0,1,2,3] (.seg 9 (.eff 10 [] (.seg 11 .last)))) (.eff 8 [0,1,2,3] (.eff 4 [0,5,6,7] (.seg 9 (.eff 10 [] (.seg 11 .last)))))))))))))),(4,[0,1,3,7,0,16,48,112,240,496,1023,2047,4095],(.seg 0 (.seg 1 (.seg 2 (.seg 3 (.seg 4 (.seg 5 (.seg 6 (.seg 7 (.seg 8 (.seg 9 (.seg 10 (.seg 11 (.seg 12 .last)))))))))))))),(5,[0,0,2,6,14,0,32,96,224,480,992,2046,4095,8191,16383],(.seg 0 (.seg 1 (.seg 2 (.seg 3 (.seg 4 (.seg 5 (.seg 6 (.seg 7 (.seg 8 (.seg 9 (.seg 10 (.seg 11 (.seg 12 (.seg 13 (.eff 14 [] .last)))))))))))))))),(7,[0,1,3,7,0,16,48,112,0,256,768,1792,3840,15,8447,32767],(.seg 0 (.seg 1 (.seg 2 (.seg 3 (.seg 4 (.seg 5 (.seg 6 (.seg 7 (.seg 8 (.seg 9 (.seg 10 (.seg 11 (.seg 12 (.seg 13 (.seg 14 (.seg 15 .last)))))))))))))))))]) (n0:=75) (α := {x:Wlk×Hp×Nat×Nat//WH f x.2.1 x.2.2.1 3 1 2 x.2.2.2 x.1∧CInv f x.1 none ∧ ∃ m,m≤2*f.code.length+1∧triesQ f=runQ f m x.1∧msr x.1≤m}) (fun _=>[]) (fun _ x=>x.1.2.1) (fun x=>x.1.2.2.1) (fun x=>msr x.1.1) ⟨(comeQ f (initQ f) 0 [],H1,nx1,nt1),hW1,h1.1,_,Nat.le_refl _,rfl,hm0⟩ rfl (by kernel_rfl) (Wk.refl _) ?_
  rintro ⟨⟨q,H,nx,nt⟩,hW,hI,m,hm1,hm2,hm3⟩
  simp only at hW hI hm2 hm3
  have hw:=hW.w
  obtain ⟨junk,hj⟩:=hW.t
  have htl:q.todo.length≤2001:=by unfold msr at hm3;omega
  simp only [puts]
  by_cases h0:q.todo=[]
  ·have he:triesQ f=q:=by rw [hm2];cases m with | zero=>rfl | succ m=>unfold runQ;rw [if_pos (.inl h0)]
   simp [hw,h0,hW.s,hW.o,List.idxOf,List.findIdx,List.findIdx.go]
   rw [he] at h
   rw [if_pos boolRow_isD]
   exact h
  ·have hpos:0<q.todo.length:=List.length_pos_iff.2 h0
   have hl:=lastQ_mem h0 fun x hx=>(hI.todo x hx).1
   have hwl:IntKind.i64.wrap ((q.todo.length:Int)-1)=((q.todo.length-1:Nat):Int):=by rw [wrap_id (by omega) (by omega)];omega
   by_cases hb:q.bad=true
   ·have he:triesQ f=q:=by rw [hm2];exact runQ_bad _ hb
    simp [hw,h0,hpos,hb,hW.s,hW.o,List.idxOf,List.findIdx,List.findIdx.go]
    rw [he,hb] at h
    intro _
    rw [if_pos boolRow_isD]
    exact h
   ·have hb:q.bad=false:=by simpa using hb
    have hlg:=last_get q.todo junk h0
    simp [hw,h0,hpos,hb,hwl,hj,hlg,show q.todo.length-1<q.todo.length by omega]
    intro _
    rw [← hl]
    have hlt:lastQ q<f.code.length:=by
     have:=(hI.todo _ (List.getLast_mem h0)).2.1
     rw [← hl] at this;omega
    have hsn:q.seen.getD (lastQ q) false=true:=by
     have:=(hI.todo _ (List.getLast_mem h0)).2.2
     rw [← hl,Int.toNat_natCast] at this;exact this
    refine from_ok (hW.pop h0 hb) (lastQ q) hlt hc2 (hg _ (List.getElem_mem hlt)) (hI.sound _ hsn).2.2 (by simp;omega) fun H2 nx2 nt2 hW2 hle2 => ?_
    have hst:fromQ f { q with todo:=q.todo.dropLast } (lastQ q) f.code[lastQ q] (q.out.getD (lastQ q) [])=stepQ f q:=by
     unfold stepQ
     rw [show f.code.getD (lastQ q) dIns=f.code[lastQ q] by simp [List.getD_eq_getElem?_getD,List.getElem?_eq_getElem hlt]]
    have hW2:WH f H2 nx2 3 1 2 nt2 (stepQ f q):=hst▸hW2
    have hms:=stepQ_msr hg hI h0
    simp
    obtain ⟨m',rfl⟩ : ∃ m',m=m'+1:=⟨m-1,by omega⟩
    refine ⟨stepQ f q,hms,H2,nx2,⟨⟨nt2,hW2⟩,hI.step hg h0,m',by omega,?_,by omega⟩,Wk.sub (by simp)⟩
    rw [hm2]
    conv=>lhs;unfold runQ
    rw [if_neg (by simp [h0,hb])]
 ·refine ICall.less (es := [.one (.ptr 3 9 0 0),dI 0,dL true (([]:List GTry).map eTry)]) (H':=goodH f 2 1) ⟨.inl rfl,.inl rfl,.inr ⟨rfl,true,rfl⟩,trivial⟩ (goodH_less f (by simp) (by simp) (by simp)) ?_
  refine come0_ok f (ns:=2) (no:=1) (by simp [goodH]) (by simp [goodH]) (by simp [goodH]) (by omega) (by omega) (by omega) (by omega) (by omega) (by omega) (goodH_sol f 2 1) hc hc2 fun H1 nx1 nt1 hW1 hle1 => ?_
  simp
  refine loopH_ok (ks := [0,1,2,3,4,5,6,32]) (pl := [(1,[0,0,2,6,14,0,32,96,224,511,1023,2047],(.seg 0 (.seg 1 (.seg 2 (.seg 3 (.seg 5 (.seg 6 (.seg 7 (.fork 4 [0,5,6,7] (.eff 8 [0,1,2,3] (.seg 9 (.eff 10 [] (.seg 11 .last)))) (.eff 8 [0,1,2,3] (.eff 4 [0,5,6,7] (.seg 9 (.eff 10 [] (.seg 11 .last)))))))))))))),(4,[0,1,3,7,0,16,48,112,240,496,1023,2047,4095],(.seg 0 (.seg 1 (.seg 2 (.seg 3 (.seg 4 (.seg 5 (.seg 6 (.seg 7 (.seg 8 (.seg 9 (.seg 10 (.seg 11 (.seg 12 .last)))))))))))))),(5,[0,0,2,6,14,0,32,96,224,480,992,2046,4095,8191,16383],(.seg 0 (.seg 1 (.seg 2 (.seg 3 (.seg 4 (.seg 5 (.seg 6 (.seg 7 (.seg 8 (.seg 9 (.seg 10 (.seg 11 (.seg 12 (.seg 13 (.eff 14 [] .last)))))))))))))))),(7,[0,1,3,7,0,16,48,112,0,256,768,1792,3840,15,8447,32767],(.seg 0 (.seg 1 (.seg 2 (.seg 3 (.seg 4 (.seg 5 (.seg 6 (.seg 7 (.seg 8 (.seg 9 (.seg 10 (.seg 11 (.seg 12 (.seg 13 (.seg 14 (.seg 15 .last)))))))))))))))))]) (n0:=75) (α := {x:Wlk×Hp×Nat×Nat//WH f x.2.1 x.2.2.1 3 2 1 x.2.2.2 x.1∧CInv f x.1 none ∧ ∃ m,m≤2*f.code.length+1∧triesQ f=runQ f m x.1∧msr x.1≤m}) (fun _=>[]) (fun _ x=>x.1.2.1) (fun x=>x.1.2.2.1) (fun x=>msr x.1.1) ⟨(comeQ f (initQ f) 0 [],H1,nx1,nt1),hW1,h1.1,_,Nat.le_refl _,rfl,hm0⟩ rfl (by kernel_rfl) (Wk.refl _) ?_
  rintro ⟨⟨q,H,nx,nt⟩,hW,hI,m,hm1,hm2,hm3⟩
  simp only at hW hI hm2 hm3
  have hw:=hW.w
  obtain ⟨junk,hj⟩:=hW.t
  have htl:q.todo.length≤2001:=by unfold msr at hm3;omega
  simp only [puts]
  by_cases h0:q.todo=[]
  ·have he:triesQ f=q:=by rw [hm2];cases m with | zero=>rfl | succ m=>unfold runQ;rw [if_pos (.inl h0)]
   simp [hw,h0,hW.s,hW.o,List.idxOf,List.findIdx,List.findIdx.go]
   rw [he] at h
   rw [if_pos boolRow_isD]
   exact h
  ·have hpos:0<q.todo.length:=List.length_pos_iff.2 h0
   have hl:=lastQ_mem h0 fun x hx=>(hI.todo x hx).1
   have hwl:IntKind.i64.wrap ((q.todo.length:Int)-1)=((q.todo.length-1:Nat):Int):=by rw [wrap_id (by omega) (by omega)];omega
   by_cases hb:q.bad=true
   ·have he:triesQ f=q:=by rw [hm2];exact runQ_bad _ hb
    simp [hw,h0,hpos,hb,hW.s,hW.o,List.idxOf,List.findIdx,List.findIdx.go]
    rw [he,hb] at h
    intro _
    rw [if_pos boolRow_isD]
    exact h
   ·have hb:q.bad=false:=by simpa using hb
    have hlg:=last_get q.todo junk h0
    simp [hw,h0,hpos,hb,hwl,hj,hlg,show q.todo.length-1<q.todo.length by omega]
    intro _
    rw [← hl]
    have hlt:lastQ q<f.code.length:=by
     have:=(hI.todo _ (List.getLast_mem h0)).2.1
     rw [← hl] at this;omega
    have hsn:q.seen.getD (lastQ q) false=true:=by
     have:=(hI.todo _ (List.getLast_mem h0)).2.2
     rw [← hl,Int.toNat_natCast] at this;exact this
    refine from_ok (hW.pop h0 hb) (lastQ q) hlt hc2 (hg _ (List.getElem_mem hlt)) (hI.sound _ hsn).2.2 (by simp;omega) fun H2 nx2 nt2 hW2 hle2 => ?_
    have hst:fromQ f { q with todo:=q.todo.dropLast } (lastQ q) f.code[lastQ q] (q.out.getD (lastQ q) [])=stepQ f q:=by
     unfold stepQ
     rw [show f.code.getD (lastQ q) dIns=f.code[lastQ q] by simp [List.getD_eq_getElem?_getD,List.getElem?_eq_getElem hlt]]
    have hW2:WH f H2 nx2 3 2 1 nt2 (stepQ f q):=hst▸hW2
    have hms:=stepQ_msr hg hI h0
    simp
    obtain ⟨m',rfl⟩ : ∃ m',m=m'+1:=⟨m-1,by omega⟩
    refine ⟨stepQ f q,hms,H2,nx2,⟨⟨nt2,hW2⟩,hI.step hg h0,m',by omega,?_,by omega⟩,Wk.sub (by simp)⟩
    rw [hm2]
    conv=>lhs;unfold runQ
    rw [if_neg (by simp [h0,hb])]
theorem triesQ_nil {f:GFn} (hc:f.code=[]):triesQ f=⟨[],[],[],true⟩:=by
 unfold triesQ
 rw [hc]
 unfold comeQ initQ
 rw [hc]
 simp
 exact runQ_bad _ rfl
theorem HSol.zero:HSol Hp.none:=fun _ _ h=>by cases h
theorem tries_nil (f:GFn) (hc:f.code=[]) {K:D->List Blk->Prop}
  (h:K (.tup [.one (.own 0 1 0),.one (.own 1 1 0),dB false]) [⟨.c 98,1,[]⟩,⟨.c 4,1,[]⟩]):DPure Tryz.prog 144 [aD (eFn f)] K:=by
 refine fn_ok [0,1,2,3,4,5,6,32] [(1,[0,0,2,6,14,0,32,96,224,511,1023,2047],(.seg 0 (.seg 1 (.seg 2 (.seg 3 (.seg 5 (.seg 6 (.seg 7 (.fork 4 [0,5,6,7] (.eff 8 [0,1,2,3] (.seg 9 (.eff 10 [] (.seg 11 .last)))) (.eff 8 [0,1,2,3] (.eff 4 [0,5,6,7] (.seg 9 (.eff 10 [] (.seg 11 .last)))))))))))))),(4,[0,1,3,7,0,16,48,112,240,496,1023,2047,4095],(.seg 0 (.seg 1 (.seg 2 (.seg 3 (.seg 4 (.seg 5 (.seg 6 (.seg 7 (.seg 8 (.seg 9 (.seg 10 (.seg 11 (.seg 12 .last)))))))))))))),(5,[0,0,2,6,14,0,32,96,224,480,992,2046,4095,8191,16383],(.seg 0 (.seg 1 (.seg 2 (.seg 3 (.seg 4 (.seg 5 (.seg 6 (.seg 7 (.seg 8 (.seg 9 (.seg 10 (.seg 11 (.seg 12 (.seg 13 (.eff 14 [] .last)))))))))))))))),(7,[0,1,3,7,0,16,48,112,0,256,768,1792,3840,15,8447,32767],(.seg 0 (.seg 1 (.seg 2 (.seg 3 (.seg 4 (.seg 5 (.seg 6 (.seg 7 (.seg 8 (.seg 9 (.seg 10 (.seg 11 (.seg 12 (.seg 13 (.seg 14 (.seg 15 .last)))))))))))))))))] Tryz.func144 rfl (by kernel_rfl) rfl rfl rfl rfl (by kernel_rfl) ?_
 simp [hc]
 refine ⟨?_,?_⟩
 all_goals
  refine fni_ok [0,1,2,6,23,55] [(3,[0,1,3,7,0,0,32,96,224,0,0,511,2559,8191,16383],(.seg 0 (.seg 1 (.seg 2 (.seg 3 (.seg 4 (.seg 5 (.seg 6 (.seg 7 (.seg 8 (.seg 9 (.seg 10 (.seg 11 (.eff 12 [] (.seg 13 (.eff 14 [] .last))))))))))))))))] Tryz.func197 rfl (by kernel_rfl) rfl rfl rfl rfl (by kernel_rfl) ?_
  simp [hc]
  refine ⟨(((HSol.zero.set (by simp)).set (by simp)).set (by simp)).set (by simp),?_⟩
  refine loop_ok (ks := [0,1,2,3,4,5,6,32]) (pl := [(1,[0,0,2,6,14,0,32,96,224,511,1023,2047],(.seg 0 (.seg 1 (.seg 2 (.seg 3 (.seg 5 (.seg 6 (.seg 7 (.fork 4 [0,5,6,7] (.eff 8 [0,1,2,3] (.seg 9 (.eff 10 [] (.seg 11 .last)))) (.eff 8 [0,1,2,3] (.eff 4 [0,5,6,7] (.seg 9 (.eff 10 [] (.seg 11 .last)))))))))))))),(4,[0,1,3,7,0,16,48,112,240,496,1023,2047,4095],(.seg 0 (.seg 1 (.seg 2 (.seg 3 (.seg 4 (.seg 5 (.seg 6 (.seg 7 (.seg 8 (.seg 9 (.seg 10 (.seg 11 (.seg 12 .last)))))))))))))),(5,[0,0,2,6,14,0,32,96,224,480,992,2046,4095,8191,16383],(.seg 0 (.seg 1 (.seg 2 (.seg 3 (.seg 4 (.seg 5 (.seg 6 (.seg 7 (.seg 8 (.seg 9 (.seg 10 (.seg 11 (.seg 12 (.seg 13 (.eff 14 [] .last)))))))))))))))),(7,[0,1,3,7,0,16,48,112,0,256,768,1792,3840,15,8447,32767],(.seg 0 (.seg 1 (.seg 2 (.seg 3 (.seg 4 (.seg 5 (.seg 6 (.seg 7 (.seg 8 (.seg 9 (.seg 10 (.seg 11 (.seg 12 (.seg 13 (.seg 14 (.seg 15 .last)))))))))))))))))]) (n0:=75) (fun _:Unit=>[]) (fun _=>0) () rfl (by kernel_rfl) (Wk.refl _) ?_
  intro _
  simp [hc,List.idxOf,List.findIdx,List.findIdx.go]
  exact h
theorem tries_ok (f:GFn) (hg:goesAll f) (hc2:f.code.length≤1000) {K:D->List Blk->Prop}
  (h:K (.tup [.one (.own 0 1 f.code.length),.one (.own 1 1 f.code.length),dB (!(triesQ f).bad)]) [⟨.c 98,1,(triesQ f).out.map fun l=>[.d (.sl true (l.map eTry))]⟩,⟨.c 4,1,(triesQ f).seen.map fun b=>[.d (eB b)]⟩]):DPure Tryz.prog 144 [aD (eFn f)] K:=by
 by_cases hc:0<f.code.length
 ·exact tries_pos f hg hc hc2 h
 ·have hc:f.code=[]:=List.length_eq_zero_iff.1 (by omega)
  rw [triesQ_nil hc] at h
  rw [hc] at h
  exact tries_nil f hc h
end Go.Proofs.YtbphdcffpobcbaaGreatDoor

namespace Go.Proofs.YtbphdcffpobcbaaGreatDoor
open Go.RowKit
def flt (n:Int):Nat:=(IntKind.u64.wrap n).toNat
def same (x y:Nat):Bool:=Ieee.double.order x y == some .eq
def theNaN:Int:=9221120237041090561
def rightB (k n:Int):Bool :=
 if k=0 then n == 0 else if k=1 then decide (0≤n)&&decide (n≤1) else if k=2 then decide (-2147483648≤n)&&decide (n≤2147483647)
 else if k=3 then same (flt n) (flt n)||n == theNaN else if k=4∨k=5 then decide (0≤n) else if k=6 then decide (0≤n)&&decide (n≤15) else false
end Go.Proofs.YtbphdcffpobcbaaGreatDoor

namespace Go.Proofs.YtbphdcffpobcbaaGreatDoor
open Go.RowKit Go
def fnLargeB (f:GFn):Bool:=decide (600<f.code.length)||decide (60<f.regs)
def largeB (p:GProg):Bool:=decide (60<p.fns.length)||decide (200<p.consts.length)||decide (200<p.texts.length)||p.texts.any (fun t=>decide (200<t.size))||p.fns.any fnLargeB
def constBadB (p:GProg) (v:GVal):Bool := !rightB v.kind v.n||decide (v.kind=5)||decide (v.kind=4)&&decide ((p.texts.length:Int)≤v.n)
def tablesB (ws:List ByteArray) (p:GProg):Bool:=decide (p.texts.take ws.length=ws)&&decide p.texts.Nodup && !p.consts.any (constBadB p)
def ordersB (p:GProg) (f:GFn):Bool:=(List.range f.code.length).all fun k=>orderB p f k (f.code.getD k dIns)
def functionB (p:GProg) (f:GFn):Bool := !(decide (f.params<0)||decide (f.regs<1)||decide (f.regs<f.params))&&ordersB p f && !(triesQ f).bad
def firstB (p:GProg):Bool:=match p.fns with
 | []=>false
 | f::_=>decide (f.params=0)&&decide (f.caught=[]) && !f.gen
def checkQ (ws:List ByteArray) (p:GProg):Int:=if largeB p=true then 2 else if tablesB ws p=false∨firstB p=false then 3 else if p.fns.any (fun f => !functionB p f)=true then 3 else 0
theorem wr_in {n:Int} (h : -9223372036854775808≤n) (h2:n≤9223372036854775807):wr n=n:=wrap_id h h2
theorem names_pos {p:GProg} {f:GFn} {n:Int} (h:nameB p f 97 n=true):0≤n:=by
 simp [nameB,btw] at h;omega
theorem goes_of_order {p:GProg} {f:GFn} {k:Int} {i:GIns} (h:orderB p f k i=true):goesOk i:=by
 simp only [orderB,Bool.and_eq_true,decide_eq_true_eq] at h
 obtain ⟨⟨⟨⟨⟨h0,h1⟩,h2⟩,h3⟩,h4⟩,h5⟩:=h
 constructor
 ·intro e
  rcases e with e | e <;> (rw [e] at h2;exact names_pos h2)
 ·intro e
  rcases e with e | e <;> (rw [e] at h3;exact names_pos h3)
theorem orders_get {p:GProg} {f:GFn} (h:ordersB p f=true) {k:Nat} (hk:k<f.code.length):orderB p f k f.code[k]=true:=by
 have:=List.all_eq_true.1 h k (List.mem_range.2 hk)
 simpa [List.getD_eq_getElem?_getD,List.getElem?_eq_getElem hk] using this
theorem goesAll_of {p:GProg} {f:GFn} (h:ordersB p f=true):goesAll f:=fun i hi=>by
 obtain ⟨k,hk,rfl⟩:=List.getElem_of_mem hi
 exact goes_of_order (orders_get h hk)
structure MoreOk (p p':GProg) (f f':GFn):Prop where
 consts:p.consts.length≤p'.consts.length
 texts:p.texts.length≤p'.texts.length
 fns:p.fns.length≤p'.fns.length
 same : ∀ k,k<p.fns.length->(p'.fns.getD k ⟨0,0,false,[],[]⟩).caught=(p.fns.getD k ⟨0,0,false,[],[]⟩).caught
 regs:f.regs≤f'.regs
 one:1≤f.regs
 gen:f.gen=f'.gen
 caught:f.caught=f'.caught
 code:f.code=f'.code
 b1:p'.consts.length≤100000
 b2:p'.texts.length≤100000
 b3:p'.fns.length≤100000
 b4:f'.regs≤100000
end Go.Proofs.YtbphdcffpobcbaaGreatDoor

namespace Go.Proofs.YtbphdcffpobcbaaGreatDoor
open Go.RowKit Go
def keyDs:List D->Option (List Value)
 | []=>some []
 | d::ds=>(keyD d).bind fun v=>(keyDs ds).map fun l=>v::l
theorem keyDs_ok {E:Env} {w:World} {ι:Nms} : ∀ {ds:List D} {vs us:List Value}, RVs E w ι ds vs->keyDs ds=some us->vs=us
 | [],[],us,_,h=>by simp only [keyDs,Option.some.injEq] at h;exact h
 | [],_::_,_,h,_=>by simp [RVs] at h
 | _::_,[],_,h,_=>by simp [RVs] at h
 | d::ds,v::vs,us,h,hk=>by
  rw [RVs] at h
  simp only [keyDs] at hk
  obtain ⟨x,h1,h2⟩:=Option.bind_eq_some_iff.1 hk
  cases h3:keyDs ds with
  | none=>simp [h3] at h2
  | some l =>
   simp only [h3,Option.map_some,Option.some.injEq] at h2
   subst h2
   rw [keyD_ok h.1 h1,keyDs_ok h.2 h3]
theorem DPure.ofRow {P:Program} {f:FuncId} {ds:List D} {K:D->List Blk->Prop} (us:List Value) (hu:keyDs ds=some us) (hg:goFn P f=true) (t:TypeId) (xs:List Value) (h1:xs.all Value.oneCell'=true) (h0:0<xs.length) (hm:xs.length≤maxLen)
  (h : ∀ F w,GlOk F w->Calls P f us.toArray w fun e w'=>e = .returned (.slice (some ⟨w.heap.size,0,none⟩) xs.length xs.length)∧w'=w.alloc (.cells xs.toArray t)) (hK:K (.one (.own 0 1 xs.length)) [⟨.c t,1,xs.map fun v=>[.d (.lit v)]⟩]):DPure P f ds K :=
 ⟨hg,fun F w vs hF hgl hvs=>by
  rw [keyDs_ok hvs hu]
  refine (h F w hgl).mono ?_
  rintro e w' ⟨rfl,rfl⟩
  have hs:(w.alloc (.cells xs.toArray t)).heap.size=w.heap.size+1:=by show (w.heap.push _).size=_;rw [Array.size_push]
  refine ⟨F,fun i=>if i=0 then some (w.heap.size,xs.length) else none,_,_,_,rfl,⟨by omega,fun b hb=>old_alloc w _ b hb,fun _ h=>h,fun b h=>⟨.inl h,by have:=hF b h;omega⟩,fun i x hx => ?_,fun i b cap hi hb hc => ?_,fun i j b c c' hi hj _ _ _ _ => ?_,fun i hi => ?_,?_,rfl,rfl,rfl⟩,hK⟩
  ·cases i with
   | zero =>
    simp only [List.getElem?_cons_zero,Option.some.injEq] at hx
    subst hx
    refine ⟨⟨w.heap.size,xs.length,rfl,by simp,by simp,fun _=>⟨xs.toArray,?_,by simp,fun v hv=>List.all_eq_true.1 h1 v (by simpa using hv),fun i j c hc => ?_⟩⟩,fun e he c hc => ?_⟩
    ·show (w.heap.push _)[w.heap.size]? = _
     simp
    ·unfold nth2 at hc
     simp only [List.getElem?_map] at hc
     cases hx:xs[i]? with
     | none=>simp [hx] at hc
     | some v =>
      simp only [hx,Option.map_some,Option.bind_some] at hc
      cases j with
      | zero =>
       simp only [List.getElem?_cons_zero,Option.some.injEq] at hc
       subst hc
       exact ⟨v,by simp [hx],RD.lit (List.all_eq_true.1 h1 v (List.mem_of_getElem? hx))⟩
      | succ j=>simp at hc
    ·obtain ⟨v, -, rfl⟩:=List.mem_map.1 he
     exact ⟨_,List.mem_singleton.1 hc⟩
   | succ i=>simp at hx
  ·simp at hi;subst hi
   simp at hb
   obtain ⟨rfl,rfl⟩:=hb
   exact ⟨Nat.le_refl _,by omega,fun hF'=>by have:=hF _ hF';omega⟩
  ·simp at hi hj;omega
  ·simp at hi;have:i≠0:=by omega
   simp [this]
  ·rw [RV]
   exact ⟨w.heap.size,xs.length,rfl,Nat.le_refl _,hm,.inr ⟨h0,rfl⟩⟩⟩
end Go.Proofs.YtbphdcffpobcbaaGreatDoor

namespace Go.Proofs
open Go.Shelf
def Tryz.lays157_ren:Go.Shelf.Ren:=⟨fun | 157=>218 | 229=>238 | 199=>239 | 261=>248 | 311=>250 | 312=>251 | n=>n,fun | 9=>9 | 31=>24 | 3=>3 | 5=>5 | 4=>4 | 119=>283 | 0=>0 | 40=>285 | 152=>289 | 21=>21 | 154=>291 | 51=>262 | 141=>293 | 196=>300 | 193=>297 | 198=>303 | 49=>301 | 194=>298 | 201=>306 | 226=>308 | 46=>210 | 227=>309 | n=>n,fun | 0=>2 | 6=>4 | n=>n⟩
theorem Tryz.lays157:Go.Proofs.Lays.n157 Tryz.prog Tryz.lays157_ren := {
 mixed:=by kernel_rfl
 f157:=Tryz.func218.trans (congrArg some (by kernel_rfl))
 f199:=Tryz.func239.trans (congrArg some (by kernel_rfl))
 f229:=Tryz.func238.trans (congrArg some (by kernel_rfl))
 f261:=Tryz.func248.trans (congrArg some (by kernel_rfl))
 f311:=Tryz.func250.trans (congrArg some (by kernel_rfl))
 f312:=Tryz.func251.trans (congrArg some (by kernel_rfl))
 t0:=Tryz.underlying0
 a0:=Tryz.isAgg0
 z0:=Tryz.sizeOf0
 v0:=Tryz.zeroValue0
 t3:=Tryz.underlying3
 a3:=Tryz.isAgg3
 z3:=Tryz.sizeOf3
 v3:=Tryz.zeroValue3
 t4:=Tryz.underlying4
 a4:=Tryz.isAgg4
 z4:=Tryz.sizeOf4
 v4:=Tryz.zeroValue4
 t5:=Tryz.underlying5
 a5:=Tryz.isAgg5
 z5:=Tryz.sizeOf5
 v5:=Tryz.zeroValue5
 t9:=Tryz.underlying9
 a9:=Tryz.isAgg9
 z9:=Tryz.sizeOf9
 v9:=Tryz.zeroValue9
 t21:=Tryz.underlying21
 a21:=Tryz.isAgg21
 z21:=Tryz.sizeOf21
 v21:=Tryz.zeroValue21
 t31:=Tryz.underlying24
 a31:=Tryz.isAgg24
 z31:=Tryz.sizeOf24
 v31:=Tryz.zeroValue24
 t40:=Tryz.underlying285
 a40:=Tryz.isAgg285
 z40:=Tryz.sizeOf285
 v40:=Tryz.zeroValue285
 t46:=Tryz.underlying210
 a46:=Tryz.isAgg210
 z46:=Tryz.sizeOf210
 v46:=Tryz.zeroValue210
 t49:=Tryz.underlying301
 a49:=Tryz.isAgg301
 z49:=Tryz.sizeOf301
 v49:=Tryz.zeroValue301
 t51:=Tryz.underlying262
 a51:=Tryz.isAgg262
 z51:=Tryz.sizeOf262
 v51:=Tryz.zeroValue262
 t119:=Tryz.underlying283
 a119:=Tryz.isAgg283
 z119:=Tryz.sizeOf283
 t141:=Tryz.underlying293
 a141:=Tryz.isAgg293
 z141:=Tryz.sizeOf293
 v141:=Tryz.zeroValue293
 t152:=Tryz.underlying289
 a152:=Tryz.isAgg289
 z152:=Tryz.sizeOf289
 v152:=Tryz.zeroValue289
 t154:=Tryz.underlying291
 a154:=Tryz.isAgg291
 z154:=Tryz.sizeOf291
 v154:=Tryz.zeroValue291
 t193:=Tryz.underlying297
 a193:=Tryz.isAgg297
 z193:=Tryz.sizeOf297
 v193:=Tryz.zeroValue297
 t194:=Tryz.underlying298
 a194:=Tryz.isAgg298
 z194:=Tryz.sizeOf298
 v194:=Tryz.zeroValue298
 t196:=Tryz.underlying300
 a196:=Tryz.isAgg300
 z196:=Tryz.sizeOf300
 v196:=Tryz.zeroValue300
 t198:=Tryz.underlying303
 a198:=Tryz.isAgg303
 z198:=Tryz.sizeOf303
 v198:=Tryz.zeroValue303
 t201:=Tryz.underlying306
 a201:=Tryz.isAgg306
 z201:=Tryz.sizeOf306
 v201:=Tryz.zeroValue306
 t226:=Tryz.underlying308
 a226:=Tryz.isAgg308
 z226:=Tryz.sizeOf308
 v226:=Tryz.zeroValue308
 t227:=Tryz.underlying309
 a227:=Tryz.isAgg309
 z227:=Tryz.sizeOf309
 v227:=Tryz.zeroValue309
 g0:=by kernel_rfl
 g6:=by kernel_rfl }
open Go.RowKit Go.Lib in
theorem Tryz.strings_Fields (s : ByteArray) (w : World) (hs : s.size < 4294967281) (hascii : ∀ (j : Nat) b, s.data.toList[j]? = some b → b.toNat < 128) (htab : Lib.TabIs Tryz.prog w "strings.asciiSpace" .u8 Lib.asciiSpaceTab) :
    Calls Tryz.prog 218 #[.string s] w fun e w' =>
      e = .returned (.slice (some ⟨w.heap.size, 0, none⟩) (Lib.fields s.data.toList).length (Lib.fields s.data.toList).length) ∧ w' = w.alloc (.cells ((Lib.fields s.data.toList).map fun l => Value.string ⟨l.toArray⟩).toArray 9) := Any.strings_Fields Tryz.lays157 (by kernel_rfl) (by kernel_rfl) s w hs hascii htab
end Go.Proofs

namespace Go.Proofs.YtbphdcffpobcbaaGreatDoor
open Go.RowKit Go
def wordsC:List UInt8 := [107,105,110,100,32,114,97,110,103,101,32,122,101,114,111,32,105,110,100,101,120,32,108,97,114,103,101,32,100,101,101,112,32,115,116,97,116,101,32,99,111,117,110,116,32,110,105,108,32,98,111,111,108,32,105,110,116,32,102,108,111,97,116,32,116,101,120,116,32,111,98,106,101,99,116,32,108,105,115,116,32,102,117,110,99,116,105,111,110,32,103,101,110,101,114,97,116,111,114,32,108,111,99,107,32,119,101,97,107]
def wordsT:List ByteArray := [⟨#[107,105,110,100]⟩,⟨#[114,97,110,103,101]⟩,⟨#[122,101,114,111]⟩,⟨#[105,110,100,101,120]⟩,⟨#[108,97,114,103,101]⟩,⟨#[100,101,101,112]⟩,⟨#[115,116,97,116,101]⟩,⟨#[99,111,117,110,116]⟩,⟨#[110,105,108]⟩,⟨#[98,111,111,108]⟩,⟨#[105,110,116]⟩,⟨#[102,108,111,97,116]⟩,⟨#[116,101,120,116]⟩,⟨#[111,98,106,101,99,116]⟩,⟨#[108,105,115,116]⟩,⟨#[102,117,110,99,116,105,111,110]⟩,⟨#[103,101,110,101,114,97,116,111,114]⟩,⟨#[108,111,99,107]⟩,⟨#[119,101,97,107]⟩]
theorem wordsT_fields:((Lib.fields wordsC).map fun l=>Value.string ⟨l.toArray⟩)=wordsT.map Value.string:=by kernel_rfl
theorem tab_of_gl {F : Nat → Prop} {w : World} (h : GlOk F w) : Lib.TabIs Tryz.prog w "strings.asciiSpace" .u8 Lib.asciiSpaceTab := by
  obtain ⟨-, t, fz, e⟩ := h _ _ List.mem_cons_self
  unfold Lib.TabIs World.var?
  rw [show Tryz.prog.globalNamed "strings.asciiSpace" = some 2 by kernel_rfl]
  simp only [Option.bind_some, e]
theorem fieldsW_ok {s:ByteArray} (hs:s=⟨wordsC.toArray⟩) {K:D->List Blk->Prop} (h:K (.one (.own 0 1 wordsT.length)) [⟨.c 9,1,wordsT.map fun s=>[.d (eS s)]⟩]):DPure Tryz.prog 218 [dS s] K:=by
 subst hs
 refine DPure.ofRow [.string ⟨wordsC.toArray⟩] rfl (by kernel_rfl) 9 (wordsT.map Value.string) (by decide) (by decide) (by simp [wordsT,maxLen]) (fun F w hg => ?_) (by rw [List.length_map,List.map_map];exact h)
 have:=Tryz.strings_Fields ⟨wordsC.toArray⟩ w (by decide) (fun j b hj=>(by decide : ∀ b∈wordsC,b.toNat<128) b (List.mem_of_getElem? hj)) (tab_of_gl hg)
 have e:(Lib.fields (ByteArray.mk wordsC.toArray).data.toList).length=(wordsT.map Value.string).length:=by rw [← wordsT_fields];simp
 rw [e] at this
 have e2:((Lib.fields (ByteArray.mk wordsC.toArray).data.toList).map fun l=>Value.string ⟨l.toArray⟩)=wordsT.map Value.string:=wordsT_fields
 rw [e2] at this
 exact this
theorem words_ok {K:D->List Blk->Prop} (h:K (.one (.own 0 1 wordsT.length)) [⟨.c 9,1,wordsT.map fun s=>[.d (eS s)]⟩]):DPure Tryz.prog 178 [] K:=by
 refine fn_ok [0] [] Tryz.func178 rfl (by kernel_rfl) rfl rfl rfl rfl (by kernel_rfl) ?_
 simp
 refine fieldsW_ok (by kernel_rfl) ?_
 simp
 exact h
theorem ownWords_ok {K:D->List Blk->Prop} (h:K (.one (.own 0 1 wordsT.length)) [⟨.c 9,1,wordsT.map fun s=>[.d (eS s)]⟩]):DPure Tryz.prog 84 [] K:=by
 refine fn_ok [0] [] Tryz.func84 rfl (by kernel_rfl) rfl rfl rfl rfl (by kernel_rfl) ?_
 simp
 exact h
abbrev dV (k n:Int):D:=aD [eI k,eI n]
abbrev dF (b:Nat):D := .one (.d (.lit (.float .f64 b)))
theorem opsWithin_ok (n lo hi:Int) {K:D->List Blk->Prop} (h:K (dB (btw n lo hi)) []):DPure Tryz.prog 220 [dI n,dI lo,dI hi] K:=by
 refine fn_ok [0,1,2,6] [] Tryz.func220 rfl (by kernel_rfl) rfl rfl rfl rfl (by kernel_rfl) ?_
 simp
 refine alt (fun h1=>kB h (by simp [btw];omega)) (fun h1=>kB h (by simp [btw];omega))
theorem opsFloat_ok (k n:Int) {K:D->List Blk->Prop} (h:K (dF (flt n)) []):DPure Tryz.prog 221 [dV k n] K:=by
 refine fn_ok [0,1,2] [] Tryz.func221 rfl (by kernel_rfl) rfl rfl rfl rfl (by kernel_rfl) ?_
 simp
 exact h
theorem right_ok (k n:Int) {K:D->List Blk->Prop} (h:K (dB (rightB k n)) []):DPure Tryz.prog 186 [dV k n] K:=by
 refine fn_ok [0,1,2,4,5,10,15,20,32,38] [(9,[0,1,0,7,15,31,63,127,255,511,1023],(.seg 0 (.seg 2 (.eff 1 [2] (.eff 3 [] (.seg 4 (.seg 5 (.seg 6 (.seg 7 (.seg 8 (.seg 9 (.seg 10 .last))))))))))))] Tryz.func186 rfl (by kernel_rfl) rfl rfl rfl rfl (by kernel_rfl) ?_
 by_cases e3:k=3
 ·simp [e3]
  refine opsFloat_ok _ _ ?_
  simp
  refine opsFloat_ok _ _ ?_
  simp
  refine alt (fun c => ?_) (fun c => ?_)
  ·have hs:same (flt n) (flt n)=true:=by simp [same,c]
   exact kB h (by simp [rightB,e3,hs])
  ·have hs:same (flt n) (flt n)=false:=by simp [same,c]
   exact kB h (by rw [Bool.eq_iff_iff];simp [rightB,e3,hs,theNaN])
 simp [e3]
 repeat' (first | (refine alt (fun _ => ?_) (fun _ => ?_)) | (intro _) | (refine opsWithin_ok _ _ _ ?_;simp))
 all_goals exact kB h (by simp_all [rightB,btw,theNaN] <;> first | done | omega | (rw [Bool.eq_iff_iff];simp;done) | (rw [Bool.eq_iff_iff];simp;omega)  )
end Go.Proofs.YtbphdcffpobcbaaGreatDoor

namespace Go.Proofs.YtbphdcffpobcbaaGreatDoor
open Go.RowKit Go
theorem large1_ok (t:ByteArray) {K:D->List Blk->Prop} (h:K (dB (decide (200<t.size))) []):DPure Tryz.prog 192 [dS t] K:=by
 refine fn_ok [0,2] [] Tryz.func192 rfl (by kernel_rfl) rfl rfl rfl rfl (by kernel_rfl) ?_
 simp
 exact kB h (by rw [Bool.eq_iff_iff];simp;omega)
theorem large2_ok (f:GFn) {K:D->List Blk->Prop} (h:K (dB (fnLargeB f)) []):DPure Tryz.prog 193 [aD (eFn f)] K:=by
 refine fn_ok [0,1,2] [] Tryz.func193 rfl (by kernel_rfl) rfl rfl rfl rfl (by kernel_rfl) ?_
 simp
 repeat' (first | (refine alt (fun _ => ?_) (fun _ => ?_)) | (intro _) | fail)
 all_goals exact kB h (by unfold fnLargeB;rw [Bool.eq_iff_iff];simp;omega)
theorem large_ok (p:GProg) {K:D->List Blk->Prop} (h:K (dB (largeB p)) []):DPure Tryz.prog 138 [aD (eProg p)] K:=by
 refine fn_ok [0,1,2] [] Tryz.func138 rfl (by kernel_rfl) rfl rfl rfl rfl (by kernel_rfl) ?_
 simp
 repeat' (first | (refine alt (fun _ => ?_) (fun _ => ?_)) | (intro _) | (refine containsFS_ok true p.texts eStr (fun t=>dS t) (fun t=>decide (200<t.size)) 192 (fun _=>by simp) rfl [] [] (fun x=>⟨_,rfl,rfl⟩) (fun x _ K hK=>large1_ok x hK) ?_;simp) | (refine containsFF_ok true p.fns eFn (fun f=>aD (eFn f)) fnLargeB 193 (fun _=>by simp) rfl [] [] (fun x=>⟨_,_,_,_,_,rfl,rfl⟩) (fun x _ K hK=>large2_ok x hK) ?_;simp))
 all_goals (refine kB h ?_;rcases Nat.lt_or_ge 60 p.fns.length with e1 | e1 <;> rcases Nat.lt_or_ge 200 p.consts.length with e2 | e2 <;> rcases Nat.lt_or_ge 200 p.texts.length with e3 | e3 <;> first | omega | (simp [largeB,e1,e2,e3];done) | (simp only [largeB,decide_eq_false (Nat.not_lt.2 e1),decide_eq_false (Nat.not_lt.2 e2),decide_eq_false (Nat.not_lt.2 e3),Bool.false_or];cases ht:p.texts.any (fun t=>decide (200<t.size)) <;> cases hf:p.fns.any fnLargeB <;> simp_all <;> grind))
theorem tables1_ok (p:GProg) (v:GVal) {K:D->List Blk->Prop} (h:K (dB (constBadB p v)) []):DPure Tryz.prog 194 [aD (eVal v),.one (.d (.at_ true (eProg p)))] K:=by
 refine fn_ok [0,1,2,3] [] Tryz.func194 rfl (by kernel_rfl) rfl rfl rfl rfl (by kernel_rfl) ?_
 simp
 refine right_ok _ _ ?_
 simp
 repeat' (first | (refine alt (fun _ => ?_) (fun _ => ?_)) | (intro _) | fail)
 all_goals exact kB h (by simp_all [constBadB])
noncomputable def seenF (L:List ByteArray) (k:Nat) (v:Value):Int:=if v∈(L.take k).map Value.string then 1 else 0
theorem seenF_zero (L:List ByteArray):seenF L 0=fun _=>0:=by funext v;simp [seenF]
theorem seenF_succ (L:List ByteArray) (k:Nat) (hk:k<L.length):(fun v=>if v=Value.string L[k] then 1 else seenF L k v)=seenF L (k+1):=by
 funext v
 unfold seenF
 have e:(L.take (k+1)).map Value.string=(L.take k).map Value.string++[Value.string L[k]]:=by rw [List.take_succ_eq_append_getElem hk,List.map_append];rfl
 rw [e]
 by_cases h:v=Value.string L[k]
 ·rw [if_pos h,if_pos (by rw [h];simp)]
 ·rw [if_neg h]
  by_cases h2:v∈(L.take k).map Value.string
  ·rw [if_pos h2,if_pos (List.mem_append_left _ h2)]
  ·rw [if_neg h2,if_neg (fun hm=>by
    rcases List.mem_append.1 hm with hm | hm
    ·exact h2 hm
    ·exact h (List.mem_singleton.1 hm))]
theorem seenF_get (L:List ByteArray) (k:Nat) (hk:k<L.length):seenF L k (.string L[k])=1↔L[k]∈L.take k:=by
 unfold seenF
 have e:Value.string L[k]∈(L.take k).map Value.string↔L[k]∈L.take k:=by
  rw [List.mem_map]
  exact ⟨fun ⟨x,hx,e⟩=>by cases e;exact hx,fun h=>⟨_,h,rfl⟩⟩
 by_cases h:L[k]∈L.take k
 ·rw [if_pos (e.2 h)];simp [h]
 ·rw [if_neg (fun h'=>h (e.1 h'))];simp [h]
theorem nodup_take {α:Type} {L:List α} {k:Nat} (hk:k<L.length) (h:(L.take k).Nodup) (hn:L[k] ∉ L.take k):(L.take (k+1)).Nodup:=by
 rw [List.take_succ_eq_append_getElem hk,List.nodup_append]
 exact ⟨h,by simp,fun a ha b hb e=>by rw [List.mem_singleton.1 hb] at e;exact hn (e▸ha)⟩
theorem not_nodup {α:Type} {L:List α} {k:Nat} (hk:k<L.length) (hn:L[k]∈L.take k) : ¬ L.Nodup:=fun h=>by
 have:=h.sublist (List.take_sublist (k+1) L)
 rw [List.take_succ_eq_append_getElem hk,List.nodup_append] at this
 exact this.2.2 _ hn _ (List.mem_singleton.2 rfl) rfl
theorem tables_ok (p:GProg) (hT : ∀ t∈p.texts,t.size≤maxLen) (hl:p.texts.length≤1000) {K:D->List Blk->Prop} (h:K (dB (tablesB wordsT p)) []):DPure Tryz.prog 139 [aD (eProg p)] K:=by
 refine fn_ok [0,1,2,3,4,6,23,26,27,28,29,35] [] Tryz.func139 rfl (by kernel_rfl) rfl rfl rfl rfl (by kernel_rfl) ?_
 simp
 refine words_ok ?_
 simp
 intro _ _
 refine alt (fun h1 => ?_) (fun h1=>kB h (by
  have:p.texts.take wordsT.length≠wordsT:=fun e=>h1 (by have:=congrArg List.length e;rw [List.length_take] at this;omega)
  simp [tablesB,this]))
 intro _
 refine ⟨h1,?_⟩
 rw [← List.map_take]
 refine equalS_ok true false (p.texts.take wordsT.length) wordsT ?_
 simp
 refine alt (fun h2 => ?_) (fun h2=>kB h (by simp [tablesB,h2]))
 intro _
 refine loopH_ok (ks := [0,1,2,3,4,6,23,26,27,28,29,35]) (pl := []) (n0:=44) (fun x : {k:Nat//k≤p.texts.length∧(p.texts.take k).Nodup} => [(28,dI x.1)]) (fun H x=>H.set 2 (some ⟨.m 9 (seenF p.texts x.1) x.1,0,[]⟩)) (fun _=>3) (fun x=>p.texts.length-x.1) ⟨0,by simp⟩ rfl (by kernel_rfl) (Wk.subH (by simp) (by rw [Hp.set_set,seenF_zero])) ?_
 rintro ⟨k,hk,hn⟩
 by_cases h3:k<p.texts.length
 ·have hsz:=hT _ (List.getElem_mem h3)
  have hgk:=seenF_get p.texts k h3
  simp [h3,keyin9 hsz]
  refine alt (fun h4=>kB h (by simp [tablesB,not_nodup h3 (hgk.1 h4)])) (fun h4=>⟨by decide,by omega,k+1,by omega,⟨by omega,nodup_take h3 hn fun hm=>h4 (hgk.2 hm)⟩,Wk.subH (by simp [wrap_add (show k<9223372036854775807 by omega)]) (by rw [seenF_succ _ _ h3])⟩)
 ·simp [h3]
  obtain rfl:k=p.texts.length:=by omega
  rw [List.take_length] at hn
  refine containsFV_ok true p.consts eVal (fun v=>aD (eVal v)) (constBadB p) 194 (fun _=>by simp) rfl [] [.at_ true (eProg p)] (fun x=>⟨_,_,rfl,rfl⟩) (fun x _ K hK=>tables1_ok p x hK) ?_
  simp
  exact kB h (by simp [tablesB,h2,hn])
end Go.Proofs.YtbphdcffpobcbaaGreatDoor

namespace Go.Proofs.YtbphdcffpobcbaaGreatDoor
open Go.RowKit Go
theorem function_ok (p:GProg) (f:GFn) (hc2:f.code.length≤1000) {K:D->List Blk->Prop} (h:K (dB (functionB p f)) []):DPure Tryz.prog 142 [aD (eProg p),aD (eFn f)] K:=by
 refine fn_ok [0,1,2,3,4,5,6,7,10,28,30,31,32,33,41] [] Tryz.func142 rfl (by kernel_rfl) rfl rfl rfl rfl (by kernel_rfl) ?_
 simp
 by_cases c3:f.regs<f.params
 ·have hf:functionB p f=false:=by simp [functionB,c3]
  rw [hf] at h
  simp [c3]
  repeat' (first | (refine alt (fun _ => ?_) (fun _ => ?_)) | (intro _) | exact h)
  all_goals first | exact h | (exact ⟨fun _=>h,h⟩) | (intro _;exact h)
 simp [c3]
 refine alt (fun c1=>alt (fun c2 => ?_) (fun c2=>kB h (by simp [functionB,show f.regs<1 by omega]))) (fun c1=>kB h (by simp [functionB,show f.params<0 by omega]))
 intro _
 refine loopH_ok (ks := [0,1,2,3,4,5,6,7,10,28,30,31,32,33,41]) (pl := []) (n0:=50) (α := {x:Nat×Nat//x.1≤f.code.length ∧ ∀ i,i<x.1->orderB p f i (f.code.getD i dIns)=true}) (fun x=>[(32,dI x.1.1)]) (fun H _=>H) (fun x=>x.1.2+3) (fun x=>f.code.length-x.1.1) ⟨(0,0),by simp⟩ rfl (by kernel_rfl) (Wk.sub (by simp)) ?_
 rintro ⟨⟨k,j⟩,hk,ho⟩
 simp only at hk ho
 by_cases h1:k<f.code.length
 ·simp [h1]
  refine order_ok p f k f.code[k] ?_
  simp
  refine alt (fun c4 => ?_) (fun c4=>kB h ?_)
  ·refine ⟨k+1,by omega,⟨by omega,fun i hi => ?_⟩,j+1,(Wk.sub (by simp [wrap_add (show k<9223372036854775807 by omega)])).trans (Wk.heap fun i y hy => ?_)⟩
   ·rcases Nat.lt_or_ge i k with h2 | h2
    ·simpa using ho i h2
    ·obtain rfl:i=k:=by omega
     simpa [List.getElem?_eq_getElem h1] using c4
   ·by_cases e:i=j+3
    ·subst e;simp at hy
    ·rw [Hp.set_ne _ _ e];exact hy
  ·have:ordersB p f=false:=by
    cases hb:ordersB p f with
    | false=>rfl
    | true=>exact absurd (orders_get hb h1) c4
   simp [functionB,this]
 ·simp [h1]
  obtain rfl:k=f.code.length:=by omega
  have hord:ordersB p f=true:=List.all_eq_true.2 fun i hi=>ho i (List.mem_range.1 hi)
  refine tries_ok f (goesAll_of hord) hc2 ?_
  simp
  exact kB h (by simp [functionB,hord,c3,show ¬ f.params<0 by omega,show ¬ f.regs<1 by omega])
end Go.Proofs.YtbphdcffpobcbaaGreatDoor

namespace Go.Proofs.YtbphdcffpobcbaaGreatDoor
open Go.RowKit Go
theorem check1_ok (p:GProg) (f:GFn) (hc2:f.code.length≤1000) {K:D->List Blk->Prop} (h:K (dB (!functionB p f)) []):DPure Tryz.prog 141 [aD (eFn f),.one (.d (.at_ true (eProg p)))] K:=by
 refine fn_ok [0,1,2,3] [] Tryz.func141 rfl (by kernel_rfl) rfl rfl rfl rfl (by kernel_rfl) ?_
 simp
 refine function_ok p f hc2 ?_
 simp
 exact h
def okP (p:GProg):Prop:=(∀ t∈p.texts,t.size≤maxLen)
theorem check_large {p:GProg} (h:largeB p=true):checkQ wordsT p=2:=by rw [checkQ,if_pos h]
theorem check_form {p:GProg} (h:largeB p=false) (h2:tablesB wordsT p=false∨firstB p=false):checkQ wordsT p=3:=by rw [checkQ,if_neg (by rw [h];simp),if_pos h2]
theorem check_fns {p:GProg} (h:largeB p=false) (h2:tablesB wordsT p=true) (h3:firstB p=true):checkQ wordsT p=if p.fns.any (fun f => !functionB p f)=true then 3 else 0:=by rw [checkQ,if_neg (by rw [h];simp),if_neg (by rw [h2,h3];simp)]
theorem large_lt {p:GProg} (h:largeB p=false):p.fns.length≤60∧p.consts.length≤200∧p.texts.length≤200 ∧ ∀ f∈p.fns,f.code.length≤600∧f.regs≤60:=by
 unfold largeB at h
 simp only [Bool.or_eq_false_iff,decide_eq_false_iff_not] at h
 refine ⟨by omega,by omega,by omega,fun f hf => ?_⟩
 have:=List.any_eq_false.1 h.2 f hf
 unfold fnLargeB at this
 simp only [Bool.or_eq_true,decide_eq_true_eq] at this
 omega
theorem check_nil  (consts:List GVal) (texts:List ByteArray) (hp:okP ⟨[],consts,texts⟩) {K:D->List Blk->Prop} (h:K (dI (checkQ wordsT ⟨[],consts,texts⟩)) []):DPure Tryz.prog 90 [aD (eProg ⟨[],consts,texts⟩)] K:=by
 refine fn_ok [0,1,2,4,37,41] [] Tryz.func90 rfl (by kernel_rfl) rfl rfl rfl rfl (by kernel_rfl) ?_
 simp
 refine large_ok ⟨[],consts,texts⟩ ?_
 simp
 refine alt (fun c1 => ?_) (fun c1 => ?_)
 ·rw [check_large c1] at h
  exact h
 have c1:largeB ⟨[],consts,texts⟩=false:=by simpa using c1
 have hd:=large_lt c1
 refine tables_ok ⟨[],consts,texts⟩ hp (by have:=hd.2.2.1;omega) ?_
 simp
 rw [check_form c1 (.inr rfl)] at h
 first | exact h | (intro _;exact h) | trace_state
theorem check_cons (f0:GFn) (fs:List GFn) (consts:List GVal) (texts:List ByteArray) (hp:okP ⟨f0::fs,consts,texts⟩) {K:D->List Blk->Prop} (h:K (dI (checkQ wordsT ⟨f0::fs,consts,texts⟩)) []):DPure Tryz.prog 90 [aD (eProg ⟨f0::fs,consts,texts⟩)] K:=by
 refine fn_ok [0,1,2,4,37,41] [] Tryz.func90 rfl (by kernel_rfl) rfl rfl rfl rfl (by kernel_rfl) ?_
 simp
 refine large_ok ⟨f0::fs,consts,texts⟩ ?_
 simp
 refine alt (fun c1 => ?_) (fun c1 => ?_)
 ·rw [check_large c1] at h
  exact h
 have c1:largeB ⟨f0::fs,consts,texts⟩=false:=by simpa using c1
 have hd:=large_lt c1
 refine tables_ok ⟨f0::fs,consts,texts⟩ hp (by have:=hd.2.2.1;omega) ?_
 simp
 refine alt (fun c2 => ?_) (fun c2 => ?_)
 ·have form:firstB ⟨f0::fs,consts,texts⟩=false->K (dI 3) []:=fun e=>by rw [check_form c1 (.inr e)] at h;exact h
  intro _
  rw [if_neg (by omega)]
  refine alt (fun c3 => ?_) (fun c3=>form (by simp [firstB,c3]))
  intro _
  refine alt (fun c4 => ?_) (fun c4=>form (by simp [firstB,c4]))
  refine alt (fun c5=>form (by simp [firstB,c5])) (fun c5 => ?_)
  have hfns:=check_fns c1 c2 (show firstB ⟨f0::fs,consts,texts⟩=true by simp [firstB,c3,c4,c5])
  refine containsFF_ok true (f0::fs) eFn (fun f=>aD (eFn f)) (fun f => !functionB ⟨f0::fs,consts,texts⟩ f) 141 (fun _=>by simp) rfl [] [.at_ true (eProg ⟨f0::fs,consts,texts⟩)] (fun x=>⟨_,_,_,_,_,rfl,rfl⟩) (fun x hx K hK=>check1_ok ⟨f0::fs,consts,texts⟩ x (by have:=(hd.2.2.2 x hx).1;omega) hK) ?_
  rw [hfns] at h
  simp only [eProg] at h ⊢
  generalize hany:((f0::fs).any fun f => !functionB ⟨f0::fs,consts,texts⟩ f)=bb at *
  cases bb
  ·simpa using h
  ·simpa using h
 ·rw [check_form c1 (.inl (by simpa using c2))] at h
  exact h
theorem check_ok (p:GProg) (hp:okP p) {K:D->List Blk->Prop} (h:K (dI (checkQ wordsT p)) []):DPure Tryz.prog 90 [aD (eProg p)] K:=by
 obtain ⟨fns,consts,texts⟩:=p
 cases fns with
 | nil=>exact check_nil consts texts hp h
 | cons f0 fs=>exact check_cons f0 fs consts texts hp h
end Go.Proofs.YtbphdcffpobcbaaGreatDoor

namespace Go.Proofs.YtbphdcffpobcbaaGreatDoor
open Go.RowKit Go
theorem Wk.emp {n nx t:Nat} {tm:List (Nat×D)} {H:Hp} (e:TypeId) (k:Nat) (ht:lk tm t = .one (.d .emp)):Wk ⟨n,tm,H,nx⟩ ⟨n,ins tm t (.one (.own nx k 0)),H.set nx (some ⟨.c e,k,[]⟩),nx+1⟩:=fun β F ι a w h=>by
 have hh:HpOk β F w ι H nx:=h.heap
 obtain ⟨h1,h2⟩:=hh.adopt (x:=⟨.c e,k,[]⟩) (b:=0) (cap:=0) ⟨0,0,by simp [Nms.set],Nat.le_refl _,fun _ h=>(by simp at h),fun h=>absurd h (by omega)⟩ (fun h=>absurd h (by omega)) (fun _ _ _ _ _ h=>absurd h (by omega))
 refine ⟨F,ι.set nx (0,0),h.good,h.defers,h.size,fun u => ?_,h1⟩
 have hu:=(h.tm u).keep (E':=⟨F,β.B⟩) (w':=w) ⟨fun _ h=>h,fun _ h=>h,fun _ _=>rfl,fun _ _=>rfl⟩ h2
 simp only [lk_ins]
 by_cases e1:u=t
 ·subst e1
  rw [if_pos rfl]
  have:lk (St.mk n tm H nx).tm u = .one (.d .emp):=ht
  rw [this,RV] at hu
  rw [RV]
  have hv : ∃ A,a.tmps.getD u undef = .slice A 0 0:=by
   have hr:RD ⟨F,β.B⟩ w .emp (a.tmps.getD u undef):=hu
   generalize a.tmps.getD u undef=y at hr
   cases hr;exact ⟨_,rfl⟩
  exact ⟨0,0,by simp [Nms.set],Nat.le_refl _,by simp [maxLen],.inl ⟨rfl,hv⟩⟩
 ·rw [if_neg e1];exact hu
def iRows (L:List Int):List (List C):=L.map fun x=>[.d (eI x)]
@[simp] theorem iRows_len (L:List Int):(iRows L).length=L.length:=by simp [iRows]
@[simp] theorem iRows_get (L:List Int) (k:Nat):(iRows L)[k]? = (L[k]?).map fun x=>[.d (eI x)]:=by simp [iRows]
@[simp] theorem iRows_getE (L:List Int) (k:Nat) (h:k<(iRows L).length):(iRows L)[k]=[.d (eI (L[k]'(by simpa using h)))]:=by simp [iRows]
theorem iRows_isD {L:List Int} : ∀ e∈iRows L, ∀ c∈e,c.isD=true:=by simp [iRows]
theorem iRows_set (L:List Int) (k:Nat) (x:Int):(iRows L).set k [.d (eI x)]=iRows (L.set k x):=by simp [iRows,List.map_set]
theorem iRows_app (L:List Int) (x:Int):iRows L++[[.d (eI x)]]=iRows (L++[x]):=by simp [iRows]
def swp (L M:List Int) (k:Nat):Prop:=M.length=L.length ∧ ∀ p,p<L.length->M.getD p 0=if p<k∨L.length≤p+k then L.getD (L.length-1-p) 0 else L.getD p 0
theorem swp_zero (L:List Int):swp L L 0:=⟨rfl,fun p hp=>by simp [show ¬ L.length≤p by omega]⟩
theorem getD_setI {M:List Int} {i j:Nat} {x:Int} (h:i<M.length):(M.set i x).getD j 0=if i=j then x else M.getD j 0:=by
 simp only [List.getD,List.getElem?_set]
 split
 ·simp [h]
 ·rfl
theorem swp_step {L M:List Int} {k:Nat} (h:swp L M k) (hk:k+k+1<L.length) :
  swp L ((M.set k (M.getD (L.length-1-k) 0)).set (L.length-1-k) (M.getD k 0)) (k+1):=by
 obtain ⟨h1,h2⟩:=h
 refine ⟨by simp [h1],fun p hp => ?_⟩
 rw [getD_setI (by simp;omega),getD_setI (by omega)]
 have a:=h2 (L.length-1-k) (by omega)
 have b:=h2 k (by omega)
 have c:=h2 p hp
 rw [if_neg (by omega)] at a b
 by_cases e1:L.length-1-k=p
 ·rw [if_pos e1,b,if_pos (by omega)];congr 1;omega
 ·rw [if_neg e1]
  by_cases e2:k=p
  ·rw [if_pos e2,a,if_pos (by omega)];congr 1;omega
  ·rw [if_neg e2,c]
   by_cases e3:p<k∨L.length≤p+k
   ·rw [if_pos e3,if_pos (by omega)]
   ·rw [if_neg e3,if_neg (by omega)]
theorem swp_end {L M:List Int} {k:Nat} (h:swp L M k) (hk:L.length≤k+k+1) (hk2:k+k≤L.length):M=L.reverse:=by
 obtain ⟨h1,h2⟩:=h
 apply List.ext_getElem (by simp [h1])
 intro p hp hq
 have hp':p<L.length:=by omega
 have:=h2 p hp'
 simp only [List.getD,List.getElem?_eq_getElem hp,Option.getD_some] at this
 rw [List.getElem_reverse,this]
 split
 ·simp [List.getElem?_eq_getElem (show L.length-1-p<L.length by omega)]
 ·have:p=L.length-1-p:=by omega
  simp [List.getElem?_eq_getElem hp', ← this]
def backI (L:List Int) (k:Nat):Int:=(L.length:Int)-1-k
structure RvS where
 k:Nat
 M:List Int
theorem HSol.rows {H:Hp} {n:Nat} {t:BT} {M:List Int} (h:HSol H):HSol (H.set n (some ⟨t,1,iRows M⟩)):=fun m x hx e he c hc=>by
 by_cases e1:m=n
 ·subst e1
  rw [Hp.set_same] at hx
  cases hx
  have:=iRows_isD e he c hc
  cases c <;> first | exact this | (cases this)
 ·rw [Hp.set_ne _ _ e1] at hx
  exact h m x hx e he c hc
theorem reverse_ok {H:Hp} {nx n:Nat} {L:List Int} (hH:H n=some ⟨.c 3,1,iRows L⟩) (hs:HSol H) (hl:L.length≤1000000) {K:D->Hp->Nat->Prop} (h:K (.tup []) (H.set n (some ⟨.c 3,1,iRows L.reverse⟩)) nx) :
  ICall Tryz.prog 217 [.one (.own n 1 L.length)] H nx K:=by
 refine fni_ok [0,2,3,9] [(3,[0,0,0,0,0,0,48,112,0,0,768,1792,4083,8179,16383,32767],(.seg 0 (.seg 1 (.seg 2 (.seg 3 (.seg 4 (.seg 5 (.seg 6 (.seg 7 (.seg 8 (.seg 9 (.seg 10 (.seg 11 (.seg 12 (.eff 13 [] (.seg 14 (.eff 15 [] .last)))))))))))))))))] Tryz.func217 rfl (by kernel_rfl) rfl rfl rfl rfl (by kernel_rfl) ?_
 simp
 intro _
 have hw:IntKind.i64.wrap ((L.length:Int)-1)=backI L 0:=by rw [wrap_id (by omega) (by omega)];simp [backI]
 rw [hw]
 refine loopH_ok (ks := [0,2,3,9]) (pl := [(3,[0,0,0,0,0,0,48,112,0,0,768,1792,4083,8179,16383,32767],(.seg 0 (.seg 1 (.seg 2 (.seg 3 (.seg 4 (.seg 5 (.seg 6 (.seg 7 (.seg 8 (.seg 9 (.seg 10 (.seg 11 (.seg 12 (.eff 13 [] (.seg 14 (.eff 15 [] .last)))))))))))))))))]) (n0:=28) (α := {x:RvS//swp L x.M x.k∧x.k+x.k≤L.length}) (fun x=>[(2,dI x.1.k),(3,dI (backI L x.1.k))]) (fun H x=>H.set n (some ⟨.c 3,1,iRows x.1.M⟩)) (fun _=>nx) (fun x=>L.length+1-x.1.k) ⟨⟨0,L⟩,swp_zero L,Nat.zero_le _⟩ rfl (by kernel_rfl) ?_ ?_
 ·refine Wk.subH (by simp) ?_
  funext m
  simp only [Hp.set]
  split
  ·rename_i e;subst e;exact hH
  ·rfl
 rintro ⟨⟨k,M⟩,hM,hk⟩
 simp only at hM hk
 have hml:=hM.1
 by_cases h1:k+k+1<L.length
 ·have hb:backI L k=((L.length-1-k:Nat):Int):=by unfold backI;omega
  have hlt:(k:Int)<backI L k:=by rw [hb];omega
  have hk1:k<M.length:=by omega
  have hk2:L.length-1-k<M.length:=by omega
  have hst:=swp_step hM h1
  have g1:M.getD k 0=M[k]:=by rw [List.getD_eq_getElem?_getD,List.getElem?_eq_getElem hk1];rfl
  have g2:M.getD (L.length-1-k) 0=M[L.length-1-k]:=by rw [List.getD_eq_getElem?_getD,List.getElem?_eq_getElem hk2];rfl
  rw [g1,g2] at hst
  have hw2:IntKind.i64.wrap (((L.length-1-k:Nat):Int)-1)=backI L (k+1):=by rw [wrap_id (by omega) (by omega)];unfold backI;omega
  simp [hb,hml,hw2,show k<L.length by omega,show L.length-1-k<L.length by omega,show k<L.length-1-k by omega]
  simp only [iRows_set,iRows_getE]
  refine ⟨by simp,⟨k+1,_⟩,by simp;omega,⟨hst,by simp;omega⟩,Wk.subH (by simp [wrap_add (show k<9223372036854775807 by omega)]) (by simp [iRows_set])⟩
 ·have hlt : ¬ (k:Int)<backI L k:=by unfold backI;omega
  have he:=swp_end hM (by omega) hk
  subst he
  simp [hlt]
  exact ⟨hs.rows,h⟩
end Go.Proofs.YtbphdcffpobcbaaGreatDoor

namespace Go.Proofs.YtbphdcffpobcbaaGreatDoor
open Go.RowKit Go
theorem check_zero {p:GProg} (h:checkQ wordsT p=0):largeB p=false∧tablesB wordsT p=true∧firstB p=true ∧ ∀ f∈p.fns,functionB p f=true:=by
 unfold checkQ at h
 split at h
 ·cases h
 rename_i h1
 split at h
 ·cases h
 rename_i h2
 split at h
 ·cases h
 rename_i h3
 refine ⟨by simpa using h1,by simp at h2;exact h2.1,by simp at h2;exact h2.2,fun f hf => ?_⟩
 simp at h3
 exact h3 f hf
theorem fn_in {p:GProg} (h:checkQ wordsT p=0) {f:GFn} (hf:f∈p.fns):functionB p f=true∧ordersB p f=true∧goesAll f∧f.code.length≤600∧(triesQ f).bad=false:=by
 obtain ⟨h1, -, -, h4⟩:=check_zero h
 have h5:=h4 f hf
 have h6:=h5
 simp only [functionB,Bool.and_eq_true,Bool.not_eq_true'] at h6
 exact ⟨h5,h6.1.2,goesAll_of h6.1.2,((large_lt h1).2.2.2 f hf).1,h6.2⟩
theorem comeQ_short {f:GFn} {q:Wlk} {m:Int} {l:List GTry} (h : ∀ x∈q.out,x.length≤20) : ∀ x∈(comeQ f q m l).out,x.length≤20:=by
 unfold comeQ
 by_cases h1:(f.code.length:Int)≤m∨20<l.length
 ·rw [if_pos h1];exact h
 rw [if_neg h1]
 split
 ·intro x hx
  rcases List.mem_or_eq_of_mem_set hx with hx | rfl
  ·exact h x hx
  ·omega
 split <;> exact h
theorem comesQ_short {f:GFn} : ∀ (xs:List (Int×List GTry)) {q:Wlk}, (∀ x∈q.out,x.length≤20) -> ∀ x∈(comesQ f q xs).out,x.length≤20
 | [],_,h=>h
 | z::xs,q,h=>comesQ_short xs (q:=comeQ f q z.1 z.2) (comeQ_short h)
theorem runQ_short {f:GFn} : ∀ (n:Nat) {q:Wlk}, (∀ x∈q.out,x.length≤20) -> ∀ x∈(runQ f n q).out,x.length≤20
 | 0,_,h=>h
 | n+1,q,h=>by
  unfold runQ
  split
  ·exact h
  ·refine runQ_short n ?_
   unfold stepQ
   rw [fromQ_eq]
   split
   ·exact h
   ·exact comesQ_short _ (q := { q with todo:=q.todo.dropLast }) h
theorem triesQ_short (f:GFn) : ∀ x∈(triesQ f).out,x.length≤20:=runQ_short _ (comeQ_short fun x hx=>by
 simp only [initQ] at hx
 rw [List.eq_of_mem_replicate hx];simp)
end Go.Proofs.YtbphdcffpobcbaaGreatDoor

namespace Go.Proofs.YtbphdcffpobcbaaGreatDoor
open Go.RowKit Go
def eTs (l:List GTry):List Dt := [.sl true (l.map eTry)]
def eBo (b:Bool):List Dt := [eB b]
attribute [simp] eBo
def eOut (f:GFn):List Dt := [.sl true ((triesQ f).out.map eTs)]
def eSeen (f:GFn):List Dt := [.sl true ((triesQ f).seen.map eBo)]
theorem triesD_ok (f:GFn) (hg:goesAll f) (hc2:f.code.length≤1000) {K:D->List Blk->Prop}
  (h:K (.tup [.one (.d (.sl true ((triesQ f).out.map eTs))),.one (.d (.sl true ((triesQ f).seen.map eBo))),dB (!(triesQ f).bad)]) []):DPure Tryz.prog 144 [aD (eFn f)] K:=by
 refine DPure.give (tries_ok f hg hc2 ⟨_,?_,h⟩)
 have l1:=(triesQ_ok hg).1.ls
 have l2:=(triesQ_ok hg).1.lo
 simp only [DShw,DsShw,C.d.injEq]
 refine ⟨⟨_,rfl,?_⟩,⟨_,rfl,?_⟩,⟨_,rfl,.d rfl⟩,trivial⟩
 ·refine Shw.row trivial rfl rfl ?_ ?_ ?_ ?_
  ·rw [List.length_map];exact l2
  ·rw [List.take_of_length_le (by rw [List.length_map];exact Nat.le_of_eq l2)];simp [eTs]
  ·simp [eTs]
  ·simp [eTs]
 ·refine Shw.row trivial rfl rfl ?_ ?_ ?_ ?_
  ·rw [List.length_map];exact l1
  ·rw [List.take_of_length_le (by rw [List.length_map];exact Nat.le_of_eq l1)];simp
  ·intro e he
   obtain ⟨b, -, rfl⟩:=List.mem_map.1 he
   rfl
  ·intro e he
   obtain ⟨b, -, rfl⟩:=List.mem_map.1 he
   simp
attribute [simp] eOut eSeen
theorem take_map_next {α β:Type} {L:List α} {g:α->β} {k:Nat} (h:k<L.length):(L.map g).take (k+1)=(L.map g).take k++[g L[k]]:=by
 rw [List.take_succ_eq_append_getElem (by simpa using h)];simp
structure KA where
 k:Nat
 q:Nat
theorem all_ok (p:GProg) (hp:p.fns.length≤60) (hg : ∀ f∈p.fns,goesAll f∧f.code.length≤600) {K:D->List Blk->Prop}
  (h:K (.tup [.one (.d (.sl true (p.fns.map eOut))),.one (.d (.sl true (p.fns.map eSeen)))]) []):DPure Tryz.prog 93 [aD (eProg p)] K:=by
 refine DPure.give ?_
 refine fn_ok [0,1,2,3,4,5,7,8,9,12,13,14,15] [] Tryz.func93 rfl (by kernel_rfl) rfl rfl rfl rfl (by kernel_rfl) ?_
 simp
 intro _
 refine loopS_ok (ks := [0,1,2,3,4,5,7,8,9,12,13,14,15]) (pl := []) (n0:=35) (α := {x:KA//x.k≤p.fns.length}) (fun x=>⟨35,[(4,.one (.own x.1.q 1 x.1.k)),(5,.one (.own (x.1.q+2) 1 x.1.k)),(12,.one (.d (.sl true (p.fns.map eFn)))),(13,dI p.fns.length),(14,dI x.1.k)],
  (Hp.none.set x.1.q (some ⟨.c 207,1,(p.fns.take x.1.k).map fun f=>(eOut f).map .d⟩)).set (x.1.q+2) (some ⟨.c 55,1,(p.fns.take x.1.k).map fun f=>(eSeen f).map .d⟩),x.1.q+3⟩) (fun x=>p.fns.length-x.1.k) ⟨⟨0,1⟩,Nat.zero_le _⟩ rfl (by kernel_rfl) ?_ ?_
 ·refine (Wk.emp (t:=4) 207 1 rfl).trans ((Wk.up 1).trans ((Wk.emp (t:=5) 55 1 rfl).trans ((Wk.sub ?_).trans (Wk.heap ?_))))
  ·simp
  ·intro i y hy
   unfold Hp.set Hp.none at hy ⊢
   simp at hy ⊢
   grind
 rintro ⟨⟨k,q⟩,hk⟩
 simp only at hk
 by_cases h1:k<p.fns.length
 ·obtain ⟨g1,g2⟩:=hg _ (List.getElem_mem h1)
  have hmin:min k p.fns.length=k:=Nat.min_eq_left (by omega)
  simp [h1]
  refine triesD_ok p.fns[k] g1 (by omega) ?_
  simp [hmin]
  refine ⟨fun m b e hb => ?_,by omega,fun m b e hb => ?_,by omega,⟨k+1,q+5⟩,by simp;omega,by simp;omega,(Wk.sub ?_).trans (Wk.heap ?_)⟩
  ·subst e
   simp at hb
   subst hb;exact ⟨rfl,rfl⟩
  ·subst e
   simp at hb
   subst hb;exact ⟨rfl,rfl⟩
  ·simp [wrap_add (show k<9223372036854775807 by omega)]
  ·intro i y hy
   unfold Hp.set Hp.none at hy ⊢
   simp at hy ⊢
   rw [take_map_next h1,take_map_next h1] at hy
   grind
 ·obtain rfl:k=p.fns.length:=by omega
  simp
  refine ⟨_,?_,h⟩
  simp only [DShw,DsShw,C.d.injEq]
  refine ⟨⟨_,rfl,?_⟩,⟨_,rfl,?_⟩,trivial⟩
  ·refine Shw.row trivial rfl rfl ?_ ?_ ?_ ?_
   all_goals simp [Function.comp_def]
  ·rw [show List.idxOf (q+2) [q,q+2]=1 by simp [List.idxOf,List.findIdx_cons,show (q == q+2)=false by simp]]
   refine Shw.row trivial rfl rfl ?_ ?_ ?_ ?_
   all_goals simp [Function.comp_def]
end Go.Proofs.YtbphdcffpobcbaaGreatDoor

namespace Go.Proofs.YtbphdcffpobcbaaGreatDoor
open Go.RowKit Go
theorem extP_no {f:FuncId} (h:goFn Tryz.prog f=true):extP f=false:=by
 cases hx:extP f with
 | false=>rfl
 | true =>
  exfalso
  unfold extP at hx
  simp at hx
  all_goals (subst hx;rw [show goFn Tryz.prog _=false by kernel_rfl] at h;cases h)
structure HN where
 k:Nat
 H:Hp
 nx:Nat
end Go.Proofs.YtbphdcffpobcbaaGreatDoor

namespace Go.Proofs.YtbphdcffpobcbaaGreatDoor
open Go.RowKit
end Go.Proofs.YtbphdcffpobcbaaGreatDoor

namespace Go.Proofs.YtbphdcffpobcbaaGreatDoor
open Go.RowKit
def fstD (L:List (Int×Int)) (i:Nat):Int:=(L.getD i (0,0)).1
def sndD (L:List (Int×Int)) (i:Nat):Int:=(L.getD i (0,0)).2
end Go.Proofs.YtbphdcffpobcbaaGreatDoor

namespace Go.Proofs.YtbphdcffpobcbaaGreatDoor
open Go.RowKit
abbrev Shp:=Int×Int
def namesF (L:List Shp):Nat->Nat->List Int
 | 0,_=>[]
 | f+1,s=>if s=0 then [] else namesF L f (fstD L s).toNat++[sndD L s]
def namesP (L:List Shp) (s:Nat):List Int:=namesF L s s
def Ahead (L:List Shp) (s:Nat):Prop := ∀ j,0<j->j≤s->0≤fstD L j∧fstD L j<j
theorem Ahead.to {L:List Shp} {s t:Nat} (h:Ahead L s) (ht:t≤s):Ahead L t:=fun j h0 h1=>h j h0 (by omega)
theorem namesF_fuel {L : List Shp} : ∀ {f g s : Nat}, Ahead L s → s ≤ f → s ≤ g → namesF L f s = namesF L g s
  | 0, 0, s, _, _, _ => rfl
  | 0, g + 1, s, _, h, _ => by obtain rfl : s = 0 := by omega
                               simp [namesF]
  | f + 1, 0, s, _, _, h => by obtain rfl : s = 0 := by omega
                               simp [namesF]
  | f + 1, g + 1, s, ha, hf, hg => by
    by_cases h0 : s = 0
    · simp [namesF, h0]
    · have hu := ha s (by omega) (Nat.le_refl _)
      simp only [namesF, h0, if_false]
      rw [namesF_fuel (f := f) (g := g) (ha.to (by omega)) (by omega) (by omega)]
theorem namesP_zero (L:List Shp):namesP L 0=[]:=rfl
theorem namesP_step {L:List Shp} {s:Nat} (h:Ahead L s) (h0:0<s):namesP L s=namesP L (fstD L s).toNat++[sndD L s]:=by
 have hu:=h s h0 (Nat.le_refl _)
 obtain ⟨t,rfl⟩ : ∃ t,s=t+1:=⟨s-1,by omega⟩
 show namesF L (t+1) (t+1)=_
 simp only [namesF,Nat.add_eq_zero_iff,Nat.one_ne_zero,and_false,if_false]
 rw [namesF_fuel (f:=t) (g:=(fstD L (t+1)).toNat) (h.to (by omega)) (by omega) (by omega)]
 rfl
theorem namesP_len {L:List Shp} : ∀ {s:Nat}, Ahead L s->(namesP L s).length≤s:=by
 intro s
 induction s using Nat.strongRecOn with
 | _ s ih =>
  intro h
  by_cases h0:s=0
  ·subst h0;simp [namesP_zero]
  ·have hu:=h s (by omega) (Nat.le_refl _)
   rw [namesP_step h (by omega)]
   have:=ih (fstD L s).toNat (by omega) (h.to (by omega))
   simp;omega
def fits (L:List Shp) (k:Nat):Prop :=
 0≤fstD L k∧fstD L k<k∧0≤sndD L k∧sndD L k ∉ namesP L (fstD L k).toNat∧L.getD k (0,0) ∉ L.take k
def okTo (L:List Shp) (k:Nat):Prop := ∀ j,0<j->j<k->fits L j
theorem okTo.ahead {L:List Shp} {k s:Nat} (h:okTo L k) (hs:s<k):Ahead L s:=fun j h0 h1=>by
 have:=h j h0 (by omega)
 exact ⟨this.1,this.2.1⟩
def okay (L:List Shp):Prop:=0<L.length∧L.getD 0 (0,0)=(-1, -1)∧okTo L L.length
open Classical in
noncomputable def faultP (L:List Shp):Int:=if 100<L.length then 2 else if okay L then 0 else 3
theorem fault_bad {L:List Shp} (h:L.length≤100) (hn : ¬ okay L):faultP L=3:=by unfold faultP;rw [if_neg (by omega),if_neg hn]
theorem fault_ok {L:List Shp} (h:L.length≤100) (hn:okay L):faultP L=0:=by unfold faultP;rw [if_neg (by omega),if_pos hn]
theorem fault_fit {L:List Shp} {j:Nat} (h:L.length≤100) (h0:0<j) (hj:j<L.length) (hn : ¬ fits L j):faultP L=3:=fault_bad h fun ⟨_,_,h3⟩=>hn (h3 j h0 hj)
theorem okTo.step {L:List Shp} {k:Nat} (h:okTo L k) (hf:fits L k):okTo L (k+1):=fun j h0 h1=>by
 by_cases e:j=k
 ·subst e;exact hf
 ·exact h j h0 (by omega)
theorem pair_eta (L:List Shp) (k:Nat):(fstD L k,sndD L k)=L.getD k (0,0):=rfl
theorem root_take {L:List Shp} (h0:0<L.length) (k:Nat):L.take (k+1)=(fstD L 0,sndD L 0)::(L.drop 1).take k:=by
 cases L with
 | nil=>simp at h0
 | cons p L=>simp [fstD,sndD]
theorem fits_seen {L:List Shp} {k:Nat} (h0:0<L.length) (hf:fits L (k+1)):(fstD L (k+1),sndD L (k+1)) ∉ (L.drop 1).take k:=fun h =>
 hf.2.2.2.2 (by rw [← pair_eta,root_take h0 k];exact List.mem_cons_of_mem _ h)
theorem fits_mk {L:List Shp} {k:Nat} (h0:0<L.length) (hr:fstD L 0 = -1) (a:0≤fstD L (k+1)) (b:fstD L (k+1)≤k) (c:0≤sndD L (k+1)) (d:(fstD L (k+1),sndD L (k+1)) ∉ (L.drop 1).take k)
  (e:sndD L (k+1) ∉ namesP L (fstD L (k+1)).toNat):fits L (k+1):=by
 refine ⟨a,by omega,c,e,?_⟩
 rw [← pair_eta,root_take h0 k]
 intro h
 rcases List.mem_cons.1 h with h | h
 ·have:=congrArg Prod.fst h
  simp only [hr] at this
  omega
 ·exact d h
theorem faultP_ok {L:List Shp} (h:faultP L=0):L.length≤100∧okay L:=by
 unfold faultP at h
 split at h
 ·omega
 ·split at h
  ·exact ⟨by omega,by assumption⟩
  ·omega
noncomputable def namesQ (L:List Shp) (a:Int):List Int:=if faultP L≠0∨a<0∨(L.length:Int)≤a then [] else namesP L a.toNat
end Go.Proofs.YtbphdcffpobcbaaGreatDoor

namespace Go.Proofs.YtbphdcffpobcbaaGreatDoor
open Go.RowKit Go
structure GFrame where
 fn:Int
 at_:Int
 «to» : Int
 gen:Int
 self:GVal
 regs:List GVal
 tries:List GTry
def eFrame (f:GFrame):List Dt := [eI f.fn,eI f.at_,eI f.to,eI f.gen,eI f.self.kind,eI f.self.n,.sl true (f.regs.map eVal),.sl true (f.tries.map eTry)]
structure GCell where
 kind:Int
 num:Int
 vals:List GVal
 frames:List GFrame
def eCell (c:GCell):List Dt := [eI c.kind,eI c.num,.sl true (c.vals.map eVal),.sl true (c.frames.map eFrame)]
def eShape (x:Shp):List Dt := [eI x.1,eI x.2]
structure GThread where
 frames:List GFrame
 state:Int
 on:Int
 val:GVal
def eThread (t:GThread):List Dt := [.sl true (t.frames.map eFrame),eI t.state,eI t.on,eI t.val.kind,eI t.val.n]
structure GEnd where
 cell:Int
 fn:GVal
def eEnd (e:GEnd):List Dt := [eI e.cell,eI e.fn.kind,eI e.fn.n]
structure GState where
 cells:List GCell
 shapes:List Shp
 texts:List ByteArray
 threads:List GThread
 ends:List GEnd
 said:List GVal
 asked:Int
 steps:Int
def eState (s:GState):List Dt := [.sl true (s.cells.map eCell),.sl true (s.shapes.map eShape),.sl true (s.texts.map eStr),.sl true (s.threads.map eThread),.sl true (s.ends.map eEnd),.sl true (s.said.map eVal),eI s.asked,eI s.steps]
attribute [simp] eFrame eCell eShape eThread eEnd eState
instance:Inhabited GTry:=⟨⟨0,0⟩⟩
instance:Inhabited GFrame:=⟨⟨0,0,0,0,⟨0,0⟩,[],[]⟩⟩
instance:Inhabited GCell:=⟨⟨0,0,[],[]⟩⟩
instance:Inhabited GThread:=⟨⟨[],0,0,⟨0,0⟩⟩⟩
instance:Inhabited GEnd:=⟨⟨0,⟨0,0⟩⟩⟩
end Go.Proofs.YtbphdcffpobcbaaGreatDoor

namespace Go.Proofs.YtbphdcffpobcbaaGreatDoor
open Go.RowKit Go
theorem indexFCe_ok {α:Type} (S:Bool) (L:List α) (en:α->List Dt) (el:α->D) (p:α->Bool) (g:FuncId) (hx : ∀ v,ext1 g v=none) (hz:spcFn g=false) (fs cs:List Dt) (he : ∀ x, ∃ a b c d,en x=[a,b,c,d]∧el x = .agg [.d a,.d b,.d c,.d d])
  (hp : ∀ x∈L, ∀ K:D->List Blk->Prop,K (dB (p x)) []->DPure Tryz.prog g (fs.map (fun x => .one (.d x))++(el x::cs.map fun x => .one (.d x))) K) {K:D->List Blk->Prop} (h : ∀ n:Int,(0≤n↔L.any p=true)->K (dI n) []) :
  DPure Tryz.prog 180 [dL S (L.map en),.one (.d (.fn (.func g) fs cs))] K:=by
 refine fn_ok [0,1,4,5,7,8,9,16] [] Tryz.func180 rfl (by kernel_rfl) rfl rfl rfl rfl (by kernel_rfl) ?_
 simp
 intro hl
 refine loop_ok (ks := [0,1,4,5,7,8,9,16]) (pl := []) (n0:=19) (fun x : {k:Nat//k≤L.length∧(L.take k).any p=false} => [(8,dI x.1)]) (fun x=>L.length-x.1) ⟨0,by simp⟩ rfl (by kernel_rfl) (Wk.sub (by simp)) ?_
 rintro ⟨k,hk,ht⟩
 by_cases h1:k<L.length
 ·have he':=he L[k]
  obtain ⟨a,b,c,d,e1,e2⟩:=he'
  obtain ⟨hz1,hz2⟩:=spc_of hz
  simp [h1,e1,hx,hz1,hz2, -ext1, -frzFn, -wrFn]
  rw [← e2]
  refine hp L[k] (List.getElem_mem h1) _ ?_
  simp
  refine alt (fun hb=>h _ ⟨fun _=>List.any_eq_true.2 ⟨_,List.getElem_mem h1,hb⟩,fun _=>by omega⟩) (fun hb=>⟨k+1,by omega,⟨by omega,by simpa using any_take_succ ht h1 (by simpa using hb)⟩,Wk.sub (by simp [wrap_add (show k<9223372036854775807 by omega)])⟩)
 ·simp [h1]
  obtain rfl:k=L.length:=by omega
  rw [List.take_length] at ht
  exact h _ (by simp [ht])
theorem containsFCe_ok {α:Type} (S:Bool) (L:List α) (en:α->List Dt) (el:α->D) (p:α->Bool) (g:FuncId) (hx : ∀ v,ext1 g v=none) (hz:spcFn g=false) (fs cs:List Dt) (he : ∀ x, ∃ a b c d,en x=[a,b,c,d]∧el x = .agg [.d a,.d b,.d c,.d d])
  (hp : ∀ x∈L, ∀ K:D->List Blk->Prop,K (dB (p x)) []->DPure Tryz.prog g (fs.map (fun x => .one (.d x))++(el x::cs.map fun x => .one (.d x))) K) {K:D->List Blk->Prop} (h:K (dB (L.any p)) []) :
  DPure Tryz.prog 119 [dL S (L.map en),.one (.d (.fn (.func g) fs cs))] K:=by
 refine fn_ok [0,1,4] [] Tryz.func119 rfl (by kernel_rfl) rfl rfl rfl rfl (by kernel_rfl) ?_
 simp
 refine indexFCe_ok S L en el p g hx hz fs cs he hp fun n hn => ?_
 simp
 exact kB h (by rw [Bool.eq_iff_iff];simp [← hn])
theorem indexFSh_ok {α:Type} (S:Bool) (L:List α) (en:α->List Dt) (el:α->D) (p:α->Bool) (g:FuncId) (hx : ∀ v,ext1 g v=none) (hz:spcFn g=false) (fs cs:List Dt) (he : ∀ x, ∃ a b,en x=[a,b]∧el x = .agg [.d a,.d b])
  (hp : ∀ x∈L, ∀ K:D->List Blk->Prop,K (dB (p x)) []->DPure Tryz.prog g (fs.map (fun x => .one (.d x))++(el x::cs.map fun x => .one (.d x))) K) {K:D->List Blk->Prop} (h : ∀ n:Int,(0≤n↔L.any p=true)->K (dI n) []) :
  DPure Tryz.prog 179 [dL S (L.map en),.one (.d (.fn (.func g) fs cs))] K:=by
 refine fn_ok [0,1,4,5,7,8,9,16] [] Tryz.func179 rfl (by kernel_rfl) rfl rfl rfl rfl (by kernel_rfl) ?_
 simp
 intro hl
 refine loop_ok (ks := [0,1,4,5,7,8,9,16]) (pl := []) (n0:=19) (fun x : {k:Nat//k≤L.length∧(L.take k).any p=false} => [(8,dI x.1)]) (fun x=>L.length-x.1) ⟨0,by simp⟩ rfl (by kernel_rfl) (Wk.sub (by simp)) ?_
 rintro ⟨k,hk,ht⟩
 by_cases h1:k<L.length
 ·have he':=he L[k]
  obtain ⟨a,b,e1,e2⟩:=he'
  obtain ⟨hz1,hz2⟩:=spc_of hz
  simp [h1,e1,hx,hz1,hz2, -ext1, -frzFn, -wrFn]
  rw [← e2]
  refine hp L[k] (List.getElem_mem h1) _ ?_
  simp
  refine alt (fun hb=>h _ ⟨fun _=>List.any_eq_true.2 ⟨_,List.getElem_mem h1,hb⟩,fun _=>by omega⟩) (fun hb=>⟨k+1,by omega,⟨by omega,by simpa using any_take_succ ht h1 (by simpa using hb)⟩,Wk.sub (by simp [wrap_add (show k<9223372036854775807 by omega)])⟩)
 ·simp [h1]
  obtain rfl:k=L.length:=by omega
  rw [List.take_length] at ht
  exact h _ (by simp [ht])
theorem containsFSh_ok {α:Type} (S:Bool) (L:List α) (en:α->List Dt) (el:α->D) (p:α->Bool) (g:FuncId) (hx : ∀ v,ext1 g v=none) (hz:spcFn g=false) (fs cs:List Dt) (he : ∀ x, ∃ a b,en x=[a,b]∧el x = .agg [.d a,.d b])
  (hp : ∀ x∈L, ∀ K:D->List Blk->Prop,K (dB (p x)) []->DPure Tryz.prog g (fs.map (fun x => .one (.d x))++(el x::cs.map fun x => .one (.d x))) K) {K:D->List Blk->Prop} (h:K (dB (L.any p)) []) :
  DPure Tryz.prog 117 [dL S (L.map en),.one (.d (.fn (.func g) fs cs))] K:=by
 refine fn_ok [0,1,4] [] Tryz.func117 rfl (by kernel_rfl) rfl rfl rfl rfl (by kernel_rfl) ?_
 simp
 refine indexFSh_ok S L en el p g hx hz fs cs he hp fun n hn => ?_
 simp
 exact kB h (by rw [Bool.eq_iff_iff];simp [← hn])
theorem indexFEn_ok {α:Type} (S:Bool) (L:List α) (en:α->List Dt) (el:α->D) (p:α->Bool) (g:FuncId) (hx : ∀ v,ext1 g v=none) (hz:spcFn g=false) (fs cs:List Dt) (he : ∀ x, ∃ a b c,en x=[a,b,c]∧el x = .agg [.d a,.d b,.d c])
  (hp : ∀ x∈L, ∀ K:D->List Blk->Prop,K (dB (p x)) []->DPure Tryz.prog g (fs.map (fun x => .one (.d x))++(el x::cs.map fun x => .one (.d x))) K) {K:D->List Blk->Prop} (h : ∀ n:Int,(0≤n↔L.any p=true)->K (dI n) []) :
  DPure Tryz.prog 187 [dL S (L.map en),.one (.d (.fn (.func g) fs cs))] K:=by
 refine fn_ok [0,1,4,5,7,8,9,16] [] Tryz.func187 rfl (by kernel_rfl) rfl rfl rfl rfl (by kernel_rfl) ?_
 simp
 intro hl
 refine loop_ok (ks := [0,1,4,5,7,8,9,16]) (pl := []) (n0:=19) (fun x : {k:Nat//k≤L.length∧(L.take k).any p=false} => [(8,dI x.1)]) (fun x=>L.length-x.1) ⟨0,by simp⟩ rfl (by kernel_rfl) (Wk.sub (by simp)) ?_
 rintro ⟨k,hk,ht⟩
 by_cases h1:k<L.length
 ·have he':=he L[k]
  obtain ⟨a,b,c,e1,e2⟩:=he'
  obtain ⟨hz1,hz2⟩:=spc_of hz
  simp [h1,e1,hx,hz1,hz2, -ext1, -frzFn, -wrFn]
  rw [← e2]
  refine hp L[k] (List.getElem_mem h1) _ ?_
  simp
  refine alt (fun hb=>h _ ⟨fun _=>List.any_eq_true.2 ⟨_,List.getElem_mem h1,hb⟩,fun _=>by omega⟩) (fun hb=>⟨k+1,by omega,⟨by omega,by simpa using any_take_succ ht h1 (by simpa using hb)⟩,Wk.sub (by simp [wrap_add (show k<9223372036854775807 by omega)])⟩)
 ·simp [h1]
  obtain rfl:k=L.length:=by omega
  rw [List.take_length] at ht
  exact h _ (by simp [ht])
theorem containsFEn_ok {α:Type} (S:Bool) (L:List α) (en:α->List Dt) (el:α->D) (p:α->Bool) (g:FuncId) (hx : ∀ v,ext1 g v=none) (hz:spcFn g=false) (fs cs:List Dt) (he : ∀ x, ∃ a b c,en x=[a,b,c]∧el x = .agg [.d a,.d b,.d c])
  (hp : ∀ x∈L, ∀ K:D->List Blk->Prop,K (dB (p x)) []->DPure Tryz.prog g (fs.map (fun x => .one (.d x))++(el x::cs.map fun x => .one (.d x))) K) {K:D->List Blk->Prop} (h:K (dB (L.any p)) []) :
  DPure Tryz.prog 125 [dL S (L.map en),.one (.d (.fn (.func g) fs cs))] K:=by
 refine fn_ok [0,1,4] [] Tryz.func125 rfl (by kernel_rfl) rfl rfl rfl rfl (by kernel_rfl) ?_
 simp
 refine indexFEn_ok S L en el p g hx hz fs cs he hp fun n hn => ?_
 simp
 exact kB h (by rw [Bool.eq_iff_iff];simp [← hn])
theorem indexFFr_ok {α:Type} (S:Bool) (L:List α) (en:α->List Dt) (el:α->D) (p:α->Bool) (g:FuncId) (hx : ∀ v,ext1 g v=none) (hz:spcFn g=false) (fs cs:List Dt) (he : ∀ x, ∃ a b c d e f g i,en x=[a,b,c,d,e,f,g,i]∧el x = .agg [.d a,.d b,.d c,.d d,.d e,.d f,.d g,.d i])
  (hp : ∀ x∈L, ∀ K:D->List Blk->Prop,K (dB (p x)) []->DPure Tryz.prog g (fs.map (fun x => .one (.d x))++(el x::cs.map fun x => .one (.d x))) K) {K:D->List Blk->Prop} (h : ∀ n:Int,(0≤n↔L.any p=true)->K (dI n) []) :
  DPure Tryz.prog 219 [dL S (L.map en),.one (.d (.fn (.func g) fs cs))] K:=by
 refine fn_ok [0,1,4,5,7,8,9,16] [] Tryz.func219 rfl (by kernel_rfl) rfl rfl rfl rfl (by kernel_rfl) ?_
 simp
 intro hl
 refine loop_ok (ks := [0,1,4,5,7,8,9,16]) (pl := []) (n0:=19) (fun x : {k:Nat//k≤L.length∧(L.take k).any p=false} => [(8,dI x.1)]) (fun x=>L.length-x.1) ⟨0,by simp⟩ rfl (by kernel_rfl) (Wk.sub (by simp)) ?_
 rintro ⟨k,hk,ht⟩
 by_cases h1:k<L.length
 ·have he':=he L[k]
  obtain ⟨a,b,c,d,e,f,g',i,e1,e2⟩:=he'
  obtain ⟨hz1,hz2⟩:=spc_of hz
  simp [h1,e1,hx,hz1,hz2, -ext1, -frzFn, -wrFn]
  rw [← e2]
  refine hp L[k] (List.getElem_mem h1) _ ?_
  simp
  refine alt (fun hb=>h _ ⟨fun _=>List.any_eq_true.2 ⟨_,List.getElem_mem h1,hb⟩,fun _=>by omega⟩) (fun hb=>⟨k+1,by omega,⟨by omega,by simpa using any_take_succ ht h1 (by simpa using hb)⟩,Wk.sub (by simp [wrap_add (show k<9223372036854775807 by omega)])⟩)
 ·simp [h1]
  obtain rfl:k=L.length:=by omega
  rw [List.take_length] at ht
  exact h _ (by simp [ht])
theorem containsFFr_ok {α:Type} (S:Bool) (L:List α) (en:α->List Dt) (el:α->D) (p:α->Bool) (g:FuncId) (hx : ∀ v,ext1 g v=none) (hz:spcFn g=false) (fs cs:List Dt) (he : ∀ x, ∃ a b c d e f g i,en x=[a,b,c,d,e,f,g,i]∧el x = .agg [.d a,.d b,.d c,.d d,.d e,.d f,.d g,.d i])
  (hp : ∀ x∈L, ∀ K:D->List Blk->Prop,K (dB (p x)) []->DPure Tryz.prog g (fs.map (fun x => .one (.d x))++(el x::cs.map fun x => .one (.d x))) K) {K:D->List Blk->Prop} (h:K (dB (L.any p)) []) :
  DPure Tryz.prog 183 [dL S (L.map en),.one (.d (.fn (.func g) fs cs))] K:=by
 refine fn_ok [0,1,4] [] Tryz.func183 rfl (by kernel_rfl) rfl rfl rfl rfl (by kernel_rfl) ?_
 simp
 refine indexFFr_ok S L en el p g hx hz fs cs he hp fun n hn => ?_
 simp
 exact kB h (by rw [Bool.eq_iff_iff];simp [← hn])
theorem indexFTh_ok {α:Type} (S:Bool) (L:List α) (en:α->List Dt) (el:α->D) (p:α->Bool) (g:FuncId) (hx : ∀ v,ext1 g v=none) (hz:spcFn g=false) (fs cs:List Dt) (he : ∀ x, ∃ a b c d e,en x=[a,b,c,d,e]∧el x = .agg [.d a,.d b,.d c,.d d,.d e])
  (hp : ∀ x∈L, ∀ K:D->List Blk->Prop,K (dB (p x)) []->DPure Tryz.prog g (fs.map (fun x => .one (.d x))++(el x::cs.map fun x => .one (.d x))) K) {K:D->List Blk->Prop} (h : ∀ n:Int,(0≤n↔L.any p=true)->K (dI n) []) :
  DPure Tryz.prog 143 [dL S (L.map en),.one (.d (.fn (.func g) fs cs))] K:=by
 refine fn_ok [0,1,4,5,7,8,9,16] [] Tryz.func143 rfl (by kernel_rfl) rfl rfl rfl rfl (by kernel_rfl) ?_
 simp
 intro hl
 refine loop_ok (ks := [0,1,4,5,7,8,9,16]) (pl := []) (n0:=19) (fun x : {k:Nat//k≤L.length∧(L.take k).any p=false} => [(8,dI x.1)]) (fun x=>L.length-x.1) ⟨0,by simp⟩ rfl (by kernel_rfl) (Wk.sub (by simp)) ?_
 rintro ⟨k,hk,ht⟩
 by_cases h1:k<L.length
 ·have he':=he L[k]
  obtain ⟨a,b,c,d,e,e1,e2⟩:=he'
  obtain ⟨hz1,hz2⟩:=spc_of hz
  simp [h1,e1,hx,hz1,hz2, -ext1, -frzFn, -wrFn]
  rw [← e2]
  refine hp L[k] (List.getElem_mem h1) _ ?_
  simp
  refine alt (fun hb=>h _ ⟨fun _=>List.any_eq_true.2 ⟨_,List.getElem_mem h1,hb⟩,fun _=>by omega⟩) (fun hb=>⟨k+1,by omega,⟨by omega,by simpa using any_take_succ ht h1 (by simpa using hb)⟩,Wk.sub (by simp [wrap_add (show k<9223372036854775807 by omega)])⟩)
 ·simp [h1]
  obtain rfl:k=L.length:=by omega
  rw [List.take_length] at ht
  exact h _ (by simp [ht])
theorem containsFTh_ok {α:Type} (S:Bool) (L:List α) (en:α->List Dt) (el:α->D) (p:α->Bool) (g:FuncId) (hx : ∀ v,ext1 g v=none) (hz:spcFn g=false) (fs cs:List Dt) (he : ∀ x, ∃ a b c d e,en x=[a,b,c,d,e]∧el x = .agg [.d a,.d b,.d c,.d d,.d e])
  (hp : ∀ x∈L, ∀ K:D->List Blk->Prop,K (dB (p x)) []->DPure Tryz.prog g (fs.map (fun x => .one (.d x))++(el x::cs.map fun x => .one (.d x))) K) {K:D->List Blk->Prop} (h:K (dB (L.any p)) []) :
  DPure Tryz.prog 91 [dL S (L.map en),.one (.d (.fn (.func g) fs cs))] K:=by
 refine fn_ok [0,1,4] [] Tryz.func91 rfl (by kernel_rfl) rfl rfl rfl rfl (by kernel_rfl) ?_
 simp
 refine indexFTh_ok S L en el p g hx hz fs cs he hp fun n hn => ?_
 simp
 exact kB h (by rw [Bool.eq_iff_iff];simp [← hn])
end Go.Proofs.YtbphdcffpobcbaaGreatDoor

namespace Go.Proofs.YtbphdcffpobcbaaGreatDoor
open Go.RowKit Go
def dCell:GCell:=⟨0,0,[],[]⟩
def dFn:GFn:=⟨0,0,false,[],[]⟩
def dFrame:GFrame:=⟨0,0,0,0,⟨0,0⟩,[],[]⟩
def cellAt (s:GState) (n:Int):GCell:=s.cells.getD n.toNat dCell
def fitsB (s:GState) (v:GVal):Bool :=
 rightB v.kind v.n&&(if v.kind=4 then decide (v.n<s.texts.length) else if v.kind=5 then decide (v.n<s.cells.length) && !decide ((cellAt s v.n).kind=0) else true)
def namesB (s:GState) (v:GVal) (kind:Int):Bool:=decide (v.kind=5)&&decide (0≤v.n)&&decide (v.n<s.cells.length)&&decide ((cellAt s v.n).kind=kind)
def valAt (l:List GVal) (k:Nat):GVal:=l.getD k ⟨0,0⟩
def keyB (l:List GVal) (j:Nat):Bool:=decide ((valAt l (2*j)).kind=5)&&(List.range j).all fun i => !decide ((valAt l (2*i)).n=(valAt l (2*j)).n)
def weakB (l:List GVal):Bool:=decide (l.length%2=0)&&(List.range ((l.length+1)/2)).all (keyB l)
def shapeLen (s:GState) (n:Int):Nat:=(namesP s.shapes n.toNat).length
def framesOf (c:GCell):Nat:=if c.kind=5∧c.num=0 then 1 else 0
def kindB (s:GState) (c:GCell):Bool :=
 if c.kind=0 then decide (c.num=0)&&decide (c.vals=[]) else if c.kind=1 then btw c.num 0 (s.shapes.length-1)&&decide (c.vals.length=shapeLen s c.num)
 else if c.kind=2 then decide (c.num=0) else if c.kind=3 then decide (c.num=0)&&decide (c.vals.length=1) else if c.kind=4 then decide (0≤c.num)&&c.vals.all (fun v=>namesB s v 3)
 else if c.kind=5 then btw c.num 0 2&&decide (c.vals=[]) else if c.kind=6 then btw c.num (-1) 4&&decide (c.vals=[]) else if c.kind=7 then decide (c.num=0)&&weakB c.vals else false
def frameFits (s:GState) (f:GFrame):Bool:=f.regs.all (fitsB s)&&fitsB s f.self
def cellB (s:GState) (c:GCell):Bool:=kindB s c&&decide (c.frames.length=framesOf c)&&c.vals.all (fitsB s)&&c.frames.all (frameFits s)
def manyB (c:GCell):Bool:=decide (100<c.vals.length)&&(!decide (c.kind=7)||decide (600<c.vals.length))
def heapLarge (s:GState):Bool:=decide (300<s.cells.length)||decide (300<s.texts.length)||decide (200<s.said.length)||decide (100<s.ends.length)||s.texts.any (fun t=>decide (200<t.size))||s.cells.any manyB
def wordsB (ws l:List ByteArray):Bool:=decide (l.take ws.length=ws)&&decide l.Nodup
def saidB (s:GState) (v:GVal):Bool:=decide (v.kind=4)&&fitsB s v
def endB (s:GState) (e:GEnd):Bool:=btw e.cell 0 (s.cells.length-1)&&namesB s e.fn 4
noncomputable def cellsQ (ws:List ByteArray) (s:GState):Int :=
 if heapLarge s=true then 2 else if faultP s.shapes≠0 then faultP s.shapes
 else if wordsB ws s.texts=true∧s.shapes.all (fun x=>decide (x.2<s.texts.length))=true∧s.cells.all (cellB s)=true∧s.said.all (saidB s)=true∧s.ends.all (endB s)=true then 0 else 3
def fnAt (p:GProg) (n:Int):GFn:=p.fns.getD n.toNat dFn
def frameB (p:GProg) (s:GState) (f:GFrame):Bool :=
 decide (0≤f.fn)&&decide (f.fn<p.fns.length)&&namesB s f.self 4&&decide ((cellAt s f.self.n).num=f.fn)&&decide ((f.regs.length:Int)=(fnAt p f.fn).regs)&&decide (0≤f.at_)&&decide (f.at_<(fnAt p f.fn).code.length) &&
 (triesQ (fnAt p f.fn)).seen.getD f.at_.toNat false&&decide (f.tries=(triesQ (fnAt p f.fn)).out.getD f.at_.toNat [])&&f.regs.all (fitsB s)
def savedB (p:GProg) (s:GState) (f:GFrame):Bool :=
 frameB p s f&&decide (f.to = -1)&&decide (f.gen = -1)&&(fnAt p f.fn).gen&&(decide (f.at_=0)||decide (((fnAt p f.fn).code.getD (f.at_-1).toNat dIns).op=32))
def heapB (p:GProg) (s:GState) (c:GCell):Bool :=
 if c.kind=4 then decide (c.num<p.fns.length)&&decide (c.vals.length=(fnAt p c.num).caught.length) else if c.kind=5 then !decide (c.num=0)||savedB p s (c.frames.getD 0 dFrame) else true
def stackB (p:GProg) (s:GState) (fs:List GFrame) (k:Nat):Bool :=
 let f:=fs.getD k dFrame
 frameB p s f&&decide (-1≤f.to)&&decide (f.to<(if k=0 then 0 else ((fs.getD (k-1) dFrame).regs.length:Int)))&&(if (fnAt p f.fn).gen then decide (0≤f.gen)&&decide (0<k)&&namesB s ⟨5,f.gen⟩ 5&&decide ((cellAt s f.gen).num=1) else decide (f.gen = -1))
def overB (t:GThread):Bool:=decide (t.state=3)||decide (t.state=4)
def onB (s:GState) (t:GThread):Bool:=if t.state=1 then namesB s ⟨5,t.on⟩ 6 else if t.state=2 then decide (0≤t.on)&&decide (t.on<s.threads.length) else decide (t.on=0)
def threadB (p:GProg) (s:GState) (t:GThread):Bool :=
 decide (overB t=decide (t.frames=[]))&&(overB t||(decide (t.val.kind=0)&&decide (t.val.n=0)))&&fitsB s t.val&&btw t.state 0 4&&onB s t&&(List.range t.frames.length).all (stackB p s t.frames)
def gensF (p:GProg) (fs:List GFrame):List Int:=(fs.filter fun f=>(fnAt p f.fn).gen).map (·.gen)
def gensS (p:GProg) (s:GState):List Int:=s.threads.flatMap fun t=>gensF p t.frames
def beginsB (p:GProg) (s:GState):Bool:=decide (s.texts.take p.texts.length=p.texts)&&btw s.steps 0 1000000000&&btw s.asked 0 1000000000 && !decide (s.threads=[])
def goesB (p:GProg) (s:GState):Bool:=(List.range s.cells.length).all fun k => !(decide ((cellAt s k).kind=5)&&decide ((cellAt s k).num=1))||decide ((k:Int)∈gensS p s)
def stateB (p:GProg) (s:GState):Bool:=beginsB p s&&s.cells.all (heapB p s)&&s.threads.all (threadB p s)&&decide (gensS p s).Nodup&&goesB p s
def stateLarge (s:GState):Bool:=decide (5<s.threads.length)||s.threads.any fun t=>decide (30<t.frames.length)
noncomputable def stateQ (ws:List ByteArray) (p:GProg) (s:GState):Int :=
 if checkQ ws p≠0 then checkQ ws p else if cellsQ ws s≠0 then cellsQ ws s else if stateLarge s=true then 2 else if stateB p s=true then 0 else 3
end Go.Proofs.YtbphdcffpobcbaaGreatDoor

namespace Go.Proofs.YtbphdcffpobcbaaGreatDoor
open Go.RowKit Go
theorem floatOf_ok (k n:Int) {K:D->List Blk->Prop} (h:K (dF (flt n)) []):DPure Tryz.prog 39 [dV k n] K:=by
 refine fn_ok [0,1,2] [] Tryz.func39 rfl (by kernel_rfl) rfl rfl rfl rfl (by kernel_rfl) ?_
 simp
 exact h
theorem isNaN_ok (b:Nat) {K:D->List Blk->Prop} (h:K (dB (!same b b)) []):DPure Tryz.prog 40 [dF b] K:=by
 refine fn_ok [0,2] [] Tryz.func40 rfl (by kernel_rfl) rfl rfl rfl rfl (by kernel_rfl) ?_
 simp
 exact kB h (by simp [same,bne])
theorem rightVal_ok (k n:Int) {K:D->List Blk->Prop} (h:K (dB (rightB k n)) []):DPure Tryz.prog 87 [dV k n] K:=by
 refine fn_ok [0,1,2,4,5,10,20,25,36,42] [] Tryz.func87 rfl (by kernel_rfl) rfl rfl rfl rfl (by kernel_rfl) ?_
 by_cases e3:k=3
 ·simp [e3]
  refine floatOf_ok _ _ ?_
  simp
  refine isNaN_ok _ ?_
  cases hs:same (flt n) (flt n) with
  | true =>
   simp
   exact kB h (by simp [rightB,e3,hs])
  | false =>
   simp
   exact kB h (by rw [Bool.eq_iff_iff];simp [rightB,e3,hs,theNaN])
 simp [e3]
 repeat' (first | (refine alt (fun _ => ?_) (fun _ => ?_)) | (intro _) | (refine between_ok _ _ _ ?_;simp))
 all_goals exact kB h (by simp_all [rightB,btw,theNaN] <;> first | done | omega | (rw [Bool.eq_iff_iff];simp;done) | (rw [Bool.eq_iff_iff];simp;omega))
end Go.Proofs.YtbphdcffpobcbaaGreatDoor

namespace Go.Proofs.YtbphdcffpobcbaaGreatDoor
open Go.RowKit Go
abbrev pS (S:Bool) (s:GState):D := .one (.d (.at_ S (eState s)))
theorem cell_get {s:GState} {n:Int} (h0:0≤n) (h:n<s.cells.length):s.cells[n.toNat]? = some (cellAt s n):=by
 unfold cellAt
 rw [List.getD_eq_getElem?_getD,List.getElem?_eq_getElem (by omega)];rfl
theorem cellAt_eq {s:GState} {n:Int} (h0:0≤n) (h:n<s.cells.length):cellAt s n=s.cells[n.toNat]'(by omega):=by
 unfold cellAt
 rw [List.getD_eq_getElem?_getD,List.getElem?_eq_getElem (by omega)];rfl
theorem right_nonneg {k n:Int} (h:rightB k n=true) (hk:k=5):0≤n:=by
 subst hk
 simpa [rightB] using h
theorem fits_ok (S:Bool) (s:GState) (v:GVal) {K:D->List Blk->Prop} (h:K (dB (fitsB s v)) []):DPure Tryz.prog 124 [pS S s,aD (eVal v)] K:=by
 obtain ⟨k,n⟩:=v
 refine fn_ok [0,1,3,4,5,9,21] [(4,[0,1,0,4,12,28,60,127,255],(.seg 0 (.seg 1 (.seg 2 (.seg 3 (.seg 4 (.seg 5 (.seg 6 (.seg 7 (.seg 8 .last)))))))))),(6,[0,1,0,4,12,28,60,127,255,511,1023,2047,4095,511,8703,32767,65535,131071,262143,524287,1048575],(.seg 0 (.seg 1 (.seg 2 (.seg 3 (.seg 4 (.seg 5 (.seg 6 (.seg 7 (.seg 8 (.seg 9 (.seg 10 (.seg 11 (.seg 12 (.seg 13 (.seg 14 (.seg 15 (.seg 16 (.seg 17 (.seg 18 (.seg 19 (.seg 20 .last))))))))))))))))))))))] Tryz.func124 rfl (by kernel_rfl) rfl rfl rfl rfl (by kernel_rfl) ?_
 simp
 refine right_ok _ _ ?_
 cases hr:rightB k n with
 | false =>
  simp
  exact kB h (by simp [fitsB,hr])
 | true =>
 by_cases e4:k=4
 ·subst e4
  simp
  intro _
  exact kB h (by simp [fitsB,hr])
 by_cases e5:k=5
 ·have hp:=right_nonneg hr e5
  by_cases hl:n<s.cells.length
  ·subst e5
   have hc:=cellAt_eq hp hl
   simp [hl,hp,cell_get hp hl]
   intro _
   exact kB h (by simp [fitsB,hr,hl,hc])
  ·subst e5
   simp [hl]
   intro _
   exact kB h (by simp [fitsB,hr,hl])
 ·simp [e4,e5]
  exact kB h (by simp [fitsB,hr,e4,e5])
theorem fitsIn_ok (s:GState) (v:GVal) {K:D->List Blk->Prop} (h:K (dB (fitsB s v)) []):DPure Tryz.prog 27 [aD (eState s),aD (eVal v)] K:=by
 obtain ⟨k,n⟩:=v
 refine fn_ok [0,1,2,3,4,7,10] [] Tryz.func27 rfl (by kernel_rfl) rfl rfl rfl rfl (by kernel_rfl) ?_
 simp
 refine rightVal_ok _ _ ?_
 cases hr:rightB k n with
 | false =>
  simp
  exact kB h (by simp [fitsB,hr])
 | true =>
 by_cases e4:k=4
 ·subst e4
  simp
  intro _
  exact kB h (by simp [fitsB,hr])
 by_cases e5:k=5
 ·have hp:=right_nonneg hr e5
  by_cases hl:n<s.cells.length
  ·subst e5
   have hc:=cellAt_eq hp hl
   simp [hl,hp,cell_get hp hl]
   intro _
   exact kB h (by simp [fitsB,hr,hl,hc])
  ·subst e5
   simp [hl]
   intro _
   exact kB h (by simp [fitsB,hr,hl])
 ·simp [e4,e5]
  exact kB h (by simp [fitsB,hr,e4,e5])
theorem kindIn_ok (s:GState) (v:GVal) (kind:Int) {K:D->List Blk->Prop} (h:K (dB (namesB s v kind)) []):DPure Tryz.prog 86 [aD (eState s),aD (eVal v),dI kind] K:=by
 obtain ⟨k,n⟩:=v
 refine fn_ok [0,1,2,3,4,6] [] Tryz.func86 rfl (by kernel_rfl) rfl rfl rfl rfl (by kernel_rfl) ?_
 by_cases e5:k=5
 ·simp [e5]
  intro hl
  refine between_ok _ _ _ ?_
  have hw:IntKind.i64.wrap ((s.cells.length:Int)-1)=(s.cells.length:Int)-1:=wrap_id (by omega) (by omega)
  rw [hw]
  by_cases hb:0≤n∧n<s.cells.length
  ·have:btw n 0 ((s.cells.length:Int)-1)=true:=by simp [btw];omega
   have hc:=cellAt_eq hb.1 hb.2
   simp [this,hb.1,hb.2,cell_get hb.1 hb.2]
   exact kB h (by simp [namesB,e5,hb.1,hb.2,hc])
  ·have:btw n 0 ((s.cells.length:Int)-1)=false:=by simp [btw];omega
   simp [this]
   exact kB h (by simp [namesB,e5];omega)
 ·simp [e5]
  exact kB h (by simp [namesB,e5])
end Go.Proofs.YtbphdcffpobcbaaGreatDoor

namespace Go.Proofs.YtbphdcffpobcbaaGreatDoor
open Go.RowKit Go
theorem cwithin_ok (n lo hi:Int) {K:D->List Blk->Prop} (h:K (dB (btw n lo hi)) []):DPure Tryz.prog 127 [dI n,dI lo,dI hi] K:=by
 refine fn_ok [0,1,2,6] [] Tryz.func127 rfl (by kernel_rfl) rfl rfl rfl rfl (by kernel_rfl) ?_
 simp
 repeat' (first | (refine alt (fun _ => ?_) (fun _ => ?_)) | (intro _) | fail)
 all_goals exact kB h (by rw [Bool.eq_iff_iff];simp [btw];omega)
theorem celLarge1_ok (t:ByteArray) {K:D->List Blk->Prop} (h:K (dB (decide (200<t.size))) []):DPure Tryz.prog 174 [dS t] K:=by
 refine fn_ok [0,2] [] Tryz.func174 rfl (by kernel_rfl) rfl rfl rfl rfl (by kernel_rfl) ?_
 simp
 exact kB h (by rw [Bool.eq_iff_iff];simp;omega)
theorem celLarge2_ok (c:GCell) {K:D->List Blk->Prop} (h:K (dB (manyB c)) []):DPure Tryz.prog 175 [aD (eCell c)] K:=by
 refine fn_ok [0,1,2] [] Tryz.func175 rfl (by kernel_rfl) rfl rfl rfl rfl (by kernel_rfl) ?_
 simp
 repeat' (first | (refine alt (fun _ => ?_) (fun _ => ?_)) | (intro _) | fail)
 all_goals exact kB h (by unfold manyB;rw [Bool.eq_iff_iff];simp;omega)
theorem celLarge_ok (S:Bool) (s:GState) {K:D->List Blk->Prop} (h:K (dB (heapLarge s)) []):DPure Tryz.prog 114 [pS S s] K:=by
 refine fn_ok [0,2] [] Tryz.func114 rfl (by kernel_rfl) rfl rfl rfl rfl (by kernel_rfl) ?_
 simp
 have yes:heapLarge s=true->K (dB true) []:=fun e=>kB h e
 intro _
 refine alt (fun c1 => ?_) (fun c1=>yes (by simp [heapLarge];omega))
 intro _
 refine alt (fun c2 => ?_) (fun c2=>yes (by simp [heapLarge];omega))
 intro _
 refine alt (fun c3 => ?_) (fun c3=>yes (by simp [heapLarge];omega))
 intro _
 refine alt (fun c4 => ?_) (fun c4=>yes (by simp [heapLarge];omega))
 refine containsFS_ok true s.texts eStr (fun t=>dS t) (fun t=>decide (200<t.size)) 174 (fun _=>by simp) rfl [] [] (fun x=>⟨_,rfl,rfl⟩) (fun x _ K hK=>celLarge1_ok x hK) ?_
 have hq:heapLarge s=(s.texts.any (fun t=>decide (200<t.size))||s.cells.any manyB):=by
  unfold heapLarge
  rw [decide_eq_false (by omega),decide_eq_false (by omega),decide_eq_false (by omega),decide_eq_false (by omega)];rfl
 generalize s.texts.any (fun t=>decide (200<t.size))=b1 at hq ⊢
 cases b1 with
 | true =>
  simp
  exact yes (by rw [hq];rfl)
 | false =>
 simp
 refine containsFCe_ok true s.cells eCell (fun c=>aD (eCell c)) manyB 175 (fun _=>by simp) rfl [] [] (fun x=>⟨_,_,_,_,rfl,rfl⟩) (fun x _ K hK=>celLarge2_ok x hK) ?_
 generalize s.cells.any manyB=b2 at hq ⊢
 simp
 exact kB h (by rw [hq];rfl)
theorem celTexts_ok (S:Bool) (l:List ByteArray) (hT : ∀ t∈l,t.size≤maxLen) (hl:l.length≤1000) {K:D->List Blk->Prop} (h:K (dB (wordsB wordsT l)) []):DPure Tryz.prog 116 [dL S (l.map eStr)] K:=by
 refine fn_ok [0,2,3,4,5,6,9,10,11,12,33] [] Tryz.func116 rfl (by kernel_rfl) rfl rfl rfl rfl (by kernel_rfl) ?_
 simp
 refine words_ok ?_
 simp
 intro _
 refine loopH_ok (ks := [0,2,3,4,5,6,9,10,11,12,33]) (pl := []) (n0:=42) (fun x : {k:Nat//k≤l.length∧(l.take k).Nodup ∧ ∀ j (_:j<k) (h1:j<l.length) (h2:j<wordsT.length),l[j]=wordsT[j]} => [(11,dI x.1)]) (fun H x=>H.set 1 (some ⟨.m 9 (seenF l x.1) x.1,0,[]⟩)) (fun _=>2) (fun x=>l.length-x.1) ⟨0,by simp⟩ rfl (by kernel_rfl) (Wk.subH (by simp) (by rw [Hp.set_set,seenF_zero])) ?_
 rintro ⟨k,hk,hn,hw⟩
 by_cases h3:k<l.length
 ·have hsz:=hT _ (List.getElem_mem h3)
  have hgk:=seenF_get l k h3
  simp [h3,keyin9 hsz]
  have bad:(¬ l.Nodup ∨ ∃ (h2:k<wordsT.length),l[k]≠wordsT[k])->K (dB false) []:=fun e=>kB h (by
   rcases e with e | ⟨h2,e⟩
   ·simp [wordsB,e]
   ·have:l.take wordsT.length≠wordsT:=fun e2=>e (by
     have h4:(l.take wordsT.length)[k]? = wordsT[k]? := by rw [e2]
     rw [List.getElem?_take,if_pos h2,List.getElem?_eq_getElem h3,List.getElem?_eq_getElem h2] at h4
     exact Option.some.inj h4)
    simp [wordsB,this])
  refine alt (fun c1=>bad (.inl (not_nodup h3 (hgk.1 c1)))) (fun c1 => ?_)
  intro _
  have hnx:=nodup_take h3 hn fun hm=>c1 (hgk.2 hm)
  by_cases c2:k<wordsT.length
  ·simp [c2,List.getElem?_eq_getElem c2]
   refine alt (fun c3 => ?_) (fun c3=>bad (.inr ⟨c2,c3⟩))
   exact ⟨by kernel_rfl,by omega,k+1,by omega,⟨by omega,hnx,fun j hj h1 h2=>by
    by_cases e:j=k
    ·subst e;exact c3
    ·exact hw j (by omega) h1 h2⟩,Wk.subH (by simp [wrap_add (show k<9223372036854775807 by omega)]) (by rw [seenF_succ _ _ h3])⟩
  ·simp [c2]
   exact ⟨by kernel_rfl,by omega,k+1,by omega,⟨by omega,hnx,fun j hj h1 h2=>hw j (by omega) h1 h2⟩,Wk.subH (by simp [wrap_add (show k<9223372036854775807 by omega)]) (by rw [seenF_succ _ _ h3])⟩
 ·simp [h3]
  obtain rfl:k=l.length:=by omega
  intro _ _
  rw [List.take_length] at hn
  refine kB h ?_
  simp only [wordsB,decide_eq_true hn,Bool.and_true]
  by_cases c2:wordsT.length≤l.length
  ·rw [decide_eq_true c2,decide_eq_true]
   exact List.ext_getElem (by rw [List.length_take];omega) fun j h1 h2=>by rw [List.getElem_take];exact hw j (by omega) (by omega) h2
  ·rw [decide_eq_false c2,decide_eq_false fun e=>c2 (by have:=congrArg List.length e;rw [List.length_take] at this;omega)]
end Go.Proofs.YtbphdcffpobcbaaGreatDoor

namespace Go.Proofs.YtbphdcffpobcbaaGreatDoor
open Go.RowKit Go
theorem shp_get {L:List Shp} {s:Nat} (h:s<L.length):L[s]? = some (fstD L s,sndD L s):=by
 rw [List.getElem?_eq_getElem h]
 simp [fstD,sndD,List.getD_eq_getElem?_getD,List.getElem?_eq_getElem h]
theorem heapOne {H:Hp} {m:Nat} {x:Option Blk} (h:H m=x) : ∀ i y,(Hp.none.set m x) i=some y->H i=some y:=fun i y hy=>by
 by_cases e:i=m
 ·subst e;rw [Hp.set_same] at hy;rw [h,hy]
 ·rw [Hp.set_ne _ _ e] at hy;cases hy
structure NmS where
 s:Nat
 out:List Int
 nx:Nat
theorem names1_ok (S:Bool) (L:List Shp) (s:Nat) (ha:Ahead L s) (hs:s<L.length) (hl:L.length≤100000) {K:D->List Blk->Prop} (h:K (.one (.own 0 1 (namesP L s).length)) [⟨.c 3,1,iRows (namesP L s)⟩]) :
  DPure Tryz.prog 177 [dL S (L.map eShape),dI s] K:=by
 refine fn_ok [0,1,4,5,7] [] Tryz.func177 rfl (by kernel_rfl) rfl rfl rfl rfl (by kernel_rfl) ?_
 simp
 refine loopS_ok (ks := [0,1,4,5,7]) (pl := []) (n0:=24) (α := {x:NmS//x.s≤s∧namesP L s=namesP L x.s++x.out.reverse}) (fun x=>⟨24,[(0,dL S (L.map eShape)),(1,dI x.1.s),(4,.one (.d .emp)),(5,.one (.own x.1.nx 1 x.1.out.length))],Hp.none.set x.1.nx (some ⟨.c 3,1,iRows x.1.out⟩),x.1.nx+1⟩) (fun x=>x.1.s) ⟨⟨s,[],0⟩,Nat.le_refl _,by simp⟩ rfl (by kernel_rfl) ?_ ?_
 ·have:=Wk.emp (n:=24) (nx:=0) (t:=5) (tm := [(0,dL S (L.map eShape)),(1,dI s),(4,.one (.d .emp)),(5,.one (.d .emp))]) (H:=Hp.none) 3 1 rfl
  simpa [iRows] using this
 rintro ⟨⟨j,out,nx⟩,hj,ho⟩
 simp only at hj ho
 by_cases h0:0<j
 ·have hjl:j<L.length:=by omega
  have hu:=ha j h0 hj
  have hlen:=namesP_len (ha.to hj)
  have hlen2:=namesP_len ha
  have hol:out.length≤s:=by have:=congrArg List.length ho;simp at this;omega
  have hst:=namesP_step (ha.to hj) h0 
  have hfn:(((fstD L j).toNat:Nat):Int)=fstD L j:=by omega
  simp [h0,shp_get hjl]
  refine ⟨fun a b e hb => ?_,by omega,⟨(fstD L j).toNat,out++[sndD L j],nx+2⟩,by simp;omega,⟨by simp;omega,by rw [ho,hst];simp⟩,(Wk.sub (by simp [hfn])).trans (Wk.heap (heapOne (by simp [iRows])))⟩
  subst e
  simp at hb
  subst hb
  exact ⟨rfl,rfl⟩
 ·obtain rfl:j=0:=by omega
  rw [namesP_zero,List.nil_append] at ho
  have hlen:=namesP_len ha
  have hol:out.length≤s:=by have:=congrArg List.length ho;simp at this;omega
  simp
  refine reverse_ok (L:=out) (by simp) ?_ (by omega) ?_
  ·exact HSol.rows (H:=Hp.none) fun n x hx=>by cases hx
  ·rw [← ho]
   simp
   rw [if_pos iRows_isD]
   have:out.length=(namesP L s).length:=by rw [ho];simp
   rw [this]
   exact h
end Go.Proofs.YtbphdcffpobcbaaGreatDoor

