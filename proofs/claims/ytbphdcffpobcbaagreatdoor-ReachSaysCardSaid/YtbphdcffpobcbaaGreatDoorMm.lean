/- Several texts in one. -/
import Derived.Test.YtbphdcffpobcbaaGreatDoorMk
import Derived.Test.YtbphdcffpobcbaaGreatDoorMl
set_option linter.unusedSimpArgs false
set_option linter.unusedVariables false
set_option maxRecDepth 100000
set_option maxHeartbeats 16000000
namespace Go.Proofs.YtbphdcffpobcbaaGreatDoor
open Go.RowKit Go
def accP (b:Bool) (L M:List ByteArray) (k:Nat):Bool:=b&&decide (L.take k=M.take k)
theorem accP_zero {b:Bool} {L M:List ByteArray} : accP b L M 0=b:=by simp [accP]
theorem accP_next {b:Bool} {L M:List ByteArray} {k:Nat} (h1:k<L.length) (h2:k<M.length):accP b L M (k+1)=(accP b L M k&&decide (L[k]=M[k])):=by
 unfold accP
 rw [List.take_succ_eq_append_getElem h1,List.take_succ_eq_append_getElem h2,Bool.eq_iff_iff]
 simp only [Bool.and_eq_true,decide_eq_true_eq,and_assoc]
 constructor
 ·rintro ⟨a,e⟩
  have:=List.append_inj e (by simp;omega)
  exact ⟨a,this.1,by simpa using this.2⟩
 ·rintro ⟨a,e1,e2⟩
  exact ⟨a,by rw [e1,e2]⟩
def gI (l:List Int) (j:Nat):Int:=l.getD j 0
def accV (b:Bool) (l:List Int) (k i:Nat):Bool:=b&&(List.range i).all fun j => !decide (gI l k=gI l j)
def accW (b:Bool) (l:List Int):Nat->Bool
 | 0=>b
 | k+1=>accV (accW b l k) l k k
theorem accV_zero {b:Bool} {l:List Int} {k:Nat} : accV b l k 0=b:=by simp [accV]
theorem accV_next {b:Bool} {l:List Int} {k i:Nat} : accV b l k (i+1)=(accV b l k i && !decide (gI l k=gI l i)):=by simp [accV,List.range_succ,Bool.and_assoc]
theorem gI_at {l:List Int} {j:Nat} (h:j<l.length):gI l j=l[j]:=by simp [gI,List.getD_eq_getElem?_getD,List.getElem?_eq_getElem h]
theorem accW_iff {b:Bool} {l:List Int} : ∀ n,accW b l n=true↔b=true ∧ ∀ j<n, ∀ i<j,gI l j≠gI l i
 | 0=>by simp [accW]
 | n+1=>by
  rw [accW,accV,Bool.and_eq_true,accW_iff n,List.all_eq_true]
  constructor
  ·rintro ⟨⟨h1,h2⟩,h4⟩
   refine ⟨h1,fun j hj => ?_⟩
   by_cases e:j=n
   ·subst e
    exact fun i hi=>by have:=h4 i (List.mem_range.2 hi);simpa using this
   ·exact h2 j (by omega)
  ·rintro ⟨h1,h2⟩
   refine ⟨⟨h1,fun j hj=>h2 j (by omega)⟩,fun i hi => ?_⟩
   have:=h2 n (by omega) i (List.mem_range.1 hi)
   simpa using this
theorem accW_nodup {l:List Int} : accW true l l.length=true↔l.Nodup:=by
 rw [accW_iff]
 constructor
 ·rintro ⟨-, h⟩
  refine List.pairwise_iff_getElem.2 fun i j hi hj hij => ?_
  have:=h j hj i hij
  rw [gI_at hi,gI_at hj] at this
  exact fun e=>this e.symm
 ·intro h
  refine ⟨rfl,fun j hj i hi => ?_⟩
  rw [gI_at hj,gI_at (by omega)]
  exact fun e=>(List.pairwise_iff_getElem.1 h i j (by omega) hj hi) e.symm
def cellP (p:GProg) (s:GState) (k:Nat) (c:GCell):Bool:=heapB p s c&&(!(decide (c.kind=5)&&decide (c.num=1))||decide ((k:Int)∈gensA s.threads))
def accC2 (p:GProg) (s:GState) (b:Bool) (k:Nat):Bool:=b&&(List.range k).all fun j=>cellP p s j (s.cells.getD j dCell)
theorem accC2_zero {p:GProg} {s:GState} {b:Bool} : accC2 p s b 0=b:=by simp [accC2]
theorem accC2_next {p:GProg} {s:GState} {b:Bool} {k:Nat} (h:k<s.cells.length):accC2 p s b (k+1)=(accC2 p s b k&&cellP p s k s.cells[k]):=by
 simp [accC2,List.range_succ,Bool.and_assoc,List.getD_eq_getElem?_getD,List.getElem?_eq_getElem h]
theorem gens_same {p:GProg} {s:GState} {fs:List GFrame} (h : ∀ k<fs.length,stackB p s fs k=true):gensD fs=gensF p fs:=by
 unfold gensD gensF
 congr 1
 refine List.filter_congr fun f hf => ?_
 obtain ⟨k,hk,rfl⟩:=List.getElem_of_mem hf
 have:=((stack_iff hk).1 (h k hk)).2.2
 by_cases hg:(fnAt p fs[k].fn).gen=true
 ·rw [if_pos hg] at this
  rw [hg]
  simp;omega
 ·rw [if_neg hg] at this
  rw [Bool.eq_false_iff.2 hg]
  simpa using this
theorem gensA_same {p:GProg} {s:GState} (h:s.threads.all (threadB p s)=true):gensA s.threads=gensT p s.threads:=by
 unfold gensA gensT
 rw [List.flatMap_def,List.flatMap_def]
 congr 1
 refine List.map_congr_left fun t ht => ?_
 exact gens_same ((thread_iff.1 (List.all_eq_true.1 h t ht)).2.2.2.2.2)
theorem state_all {p:GProg} {s:GState} (hb:beginsB p s=true):stateB p s=true↔(gensA s.threads).Nodup∧accC2 p s true s.cells.length=true∧s.threads.all (threadB p s)=true:=by
 have hb':(s.texts.take p.texts.length=p.texts∧btw s.steps 0 1000000000=true∧btw s.asked 0 1000000000=true∧s.threads ≠ []):=by
  simpa only [beginsB,Bool.and_eq_true,decide_eq_true_eq,and_assoc,Bool.not_eq_true',decide_eq_false_iff_not,ne_eq] using hb
 rw [state_iff,goes_iff]
 have hcells:accC2 p s true s.cells.length=true↔(s.cells.all (heapB p s)=true ∧ ∀ k<s.cells.length,(!(decide ((cellAt s k).kind=5)&&decide ((cellAt s k).num=1))||decide ((k:Int)∈gensA s.threads))=true):=by
  unfold accC2 cellP
  rw [Bool.true_and,List.all_eq_true,List.all_eq_true]
  have hat : ∀ k (hk:k<s.cells.length),s.cells.getD k dCell=s.cells[k]∧cellAt s (k:Int)=s.cells[k]:=fun k hk=>by
   constructor
   ·rw [List.getD_eq_getElem?_getD,List.getElem?_eq_getElem hk];rfl
   ·unfold cellAt;rw [Int.toNat_natCast,List.getD_eq_getElem?_getD,List.getElem?_eq_getElem hk];rfl
  constructor
  ·intro h
   refine ⟨fun c hc => ?_,fun k hk => ?_⟩
   ·obtain ⟨k,hk,rfl⟩:=List.getElem_of_mem hc
    have:=h k (List.mem_range.2 hk)
    rw [(hat k hk).1,Bool.and_eq_true] at this
    exact this.1
   ·have:=h k (List.mem_range.2 hk)
    rw [(hat k hk).1,Bool.and_eq_true] at this
    rw [(hat k hk).2];exact this.2
  ·rintro ⟨h1,h2⟩ k hk
   have hk':=List.mem_range.1 hk
   have:=h2 k hk'
   rw [(hat k hk').2] at this
   rw [(hat k hk').1,Bool.and_eq_true]
   exact ⟨h1 _ (List.getElem_mem hk'),this⟩
 rw [hcells]
 constructor
 ·rintro ⟨-, h1,h2,h3,h4⟩
  rw [gensA_same h2]
  exact ⟨h3,⟨h1,h4⟩,h2⟩
 ·rintro ⟨h1,⟨h2,h3⟩,h4⟩
  rw [gensA_same h4] at h1 h3
  exact ⟨hb',h2,h4,h1,h3⟩
theorem stateFault_ok (p:GProg) (hp:okP p) (s:GState) (hs:okSt s) {K:D->List Blk->Prop} (h:K (dI (stateQ wordsT p s)) []):DPure Tryz.prog 12 [aD (eProg p),aD (eState s)] K:=by
 refine fn_ok [0,1,2,3,4,5,6,7,9,10,11,12,13,14,15,17,18,19,20,22,26,31,38,39,40,41,52,77,78,79,80,96,99,100,101,102,108,109,110,111,123,124,125,126,131,132,162,166,220,229,230,231,232,244] [(38,[0,1,3,7,3,19,51,127,255,511,1023,2047,4095,1023,9215,1023,33791,1023,132095,394239,918527,2065407,4187135,8381439,16770047,33547263,67108863,134217727,268435455],(.seg 0 (.seg 1 (.seg 2 (.seg 3 (.seg 4 (.seg 5 (.seg 6 (.seg 7 (.seg 8 (.seg 9 (.seg 10 (.seg 11 (.seg 12 (.seg 13 (.seg 14 (.seg 15 (.seg 16 (.seg 17 (.seg 18 (.seg 19 (.seg 20 (.seg 21 (.seg 22 (.seg 23 (.seg 24 (.seg 25 (.seg 26 (.seg 27 (.seg 28 .last)))))))))))))))))))))))))))))),(42,[0,1,3,3,3,31,63,127,255,511,1023,2047,4095,8191,16383,32767,65535,131071,262143,524287,262143,1310719,4194303,8388607,16777215,33554431,67108863,134217727,268435455,536870911,1073741823,2147483647,4294967295,2147483647,10737418239,34359738367,68719476735,137438953471,2147483647,277025390591,826781204479,2199023255551,4398046511103,8796093022207,17592186044415,35184372088831,70368744177663,140737488355327],(.seg 0 (.seg 1 (.seg 2 (.seg 3 (.seg 4 (.eff 5 [] (.seg 6 (.seg 7 (.seg 8 (.seg 9 (.seg 10 (.seg 11 (.seg 12 (.seg 13 (.seg 14 (.seg 15 (.seg 16 (.seg 17 (.seg 18 (.seg 19 (.seg 20 (.seg 21 (.seg 22 (.seg 23 (.seg 24 (.seg 25 (.seg 26 (.seg 27 (.seg 28 (.seg 29 (.seg 30 (.seg 31 (.seg 32 (.seg 33 (.seg 34 (.seg 35 (.seg 36 (.seg 37 (.seg 38 (.seg 39 (.seg 40 (.seg 41 (.seg 42 (.seg 43 (.seg 44 (.seg 45 (.seg 46 (.seg 47 .last)))))))))))))))))))))))))))))))))))))))))))))))))] Tryz.func12 rfl (by kernel_rfl) rfl rfl rfl rfl (by kernel_rfl) ?_
 simp
 refine progFault_ok p hp ?_
 by_cases c1:checkQ wordsT p=0
 case neg =>
  have:stateQ wordsT p s=checkQ wordsT p:=by unfold stateQ;rw [if_pos c1]
  rw [this] at h
  simp [c1]
  exact h
 simp [c1]
 refine heapFault_ok s hs ?_
 by_cases c2:cellsQ wordsT s=0
 case neg =>
  have:stateQ wordsT p s=cellsQ wordsT s:=by unfold stateQ;rw [if_neg (by rw [c1];simp),if_pos c2]
  rw [this] at h
  simp [c2]
  exact h
 have h3:stateQ wordsT p s=if stateLarge s=true then 2 else if stateB p s=true then 0 else 3:=by unfold stateQ;rw [if_neg (by rw [c1];simp),if_neg (by rw [c2];simp)]
 rw [h3] at h
 clear h3
 obtain ⟨l1,l2⟩:=heap_large c2
 simp [c2]
 intro _
 refine loopH_ok (ks := [0,1,2,3,4,5,6,7,9,10,11,12,13,14,15,17,18,19,20,22,26,31,38,39,40,41,52,77,78,79,80,96,99,100,101,102,108,109,110,111,123,124,125,126,131,132,162,166,220,229,230,231,232,244]) (pl := [(38,[0,1,3,7,3,19,51,127,255,511,1023,2047,4095,1023,9215,1023,33791,1023,132095,394239,918527,2065407,4187135,8381439,16770047,33547263,67108863,134217727,268435455],(.seg 0 (.seg 1 (.seg 2 (.seg 3 (.seg 4 (.seg 5 (.seg 6 (.seg 7 (.seg 8 (.seg 9 (.seg 10 (.seg 11 (.seg 12 (.seg 13 (.seg 14 (.seg 15 (.seg 16 (.seg 17 (.seg 18 (.seg 19 (.seg 20 (.seg 21 (.seg 22 (.seg 23 (.seg 24 (.seg 25 (.seg 26 (.seg 27 (.seg 28 .last)))))))))))))))))))))))))))))),(42,[0,1,3,3,3,31,63,127,255,511,1023,2047,4095,8191,16383,32767,65535,131071,262143,524287,262143,1310719,4194303,8388607,16777215,33554431,67108863,134217727,268435455,536870911,1073741823,2147483647,4294967295,2147483647,10737418239,34359738367,68719476735,137438953471,2147483647,277025390591,826781204479,2199023255551,4398046511103,8796093022207,17592186044415,35184372088831,70368744177663,140737488355327],(.seg 0 (.seg 1 (.seg 2 (.seg 3 (.seg 4 (.eff 5 [] (.seg 6 (.seg 7 (.seg 8 (.seg 9 (.seg 10 (.seg 11 (.seg 12 (.seg 13 (.seg 14 (.seg 15 (.seg 16 (.seg 17 (.seg 18 (.seg 19 (.seg 20 (.seg 21 (.seg 22 (.seg 23 (.seg 24 (.seg 25 (.seg 26 (.seg 27 (.seg 28 (.seg 29 (.seg 30 (.seg 31 (.seg 32 (.seg 33 (.seg 34 (.seg 35 (.seg 36 (.seg 37 (.seg 38 (.seg 39 (.seg 40 (.seg 41 (.seg 42 (.seg 43 (.seg 44 (.seg 45 (.seg 46 (.seg 47 .last)))))))))))))))))))))))))))))))))))))))))))))))))]) (n0:=245) (α := {x:KR2//x.k≤s.threads.length∧2≤x.nx}) (fun x=>[(7,dB (accAny (decide ((5:Int)<s.threads.length)) s.threads (fun t=>decide ((30:Int)<t.frames.length)) x.1.k)),(40,dI x.1.k)]) (fun H _=>H) (fun x=>x.1.nx) (fun x=>s.threads.length-x.1.k) ⟨⟨0,2⟩,by simp⟩ rfl (by kernel_rfl) (Wk.of_eq (by simp [accAny_zero])) ?_
 rintro ⟨⟨k,nx⟩,hk,hn⟩
 simp only at hk hn
 dsimp only
 have f0 : ¬ 0=nx:=by omega
 have f1 : ¬ 1=nx:=by omega
 by_cases h1:k<s.threads.length
 ·have hs:=accAny_next (b:=decide ((5:Int)<s.threads.length)) (p:=fun t:GThread=>decide ((30:Int)<t.frames.length)) h1
  cases hb:accAny (decide ((5:Int)<s.threads.length)) s.threads (fun t=>decide ((30:Int)<t.frames.length)) k with
  | true =>
   rw [hb,Bool.true_or] at hs
   simp [h1,f0,f1]
   refine ⟨⟨k+1,nx+1⟩,by simp;omega,⟨by simp;omega,by simp;omega⟩,(Wk.sub (by simp only [hs];simp [wrap_add (show k<9223372036854775807 by omega)])).trans (Wk.heap fun i y hy => ?_)⟩
   unfold Hp.set Hp.none at hy ⊢
   grind
  | false =>
   rw [hb,Bool.false_or] at hs
   simp [h1,f0,f1]
   intro _
   refine ⟨⟨k+1,nx+1⟩,by simp;omega,⟨by simp;omega,by simp;omega⟩,(Wk.sub (by simp only [hs];simp [wrap_add (show k<9223372036854775807 by omega)])).trans (Wk.heap fun i y hy => ?_)⟩
   unfold Hp.set Hp.none at hy ⊢
   grind
 obtain rfl:k=s.threads.length:=by omega
 have hlg:=accAny_all (b:=decide ((5:Int)<s.threads.length)) (L:=s.threads) (p:=fun t=>decide ((30:Int)<t.frames.length))
 generalize accAny (decide ((5:Int)<s.threads.length)) s.threads (fun t=>decide ((30:Int)<t.frames.length)) s.threads.length=b1 at *
 have hlarge:stateLarge s=b1:=by
  rw [hlg]
  unfold stateLarge
  have e1:(fun t:GThread=>decide (30<t.frames.length))=fun t=>decide ((30:Int)<t.frames.length):=by funext t;rw [Bool.eq_iff_iff];simp;omega
  have e2:decide (5<s.threads.length)=decide ((5:Int)<s.threads.length):=by rw [Bool.eq_iff_iff];simp;omega
  rw [e1,e2]
 cases b1 with
 | true =>
  rw [if_pos hlarge] at h
  simp
  exact h
 | false =>
 rw [if_neg (by rw [hlarge];simp)] at h
 have h530:s.threads.length≤5 ∧ ∀ t∈s.threads,t.frames.length≤30:=by
  simp only [stateLarge,Bool.or_eq_false_iff,decide_eq_false_iff_not,List.any_eq_false,decide_eq_true_eq] at hlarge
  exact ⟨by omega,fun t ht=>by have:=hlarge.2 t ht;omega⟩
 have three : ¬ stateB p s=true->K (dI 3) []:=fun e=>by rw [if_neg e] at h;exact h
 have zero:stateB p s=true->K (dI 0) []:=fun e=>by rw [if_pos e] at h;exact h
 clear h hlg
 have hbeg:stateB p s=true->s.texts.take p.texts.length=p.texts∧btw s.steps 0 1000000000=true∧btw s.asked 0 1000000000=true∧s.threads ≠ []:=fun e=>(state_iff.1 e).1
 simp [f0,f1]
 intro _
 refine alt (fun d1 => ?_) (fun d1 => ?_)
 rotate_left
 ·intro _
  refine loopH_ok (ks := [0,1,2,3,4,5,6,7,9,10,11,12,13,14,15,17,18,19,20,22,26,31,38,39,40,41,52,77,78,79,80,96,99,100,101,102,108,109,110,111,123,124,125,126,131,132,162,166,220,229,230,231,232,244]) (pl := [(38,[0,1,3,7,3,19,51,127,255,511,1023,2047,4095,1023,9215,1023,33791,1023,132095,394239,918527,2065407,4187135,8381439,16770047,33547263,67108863,134217727,268435455],(.seg 0 (.seg 1 (.seg 2 (.seg 3 (.seg 4 (.seg 5 (.seg 6 (.seg 7 (.seg 8 (.seg 9 (.seg 10 (.seg 11 (.seg 12 (.seg 13 (.seg 14 (.seg 15 (.seg 16 (.seg 17 (.seg 18 (.seg 19 (.seg 20 (.seg 21 (.seg 22 (.seg 23 (.seg 24 (.seg 25 (.seg 26 (.seg 27 (.seg 28 .last)))))))))))))))))))))))))))))),(42,[0,1,3,3,3,31,63,127,255,511,1023,2047,4095,8191,16383,32767,65535,131071,262143,524287,262143,1310719,4194303,8388607,16777215,33554431,67108863,134217727,268435455,536870911,1073741823,2147483647,4294967295,2147483647,10737418239,34359738367,68719476735,137438953471,2147483647,277025390591,826781204479,2199023255551,4398046511103,8796093022207,17592186044415,35184372088831,70368744177663,140737488355327],(.seg 0 (.seg 1 (.seg 2 (.seg 3 (.seg 4 (.eff 5 [] (.seg 6 (.seg 7 (.seg 8 (.seg 9 (.seg 10 (.seg 11 (.seg 12 (.seg 13 (.seg 14 (.seg 15 (.seg 16 (.seg 17 (.seg 18 (.seg 19 (.seg 20 (.seg 21 (.seg 22 (.seg 23 (.seg 24 (.seg 25 (.seg 26 (.seg 27 (.seg 28 (.seg 29 (.seg 30 (.seg 31 (.seg 32 (.seg 33 (.seg 34 (.seg 35 (.seg 36 (.seg 37 (.seg 38 (.seg 39 (.seg 40 (.seg 41 (.seg 42 (.seg 43 (.seg 44 (.seg 45 (.seg 46 (.seg 47 .last)))))))))))))))))))))))))))))))))))))))))))))))))]) (n0:=245) (α := {k:Nat//k≤p.texts.length}) (fun x=>[(10,dB false),(79,dI x.1)]) (fun H _=>H) (fun _=>nx) (fun x=>p.texts.length-x.1) ⟨0,by simp⟩ rfl (by kernel_rfl) (Wk.sub (by simp)) ?_
  rintro ⟨k,hk⟩
  by_cases h1:k<p.texts.length
  ·simp [h1]
   exact ⟨k+1,by omega,by omega,Wk.sub (by simp [wrap_add (show k<9223372036854775807 by omega)])⟩
  obtain rfl:k=p.texts.length:=by omega
  simp
  exact three fun e=>(hbeg e).2.2.2 (List.length_eq_zero_iff.1 (by omega))
 intro _ _
 refine alt (fun d2 => ?_) (fun d2 => ?_)
 rotate_left
 ·intro _
  refine loopH_ok (ks := [0,1,2,3,4,5,6,7,9,10,11,12,13,14,15,17,18,19,20,22,26,31,38,39,40,41,52,77,78,79,80,96,99,100,101,102,108,109,110,111,123,124,125,126,131,132,162,166,220,229,230,231,232,244]) (pl := [(38,[0,1,3,7,3,19,51,127,255,511,1023,2047,4095,1023,9215,1023,33791,1023,132095,394239,918527,2065407,4187135,8381439,16770047,33547263,67108863,134217727,268435455],(.seg 0 (.seg 1 (.seg 2 (.seg 3 (.seg 4 (.seg 5 (.seg 6 (.seg 7 (.seg 8 (.seg 9 (.seg 10 (.seg 11 (.seg 12 (.seg 13 (.seg 14 (.seg 15 (.seg 16 (.seg 17 (.seg 18 (.seg 19 (.seg 20 (.seg 21 (.seg 22 (.seg 23 (.seg 24 (.seg 25 (.seg 26 (.seg 27 (.seg 28 .last)))))))))))))))))))))))))))))),(42,[0,1,3,3,3,31,63,127,255,511,1023,2047,4095,8191,16383,32767,65535,131071,262143,524287,262143,1310719,4194303,8388607,16777215,33554431,67108863,134217727,268435455,536870911,1073741823,2147483647,4294967295,2147483647,10737418239,34359738367,68719476735,137438953471,2147483647,277025390591,826781204479,2199023255551,4398046511103,8796093022207,17592186044415,35184372088831,70368744177663,140737488355327],(.seg 0 (.seg 1 (.seg 2 (.seg 3 (.seg 4 (.eff 5 [] (.seg 6 (.seg 7 (.seg 8 (.seg 9 (.seg 10 (.seg 11 (.seg 12 (.seg 13 (.seg 14 (.seg 15 (.seg 16 (.seg 17 (.seg 18 (.seg 19 (.seg 20 (.seg 21 (.seg 22 (.seg 23 (.seg 24 (.seg 25 (.seg 26 (.seg 27 (.seg 28 (.seg 29 (.seg 30 (.seg 31 (.seg 32 (.seg 33 (.seg 34 (.seg 35 (.seg 36 (.seg 37 (.seg 38 (.seg 39 (.seg 40 (.seg 41 (.seg 42 (.seg 43 (.seg 44 (.seg 45 (.seg 46 (.seg 47 .last)))))))))))))))))))))))))))))))))))))))))))))))))]) (n0:=245) (α := {k:Nat//k≤p.texts.length}) (fun x=>[(10,dB false),(79,dI x.1)]) (fun H _=>H) (fun _=>nx) (fun x=>p.texts.length-x.1) ⟨0,by simp⟩ rfl (by kernel_rfl) (Wk.sub (by simp)) ?_
  rintro ⟨k,hk⟩
  by_cases h1:k<p.texts.length
  ·simp [h1]
   exact ⟨k+1,by omega,by omega,Wk.sub (by simp [wrap_add (show k<9223372036854775807 by omega)])⟩
  obtain rfl:k=p.texts.length:=by omega
  simp
  exact three fun e=>d2 (by have:=congrArg List.length (hbeg e).1;rw [List.length_take] at this;omega)
 refine between_ok _ _ _ ?_
 cases d3:btw s.steps 0 1000000000 with
 | false =>
  simp [f0,f1]
  intro _
  refine loopH_ok (ks := [0,1,2,3,4,5,6,7,9,10,11,12,13,14,15,17,18,19,20,22,26,31,38,39,40,41,52,77,78,79,80,96,99,100,101,102,108,109,110,111,123,124,125,126,131,132,162,166,220,229,230,231,232,244]) (pl := [(38,[0,1,3,7,3,19,51,127,255,511,1023,2047,4095,1023,9215,1023,33791,1023,132095,394239,918527,2065407,4187135,8381439,16770047,33547263,67108863,134217727,268435455],(.seg 0 (.seg 1 (.seg 2 (.seg 3 (.seg 4 (.seg 5 (.seg 6 (.seg 7 (.seg 8 (.seg 9 (.seg 10 (.seg 11 (.seg 12 (.seg 13 (.seg 14 (.seg 15 (.seg 16 (.seg 17 (.seg 18 (.seg 19 (.seg 20 (.seg 21 (.seg 22 (.seg 23 (.seg 24 (.seg 25 (.seg 26 (.seg 27 (.seg 28 .last)))))))))))))))))))))))))))))),(42,[0,1,3,3,3,31,63,127,255,511,1023,2047,4095,8191,16383,32767,65535,131071,262143,524287,262143,1310719,4194303,8388607,16777215,33554431,67108863,134217727,268435455,536870911,1073741823,2147483647,4294967295,2147483647,10737418239,34359738367,68719476735,137438953471,2147483647,277025390591,826781204479,2199023255551,4398046511103,8796093022207,17592186044415,35184372088831,70368744177663,140737488355327],(.seg 0 (.seg 1 (.seg 2 (.seg 3 (.seg 4 (.eff 5 [] (.seg 6 (.seg 7 (.seg 8 (.seg 9 (.seg 10 (.seg 11 (.seg 12 (.seg 13 (.seg 14 (.seg 15 (.seg 16 (.seg 17 (.seg 18 (.seg 19 (.seg 20 (.seg 21 (.seg 22 (.seg 23 (.seg 24 (.seg 25 (.seg 26 (.seg 27 (.seg 28 (.seg 29 (.seg 30 (.seg 31 (.seg 32 (.seg 33 (.seg 34 (.seg 35 (.seg 36 (.seg 37 (.seg 38 (.seg 39 (.seg 40 (.seg 41 (.seg 42 (.seg 43 (.seg 44 (.seg 45 (.seg 46 (.seg 47 .last)))))))))))))))))))))))))))))))))))))))))))))))))]) (n0:=245) (α := {k:Nat//k≤p.texts.length}) (fun x=>[(10,dB false),(79,dI x.1)]) (fun H _=>H) (fun _=>nx) (fun x=>p.texts.length-x.1) ⟨0,by simp⟩ rfl (by kernel_rfl) (Wk.sub (by simp)) ?_
  rintro ⟨k,hk⟩
  by_cases h1:k<p.texts.length
  ·simp [h1]
   exact ⟨k+1,by omega,by omega,Wk.sub (by simp [wrap_add (show k<9223372036854775807 by omega)])⟩
  obtain rfl:k=p.texts.length:=by omega
  simp
  exact three fun e=>by rw [(hbeg e).2.1] at d3;cases d3
 | true =>
 simp [f0,f1]
 refine between_ok _ _ _ ?_
 cases d4:btw s.asked 0 1000000000 with
 | false =>
  simp [f0,f1]
  intro _
  refine loopH_ok (ks := [0,1,2,3,4,5,6,7,9,10,11,12,13,14,15,17,18,19,20,22,26,31,38,39,40,41,52,77,78,79,80,96,99,100,101,102,108,109,110,111,123,124,125,126,131,132,162,166,220,229,230,231,232,244]) (pl := [(38,[0,1,3,7,3,19,51,127,255,511,1023,2047,4095,1023,9215,1023,33791,1023,132095,394239,918527,2065407,4187135,8381439,16770047,33547263,67108863,134217727,268435455],(.seg 0 (.seg 1 (.seg 2 (.seg 3 (.seg 4 (.seg 5 (.seg 6 (.seg 7 (.seg 8 (.seg 9 (.seg 10 (.seg 11 (.seg 12 (.seg 13 (.seg 14 (.seg 15 (.seg 16 (.seg 17 (.seg 18 (.seg 19 (.seg 20 (.seg 21 (.seg 22 (.seg 23 (.seg 24 (.seg 25 (.seg 26 (.seg 27 (.seg 28 .last)))))))))))))))))))))))))))))),(42,[0,1,3,3,3,31,63,127,255,511,1023,2047,4095,8191,16383,32767,65535,131071,262143,524287,262143,1310719,4194303,8388607,16777215,33554431,67108863,134217727,268435455,536870911,1073741823,2147483647,4294967295,2147483647,10737418239,34359738367,68719476735,137438953471,2147483647,277025390591,826781204479,2199023255551,4398046511103,8796093022207,17592186044415,35184372088831,70368744177663,140737488355327],(.seg 0 (.seg 1 (.seg 2 (.seg 3 (.seg 4 (.eff 5 [] (.seg 6 (.seg 7 (.seg 8 (.seg 9 (.seg 10 (.seg 11 (.seg 12 (.seg 13 (.seg 14 (.seg 15 (.seg 16 (.seg 17 (.seg 18 (.seg 19 (.seg 20 (.seg 21 (.seg 22 (.seg 23 (.seg 24 (.seg 25 (.seg 26 (.seg 27 (.seg 28 (.seg 29 (.seg 30 (.seg 31 (.seg 32 (.seg 33 (.seg 34 (.seg 35 (.seg 36 (.seg 37 (.seg 38 (.seg 39 (.seg 40 (.seg 41 (.seg 42 (.seg 43 (.seg 44 (.seg 45 (.seg 46 (.seg 47 .last)))))))))))))))))))))))))))))))))))))))))))))))))]) (n0:=245) (α := {k:Nat//k≤p.texts.length}) (fun x=>[(10,dB false),(79,dI x.1)]) (fun H _=>H) (fun _=>nx) (fun x=>p.texts.length-x.1) ⟨0,by simp⟩ rfl (by kernel_rfl) (Wk.sub (by simp)) ?_
  rintro ⟨k,hk⟩
  by_cases h1:k<p.texts.length
  ·simp [h1]
   exact ⟨k+1,by omega,by omega,Wk.sub (by simp [wrap_add (show k<9223372036854775807 by omega)])⟩
  obtain rfl:k=p.texts.length:=by omega
  simp
  exact three fun e=>by rw [(hbeg e).2.2.1] at d4;cases d4
 | true =>
 simp [f0,f1]
 intro _
 refine loopH_ok (ks := [0,1,2,3,4,5,6,7,9,10,11,12,13,14,15,17,18,19,20,22,26,31,38,39,40,41,52,77,78,79,80,96,99,100,101,102,108,109,110,111,123,124,125,126,131,132,162,166,220,229,230,231,232,244]) (pl := [(38,[0,1,3,7,3,19,51,127,255,511,1023,2047,4095,1023,9215,1023,33791,1023,132095,394239,918527,2065407,4187135,8381439,16770047,33547263,67108863,134217727,268435455],(.seg 0 (.seg 1 (.seg 2 (.seg 3 (.seg 4 (.seg 5 (.seg 6 (.seg 7 (.seg 8 (.seg 9 (.seg 10 (.seg 11 (.seg 12 (.seg 13 (.seg 14 (.seg 15 (.seg 16 (.seg 17 (.seg 18 (.seg 19 (.seg 20 (.seg 21 (.seg 22 (.seg 23 (.seg 24 (.seg 25 (.seg 26 (.seg 27 (.seg 28 .last)))))))))))))))))))))))))))))),(42,[0,1,3,3,3,31,63,127,255,511,1023,2047,4095,8191,16383,32767,65535,131071,262143,524287,262143,1310719,4194303,8388607,16777215,33554431,67108863,134217727,268435455,536870911,1073741823,2147483647,4294967295,2147483647,10737418239,34359738367,68719476735,137438953471,2147483647,277025390591,826781204479,2199023255551,4398046511103,8796093022207,17592186044415,35184372088831,70368744177663,140737488355327],(.seg 0 (.seg 1 (.seg 2 (.seg 3 (.seg 4 (.eff 5 [] (.seg 6 (.seg 7 (.seg 8 (.seg 9 (.seg 10 (.seg 11 (.seg 12 (.seg 13 (.seg 14 (.seg 15 (.seg 16 (.seg 17 (.seg 18 (.seg 19 (.seg 20 (.seg 21 (.seg 22 (.seg 23 (.seg 24 (.seg 25 (.seg 26 (.seg 27 (.seg 28 (.seg 29 (.seg 30 (.seg 31 (.seg 32 (.seg 33 (.seg 34 (.seg 35 (.seg 36 (.seg 37 (.seg 38 (.seg 39 (.seg 40 (.seg 41 (.seg 42 (.seg 43 (.seg 44 (.seg 45 (.seg 46 (.seg 47 .last)))))))))))))))))))))))))))))))))))))))))))))))))]) (n0:=245) (α := {k:Nat//k≤p.texts.length}) (fun x=>[(10,dB (accP true s.texts p.texts x.1)),(79,dI x.1)]) (fun H _=>H) (fun _=>nx) (fun x=>p.texts.length-x.1) ⟨0,by simp⟩ rfl (by kernel_rfl) (Wk.sub (by simp [accP_zero])) ?_
 rintro ⟨k,hk⟩
 by_cases h1:k<p.texts.length
 ·have h4:k<s.texts.length:=by omega
  have hs:=accP_next (b:=true) h4 h1
  cases hb:accP true s.texts p.texts k with
  | false =>
   rw [hb,Bool.false_and] at hs
   simp [h1]
   exact ⟨k+1,by omega,by omega,Wk.sub (by simp only [hs];simp [wrap_add (show k<9223372036854775807 by omega)])⟩
  | true =>
   rw [hb,Bool.true_and] at hs
   simp [h1,h4,f0,f1]
   exact ⟨k+1,by omega,by omega,Wk.sub (by simp only [hs];simp [wrap_add (show k<9223372036854775807 by omega)])⟩
 obtain rfl:k=p.texts.length:=by omega
 have hbt:accP true s.texts p.texts p.texts.length=decide (s.texts.take p.texts.length=p.texts):=by simp [accP]
 generalize accP true s.texts p.texts p.texts.length=b2 at *
 cases b2 with
 | false =>
  simp
  exact three fun e=>by rw [(hbeg e).1] at hbt;simp at hbt
 | true =>
 have hbg:beginsB p s=true:=by
  simp only [beginsB,Bool.and_eq_true,decide_eq_true_eq,Bool.not_eq_true',decide_eq_false_iff_not]
  exact ⟨⟨⟨by simpa using hbt.symm,d3⟩,d4⟩,fun e=>by rw [e] at d1;simp at d1⟩
 rw [state_all hbg] at three zero
 simp [f0,f1]
 refine gensOf_ok s h530.1 h530.2 ?_
 have hgl:=gensA_len h530.2
 have hgl2:(gensA s.threads).length≤150:=by omega
 generalize hG:gensA s.threads=gl at *
 simp
 intro _
 refine loopH_ok (ks := [0,1,2,3,4,5,6,7,9,10,11,12,13,14,15,17,18,19,20,22,26,31,38,39,40,41,52,77,78,79,80,96,99,100,101,102,108,109,110,111,123,124,125,126,131,132,162,166,220,229,230,231,232,244]) (pl := [(38,[0,1,3,7,3,19,51,127,255,511,1023,2047,4095,1023,9215,1023,33791,1023,132095,394239,918527,2065407,4187135,8381439,16770047,33547263,67108863,134217727,268435455],(.seg 0 (.seg 1 (.seg 2 (.seg 3 (.seg 4 (.seg 5 (.seg 6 (.seg 7 (.seg 8 (.seg 9 (.seg 10 (.seg 11 (.seg 12 (.seg 13 (.seg 14 (.seg 15 (.seg 16 (.seg 17 (.seg 18 (.seg 19 (.seg 20 (.seg 21 (.seg 22 (.seg 23 (.seg 24 (.seg 25 (.seg 26 (.seg 27 (.seg 28 .last)))))))))))))))))))))))))))))),(42,[0,1,3,3,3,31,63,127,255,511,1023,2047,4095,8191,16383,32767,65535,131071,262143,524287,262143,1310719,4194303,8388607,16777215,33554431,67108863,134217727,268435455,536870911,1073741823,2147483647,4294967295,2147483647,10737418239,34359738367,68719476735,137438953471,2147483647,277025390591,826781204479,2199023255551,4398046511103,8796093022207,17592186044415,35184372088831,70368744177663,140737488355327],(.seg 0 (.seg 1 (.seg 2 (.seg 3 (.seg 4 (.eff 5 [] (.seg 6 (.seg 7 (.seg 8 (.seg 9 (.seg 10 (.seg 11 (.seg 12 (.seg 13 (.seg 14 (.seg 15 (.seg 16 (.seg 17 (.seg 18 (.seg 19 (.seg 20 (.seg 21 (.seg 22 (.seg 23 (.seg 24 (.seg 25 (.seg 26 (.seg 27 (.seg 28 (.seg 29 (.seg 30 (.seg 31 (.seg 32 (.seg 33 (.seg 34 (.seg 35 (.seg 36 (.seg 37 (.seg 38 (.seg 39 (.seg 40 (.seg 41 (.seg 42 (.seg 43 (.seg 44 (.seg 45 (.seg 46 (.seg 47 .last)))))))))))))))))))))))))))))))))))))))))))))))))]) (n0:=245) (α := {k:Nat//k≤gl.length}) (fun x=>[(10,dB (accW true gl x.1)),(101,dI x.1)]) (fun H _=>H) (fun _=>nx+1) (fun x=>gl.length-x.1) ⟨0,by simp⟩ rfl (by kernel_rfl) (Wk.sub (by simp [accW])) ?_
 rintro ⟨k,hk⟩
 by_cases h1:k<gl.length
 ·have hmin:min k gl.length=k:=Nat.min_eq_left (by omega)
  simp [h1,f0,f1]
  refine ⟨by omega,fun _ => ?_⟩
  refine loopH_ok (ks := [0,1,2,3,4,5,6,7,9,10,11,12,13,14,15,17,18,19,20,22,26,31,38,39,40,41,52,77,78,79,80,96,99,100,101,102,108,109,110,111,123,124,125,126,131,132,162,166,220,229,230,231,232,244]) (pl := [(38,[0,1,3,7,3,19,51,127,255,511,1023,2047,4095,1023,9215,1023,33791,1023,132095,394239,918527,2065407,4187135,8381439,16770047,33547263,67108863,134217727,268435455],(.seg 0 (.seg 1 (.seg 2 (.seg 3 (.seg 4 (.seg 5 (.seg 6 (.seg 7 (.seg 8 (.seg 9 (.seg 10 (.seg 11 (.seg 12 (.seg 13 (.seg 14 (.seg 15 (.seg 16 (.seg 17 (.seg 18 (.seg 19 (.seg 20 (.seg 21 (.seg 22 (.seg 23 (.seg 24 (.seg 25 (.seg 26 (.seg 27 (.seg 28 .last)))))))))))))))))))))))))))))),(42,[0,1,3,3,3,31,63,127,255,511,1023,2047,4095,8191,16383,32767,65535,131071,262143,524287,262143,1310719,4194303,8388607,16777215,33554431,67108863,134217727,268435455,536870911,1073741823,2147483647,4294967295,2147483647,10737418239,34359738367,68719476735,137438953471,2147483647,277025390591,826781204479,2199023255551,4398046511103,8796093022207,17592186044415,35184372088831,70368744177663,140737488355327],(.seg 0 (.seg 1 (.seg 2 (.seg 3 (.seg 4 (.eff 5 [] (.seg 6 (.seg 7 (.seg 8 (.seg 9 (.seg 10 (.seg 11 (.seg 12 (.seg 13 (.seg 14 (.seg 15 (.seg 16 (.seg 17 (.seg 18 (.seg 19 (.seg 20 (.seg 21 (.seg 22 (.seg 23 (.seg 24 (.seg 25 (.seg 26 (.seg 27 (.seg 28 (.seg 29 (.seg 30 (.seg 31 (.seg 32 (.seg 33 (.seg 34 (.seg 35 (.seg 36 (.seg 37 (.seg 38 (.seg 39 (.seg 40 (.seg 41 (.seg 42 (.seg 43 (.seg 44 (.seg 45 (.seg 46 (.seg 47 .last)))))))))))))))))))))))))))))))))))))))))))))))))]) (n0:=245) (α := {i:Nat//i≤k}) (fun x=>[(10,dB (accV (accW true gl k) gl k x.1)),(110,dI x.1)]) (fun H _=>H) (fun _=>nx+1) (fun x=>k-x.1) ⟨0,by simp⟩ rfl (by kernel_rfl) (Wk.sub (by simp [accV_zero])) ?_
  rintro ⟨i,hi⟩
  by_cases h2:i<k
  ·have hi2:i<gl.length:=by omega
   have hs:=accV_next (b:=accW true gl k) (l:=gl) (k:=k) (i:=i)
   cases hb:accV (accW true gl k) gl k i with
   | false =>
    rw [hb,Bool.false_and] at hs
    simp [h1,h2,hi2,hmin,f0,f1]
    exact ⟨i+1,by omega,by omega,Wk.sub (by simp only [hs];simp [wrap_add (show i<9223372036854775807 by omega)])⟩
   | true =>
    rw [hb,Bool.true_and,gI_at hi2,gI_at h1] at hs
    simp [h1,h2,hi2,hmin,f0,f1]
    exact ⟨i+1,by omega,by omega,Wk.sub (by simp only [hs];simp [wrap_add (show i<9223372036854775807 by omega)])⟩
  obtain rfl:i=k:=by omega
  have hU:accW true gl (i+1)=accV (accW true gl i) gl i i:=rfl
  simp [hmin]
  exact ⟨i+1,by omega,by omega,Wk.sub (by simp only [hU];simp [wrap_add (show i<9223372036854775807 by omega)])⟩
 obtain rfl:k=gl.length:=by omega
 have hnd:=accW_nodup (l:=gl)
 generalize accW true gl gl.length=b3 at *
 simp [f0,f1]
 intro _
 refine loopH_ok (ks := [0,1,2,3,4,5,6,7,9,10,11,12,13,14,15,17,18,19,20,22,26,31,38,39,40,41,52,77,78,79,80,96,99,100,101,102,108,109,110,111,123,124,125,126,131,132,162,166,220,229,230,231,232,244]) (pl := [(38,[0,1,3,7,3,19,51,127,255,511,1023,2047,4095,1023,9215,1023,33791,1023,132095,394239,918527,2065407,4187135,8381439,16770047,33547263,67108863,134217727,268435455],(.seg 0 (.seg 1 (.seg 2 (.seg 3 (.seg 4 (.seg 5 (.seg 6 (.seg 7 (.seg 8 (.seg 9 (.seg 10 (.seg 11 (.seg 12 (.seg 13 (.seg 14 (.seg 15 (.seg 16 (.seg 17 (.seg 18 (.seg 19 (.seg 20 (.seg 21 (.seg 22 (.seg 23 (.seg 24 (.seg 25 (.seg 26 (.seg 27 (.seg 28 .last)))))))))))))))))))))))))))))),(42,[0,1,3,3,3,31,63,127,255,511,1023,2047,4095,8191,16383,32767,65535,131071,262143,524287,262143,1310719,4194303,8388607,16777215,33554431,67108863,134217727,268435455,536870911,1073741823,2147483647,4294967295,2147483647,10737418239,34359738367,68719476735,137438953471,2147483647,277025390591,826781204479,2199023255551,4398046511103,8796093022207,17592186044415,35184372088831,70368744177663,140737488355327],(.seg 0 (.seg 1 (.seg 2 (.seg 3 (.seg 4 (.eff 5 [] (.seg 6 (.seg 7 (.seg 8 (.seg 9 (.seg 10 (.seg 11 (.seg 12 (.seg 13 (.seg 14 (.seg 15 (.seg 16 (.seg 17 (.seg 18 (.seg 19 (.seg 20 (.seg 21 (.seg 22 (.seg 23 (.seg 24 (.seg 25 (.seg 26 (.seg 27 (.seg 28 (.seg 29 (.seg 30 (.seg 31 (.seg 32 (.seg 33 (.seg 34 (.seg 35 (.seg 36 (.seg 37 (.seg 38 (.seg 39 (.seg 40 (.seg 41 (.seg 42 (.seg 43 (.seg 44 (.seg 45 (.seg 46 (.seg 47 .last)))))))))))))))))))))))))))))))))))))))))))))))))]) (n0:=245) (α := {x:KR2//x.k≤s.cells.length∧nx+1≤x.nx}) (fun x=>[(10,dB (accC2 p s b3 x.1.k)),(125,dI x.1.k)]) (fun H _=>H) (fun x=>x.1.nx) (fun x=>s.cells.length-x.1.k) ⟨⟨0,nx+1⟩,by simp⟩ rfl (by kernel_rfl) (Wk.sub (by simp [accC2_zero])) ?_
 rintro ⟨⟨k,m⟩,hk,hm⟩
 simp only at hk hm
 have e0 : ¬ 0=m:=by omega
 have e1 : ¬ 1=m:=by omega
 have e2 : ¬ nx=m:=by omega
 have e3 : ¬ 0=m+1:=by omega
 have e4 : ¬ 1=m+1:=by omega
 have e5 : ¬ nx=m+1:=by omega
 have e6 : ¬ m=0:=by omega
 by_cases h1:k<s.cells.length
 ·have hs:=accC2_next (p:=p) (s:=s) (b:=b3) h1
  have hcb:=List.all_eq_true.1 l2 _ (List.getElem_mem h1)
  simp only [cellB,Bool.and_eq_true,decide_eq_true_eq] at hcb
  have fin2 : ∀ b:Bool,b=(accC2 p s b3 k&&cellP p s k s.cells[k])->b=accC2 p s b3 (k+1):=fun b e=>by rw [e,hs]
  by_cases k4:s.cells[k].kind=4
  ·have hn0:0≤s.cells[k].num:=by
    have:=hcb.1.1.1
    simp [kindB,k4] at this
    exact this.1
   cases hb:accC2 p s b3 k with
   | false =>
    simp [h1,k4,f0,f1,e0,e1,e2]
    have hs2:=(fin2 (false) (by rw [hb];rfl)).symm
    refine ⟨⟨k+1,m+1⟩,by simp;omega,⟨by simp;omega,by simp;omega⟩,(Wk.sub (by simp only [hs2];simp [wrap_add (show k<9223372036854775807 by omega)])).trans (Wk.heap fun i y hy => ?_)⟩
    unfold Hp.set Hp.none at hy ⊢
    grind
   | true =>
    have hlp:=(large_lt (check_zero c1).1).1
    have hw:IntKind.i64.wrap ((p.fns.length:Int)-1)=(p.fns.length:Int)-1:=wrap_id (by omega) (by omega)
    by_cases n4:s.cells[k].num<p.fns.length
    ·have hmn : ¬ ((p.fns.length:Int)-1<s.cells[k].num):=by omega
     have hfe:=(List.getElem?_eq_some_iff.1 (fn_at hn0 n4)).2
     simp [h1,k4,f0,f1,e0,e1,e2,n4,hw,hmn,hn0,hfe]
     intro _ _ _ _
     have hs2:=(fin2 (decide ((s.cells[k].vals.length:Int)=(fnAt p s.cells[k].num).caught.length)) (by rw [hb,Bool.eq_iff_iff];simp [cellP,heapB,k4,n4] <;> omega)).symm
     refine ⟨⟨k+1,m+1⟩,by simp;omega,⟨by simp;omega,by simp;omega⟩,(Wk.sub (by simp only [hs2];simp [wrap_add (show k<9223372036854775807 by omega)])).trans (Wk.heap fun i y hy => ?_)⟩
     unfold Hp.set Hp.none at hy ⊢
     grind
    ·simp [h1,k4,f0,f1,e0,e1,e2,n4]
     intro _
     have hs2:=(fin2 (false) (by rw [hb];simp [cellP,heapB,k4,n4])).symm
     refine ⟨⟨k+1,m+1⟩,by simp;omega,⟨by simp;omega,by simp;omega⟩,(Wk.sub (by simp only [hs2];simp [wrap_add (show k<9223372036854775807 by omega)])).trans (Wk.heap fun i y hy => ?_)⟩
     unfold Hp.set Hp.none at hy ⊢
     grind
  by_cases k5:s.cells[k].kind=5
  ·by_cases z0:s.cells[k].num=0
   ·obtain ⟨fr,hfr⟩ : ∃ fr,s.cells[k].frames=[fr]:=List.length_eq_one_iff.1 (by have:=hcb.1.1.2;simpa [framesOf,k5,z0] using this)
    cases hb:accC2 p s b3 k with
    | false =>
     simp [h1,k4,k5,z0,hfr,f0,f1,e0,e1,e2,e3,e4,e5,e6]
     have hs2:=(fin2 (false) (by rw [hb];rfl)).symm
     refine ⟨⟨k+1,m+2⟩,by simp;omega,⟨by simp;omega,by simp;omega⟩,(Wk.sub (by simp only [hs2];simp [wrap_add (show k<9223372036854775807 by omega)])).trans (Wk.heap fun i y hy => ?_)⟩
     unfold Hp.set Hp.none at hy ⊢
     grind
    | true =>
     simp [h1,k4,k5,z0,hfr,f0,f1,e0,e1,e2,e3,e4,e5,e6]
     refine frameRight_ok p c1 s fr ?_
     cases hfb:frameB p s fr with
     | false =>
      simp
      have hs2:=(fin2 (false) (by rw [hb];simp [cellP,heapB,k5,z0,hfr,savedB,hfb])).symm
      refine ⟨⟨k+1,m+2⟩,by simp;omega,⟨by simp;omega,by simp;omega⟩,(Wk.sub (by simp only [hs2];simp [wrap_add (show k<9223372036854775807 by omega)])).trans (Wk.heap fun i y hy => ?_)⟩
      unfold Hp.set Hp.none at hy ⊢
      grind
     | true =>
      have hfb1:=(frame_iff.1 hfb)
      have hfe:=(List.getElem?_eq_some_iff.1 (fn_at hfb1.1.1 hfb1.1.2)).2
      by_cases a0:fr.at_=0
      ·simp (maxSteps:=3000000) [h1,k5,z0,hfr,f0,f1,e0,e1,e2,e3,e4,e5,e6,hfe,hfb1.1.1,hfb1.1.2,a0]
       refine alt (fun t1=>alt (fun t2=>alt (fun t3 => ?_) (fun t3 => ?_)) (fun t2 => ?_)) (fun t1 => ?_)
       ·have hs2:=(fin2 (true) (by rw [hb];simp [cellP,heapB,k5,z0,hfr,savedB,hfb,t1,t2,t3,a0])).symm
        refine ⟨⟨k+1,m+2⟩,by simp;omega,⟨by simp;omega,by simp;omega⟩,(Wk.sub (by simp only [hs2];simp [wrap_add (show k<9223372036854775807 by omega)])).trans (Wk.heap fun i y hy => ?_)⟩
        unfold Hp.set Hp.none at hy ⊢
        grind
       ·have hs2:=(fin2 (false) (by rw [hb];simp [cellP,heapB,k5,z0,hfr,savedB,hfb,t1,t2,t3])).symm
        refine ⟨⟨k+1,m+2⟩,by simp;omega,⟨by simp;omega,by simp;omega⟩,(Wk.sub (by simp only [hs2];simp [wrap_add (show k<9223372036854775807 by omega)])).trans (Wk.heap fun i y hy => ?_)⟩
        unfold Hp.set Hp.none at hy ⊢
        grind
       ·have hs2:=(fin2 (false) (by rw [hb];simp [cellP,heapB,k5,z0,hfr,savedB,hfb,t1,t2])).symm
        refine ⟨⟨k+1,m+2⟩,by simp;omega,⟨by simp;omega,by simp;omega⟩,(Wk.sub (by simp only [hs2];simp [wrap_add (show k<9223372036854775807 by omega)])).trans (Wk.heap fun i y hy => ?_)⟩
        unfold Hp.set Hp.none at hy ⊢
        grind
       ·have hs2:=(fin2 (false) (by rw [hb];simp [cellP,heapB,k5,z0,hfr,savedB,hfb,t1])).symm
        refine ⟨⟨k+1,m+2⟩,by simp;omega,⟨by simp;omega,by simp;omega⟩,(Wk.sub (by simp only [hs2];simp [wrap_add (show k<9223372036854775807 by omega)])).trans (Wk.heap fun i y hy => ?_)⟩
        unfold Hp.set Hp.none at hy ⊢
        grind
      ·obtain ⟨j,hj⟩ : ∃ j:Nat,fr.at_=(j:Int)+1:=⟨(fr.at_-1).toNat,by have:=hfb1.2.2.2.2.1.1;omega⟩
       have hjl:j<(fnAt p fr.fn).code.length:=by have:=hfb1.2.2.2.2.1.2;omega
       have hj600:=(fn_in c1 (fn_mem hfb1.1.1 hfb1.1.2)).2.2.2.1
       have hwj:IntKind.i64.wrap (j:Int)=j:=wrap_id (by omega) (by omega)
       have hj0 : ¬ (j:Int)+1=0:=by omega
       simp (maxSteps:=3000000) [h1,k5,z0,hfr,f0,f1,e0,e1,e2,e3,e4,e5,e6,hfe,hfb1.1.1,hfb1.1.2,hj,hjl,hwj,hj0]
       refine alt (fun t1=>alt (fun t2=>alt (fun t3 => ?_) (fun t3 => ?_)) (fun t2 => ?_)) (fun t1 => ?_)
       ·have hs2:=(fin2 (decide ((fnAt p fr.fn).code[j].op=32)) (by rw [hb];simp [cellP,heapB,k5,z0,hfr,savedB,hfb,t1,t2,t3,hj,hj0,hjl])).symm
        refine ⟨⟨k+1,m+2⟩,by simp;omega,⟨by simp;omega,by simp;omega⟩,(Wk.sub (by simp only [hs2];simp [wrap_add (show k<9223372036854775807 by omega)])).trans (Wk.heap fun i y hy => ?_)⟩
        unfold Hp.set Hp.none at hy ⊢
        grind
       ·have hs2:=(fin2 (false) (by rw [hb];simp [cellP,heapB,k5,z0,hfr,savedB,hfb,t1,t2,t3])).symm
        refine ⟨⟨k+1,m+2⟩,by simp;omega,⟨by simp;omega,by simp;omega⟩,(Wk.sub (by simp only [hs2];simp [wrap_add (show k<9223372036854775807 by omega)])).trans (Wk.heap fun i y hy => ?_)⟩
        unfold Hp.set Hp.none at hy ⊢
        grind
       ·have hs2:=(fin2 (false) (by rw [hb];simp [cellP,heapB,k5,z0,hfr,savedB,hfb,t1,t2])).symm
        refine ⟨⟨k+1,m+2⟩,by simp;omega,⟨by simp;omega,by simp;omega⟩,(Wk.sub (by simp only [hs2];simp [wrap_add (show k<9223372036854775807 by omega)])).trans (Wk.heap fun i y hy => ?_)⟩
        unfold Hp.set Hp.none at hy ⊢
        grind
       ·have hs2:=(fin2 (false) (by rw [hb];simp [cellP,heapB,k5,z0,hfr,savedB,hfb,t1])).symm
        refine ⟨⟨k+1,m+2⟩,by simp;omega,⟨by simp;omega,by simp;omega⟩,(Wk.sub (by simp only [hs2];simp [wrap_add (show k<9223372036854775807 by omega)])).trans (Wk.heap fun i y hy => ?_)⟩
        unfold Hp.set Hp.none at hy ⊢
        grind
   ·by_cases z1:s.cells[k].num=1
    ·cases hb:accC2 p s b3 k with
     | false =>
      simp [h1,k4,k5,z0,z1,f0,f1,e0,e1,e2]
      have hs2:=(fin2 (false) (by rw [hb];rfl)).symm
      refine ⟨⟨k+1,m+1⟩,by simp;omega,⟨by simp;omega,by simp;omega⟩,(Wk.sub (by simp only [hs2];simp [wrap_add (show k<9223372036854775807 by omega)])).trans (Wk.heap fun i y hy => ?_)⟩
      unfold Hp.set Hp.none at hy ⊢
      grind
     | true =>
      simp [h1,k4,k5,z0,z1,f0,f1,e0,e1,e2]
      refine hasInt_ok false gl k ?_
      simp
      have hs2:=(fin2 (decide ((k:Int)∈gl)) (by rw [hb];simp [cellP,heapB,k5,z0,z1,hG])).symm
      refine ⟨⟨k+1,m+1⟩,by simp;omega,⟨by simp;omega,by simp;omega⟩,(Wk.sub (by simp only [hs2];simp [wrap_add (show k<9223372036854775807 by omega)])).trans (Wk.heap fun i y hy => ?_)⟩
      unfold Hp.set Hp.none at hy ⊢
      grind
    ·simp [h1,k4,k5,z0,z1,f0,f1,e0,e1,e2]
     have hs2:=(fin2 (accC2 p s b3 k) (by simp [cellP,heapB,k4,k5,z0,z1])).symm
     refine ⟨⟨k+1,m+1⟩,by simp;omega,⟨by simp;omega,by simp;omega⟩,(Wk.sub (by simp only [hs2];simp [wrap_add (show k<9223372036854775807 by omega)])).trans (Wk.heap fun i y hy => ?_)⟩
     unfold Hp.set Hp.none at hy ⊢
     grind
  ·simp [h1,k4,k5,f0,f1,e0,e1,e2]
   have hs2:=(fin2 (accC2 p s b3 k) (by simp [cellP,heapB,k4,k5])).symm
   refine ⟨⟨k+1,m+1⟩,by simp;omega,⟨by simp;omega,by simp;omega⟩,(Wk.sub (by simp only [hs2];simp [wrap_add (show k<9223372036854775807 by omega)])).trans (Wk.heap fun i y hy => ?_)⟩
   unfold Hp.set Hp.none at hy ⊢
   grind
 obtain rfl:k=s.cells.length:=by omega
 have hc2:accC2 p s b3 s.cells.length=(b3&&accC2 p s true s.cells.length):=by simp [accC2]
 generalize accC2 p s b3 s.cells.length=b4 at *
 simp [f0,f1,e0,e1,e2]
 intro _
 refine loopH_ok (ks := [0,1,2,3,4,5,6,7,9,10,11,12,13,14,15,17,18,19,20,22,26,31,38,39,40,41,52,77,78,79,80,96,99,100,101,102,108,109,110,111,123,124,125,126,131,132,162,166,220,229,230,231,232,244]) (pl := [(38,[0,1,3,7,3,19,51,127,255,511,1023,2047,4095,1023,9215,1023,33791,1023,132095,394239,918527,2065407,4187135,8381439,16770047,33547263,67108863,134217727,268435455],(.seg 0 (.seg 1 (.seg 2 (.seg 3 (.seg 4 (.seg 5 (.seg 6 (.seg 7 (.seg 8 (.seg 9 (.seg 10 (.seg 11 (.seg 12 (.seg 13 (.seg 14 (.seg 15 (.seg 16 (.seg 17 (.seg 18 (.seg 19 (.seg 20 (.seg 21 (.seg 22 (.seg 23 (.seg 24 (.seg 25 (.seg 26 (.seg 27 (.seg 28 .last)))))))))))))))))))))))))))))),(42,[0,1,3,3,3,31,63,127,255,511,1023,2047,4095,8191,16383,32767,65535,131071,262143,524287,262143,1310719,4194303,8388607,16777215,33554431,67108863,134217727,268435455,536870911,1073741823,2147483647,4294967295,2147483647,10737418239,34359738367,68719476735,137438953471,2147483647,277025390591,826781204479,2199023255551,4398046511103,8796093022207,17592186044415,35184372088831,70368744177663,140737488355327],(.seg 0 (.seg 1 (.seg 2 (.seg 3 (.seg 4 (.eff 5 [] (.seg 6 (.seg 7 (.seg 8 (.seg 9 (.seg 10 (.seg 11 (.seg 12 (.seg 13 (.seg 14 (.seg 15 (.seg 16 (.seg 17 (.seg 18 (.seg 19 (.seg 20 (.seg 21 (.seg 22 (.seg 23 (.seg 24 (.seg 25 (.seg 26 (.seg 27 (.seg 28 (.seg 29 (.seg 30 (.seg 31 (.seg 32 (.seg 33 (.seg 34 (.seg 35 (.seg 36 (.seg 37 (.seg 38 (.seg 39 (.seg 40 (.seg 41 (.seg 42 (.seg 43 (.seg 44 (.seg 45 (.seg 46 (.seg 47 .last)))))))))))))))))))))))))))))))))))))))))))))))))]) (n0:=245) (α := {x:KR2//x.k≤s.threads.length∧nx+1≤x.nx}) (fun x=>[(10,dB (accAll b4 s.threads (threadB p s) x.1.k)),(231,dI x.1.k)]) (fun H _=>H) (fun x=>x.1.nx) (fun x=>s.threads.length-x.1.k) ⟨⟨0,m⟩,by simp;omega⟩ rfl (by kernel_rfl) (Wk.sub (by simp [accAll_zero])) ?_
 rintro ⟨⟨k,m⟩,hk,hm⟩
 simp only at hk hm
 have e0 : ¬ 0=m:=by omega
 have e1 : ¬ 1=m:=by omega
 have e2 : ¬ nx=m:=by omega
 by_cases h1:k<s.threads.length
 ·have hs:=accAll_next (b:=b4) (p:=threadB p s) h1
  have fin2 : ∀ b:Bool,b=(accAll b4 s.threads (threadB p s) k&&threadB p s s.threads[k])->b=accAll b4 s.threads (threadB p s) (k+1):=fun b e=>by rw [e,hs]
  cases hb:accAll b4 s.threads (threadB p s) k with
  | false =>
   simp [h1,f0,f1,e0,e1,e2]
   have hs2:=(fin2 (false) (by rw [hb];rfl)).symm
   refine ⟨⟨k+1,m+1⟩,by simp;omega,⟨by simp;omega,by simp;omega⟩,(Wk.sub (by simp only [hs2];simp [wrap_add (show k<9223372036854775807 by omega)])).trans (Wk.heap fun i y hy => ?_)⟩
   unfold Hp.set Hp.none at hy ⊢
   grind
  | true =>
   simp [h1,f0,f1,e0,e1,e2]
   refine threadRight_ok p c1 s s.threads[k] (h530.2 _ (List.getElem_mem h1)) ?_
   simp
   have hs2:=(fin2 (threadB p s s.threads[k]) (by rw [hb];rfl)).symm
   refine ⟨⟨k+1,m+1⟩,by simp;omega,⟨by simp;omega,by simp;omega⟩,(Wk.sub (by simp only [hs2];simp [wrap_add (show k<9223372036854775807 by omega)])).trans (Wk.heap fun i y hy => ?_)⟩
   unfold Hp.set Hp.none at hy ⊢
   grind
 obtain rfl:k=s.threads.length:=by omega
 have hc3:=accAll_all (b:=b4) (L:=s.threads) (p:=threadB p s)
 generalize accAll b4 s.threads (threadB p s) s.threads.length=b5 at *
 have hall:b5=true↔(gl.Nodup∧accC2 p s true s.cells.length=true∧s.threads.all (threadB p s)=true):=by
  rw [hc3,hc2]
  simp only [Bool.and_eq_true,hnd,and_assoc]
 cases b5 with
 | false =>
  simp
  exact three fun e=>by have:=hall.2 e;cases this
 | true =>
  simp
  exact zero (hall.1 rfl)
end Go.Proofs.YtbphdcffpobcbaaGreatDoor
