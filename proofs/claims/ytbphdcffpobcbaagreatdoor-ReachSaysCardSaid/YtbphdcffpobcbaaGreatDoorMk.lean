/- Several texts in one. -/
import Derived.Test.YtbphdcffpobcbaaGreatDoorMg
import Derived.Test.YtbphdcffpobcbaaGreatDoorMi
import Derived.Test.YtbphdcffpobcbaaGreatDoorMj
set_option linter.unusedSimpArgs false
set_option linter.unusedVariables false
set_option maxRecDepth 100000
set_option maxHeartbeats 16000000
namespace Go.Proofs.YtbphdcffpobcbaaGreatDoor
open Go.RowKit Go
def accAll {α:Type} (b:Bool) (L:List α) (p:α->Bool) (k:Nat):Bool:=b&&(L.take k).all p
theorem accAll_next {α:Type} {b:Bool} {L:List α} {p:α->Bool} {k:Nat} (hk:k<L.length):accAll b L p (k+1)=(accAll b L p k&&p L[k]):=by
 unfold accAll;rw [all_take_next hk,Bool.and_assoc]
theorem accAll_zero {α:Type} {b:Bool} {L:List α} {p:α->Bool} : accAll b L p 0=b:=by simp [accAll]
theorem accAll_all {α:Type} {b:Bool} {L:List α} {p:α->Bool} : accAll b L p L.length=(b&&L.all p):=by simp [accAll]
theorem heapFault_ok (s:GState) (hok:okSt s) {K:D->List Blk->Prop} (h:K (dI (cellsQ wordsT s)) []):DPure Tryz.prog 26 [aD (eState s)] K:=by
 refine fn_ok [0,1,2,3,5,7,8,9,10,11,12,14,16,18,20,22,46,47,48,49,60,61,62,63,68,78,83,90,91,92,93,113,114,115,116,128,129,130,131,145,146,147,148,159,160,161,162,178,179,180,181,202] [] Tryz.func26 rfl (by kernel_rfl) rfl rfl rfl rfl (by kernel_rfl) ?_
 simp
 intro _
 have two:heapLarge s=true->K (dI 2) []:=fun e=>by unfold cellsQ at h;rw [if_pos e] at h;exact h
 refine alt (fun c1 => ?_) (fun c1 => ?_)
 rotate_left
 ·intro _
  refine loopH_ok (ks := [0,1,2,3,5,7,8,9,10,11,12,14,16,18,20,22,46,47,48,49,60,61,62,63,68,78,83,90,91,92,93,113,114,115,116,128,129,130,131,145,146,147,148,159,160,161,162,178,179,180,181,202]) (pl := []) (n0:=203) (α := {x:KP//x.k≤s.texts.length}) (fun x=>[(3,dB (accAny (true) s.texts bigT x.1.k)),(48,dI x.1.k)]) (fun H _=>H) (fun x=>x.1.nx+1) (fun x=>s.texts.length-x.1.k) ⟨⟨0,0⟩,Nat.zero_le _⟩ rfl (by kernel_rfl) (Wk.of_eq (by simp [accAny_zero])) ?_
  rintro ⟨⟨k,nx⟩,hk⟩
  simp only at hk
  dsimp only
  by_cases h1:k<s.texts.length
  ·have hs:=accAny_next (b:=(true)) (p:=bigT) h1
   cases hb:accAny (true) s.texts bigT k with
   | true =>
    rw [hb,Bool.true_or] at hs
    simp [h1]
    exact ⟨⟨k+1,nx⟩,by simp;omega,by simp;omega,Wk.sub (by simp only [hs];simp [wrap_add (show k<9223372036854775807 by omega)])⟩
   | false =>
    rw [hb,Bool.false_or] at hs
    simp [h1]
    exact ⟨⟨k+1,nx⟩,by simp;omega,by simp;omega,Wk.sub (by simp only [hs];simp [bigT,wrap_add (show k<9223372036854775807 by omega)])⟩
  obtain rfl:k=s.texts.length:=by omega
  have hb1:=accAny_all (b:=(true)) (L:=s.texts) (p:=bigT)
  generalize accAny (true) s.texts bigT s.texts.length=b1 at *
  simp
  intro _
  refine loopH_ok (ks := [0,1,2,3,5,7,8,9,10,11,12,14,16,18,20,22,46,47,48,49,60,61,62,63,68,78,83,90,91,92,93,113,114,115,116,128,129,130,131,145,146,147,148,159,160,161,162,178,179,180,181,202]) (pl := []) (n0:=203) (α := {x:KP//x.k≤s.cells.length}) (fun x=>[(3,dB (accAny b1 s.cells manyB x.1.k)),(62,dI x.1.k)]) (fun H _=>H) (fun x=>x.1.nx+1) (fun x=>s.cells.length-x.1.k) ⟨⟨0,nx⟩,Nat.zero_le _⟩ rfl (by kernel_rfl) (Wk.of_eq (by simp [accAny_zero])) ?_
  rintro ⟨⟨k,nx2⟩,hk⟩
  simp only at hk
  dsimp only
  by_cases h2:k<s.cells.length
  ·have hs:=accAny_next (b:=b1) (p:=manyB) h2
   by_cases e7:s.cells[k].kind=7
   ·cases hb:accAny b1 s.cells manyB k with
    | true =>
     rw [hb,Bool.true_or] at hs
     simp [h2,e7]
     exact ⟨⟨k+1,nx2+1⟩,by simp;omega,by simp;omega,Wk.sub1 (by simp only [hs];simp [wrap_add (show k<9223372036854775807 by omega)]) (by simp)⟩
    | false =>
     rw [hb,Bool.false_or] at hs
     have hm:manyB s.cells[k]=decide ((600:Int)<s.cells[k].vals.length):=by rw [Bool.eq_iff_iff];simp [manyB,e7];omega
     rw [hm] at hs
     simp [h2,e7]
     intro _
     exact ⟨⟨k+1,nx2+1⟩,by simp;omega,by simp;omega,Wk.sub1 (by simp only [hs];simp [wrap_add (show k<9223372036854775807 by omega)]) (by simp)⟩
   ·cases hb:accAny b1 s.cells manyB k with
    | true =>
     rw [hb,Bool.true_or] at hs
     simp [h2,e7]
     exact ⟨⟨k+1,nx2+1⟩,by simp;omega,by simp;omega,Wk.sub1 (by simp only [hs];simp [wrap_add (show k<9223372036854775807 by omega)]) (by simp)⟩
    | false =>
     rw [hb,Bool.false_or] at hs
     have hm:manyB s.cells[k]=decide ((100:Int)<s.cells[k].vals.length):=by rw [Bool.eq_iff_iff];simp [manyB,e7];omega
     rw [hm] at hs
     simp [h2,e7]
     intro _
     exact ⟨⟨k+1,nx2+1⟩,by simp;omega,by simp;omega,Wk.sub1 (by simp only [hs];simp [wrap_add (show k<9223372036854775807 by omega)]) (by simp)⟩
  obtain rfl:k=s.cells.length:=by omega
  have hb2:=accAny_all (b:=b1) (L:=s.cells) (p:=manyB)
  generalize accAny b1 s.cells manyB s.cells.length=b2 at *
  obtain rfl:b1=true:=by rw [hb1];rfl
  obtain rfl:b2=true:=by rw [hb2];rfl
  simp
  exact two (by simp [heapLarge];omega)
 intro _
 refine alt (fun c2 => ?_) (fun c2 => ?_)
 rotate_left
 ·intro _
  refine loopH_ok (ks := [0,1,2,3,5,7,8,9,10,11,12,14,16,18,20,22,46,47,48,49,60,61,62,63,68,78,83,90,91,92,93,113,114,115,116,128,129,130,131,145,146,147,148,159,160,161,162,178,179,180,181,202]) (pl := []) (n0:=203) (α := {x:KP//x.k≤s.texts.length}) (fun x=>[(3,dB (accAny (true) s.texts bigT x.1.k)),(48,dI x.1.k)]) (fun H _=>H) (fun x=>x.1.nx+1) (fun x=>s.texts.length-x.1.k) ⟨⟨0,0⟩,Nat.zero_le _⟩ rfl (by kernel_rfl) (Wk.of_eq (by simp [accAny_zero])) ?_
  rintro ⟨⟨k,nx⟩,hk⟩
  simp only at hk
  dsimp only
  by_cases h1:k<s.texts.length
  ·have hs:=accAny_next (b:=(true)) (p:=bigT) h1
   cases hb:accAny (true) s.texts bigT k with
   | true =>
    rw [hb,Bool.true_or] at hs
    simp [h1]
    exact ⟨⟨k+1,nx⟩,by simp;omega,by simp;omega,Wk.sub (by simp only [hs];simp [wrap_add (show k<9223372036854775807 by omega)])⟩
   | false =>
    rw [hb,Bool.false_or] at hs
    simp [h1]
    exact ⟨⟨k+1,nx⟩,by simp;omega,by simp;omega,Wk.sub (by simp only [hs];simp [bigT,wrap_add (show k<9223372036854775807 by omega)])⟩
  obtain rfl:k=s.texts.length:=by omega
  have hb1:=accAny_all (b:=(true)) (L:=s.texts) (p:=bigT)
  generalize accAny (true) s.texts bigT s.texts.length=b1 at *
  simp
  intro _
  refine loopH_ok (ks := [0,1,2,3,5,7,8,9,10,11,12,14,16,18,20,22,46,47,48,49,60,61,62,63,68,78,83,90,91,92,93,113,114,115,116,128,129,130,131,145,146,147,148,159,160,161,162,178,179,180,181,202]) (pl := []) (n0:=203) (α := {x:KP//x.k≤s.cells.length}) (fun x=>[(3,dB (accAny b1 s.cells manyB x.1.k)),(62,dI x.1.k)]) (fun H _=>H) (fun x=>x.1.nx+1) (fun x=>s.cells.length-x.1.k) ⟨⟨0,nx⟩,Nat.zero_le _⟩ rfl (by kernel_rfl) (Wk.of_eq (by simp [accAny_zero])) ?_
  rintro ⟨⟨k,nx2⟩,hk⟩
  simp only at hk
  dsimp only
  by_cases h2:k<s.cells.length
  ·have hs:=accAny_next (b:=b1) (p:=manyB) h2
   by_cases e7:s.cells[k].kind=7
   ·cases hb:accAny b1 s.cells manyB k with
    | true =>
     rw [hb,Bool.true_or] at hs
     simp [h2,e7]
     exact ⟨⟨k+1,nx2+1⟩,by simp;omega,by simp;omega,Wk.sub1 (by simp only [hs];simp [wrap_add (show k<9223372036854775807 by omega)]) (by simp)⟩
    | false =>
     rw [hb,Bool.false_or] at hs
     have hm:manyB s.cells[k]=decide ((600:Int)<s.cells[k].vals.length):=by rw [Bool.eq_iff_iff];simp [manyB,e7];omega
     rw [hm] at hs
     simp [h2,e7]
     intro _
     exact ⟨⟨k+1,nx2+1⟩,by simp;omega,by simp;omega,Wk.sub1 (by simp only [hs];simp [wrap_add (show k<9223372036854775807 by omega)]) (by simp)⟩
   ·cases hb:accAny b1 s.cells manyB k with
    | true =>
     rw [hb,Bool.true_or] at hs
     simp [h2,e7]
     exact ⟨⟨k+1,nx2+1⟩,by simp;omega,by simp;omega,Wk.sub1 (by simp only [hs];simp [wrap_add (show k<9223372036854775807 by omega)]) (by simp)⟩
    | false =>
     rw [hb,Bool.false_or] at hs
     have hm:manyB s.cells[k]=decide ((100:Int)<s.cells[k].vals.length):=by rw [Bool.eq_iff_iff];simp [manyB,e7];omega
     rw [hm] at hs
     simp [h2,e7]
     intro _
     exact ⟨⟨k+1,nx2+1⟩,by simp;omega,by simp;omega,Wk.sub1 (by simp only [hs];simp [wrap_add (show k<9223372036854775807 by omega)]) (by simp)⟩
  obtain rfl:k=s.cells.length:=by omega
  have hb2:=accAny_all (b:=b1) (L:=s.cells) (p:=manyB)
  generalize accAny b1 s.cells manyB s.cells.length=b2 at *
  obtain rfl:b1=true:=by rw [hb1];rfl
  obtain rfl:b2=true:=by rw [hb2];rfl
  simp
  exact two (by simp [heapLarge];omega)
 intro _
 refine alt (fun c3 => ?_) (fun c3 => ?_)
 rotate_left
 ·intro _
  refine loopH_ok (ks := [0,1,2,3,5,7,8,9,10,11,12,14,16,18,20,22,46,47,48,49,60,61,62,63,68,78,83,90,91,92,93,113,114,115,116,128,129,130,131,145,146,147,148,159,160,161,162,178,179,180,181,202]) (pl := []) (n0:=203) (α := {x:KP//x.k≤s.texts.length}) (fun x=>[(3,dB (accAny (true) s.texts bigT x.1.k)),(48,dI x.1.k)]) (fun H _=>H) (fun x=>x.1.nx+1) (fun x=>s.texts.length-x.1.k) ⟨⟨0,0⟩,Nat.zero_le _⟩ rfl (by kernel_rfl) (Wk.of_eq (by simp [accAny_zero])) ?_
  rintro ⟨⟨k,nx⟩,hk⟩
  simp only at hk
  dsimp only
  by_cases h1:k<s.texts.length
  ·have hs:=accAny_next (b:=(true)) (p:=bigT) h1
   cases hb:accAny (true) s.texts bigT k with
   | true =>
    rw [hb,Bool.true_or] at hs
    simp [h1]
    exact ⟨⟨k+1,nx⟩,by simp;omega,by simp;omega,Wk.sub (by simp only [hs];simp [wrap_add (show k<9223372036854775807 by omega)])⟩
   | false =>
    rw [hb,Bool.false_or] at hs
    simp [h1]
    exact ⟨⟨k+1,nx⟩,by simp;omega,by simp;omega,Wk.sub (by simp only [hs];simp [bigT,wrap_add (show k<9223372036854775807 by omega)])⟩
  obtain rfl:k=s.texts.length:=by omega
  have hb1:=accAny_all (b:=(true)) (L:=s.texts) (p:=bigT)
  generalize accAny (true) s.texts bigT s.texts.length=b1 at *
  simp
  intro _
  refine loopH_ok (ks := [0,1,2,3,5,7,8,9,10,11,12,14,16,18,20,22,46,47,48,49,60,61,62,63,68,78,83,90,91,92,93,113,114,115,116,128,129,130,131,145,146,147,148,159,160,161,162,178,179,180,181,202]) (pl := []) (n0:=203) (α := {x:KP//x.k≤s.cells.length}) (fun x=>[(3,dB (accAny b1 s.cells manyB x.1.k)),(62,dI x.1.k)]) (fun H _=>H) (fun x=>x.1.nx+1) (fun x=>s.cells.length-x.1.k) ⟨⟨0,nx⟩,Nat.zero_le _⟩ rfl (by kernel_rfl) (Wk.of_eq (by simp [accAny_zero])) ?_
  rintro ⟨⟨k,nx2⟩,hk⟩
  simp only at hk
  dsimp only
  by_cases h2:k<s.cells.length
  ·have hs:=accAny_next (b:=b1) (p:=manyB) h2
   by_cases e7:s.cells[k].kind=7
   ·cases hb:accAny b1 s.cells manyB k with
    | true =>
     rw [hb,Bool.true_or] at hs
     simp [h2,e7]
     exact ⟨⟨k+1,nx2+1⟩,by simp;omega,by simp;omega,Wk.sub1 (by simp only [hs];simp [wrap_add (show k<9223372036854775807 by omega)]) (by simp)⟩
    | false =>
     rw [hb,Bool.false_or] at hs
     have hm:manyB s.cells[k]=decide ((600:Int)<s.cells[k].vals.length):=by rw [Bool.eq_iff_iff];simp [manyB,e7];omega
     rw [hm] at hs
     simp [h2,e7]
     intro _
     exact ⟨⟨k+1,nx2+1⟩,by simp;omega,by simp;omega,Wk.sub1 (by simp only [hs];simp [wrap_add (show k<9223372036854775807 by omega)]) (by simp)⟩
   ·cases hb:accAny b1 s.cells manyB k with
    | true =>
     rw [hb,Bool.true_or] at hs
     simp [h2,e7]
     exact ⟨⟨k+1,nx2+1⟩,by simp;omega,by simp;omega,Wk.sub1 (by simp only [hs];simp [wrap_add (show k<9223372036854775807 by omega)]) (by simp)⟩
    | false =>
     rw [hb,Bool.false_or] at hs
     have hm:manyB s.cells[k]=decide ((100:Int)<s.cells[k].vals.length):=by rw [Bool.eq_iff_iff];simp [manyB,e7];omega
     rw [hm] at hs
     simp [h2,e7]
     intro _
     exact ⟨⟨k+1,nx2+1⟩,by simp;omega,by simp;omega,Wk.sub1 (by simp only [hs];simp [wrap_add (show k<9223372036854775807 by omega)]) (by simp)⟩
  obtain rfl:k=s.cells.length:=by omega
  have hb2:=accAny_all (b:=b1) (L:=s.cells) (p:=manyB)
  generalize accAny b1 s.cells manyB s.cells.length=b2 at *
  obtain rfl:b1=true:=by rw [hb1];rfl
  obtain rfl:b2=true:=by rw [hb2];rfl
  simp
  exact two (by simp [heapLarge];omega)
 intro _
 intro _
 refine loopH_ok (ks := [0,1,2,3,5,7,8,9,10,11,12,14,16,18,20,22,46,47,48,49,60,61,62,63,68,78,83,90,91,92,93,113,114,115,116,128,129,130,131,145,146,147,148,159,160,161,162,178,179,180,181,202]) (pl := []) (n0:=203) (α := {x:KP//x.k≤s.texts.length}) (fun x=>[(3,dB (accAny (decide ((100:Int)<s.ends.length)) s.texts bigT x.1.k)),(48,dI x.1.k)]) (fun H _=>H) (fun x=>x.1.nx+1) (fun x=>s.texts.length-x.1.k) ⟨⟨0,0⟩,Nat.zero_le _⟩ rfl (by kernel_rfl) (Wk.of_eq (by simp [accAny_zero])) ?_
 rintro ⟨⟨k,nx⟩,hk⟩
 simp only at hk
 dsimp only
 by_cases h1:k<s.texts.length
 ·have hs:=accAny_next (b:=(decide ((100:Int)<s.ends.length))) (p:=bigT) h1
  cases hb:accAny (decide ((100:Int)<s.ends.length)) s.texts bigT k with
  | true =>
   rw [hb,Bool.true_or] at hs
   simp [h1]
   exact ⟨⟨k+1,nx⟩,by simp;omega,by simp;omega,Wk.sub (by simp only [hs];simp [wrap_add (show k<9223372036854775807 by omega)])⟩
  | false =>
   rw [hb,Bool.false_or] at hs
   simp [h1]
   exact ⟨⟨k+1,nx⟩,by simp;omega,by simp;omega,Wk.sub (by simp only [hs];simp [bigT,wrap_add (show k<9223372036854775807 by omega)])⟩
 obtain rfl:k=s.texts.length:=by omega
 have hb1:=accAny_all (b:=(decide ((100:Int)<s.ends.length))) (L:=s.texts) (p:=bigT)
 generalize accAny (decide ((100:Int)<s.ends.length)) s.texts bigT s.texts.length=b1 at *
 simp
 intro _
 refine loopH_ok (ks := [0,1,2,3,5,7,8,9,10,11,12,14,16,18,20,22,46,47,48,49,60,61,62,63,68,78,83,90,91,92,93,113,114,115,116,128,129,130,131,145,146,147,148,159,160,161,162,178,179,180,181,202]) (pl := []) (n0:=203) (α := {x:KP//x.k≤s.cells.length}) (fun x=>[(3,dB (accAny b1 s.cells manyB x.1.k)),(62,dI x.1.k)]) (fun H _=>H) (fun x=>x.1.nx+1) (fun x=>s.cells.length-x.1.k) ⟨⟨0,nx⟩,Nat.zero_le _⟩ rfl (by kernel_rfl) (Wk.of_eq (by simp [accAny_zero])) ?_
 rintro ⟨⟨k,nx2⟩,hk⟩
 simp only at hk
 dsimp only
 by_cases h2:k<s.cells.length
 ·have hs:=accAny_next (b:=b1) (p:=manyB) h2
  by_cases e7:s.cells[k].kind=7
  ·cases hb:accAny b1 s.cells manyB k with
   | true =>
    rw [hb,Bool.true_or] at hs
    simp [h2,e7]
    exact ⟨⟨k+1,nx2+1⟩,by simp;omega,by simp;omega,Wk.sub1 (by simp only [hs];simp [wrap_add (show k<9223372036854775807 by omega)]) (by simp)⟩
   | false =>
    rw [hb,Bool.false_or] at hs
    have hm:manyB s.cells[k]=decide ((600:Int)<s.cells[k].vals.length):=by rw [Bool.eq_iff_iff];simp [manyB,e7];omega
    rw [hm] at hs
    simp [h2,e7]
    intro _
    exact ⟨⟨k+1,nx2+1⟩,by simp;omega,by simp;omega,Wk.sub1 (by simp only [hs];simp [wrap_add (show k<9223372036854775807 by omega)]) (by simp)⟩
  ·cases hb:accAny b1 s.cells manyB k with
   | true =>
    rw [hb,Bool.true_or] at hs
    simp [h2,e7]
    exact ⟨⟨k+1,nx2+1⟩,by simp;omega,by simp;omega,Wk.sub1 (by simp only [hs];simp [wrap_add (show k<9223372036854775807 by omega)]) (by simp)⟩
   | false =>
    rw [hb,Bool.false_or] at hs
    have hm:manyB s.cells[k]=decide ((100:Int)<s.cells[k].vals.length):=by rw [Bool.eq_iff_iff];simp [manyB,e7];omega
    rw [hm] at hs
    simp [h2,e7]
    intro _
    exact ⟨⟨k+1,nx2+1⟩,by simp;omega,by simp;omega,Wk.sub1 (by simp only [hs];simp [wrap_add (show k<9223372036854775807 by omega)]) (by simp)⟩
 obtain rfl:k=s.cells.length:=by omega
 have hb2:=accAny_all (b:=b1) (L:=s.cells) (p:=manyB)
 generalize accAny b1 s.cells manyB s.cells.length=b2 at *
 have hlg:heapLarge s=b2:=by
  rw [hb2,hb1]
  unfold heapLarge
  have hbig:s.texts.any (fun t=>decide (200<t.size))=s.texts.any bigT:=by
   congr 1;funext t;rw [Bool.eq_iff_iff];simp [bigT];omega
  have hdec:decide (100<s.ends.length)=decide ((100:Int)<s.ends.length):=by rw [Bool.eq_iff_iff];simp only [decide_eq_true_eq];omega
  rw [hbig,decide_eq_false (show ¬ 300<s.cells.length by omega),decide_eq_false (show ¬ 300<s.texts.length by omega),decide_eq_false (show ¬ 200<s.said.length by omega),hdec,Bool.false_or,Bool.false_or,Bool.false_or]
 cases b2 with
 | true =>
  simp
  exact two hlg
 | false =>
 have hcq:cellsQ wordsT s=if faultP s.shapes≠0 then faultP s.shapes else if wordsB wordsT s.texts=true∧s.shapes.all (fun x=>decide (x.2<s.texts.length))=true∧s.cells.all (cellB s)=true∧s.said.all (saidB s)=true∧s.ends.all (endB s)=true then 0 else 3:=by
  unfold cellsQ
  rw [if_neg (by rw [hlg];simp)]
 rw [hcq] at h
 have hvals : ∀ c∈s.cells,c.vals.length≤600:=fun c hc=>by
  simp only [heapLarge,Bool.or_eq_false_iff,List.any_eq_false] at hlg
  have:=hlg.2 c hc
  simp [manyB] at this
  omega
 simp
 refine shapesFault_ok true s.shapes ?_
 by_cases c4:faultP s.shapes=0
 case neg =>
  rw [if_pos c4] at h
  simp [c4]
  exact h
 rw [if_neg (by simpa using c4)] at h
 have three : ¬ (wordsB wordsT s.texts=true∧s.shapes.all (fun x=>decide (x.2<s.texts.length))=true∧s.cells.all (cellB s)=true∧s.said.all (saidB s)=true∧s.ends.all (endB s)=true)->K (dI 3) []:=fun e=>by rw [if_neg e] at h;exact h
 have zero:(wordsB wordsT s.texts=true∧s.shapes.all (fun x=>decide (x.2<s.texts.length))=true∧s.cells.all (cellB s)=true∧s.said.all (saidB s)=true∧s.ends.all (endB s)=true)->K (dI 0) []:=fun e=>by rw [if_pos e] at h;exact h
 clear h hcq
 by_cases c5:(19:Int)≤s.texts.length
 ·simp [c4,c5]
  intro _
  refine loopH_ok (ks := [0,1,2,3,5,7,8,9,10,11,12,14,16,18,20,22,46,47,48,49,60,61,62,63,68,78,83,90,91,92,93,113,114,115,116,128,129,130,131,145,146,147,148,159,160,161,162,178,179,180,181,202]) (pl := []) (n0:=203) (α := {x:KP//x.k≤s.texts.length}) (fun x=>[(10,dB (accT (true) s.texts x.1.k)),(92,dI x.1.k)]) (fun _ _=>Hp.none.set 0 (some ⟨.c 29,8,[(eState s).map .d]⟩)) (fun x=>x.1.nx+1) (fun x=>s.texts.length-x.1.k) ⟨⟨0,nx2⟩,Nat.zero_le _⟩ rfl (by kernel_rfl) (Wk.of_eq (by simp [accT])) ?_
  rintro ⟨⟨k,nx3⟩,hk⟩
  simp only at hk
  dsimp only
  by_cases h3:k<s.texts.length
  ·have hmin:min k s.texts.length=k:=Nat.min_eq_left (by omega)
   cases hb:accT (true) s.texts k with
   | false =>
    simp [h3]
    refine ⟨by omega,fun _ => ?_⟩
    refine loopH_ok (ks := [0,1,2,3,5,7,8,9,10,11,12,14,16,18,20,22,46,47,48,49,60,61,62,63,68,78,83,90,91,92,93,113,114,115,116,128,129,130,131,145,146,147,148,159,160,161,162,178,179,180,181,202]) (pl := []) (n0:=203) (α := {x:KP//x.k≤k}) (fun x=>[(10,dB (accU (false) s.texts k x.1.k)),(115,dI x.1.k)]) (fun _ _=>Hp.none.set 0 (some ⟨.c 29,8,[(eState s).map .d]⟩)) (fun x=>x.1.nx+1) (fun x=>k-x.1.k) ⟨⟨0,nx3⟩,Nat.zero_le _⟩ rfl (by kernel_rfl) (Wk.sub1 (by simp [accU_zero,hmin]) (by simp)) ?_
    rintro ⟨⟨i,nx4⟩,hi⟩
    simp only at hi
    dsimp only
    by_cases h4:i<k
    ·have hs:=accU_next (b:=(false)) (ts:=s.texts) (k:=k) (i:=i)
     have hi2:i<s.texts.length:=by omega
     cases hb:accU (false) s.texts k i with
     | false =>
      rw [hb,Bool.false_and] at hs
      simp [h3,h4,hi2,hmin]
      exact ⟨⟨i+1,nx4⟩,by simp;omega,by simp;omega,Wk.sub1 (by simp only [hs];simp [wrap_add (show i<9223372036854775807 by omega)]) (by simp)⟩
     | true =>
      rw [hb,Bool.true_and,gT_at hi2,gT_at h3] at hs
      simp [h3,h4,hi2,hmin]
      exact ⟨⟨i+1,nx4⟩,by simp;omega,by simp;omega,Wk.sub1 (by simp only [hs];simp [wrap_add (show i<9223372036854775807 by omega)]) (by simp)⟩
    obtain rfl:i=k:=by omega
    have hU:accT (true) s.texts (i+1)=accU (false) s.texts i i:=by rw [accT,hb,Bool.false_and]
    simp [hmin]
    exact ⟨⟨i+1,nx4⟩,by simp;omega,by simp;omega,Wk.sub1 (by simp only [hU];simp [wrap_add (show i<9223372036854775807 by omega)]) (by simp)⟩
   | true =>
    by_cases h19:19≤k
    ·have h19':(19:Int)≤k:=by omega
     simp [h3,h19']
     refine ⟨by omega,fun _ => ?_⟩
     refine loopH_ok (ks := [0,1,2,3,5,7,8,9,10,11,12,14,16,18,20,22,46,47,48,49,60,61,62,63,68,78,83,90,91,92,93,113,114,115,116,128,129,130,131,145,146,147,148,159,160,161,162,178,179,180,181,202]) (pl := []) (n0:=203) (α := {x:KP//x.k≤k}) (fun x=>[(10,dB (accU (true) s.texts k x.1.k)),(115,dI x.1.k)]) (fun _ _=>Hp.none.set 0 (some ⟨.c 29,8,[(eState s).map .d]⟩)) (fun x=>x.1.nx+1) (fun x=>k-x.1.k) ⟨⟨0,nx3⟩,Nat.zero_le _⟩ rfl (by kernel_rfl) (Wk.sub1 (by simp [accU_zero,hmin]) (by simp)) ?_
     rintro ⟨⟨i,nx4⟩,hi⟩
     simp only at hi
     dsimp only
     by_cases h4:i<k
     ·have hs:=accU_next (b:=(true)) (ts:=s.texts) (k:=k) (i:=i)
      have hi2:i<s.texts.length:=by omega
      cases hb:accU (true) s.texts k i with
      | false =>
       rw [hb,Bool.false_and] at hs
       simp [h3,h4,hi2,hmin]
       exact ⟨⟨i+1,nx4⟩,by simp;omega,by simp;omega,Wk.sub1 (by simp only [hs];simp [wrap_add (show i<9223372036854775807 by omega)]) (by simp)⟩
      | true =>
       rw [hb,Bool.true_and,gT_at hi2,gT_at h3] at hs
       simp [h3,h4,hi2,hmin]
       exact ⟨⟨i+1,nx4⟩,by simp;omega,by simp;omega,Wk.sub1 (by simp only [hs];simp [wrap_add (show i<9223372036854775807 by omega)]) (by simp)⟩
     obtain rfl:i=k:=by omega
     have hU:accT (true) s.texts (i+1)=accU (true) s.texts i i:=by rw [accT,hb,Bool.true_and,show wordOk s.texts i=true by simp [wordOk,h19]]
     simp [hmin]
     exact ⟨⟨i+1,nx4⟩,by simp;omega,by simp;omega,Wk.sub1 (by simp only [hU];simp [wrap_add (show i<9223372036854775807 by omega)]) (by simp)⟩
    ·have h19' : ¬ (19:Int)≤k:=by omega
     have hkw:k<wordsT.length:=by have:wordsT.length=19:=rfl;omega
     have hwg:wordsT[k]? = some wordsT[k]:=List.getElem?_eq_getElem hkw
     have hwk:wordOk s.texts k=decide (s.texts[k]=wordsT[k]):=by simp [wordOk,h19,gT_at h3,gT_at hkw]
     simp [h3,h19']
     refine ownWords_ok ?_
     simp [h3,h19',hkw,hwg]
     refine ⟨by omega,fun _ => ?_⟩
     generalize hB:wordOk s.texts k=bw at *
     refine loopH_ok (ks := [0,1,2,3,5,7,8,9,10,11,12,14,16,18,20,22,46,47,48,49,60,61,62,63,68,78,83,90,91,92,93,113,114,115,116,128,129,130,131,145,146,147,148,159,160,161,162,178,179,180,181,202]) (pl := []) (n0:=203) (α := {x:KP//x.k≤k}) (fun x=>[(10,dB (accU (bw) s.texts k x.1.k)),(115,dI x.1.k)]) (fun _ _=>Hp.none.set 0 (some ⟨.c 29,8,[(eState s).map .d]⟩)) (fun x=>x.1.nx+1) (fun x=>k-x.1.k) ⟨⟨0,nx3+1⟩,Nat.zero_le _⟩ rfl (by kernel_rfl) (Wk.sub1 (by simp [accU_zero,hmin,hwk]) (by simp)) ?_
     rintro ⟨⟨i,nx4⟩,hi⟩
     simp only at hi
     dsimp only
     by_cases h4:i<k
     ·have hs:=accU_next (b:=(bw)) (ts:=s.texts) (k:=k) (i:=i)
      have hi2:i<s.texts.length:=by omega
      cases hb:accU (bw) s.texts k i with
      | false =>
       rw [hb,Bool.false_and] at hs
       simp [h3,h4,hi2,hmin]
       exact ⟨⟨i+1,nx4⟩,by simp;omega,by simp;omega,Wk.sub1 (by simp only [hs];simp [wrap_add (show i<9223372036854775807 by omega)]) (by simp)⟩
      | true =>
       rw [hb,Bool.true_and,gT_at hi2,gT_at h3] at hs
       simp [h3,h4,hi2,hmin]
       exact ⟨⟨i+1,nx4⟩,by simp;omega,by simp;omega,Wk.sub1 (by simp only [hs];simp [wrap_add (show i<9223372036854775807 by omega)]) (by simp)⟩
     obtain rfl:i=k:=by omega
     have hU:accT (true) s.texts (i+1)=accU (bw) s.texts i i:=by rw [accT,hb,Bool.true_and,hB]
     simp [hmin]
     exact ⟨⟨i+1,nx4⟩,by simp;omega,by simp;omega,Wk.sub1 (by simp only [hU];simp [wrap_add (show i<9223372036854775807 by omega)]) (by simp)⟩
  obtain rfl:k=s.texts.length:=by omega
  generalize hb3:accT (true) s.texts s.texts.length=b3 at *
  have hT:b3=true↔wordsB wordsT s.texts=true:=by
   rw [← hb3,accT_iff,words_iff (by omega)];simp [wordsB]
  clear hb3
  simp
  intro _
  refine loopH_ok (ks := [0,1,2,3,5,7,8,9,10,11,12,14,16,18,20,22,46,47,48,49,60,61,62,63,68,78,83,90,91,92,93,113,114,115,116,128,129,130,131,145,146,147,148,159,160,161,162,178,179,180,181,202]) (pl := []) (n0:=203) (α := {x:KP//x.k≤s.shapes.length}) (fun x=>[(10,dB (accAll b3 s.shapes (fun x=>decide (x.2<(s.texts.length:Int))) x.1.k)),(130,dI x.1.k)]) (fun _ _=>Hp.none.set 0 (some ⟨.c 29,8,[(eState s).map .d]⟩)) (fun x=>x.1.nx+1) (fun x=>s.shapes.length-x.1.k) ⟨⟨0,nx3⟩,Nat.zero_le _⟩ rfl (by kernel_rfl) (Wk.sub1 (by simp [accAll_zero]) (by simp)) ?_
  rintro ⟨⟨k,nx⟩,hk⟩
  simp only at hk
  dsimp only
  by_cases h1:k<s.shapes.length
  ·have hs:=accAll_next (b:=b3) (p:=(fun x=>decide (x.2<(s.texts.length:Int)))) h1
   cases hb:accAll b3 s.shapes (fun x=>decide (x.2<(s.texts.length:Int))) k with
   | false =>
    rw [hb,Bool.false_and] at hs
    simp [h1]
    exact ⟨⟨k+1,nx+1⟩,by simp;omega,by simp;omega,Wk.sub1 (by simp only [hs];simp [wrap_add (show k<9223372036854775807 by omega)]) (by simp)⟩
   | true =>
    rw [hb,Bool.true_and] at hs
    have fin2 : ∀ b:Bool,b=(fun x=>decide (x.2<(s.texts.length:Int))) s.shapes[k]->b=accAll b3 s.shapes (fun x=>decide (x.2<(s.texts.length:Int))) (k+1):=fun b e=>by rw [e,hs]
    simp [h1]
    intro _
    have hs2:=(fin2 (decide (s.shapes[k].2<(s.texts.length:Int))) (rfl)).symm
    exact ⟨⟨k+1,nx+1⟩,by simp;omega,by simp;omega,Wk.sub1 (by simp only [hs2];simp [wrap_add (show k<9223372036854775807 by omega)]) (by simp)⟩
  obtain rfl:k=s.shapes.length:=by omega
  have hb4:=accAll_all (b:=b3) (L:=s.shapes) (p:=fun x=>decide (x.2<(s.texts.length:Int)))
  generalize accAll b3 s.shapes (fun x=>decide (x.2<(s.texts.length:Int))) s.shapes.length=b4 at *
  simp
  intro _
  refine loopH_ok (ks := [0,1,2,3,5,7,8,9,10,11,12,14,16,18,20,22,46,47,48,49,60,61,62,63,68,78,83,90,91,92,93,113,114,115,116,128,129,130,131,145,146,147,148,159,160,161,162,178,179,180,181,202]) (pl := []) (n0:=203) (α := {x:KP//x.k≤s.cells.length}) (fun x=>[(10,dB (accAll b4 s.cells (cellB s) x.1.k)),(147,dI x.1.k)]) (fun _ _=>Hp.none.set 0 (some ⟨.c 29,8,[(eState s).map .d]⟩)) (fun x=>x.1.nx+1) (fun x=>s.cells.length-x.1.k) ⟨⟨0,nx⟩,Nat.zero_le _⟩ rfl (by kernel_rfl) (Wk.sub1 (by simp [accAll_zero]) (by simp)) ?_
  rintro ⟨⟨k,nx⟩,hk⟩
  simp only at hk
  dsimp only
  by_cases h1:k<s.cells.length
  ·have hs:=accAll_next (b:=b4) (p:=(cellB s)) h1
   cases hb:accAll b4 s.cells (cellB s) k with
   | false =>
    rw [hb,Bool.false_and] at hs
    simp [h1]
    exact ⟨⟨k+1,nx+1⟩,by simp;omega,by simp;omega,Wk.sub1 (by simp only [hs];simp [wrap_add (show k<9223372036854775807 by omega)]) (by simp)⟩
   | true =>
    rw [hb,Bool.true_and] at hs
    have fin2 : ∀ b:Bool,b=(cellB s) s.cells[k]->b=accAll b4 s.cells (cellB s) (k+1):=fun b e=>by rw [e,hs]
    simp [h1]
    refine cellRight_ok s c4 s.cells[k] (by have:=hvals _ (List.getElem_mem h1);omega) (hok.2.2 _ (List.getElem_mem h1)).2 ?_
    simp
    have hs2:=(fin2 (cellB s s.cells[k]) (rfl)).symm
    exact ⟨⟨k+1,nx+1⟩,by simp;omega,by simp;omega,Wk.sub1 (by simp only [hs2];simp [wrap_add (show k<9223372036854775807 by omega)]) (by simp)⟩
  obtain rfl:k=s.cells.length:=by omega
  have hb5:=accAll_all (b:=b4) (L:=s.cells) (p:=cellB s)
  generalize accAll b4 s.cells (cellB s) s.cells.length=b5 at *
  simp
  intro _
  refine loopH_ok (ks := [0,1,2,3,5,7,8,9,10,11,12,14,16,18,20,22,46,47,48,49,60,61,62,63,68,78,83,90,91,92,93,113,114,115,116,128,129,130,131,145,146,147,148,159,160,161,162,178,179,180,181,202]) (pl := []) (n0:=203) (α := {x:KP//x.k≤s.said.length}) (fun x=>[(10,dB (accAll b5 s.said (saidB s) x.1.k)),(161,dI x.1.k)]) (fun _ _=>Hp.none.set 0 (some ⟨.c 29,8,[(eState s).map .d]⟩)) (fun x=>x.1.nx+1) (fun x=>s.said.length-x.1.k) ⟨⟨0,nx⟩,Nat.zero_le _⟩ rfl (by kernel_rfl) (Wk.sub1 (by simp [accAll_zero]) (by simp)) ?_
  rintro ⟨⟨k,nx⟩,hk⟩
  simp only at hk
  dsimp only
  by_cases h1:k<s.said.length
  ·have hs:=accAll_next (b:=b5) (p:=(saidB s)) h1
   cases hb:accAll b5 s.said (saidB s) k with
   | false =>
    rw [hb,Bool.false_and] at hs
    simp [h1]
    exact ⟨⟨k+1,nx+1⟩,by simp;omega,by simp;omega,Wk.sub1 (by simp only [hs];simp [wrap_add (show k<9223372036854775807 by omega)]) (by simp)⟩
   | true =>
    rw [hb,Bool.true_and] at hs
    have fin2 : ∀ b:Bool,b=(saidB s) s.said[k]->b=accAll b5 s.said (saidB s) (k+1):=fun b e=>by rw [e,hs]
    simp [h1]
    by_cases e4:s.said[k].kind=4
    ·simp [e4]
     have hv5:s.said[k]=⟨4,s.said[k].n⟩:=by rw [← e4]
     refine fitsIn_ok s ⟨4,s.said[k].n⟩ ?_
     simp
     have hs2:=(fin2 (fitsB s ⟨4,s.said[k].n⟩) (by rw [← hv5];simp [saidB,e4])).symm
     exact ⟨⟨k+1,nx+1⟩,by simp;omega,by simp;omega,Wk.sub1 (by simp only [hs2];simp [wrap_add (show k<9223372036854775807 by omega)]) (by simp)⟩
    ·simp [e4]
     have hs2:=(fin2 (false) (by simp [saidB,e4])).symm
     exact ⟨⟨k+1,nx+1⟩,by simp;omega,by simp;omega,Wk.sub1 (by simp only [hs2];simp [wrap_add (show k<9223372036854775807 by omega)]) (by simp)⟩
  obtain rfl:k=s.said.length:=by omega
  have hb6:=accAll_all (b:=b5) (L:=s.said) (p:=saidB s)
  generalize accAll b5 s.said (saidB s) s.said.length=b6 at *
  simp
  intro _
  refine loopH_ok (ks := [0,1,2,3,5,7,8,9,10,11,12,14,16,18,20,22,46,47,48,49,60,61,62,63,68,78,83,90,91,92,93,113,114,115,116,128,129,130,131,145,146,147,148,159,160,161,162,178,179,180,181,202]) (pl := []) (n0:=203) (α := {x:KP//x.k≤s.ends.length}) (fun x=>[(10,dB (accAll b6 s.ends (endB s) x.1.k)),(180,dI x.1.k)]) (fun _ _=>Hp.none.set 0 (some ⟨.c 29,8,[(eState s).map .d]⟩)) (fun x=>x.1.nx+1) (fun x=>s.ends.length-x.1.k) ⟨⟨0,nx⟩,Nat.zero_le _⟩ rfl (by kernel_rfl) (Wk.sub1 (by simp [accAll_zero]) (by simp)) ?_
  rintro ⟨⟨k,nx⟩,hk⟩
  simp only at hk
  dsimp only
  by_cases h1:k<s.ends.length
  ·have hs:=accAll_next (b:=b6) (p:=(endB s)) h1
   cases hb:accAll b6 s.ends (endB s) k with
   | false =>
    rw [hb,Bool.false_and] at hs
    simp [h1]
    exact ⟨⟨k+1,nx+1⟩,by simp;omega,by simp;omega,Wk.sub1 (by simp only [hs];simp [wrap_add (show k<9223372036854775807 by omega)]) (by simp)⟩
   | true =>
    rw [hb,Bool.true_and] at hs
    have fin2 : ∀ b:Bool,b=(endB s) s.ends[k]->b=accAll b6 s.ends (endB s) (k+1):=fun b e=>by rw [e,hs]
    simp [h1]
    intro _
    rw [show IntKind.i64.wrap ((s.cells.length:Int)-1)=(s.cells.length:Int)-1 from wrap_id (by omega) (by omega)]
    refine between_ok _ _ _ ?_
    cases hb5:btw s.ends[k].cell 0 ((s.cells.length:Int)-1) with
    | false =>
     simp
     have hs2:=(fin2 (false) (by simp [endB,hb5])).symm
     exact ⟨⟨k+1,nx+1⟩,by simp;omega,by simp;omega,Wk.sub1 (by simp only [hs2];simp [wrap_add (show k<9223372036854775807 by omega)]) (by simp)⟩
    | true =>
     simp
     refine kindIn_ok s s.ends[k].fn 4 ?_
     simp
     have hs2:=(fin2 (namesB s s.ends[k].fn 4) (by simp [endB,hb5])).symm
     exact ⟨⟨k+1,nx+1⟩,by simp;omega,by simp;omega,Wk.sub1 (by simp only [hs2];simp [wrap_add (show k<9223372036854775807 by omega)]) (by simp)⟩
  obtain rfl:k=s.ends.length:=by omega
  have hb7:=accAll_all (b:=b6) (L:=s.ends) (p:=endB s)
  generalize accAll b6 s.ends (endB s) s.ends.length=b7 at *
  have hall:b7=true↔(wordsB wordsT s.texts=true∧s.shapes.all (fun x=>decide (x.2<(s.texts.length:Int)))=true∧s.cells.all (cellB s)=true∧s.said.all (saidB s)=true∧s.ends.all (endB s)=true):=by
   rw [hb7,hb6,hb5,hb4]
   simp only [Bool.and_eq_true,hT,and_assoc]
  cases b7 with
  | false =>
   simp
   exact three fun e=>by have:=hall.2 e;cases this
  | true =>
   simp
   exact zero (hall.1 rfl)
 ·simp [c4,c5]
  intro _
  refine loopH_ok (ks := [0,1,2,3,5,7,8,9,10,11,12,14,16,18,20,22,46,47,48,49,60,61,62,63,68,78,83,90,91,92,93,113,114,115,116,128,129,130,131,145,146,147,148,159,160,161,162,178,179,180,181,202]) (pl := []) (n0:=203) (α := {x:KP//x.k≤s.texts.length}) (fun x=>[(10,dB (accT (false) s.texts x.1.k)),(92,dI x.1.k)]) (fun _ _=>Hp.none.set 0 (some ⟨.c 29,8,[(eState s).map .d]⟩)) (fun x=>x.1.nx+1) (fun x=>s.texts.length-x.1.k) ⟨⟨0,nx2⟩,Nat.zero_le _⟩ rfl (by kernel_rfl) (Wk.of_eq (by simp [accT])) ?_
  rintro ⟨⟨k,nx3⟩,hk⟩
  simp only at hk
  dsimp only
  by_cases h3:k<s.texts.length
  ·have hmin:min k s.texts.length=k:=Nat.min_eq_left (by omega)
   cases hb:accT (false) s.texts k with
   | false =>
    simp [h3]
    refine ⟨by omega,fun _ => ?_⟩
    refine loopH_ok (ks := [0,1,2,3,5,7,8,9,10,11,12,14,16,18,20,22,46,47,48,49,60,61,62,63,68,78,83,90,91,92,93,113,114,115,116,128,129,130,131,145,146,147,148,159,160,161,162,178,179,180,181,202]) (pl := []) (n0:=203) (α := {x:KP//x.k≤k}) (fun x=>[(10,dB (accU (false) s.texts k x.1.k)),(115,dI x.1.k)]) (fun _ _=>Hp.none.set 0 (some ⟨.c 29,8,[(eState s).map .d]⟩)) (fun x=>x.1.nx+1) (fun x=>k-x.1.k) ⟨⟨0,nx3⟩,Nat.zero_le _⟩ rfl (by kernel_rfl) (Wk.sub1 (by simp [accU_zero,hmin]) (by simp)) ?_
    rintro ⟨⟨i,nx4⟩,hi⟩
    simp only at hi
    dsimp only
    by_cases h4:i<k
    ·have hs:=accU_next (b:=(false)) (ts:=s.texts) (k:=k) (i:=i)
     have hi2:i<s.texts.length:=by omega
     cases hb:accU (false) s.texts k i with
     | false =>
      rw [hb,Bool.false_and] at hs
      simp [h3,h4,hi2,hmin]
      exact ⟨⟨i+1,nx4⟩,by simp;omega,by simp;omega,Wk.sub1 (by simp only [hs];simp [wrap_add (show i<9223372036854775807 by omega)]) (by simp)⟩
     | true =>
      rw [hb,Bool.true_and,gT_at hi2,gT_at h3] at hs
      simp [h3,h4,hi2,hmin]
      exact ⟨⟨i+1,nx4⟩,by simp;omega,by simp;omega,Wk.sub1 (by simp only [hs];simp [wrap_add (show i<9223372036854775807 by omega)]) (by simp)⟩
    obtain rfl:i=k:=by omega
    have hU:accT (false) s.texts (i+1)=accU (false) s.texts i i:=by rw [accT,hb,Bool.false_and]
    simp [hmin]
    exact ⟨⟨i+1,nx4⟩,by simp;omega,by simp;omega,Wk.sub1 (by simp only [hU];simp [wrap_add (show i<9223372036854775807 by omega)]) (by simp)⟩
   | true =>
    by_cases h19:19≤k
    ·have h19':(19:Int)≤k:=by omega
     simp [h3,h19']
     refine ⟨by omega,fun _ => ?_⟩
     refine loopH_ok (ks := [0,1,2,3,5,7,8,9,10,11,12,14,16,18,20,22,46,47,48,49,60,61,62,63,68,78,83,90,91,92,93,113,114,115,116,128,129,130,131,145,146,147,148,159,160,161,162,178,179,180,181,202]) (pl := []) (n0:=203) (α := {x:KP//x.k≤k}) (fun x=>[(10,dB (accU (true) s.texts k x.1.k)),(115,dI x.1.k)]) (fun _ _=>Hp.none.set 0 (some ⟨.c 29,8,[(eState s).map .d]⟩)) (fun x=>x.1.nx+1) (fun x=>k-x.1.k) ⟨⟨0,nx3⟩,Nat.zero_le _⟩ rfl (by kernel_rfl) (Wk.sub1 (by simp [accU_zero,hmin]) (by simp)) ?_
     rintro ⟨⟨i,nx4⟩,hi⟩
     simp only at hi
     dsimp only
     by_cases h4:i<k
     ·have hs:=accU_next (b:=(true)) (ts:=s.texts) (k:=k) (i:=i)
      have hi2:i<s.texts.length:=by omega
      cases hb:accU (true) s.texts k i with
      | false =>
       rw [hb,Bool.false_and] at hs
       simp [h3,h4,hi2,hmin]
       exact ⟨⟨i+1,nx4⟩,by simp;omega,by simp;omega,Wk.sub1 (by simp only [hs];simp [wrap_add (show i<9223372036854775807 by omega)]) (by simp)⟩
      | true =>
       rw [hb,Bool.true_and,gT_at hi2,gT_at h3] at hs
       simp [h3,h4,hi2,hmin]
       exact ⟨⟨i+1,nx4⟩,by simp;omega,by simp;omega,Wk.sub1 (by simp only [hs];simp [wrap_add (show i<9223372036854775807 by omega)]) (by simp)⟩
     obtain rfl:i=k:=by omega
     have hU:accT (false) s.texts (i+1)=accU (true) s.texts i i:=by rw [accT,hb,Bool.true_and,show wordOk s.texts i=true by simp [wordOk,h19]]
     simp [hmin]
     exact ⟨⟨i+1,nx4⟩,by simp;omega,by simp;omega,Wk.sub1 (by simp only [hU];simp [wrap_add (show i<9223372036854775807 by omega)]) (by simp)⟩
    ·have h19' : ¬ (19:Int)≤k:=by omega
     have hkw:k<wordsT.length:=by have:wordsT.length=19:=rfl;omega
     have hwg:wordsT[k]? = some wordsT[k]:=List.getElem?_eq_getElem hkw
     have hwk:wordOk s.texts k=decide (s.texts[k]=wordsT[k]):=by simp [wordOk,h19,gT_at h3,gT_at hkw]
     simp [h3,h19']
     refine ownWords_ok ?_
     simp [h3,h19',hkw,hwg]
     refine ⟨by omega,fun _ => ?_⟩
     generalize hB:wordOk s.texts k=bw at *
     refine loopH_ok (ks := [0,1,2,3,5,7,8,9,10,11,12,14,16,18,20,22,46,47,48,49,60,61,62,63,68,78,83,90,91,92,93,113,114,115,116,128,129,130,131,145,146,147,148,159,160,161,162,178,179,180,181,202]) (pl := []) (n0:=203) (α := {x:KP//x.k≤k}) (fun x=>[(10,dB (accU (bw) s.texts k x.1.k)),(115,dI x.1.k)]) (fun _ _=>Hp.none.set 0 (some ⟨.c 29,8,[(eState s).map .d]⟩)) (fun x=>x.1.nx+1) (fun x=>k-x.1.k) ⟨⟨0,nx3+1⟩,Nat.zero_le _⟩ rfl (by kernel_rfl) (Wk.sub1 (by simp [accU_zero,hmin,hwk]) (by simp)) ?_
     rintro ⟨⟨i,nx4⟩,hi⟩
     simp only at hi
     dsimp only
     by_cases h4:i<k
     ·have hs:=accU_next (b:=(bw)) (ts:=s.texts) (k:=k) (i:=i)
      have hi2:i<s.texts.length:=by omega
      cases hb:accU (bw) s.texts k i with
      | false =>
       rw [hb,Bool.false_and] at hs
       simp [h3,h4,hi2,hmin]
       exact ⟨⟨i+1,nx4⟩,by simp;omega,by simp;omega,Wk.sub1 (by simp only [hs];simp [wrap_add (show i<9223372036854775807 by omega)]) (by simp)⟩
      | true =>
       rw [hb,Bool.true_and,gT_at hi2,gT_at h3] at hs
       simp [h3,h4,hi2,hmin]
       exact ⟨⟨i+1,nx4⟩,by simp;omega,by simp;omega,Wk.sub1 (by simp only [hs];simp [wrap_add (show i<9223372036854775807 by omega)]) (by simp)⟩
     obtain rfl:i=k:=by omega
     have hU:accT (false) s.texts (i+1)=accU (bw) s.texts i i:=by rw [accT,hb,Bool.true_and,hB]
     simp [hmin]
     exact ⟨⟨i+1,nx4⟩,by simp;omega,by simp;omega,Wk.sub1 (by simp only [hU];simp [wrap_add (show i<9223372036854775807 by omega)]) (by simp)⟩
  obtain rfl:k=s.texts.length:=by omega
  generalize hb3:accT (false) s.texts s.texts.length=b3 at *
  have hT:b3=true↔wordsB wordsT s.texts=true:=by
   rw [← hb3,accT_iff]
   constructor
   ·rintro ⟨h, -⟩;cases h
   ·intro h
    simp [wordsB] at h
    have:=congrArg List.length h.1
    have hw:wordsT.length=19:=rfl
    rw [List.length_take] at this;omega
  clear hb3
  simp
  intro _
  refine loopH_ok (ks := [0,1,2,3,5,7,8,9,10,11,12,14,16,18,20,22,46,47,48,49,60,61,62,63,68,78,83,90,91,92,93,113,114,115,116,128,129,130,131,145,146,147,148,159,160,161,162,178,179,180,181,202]) (pl := []) (n0:=203) (α := {x:KP//x.k≤s.shapes.length}) (fun x=>[(10,dB (accAll b3 s.shapes (fun x=>decide (x.2<(s.texts.length:Int))) x.1.k)),(130,dI x.1.k)]) (fun _ _=>Hp.none.set 0 (some ⟨.c 29,8,[(eState s).map .d]⟩)) (fun x=>x.1.nx+1) (fun x=>s.shapes.length-x.1.k) ⟨⟨0,nx3⟩,Nat.zero_le _⟩ rfl (by kernel_rfl) (Wk.sub1 (by simp [accAll_zero]) (by simp)) ?_
  rintro ⟨⟨k,nx⟩,hk⟩
  simp only at hk
  dsimp only
  by_cases h1:k<s.shapes.length
  ·have hs:=accAll_next (b:=b3) (p:=(fun x=>decide (x.2<(s.texts.length:Int)))) h1
   cases hb:accAll b3 s.shapes (fun x=>decide (x.2<(s.texts.length:Int))) k with
   | false =>
    rw [hb,Bool.false_and] at hs
    simp [h1]
    exact ⟨⟨k+1,nx+1⟩,by simp;omega,by simp;omega,Wk.sub1 (by simp only [hs];simp [wrap_add (show k<9223372036854775807 by omega)]) (by simp)⟩
   | true =>
    rw [hb,Bool.true_and] at hs
    have fin2 : ∀ b:Bool,b=(fun x=>decide (x.2<(s.texts.length:Int))) s.shapes[k]->b=accAll b3 s.shapes (fun x=>decide (x.2<(s.texts.length:Int))) (k+1):=fun b e=>by rw [e,hs]
    simp [h1]
    intro _
    have hs2:=(fin2 (decide (s.shapes[k].2<(s.texts.length:Int))) (rfl)).symm
    exact ⟨⟨k+1,nx+1⟩,by simp;omega,by simp;omega,Wk.sub1 (by simp only [hs2];simp [wrap_add (show k<9223372036854775807 by omega)]) (by simp)⟩
  obtain rfl:k=s.shapes.length:=by omega
  have hb4:=accAll_all (b:=b3) (L:=s.shapes) (p:=fun x=>decide (x.2<(s.texts.length:Int)))
  generalize accAll b3 s.shapes (fun x=>decide (x.2<(s.texts.length:Int))) s.shapes.length=b4 at *
  simp
  intro _
  refine loopH_ok (ks := [0,1,2,3,5,7,8,9,10,11,12,14,16,18,20,22,46,47,48,49,60,61,62,63,68,78,83,90,91,92,93,113,114,115,116,128,129,130,131,145,146,147,148,159,160,161,162,178,179,180,181,202]) (pl := []) (n0:=203) (α := {x:KP//x.k≤s.cells.length}) (fun x=>[(10,dB (accAll b4 s.cells (cellB s) x.1.k)),(147,dI x.1.k)]) (fun _ _=>Hp.none.set 0 (some ⟨.c 29,8,[(eState s).map .d]⟩)) (fun x=>x.1.nx+1) (fun x=>s.cells.length-x.1.k) ⟨⟨0,nx⟩,Nat.zero_le _⟩ rfl (by kernel_rfl) (Wk.sub1 (by simp [accAll_zero]) (by simp)) ?_
  rintro ⟨⟨k,nx⟩,hk⟩
  simp only at hk
  dsimp only
  by_cases h1:k<s.cells.length
  ·have hs:=accAll_next (b:=b4) (p:=(cellB s)) h1
   cases hb:accAll b4 s.cells (cellB s) k with
   | false =>
    rw [hb,Bool.false_and] at hs
    simp [h1]
    exact ⟨⟨k+1,nx+1⟩,by simp;omega,by simp;omega,Wk.sub1 (by simp only [hs];simp [wrap_add (show k<9223372036854775807 by omega)]) (by simp)⟩
   | true =>
    rw [hb,Bool.true_and] at hs
    have fin2 : ∀ b:Bool,b=(cellB s) s.cells[k]->b=accAll b4 s.cells (cellB s) (k+1):=fun b e=>by rw [e,hs]
    simp [h1]
    refine cellRight_ok s c4 s.cells[k] (by have:=hvals _ (List.getElem_mem h1);omega) (hok.2.2 _ (List.getElem_mem h1)).2 ?_
    simp
    have hs2:=(fin2 (cellB s s.cells[k]) (rfl)).symm
    exact ⟨⟨k+1,nx+1⟩,by simp;omega,by simp;omega,Wk.sub1 (by simp only [hs2];simp [wrap_add (show k<9223372036854775807 by omega)]) (by simp)⟩
  obtain rfl:k=s.cells.length:=by omega
  have hb5:=accAll_all (b:=b4) (L:=s.cells) (p:=cellB s)
  generalize accAll b4 s.cells (cellB s) s.cells.length=b5 at *
  simp
  intro _
  refine loopH_ok (ks := [0,1,2,3,5,7,8,9,10,11,12,14,16,18,20,22,46,47,48,49,60,61,62,63,68,78,83,90,91,92,93,113,114,115,116,128,129,130,131,145,146,147,148,159,160,161,162,178,179,180,181,202]) (pl := []) (n0:=203) (α := {x:KP//x.k≤s.said.length}) (fun x=>[(10,dB (accAll b5 s.said (saidB s) x.1.k)),(161,dI x.1.k)]) (fun _ _=>Hp.none.set 0 (some ⟨.c 29,8,[(eState s).map .d]⟩)) (fun x=>x.1.nx+1) (fun x=>s.said.length-x.1.k) ⟨⟨0,nx⟩,Nat.zero_le _⟩ rfl (by kernel_rfl) (Wk.sub1 (by simp [accAll_zero]) (by simp)) ?_
  rintro ⟨⟨k,nx⟩,hk⟩
  simp only at hk
  dsimp only
  by_cases h1:k<s.said.length
  ·have hs:=accAll_next (b:=b5) (p:=(saidB s)) h1
   cases hb:accAll b5 s.said (saidB s) k with
   | false =>
    rw [hb,Bool.false_and] at hs
    simp [h1]
    exact ⟨⟨k+1,nx+1⟩,by simp;omega,by simp;omega,Wk.sub1 (by simp only [hs];simp [wrap_add (show k<9223372036854775807 by omega)]) (by simp)⟩
   | true =>
    rw [hb,Bool.true_and] at hs
    have fin2 : ∀ b:Bool,b=(saidB s) s.said[k]->b=accAll b5 s.said (saidB s) (k+1):=fun b e=>by rw [e,hs]
    simp [h1]
    by_cases e4:s.said[k].kind=4
    ·simp [e4]
     have hv5:s.said[k]=⟨4,s.said[k].n⟩:=by rw [← e4]
     refine fitsIn_ok s ⟨4,s.said[k].n⟩ ?_
     simp
     have hs2:=(fin2 (fitsB s ⟨4,s.said[k].n⟩) (by rw [← hv5];simp [saidB,e4])).symm
     exact ⟨⟨k+1,nx+1⟩,by simp;omega,by simp;omega,Wk.sub1 (by simp only [hs2];simp [wrap_add (show k<9223372036854775807 by omega)]) (by simp)⟩
    ·simp [e4]
     have hs2:=(fin2 (false) (by simp [saidB,e4])).symm
     exact ⟨⟨k+1,nx+1⟩,by simp;omega,by simp;omega,Wk.sub1 (by simp only [hs2];simp [wrap_add (show k<9223372036854775807 by omega)]) (by simp)⟩
  obtain rfl:k=s.said.length:=by omega
  have hb6:=accAll_all (b:=b5) (L:=s.said) (p:=saidB s)
  generalize accAll b5 s.said (saidB s) s.said.length=b6 at *
  simp
  intro _
  refine loopH_ok (ks := [0,1,2,3,5,7,8,9,10,11,12,14,16,18,20,22,46,47,48,49,60,61,62,63,68,78,83,90,91,92,93,113,114,115,116,128,129,130,131,145,146,147,148,159,160,161,162,178,179,180,181,202]) (pl := []) (n0:=203) (α := {x:KP//x.k≤s.ends.length}) (fun x=>[(10,dB (accAll b6 s.ends (endB s) x.1.k)),(180,dI x.1.k)]) (fun _ _=>Hp.none.set 0 (some ⟨.c 29,8,[(eState s).map .d]⟩)) (fun x=>x.1.nx+1) (fun x=>s.ends.length-x.1.k) ⟨⟨0,nx⟩,Nat.zero_le _⟩ rfl (by kernel_rfl) (Wk.sub1 (by simp [accAll_zero]) (by simp)) ?_
  rintro ⟨⟨k,nx⟩,hk⟩
  simp only at hk
  dsimp only
  by_cases h1:k<s.ends.length
  ·have hs:=accAll_next (b:=b6) (p:=(endB s)) h1
   cases hb:accAll b6 s.ends (endB s) k with
   | false =>
    rw [hb,Bool.false_and] at hs
    simp [h1]
    exact ⟨⟨k+1,nx+1⟩,by simp;omega,by simp;omega,Wk.sub1 (by simp only [hs];simp [wrap_add (show k<9223372036854775807 by omega)]) (by simp)⟩
   | true =>
    rw [hb,Bool.true_and] at hs
    have fin2 : ∀ b:Bool,b=(endB s) s.ends[k]->b=accAll b6 s.ends (endB s) (k+1):=fun b e=>by rw [e,hs]
    simp [h1]
    intro _
    rw [show IntKind.i64.wrap ((s.cells.length:Int)-1)=(s.cells.length:Int)-1 from wrap_id (by omega) (by omega)]
    refine between_ok _ _ _ ?_
    cases hb5:btw s.ends[k].cell 0 ((s.cells.length:Int)-1) with
    | false =>
     simp
     have hs2:=(fin2 (false) (by simp [endB,hb5])).symm
     exact ⟨⟨k+1,nx+1⟩,by simp;omega,by simp;omega,Wk.sub1 (by simp only [hs2];simp [wrap_add (show k<9223372036854775807 by omega)]) (by simp)⟩
    | true =>
     simp
     refine kindIn_ok s s.ends[k].fn 4 ?_
     simp
     have hs2:=(fin2 (namesB s s.ends[k].fn 4) (by simp [endB,hb5])).symm
     exact ⟨⟨k+1,nx+1⟩,by simp;omega,by simp;omega,Wk.sub1 (by simp only [hs2];simp [wrap_add (show k<9223372036854775807 by omega)]) (by simp)⟩
  obtain rfl:k=s.ends.length:=by omega
  have hb7:=accAll_all (b:=b6) (L:=s.ends) (p:=endB s)
  generalize accAll b6 s.ends (endB s) s.ends.length=b7 at *
  have hall:b7=true↔(wordsB wordsT s.texts=true∧s.shapes.all (fun x=>decide (x.2<(s.texts.length:Int)))=true∧s.cells.all (cellB s)=true∧s.said.all (saidB s)=true∧s.ends.all (endB s)=true):=by
   rw [hb7,hb6,hb5,hb4]
   simp only [Bool.and_eq_true,hT,and_assoc]
  cases b7 with
  | false =>
   simp
   exact three fun e=>by have:=hall.2 e;cases this
  | true =>
   simp
   exact zero (hall.1 rfl)
end Go.Proofs.YtbphdcffpobcbaaGreatDoor
