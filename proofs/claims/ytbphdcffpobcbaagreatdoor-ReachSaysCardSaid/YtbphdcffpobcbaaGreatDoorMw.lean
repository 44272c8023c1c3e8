/- Several texts in one. -/
import Derived.Test.YtbphdcffpobcbaaGreatDoorMe
import Derived.Test.YtbphdcffpobcbaaGreatDoorMo
import Derived.Test.YtbphdcffpobcbaaGreatDoorMs
set_option linter.unusedSimpArgs false
set_option linter.unusedVariables false
set_option maxRecDepth 100000
set_option maxHeartbeats 16000000
namespace Go.Proofs.YtbphdcffpobcbaaGreatDoor
open Go.RowKit Go
def valsF (f:GFrame):List GVal:=f.self::f.regs++(if 0≤f.gen then [⟨5,f.gen⟩] else [])
def valsC (c:GCell):List GVal:=c.vals++c.frames.flatMap valsF
def valsT (t:GThread):List GVal:=t.frames.flatMap valsF++(t.val::(if t.state=1 then [⟨5,t.on⟩] else []))
def valsS (s:GState):List GVal:=s.threads.flatMap valsT++s.ends.map (·.fn)
inductive Got (s:GState):Nat->Prop
 | root {v:GVal} : v∈valsS s->v.kind=5->Got s v.n.toNat
 | kid {m:Nat} {v:GVal} : Got s m->(cellAt s m).kind≠7->v∈valsC (cellAt s m)->v.kind=5->Got s v.n.toNat
 | key {m k:Nat} : Got s m->(cellAt s m).kind=7->2*k+1<(cellAt s m).vals.length->Got s (valAt (cellAt s m).vals (2*k)).n.toNat->(valAt (cellAt s m).vals (2*k+1)).kind=5->Got s (valAt (cellAt s m).vals (2*k+1)).n.toNat
def In (n:Nat) (v:GVal):Prop:=v.kind=5->0≤v.n∧v.n<n
structure GoodS (s:GState):Prop where
 root : ∀ v∈valsS s,In s.cells.length v
 kid : ∀ m,m<s.cells.length -> ∀ v∈valsC (cellAt s m),In s.cells.length v
 weak : ∀ m,m<s.cells.length->(cellAt s m).kind=7->(cellAt s m).vals.length%2=0 ∧ ∀ k,2*k<(cellAt s m).vals.length->(valAt (cellAt s m).vals (2*k)).kind=5
 vl : ∀ m,m<s.cells.length->(cellAt s m).vals.length≤1000
structure RW where
 seen:List Bool
 todo:List Int
 weak:List Int
def RW.at_ (w:RW) (n:Nat):Bool:=w.seen.getD n false
def RW.un (w:RW):Nat:=w.seen.count false
def comeV (w:RW) (v:GVal):RW:=if v.kind=5∧w.at_ v.n.toNat=false then ⟨w.seen.set v.n.toNat true,w.todo++[v.n],w.weak⟩ else w
def comeL (w:RW) (l:List GVal):RW:=l.foldl comeV w
theorem comeL_nil (w:RW):comeL w []=w:=rfl
theorem comeL_app (w:RW) (a b:List GVal):comeL w (a++b)=comeL (comeL w a) b:=List.foldl_append
theorem comeL_snoc (w:RW) (a:List GVal) (v:GVal):comeL w (a++[v])=comeV (comeL w a) v:=by rw [comeL_app];rfl
theorem comeV_len (w:RW) (v:GVal):(comeV w v).seen.length=w.seen.length:=by unfold comeV;split <;> simp
theorem comeV_weak (w:RW) (v:GVal):(comeV w v).weak=w.weak:=by unfold comeV;split <;> rfl
theorem count_set : ∀ (l:List Bool) (n:Nat),n<l.length->l.getD n false=false->(l.set n true).count false+1=l.count false
 | [],_,h,_=>absurd h (by simp)
 | a::l,0,_,h=>by
  simp at h;subst h;simp
 | a::l,n+1,h,hg=>by
  have:=count_set l n (by simpa using h) (by simpa using hg)
  simp only [List.set_cons_succ,List.count_cons]
  omega
theorem comeV_sum {w:RW} {v:GVal} (h:In w.seen.length v):(comeV w v).todo.length+(comeV w v).un=w.todo.length+w.un:=by
 unfold comeV
 split
 ·rename_i e
  have hb:=h e.1
  have:=count_set w.seen v.n.toNat (by omega) e.2
  simp only [RW.un,List.length_append,List.length_cons,List.length_nil]
  omega
 ·rfl
theorem comeV_at {w:RW} {v:GVal} (h:In w.seen.length v) (n:Nat):(comeV w v).at_ n=true↔w.at_ n=true∨(v.kind=5∧v.n.toNat=n):=by
 unfold comeV
 split
 ·rename_i e
  have hb:=h e.1
  simp only [RW.at_,List.getD_eq_getElem?_getD]
  by_cases q:v.n.toNat=n
  ·subst q
   rw [List.getElem?_set_self (by omega)]
   simp [e.1]
  ·rw [List.getElem?_set_ne q]
   simp [q]
 ·rename_i e
  constructor
  ·exact .inl
  ·rintro (q | ⟨q,rfl⟩)
   ·exact q
   ·cases z:w.at_ v.n.toNat with
    | true=>rfl
    | false=>exact absurd ⟨q,z⟩ e
theorem comeL_len : ∀ (l:List GVal) (w:RW),(comeL w l).seen.length=w.seen.length
 | [],_=>rfl
 | v::l,w=>(comeL_len l (comeV w v)).trans (comeV_len w v)
theorem comeL_weak : ∀ (l:List GVal) (w:RW),(comeL w l).weak=w.weak
 | [],_=>rfl
 | v::l,w=>(comeL_weak l (comeV w v)).trans (comeV_weak w v)
theorem comeL_sum : ∀ (l:List GVal) (w:RW),(∀ v∈l,In w.seen.length v)->(comeL w l).todo.length+(comeL w l).un=w.todo.length+w.un
 | [],_,_=>rfl
 | v::l,w,h=>(comeL_sum l (comeV w v) fun x hx=>by rw [comeV_len];exact h x (List.mem_cons_of_mem _ hx)).trans (comeV_sum (h v List.mem_cons_self))
theorem comeL_at : ∀ (l:List GVal) (w:RW),(∀ v∈l,In w.seen.length v) -> ∀ n,(comeL w l).at_ n=true↔w.at_ n=true ∨ ∃ v∈l,v.kind=5∧v.n.toNat=n
 | [],_,_,n=>by simp [comeL_nil]
 | v::l,w,h,n=>by
  have e:comeL w (v::l)=comeL (comeV w v) l:=rfl
  rw [e,comeL_at l (comeV w v) (fun x hx=>by rw [comeV_len];exact h x (List.mem_cons_of_mem _ hx)) n,comeV_at (h v List.mem_cons_self)]
  simp only [List.mem_cons,exists_eq_or_imp,or_assoc]
theorem comeV_todo (w:RW) (v:GVal) : ∃ a,(comeV w v).todo=w.todo++a ∧ ∀ x∈a,v.kind=5∧v.n=x:=by
 unfold comeV
 split
 ·rename_i e
  exact ⟨[v.n],rfl,by simp [e.1]⟩
 ·exact ⟨[],by simp,by simp⟩
theorem comeL_todo : ∀ (l:List GVal) (w:RW), ∃ a,(comeL w l).todo=w.todo++a ∧ ∀ x∈a, ∃ v∈l,v.kind=5∧v.n=x
 | [],w=>⟨[],by simp [comeL_nil],by simp⟩
 | v::l,w=>by
  obtain ⟨a,e1,e2⟩:=comeV_todo w v
  obtain ⟨b,e3,e4⟩:=comeL_todo l (comeV w v)
  refine ⟨a++b,?_,fun x hx => ?_⟩
  ·have e:comeL w (v::l)=comeL (comeV w v) l:=rfl
   rw [e,e3,e1,List.append_assoc]
  ·rcases List.mem_append.1 hx with hx | hx
   ·exact ⟨v,List.mem_cons_self,e2 x hx⟩
   ·obtain ⟨u,q1,q2⟩:=e4 x hx
    exact ⟨u,List.mem_cons_of_mem _ q1,q2⟩
theorem comeV_new {w:RW} {v:GVal} (h:In w.seen.length v) {n:Nat} (h1:(comeV w v).at_ n=true) (h2:w.at_ n=false):(n:Int)∈(comeV w v).todo:=by
 rcases (comeV_at h n).1 h1 with q | ⟨q,rfl⟩
 ·rw [h2] at q;cases q
 ·have hb:=h q
  unfold comeV
  rw [if_pos ⟨q,h2⟩]
  simp
  omega
theorem comeL_new : ∀ (l:List GVal) (w:RW),(∀ v∈l,In w.seen.length v) -> ∀ n,(comeL w l).at_ n=true->w.at_ n=false->(n:Int)∈(comeL w l).todo
 | [],w,_,n,h1,h2=>by rw [comeL_nil,h2] at h1;cases h1
 | v::l,w,h,n,h1,h2=>by
  have e:comeL w (v::l)=comeL (comeV w v) l:=rfl
  have hi : ∀ x∈l,In (comeV w v).seen.length x:=fun x hx=>by rw [comeV_len];exact h x (List.mem_cons_of_mem _ hx)
  rw [e] at h1 ⊢
  cases z:(comeV w v).at_ n with
  | false=>exact comeL_new l _ hi n h1 z
  | true =>
   obtain ⟨a,e3,_⟩:=comeL_todo l (comeV w v)
   rw [e3]
   exact List.mem_append_left _ (comeV_new (h v List.mem_cons_self) z h2)
structure RI (s:GState) (w:RW):Prop where
 len:w.seen.length=s.cells.length
 rch : ∀ n,w.at_ n=true->Got s n
 todo : ∀ x∈w.todo,0≤x∧w.at_ x.toNat=true
 weak : ∀ x∈w.weak,0≤x∧w.at_ x.toNat=true∧(cellAt s x).kind=7
 done : ∀ n:Nat,w.at_ n=true->(n:Int)∈w.todo∨((cellAt s n).kind=7∧(n:Int)∈w.weak)∨((cellAt s n).kind≠7 ∧ ∀ v∈valsC (cellAt s n),v.kind=5->w.at_ v.n.toNat=true)
 sum:w.weak.length+w.todo.length+w.un≤s.cells.length
theorem RW.at_lt {w:RW} {n:Nat} (h:w.at_ n=true):n<w.seen.length:=by
 simp only [RW.at_,List.getD_eq_getElem?_getD] at h
 by_cases q:n<w.seen.length
 ·exact q
 ·rw [List.getElem?_eq_none (by omega)] at h;simp at h
theorem RI.come {s:GState} {w:RW} (h:RI s w) (l:List GVal) (hl : ∀ v∈l,In s.cells.length v) (hr : ∀ v∈l,v.kind=5->Got s v.n.toNat):RI s (comeL w l):=by
 have hi : ∀ v∈l,In w.seen.length v:=by rw [h.len];exact hl
 have mono : ∀ n,w.at_ n=true->(comeL w l).at_ n=true:=fun n hn=>(comeL_at l w hi n).2 (.inl hn)
 obtain ⟨a,e1,e2⟩:=comeL_todo l w
 refine ⟨(comeL_len l w).trans h.len,fun n hn => ?_,fun x hx => ?_,fun x hx => ?_,fun n hn => ?_,?_⟩
 ·rcases (comeL_at l w hi n).1 hn with q | ⟨v,q1,q2,rfl⟩
  ·exact h.rch n q
  ·exact hr v q1 q2
 ·rw [e1] at hx
  rcases List.mem_append.1 hx with hx | hx
  ·exact ⟨(h.todo x hx).1,mono _ (h.todo x hx).2⟩
  ·obtain ⟨v,q1,q2,q3⟩:=e2 x hx
   subst q3
   exact ⟨(hl v q1 q2).1,(comeL_at l w hi _).2 (.inr ⟨v,q1,q2,rfl⟩)⟩
 ·rw [comeL_weak] at hx
  obtain ⟨q1,q2,q3⟩:=h.weak x hx
  exact ⟨q1,mono _ q2,q3⟩
 ·cases z:w.at_ n with
  | false=>exact .inl (comeL_new l w hi n hn z)
  | true =>
   rcases h.done n z with q | ⟨q1,q2⟩ | ⟨q1,q2⟩
   ·exact .inl (by rw [e1];exact List.mem_append_left _ q)
   ·exact .inr (.inl ⟨q1,by rw [comeL_weak];exact q2⟩)
   ·exact .inr (.inr ⟨q1,fun v hv hk=>mono _ (q2 v hv hk)⟩)
 ·have:=comeL_sum l w hi
  have:=h.sum
  rw [comeL_weak]
  omega
theorem RI.step {s:GState} {w:RW} (hg:GoodS s) (h:RI s w) {a:List Int} {n:Int} (e:w.todo=a++[n]) :
  0≤n∧n<s.cells.length∧((cellAt s n).kind=7->RI s ⟨w.seen,a,w.weak++[n]⟩)∧((cellAt s n).kind≠7->RI s (comeL ⟨w.seen,a,w.weak⟩ (valsC (cellAt s n)))):=by
 obtain ⟨h0,h1⟩:=h.todo n (by rw [e];simp)
 have hlt:n.toNat<s.cells.length:=h.len▸RW.at_lt h1
 have hnn:((n.toNat:Nat):Int)=n:=Int.toNat_of_nonneg h0
 have hsum:=h.sum
 rw [e,List.length_append] at hsum
 simp only [List.length_cons,List.length_nil] at hsum
 refine ⟨h0,by omega,fun hk=>⟨h.len,h.rch,fun x hx=>h.todo x (by rw [e];exact List.mem_append_left _ hx),fun x hx => ?_,fun m hm => ?_,?_⟩,fun hk => ?_⟩
 ·rcases List.mem_append.1 hx with hx | hx
  ·exact h.weak x hx
  ·simp at hx;subst hx;exact ⟨h0,h1,hk⟩
 ·rcases h.done m hm with q | ⟨q1,q2⟩ | q
  ·rw [e] at q
   rcases List.mem_append.1 q with q | q
   ·exact .inl q
   ·simp at q
    exact .inr (.inl ⟨by rw [q];exact hk,by simp [q]⟩)
  ·exact .inr (.inl ⟨q1,List.mem_append_left _ q2⟩)
  ·exact .inr (.inr q)
 ·show (w.weak++[n]).length+a.length+w.un≤_
  simp only [List.length_append,List.length_cons,List.length_nil]
  omega
 ·have hl : ∀ v∈valsC (cellAt s n),In s.cells.length v:=by have:=hg.kid n.toNat hlt;rw [hnn] at this;exact this
  have hi : ∀ v∈valsC (cellAt s n),In (RW.mk w.seen a w.weak).seen.length v:=by rw [show (RW.mk w.seen a w.weak).seen.length=s.cells.length from h.len];exact hl
  have hat : ∀ m,(RW.mk w.seen a w.weak).at_ m=w.at_ m:=fun _=>rfl
  have mono : ∀ m,w.at_ m=true->(comeL ⟨w.seen,a,w.weak⟩ (valsC (cellAt s n))).at_ m=true:=fun m hm=>(comeL_at _ _ hi m).2 (.inl hm)
  obtain ⟨b,e1,e2⟩:=comeL_todo (valsC (cellAt s n)) ⟨w.seen,a,w.weak⟩
  refine ⟨(comeL_len _ _).trans h.len,fun m hm => ?_,fun x hx => ?_,fun x hx => ?_,fun m hm => ?_,?_⟩
  ·rcases (comeL_at _ _ hi m).1 hm with q | ⟨v,q1,q2,rfl⟩
   ·exact h.rch m q
   ·exact Got.kid (h.rch _ h1) (by rw [hnn];exact hk) (by rw [hnn];exact q1) q2
  ·rw [e1] at hx
   rcases List.mem_append.1 hx with hx | hx
   ·have:=h.todo x (by rw [e];exact List.mem_append_left _ hx)
    exact ⟨this.1,mono _ this.2⟩
   ·obtain ⟨v,q1,q2,q3⟩:=e2 x hx
    subst q3
    exact ⟨(hl v q1 q2).1,(comeL_at _ _ hi _).2 (.inr ⟨v,q1,q2,rfl⟩)⟩
  ·rw [comeL_weak] at hx
   obtain ⟨q1,q2,q3⟩:=h.weak x hx
   exact ⟨q1,mono _ q2,q3⟩
  ·cases z:w.at_ m with
   | false=>exact .inl (comeL_new _ _ hi m hm z)
   | true =>
    rcases h.done m z with q | ⟨q1,q2⟩ | ⟨q1,q2⟩
    ·rw [e] at q
     rcases List.mem_append.1 q with q | q
     ·exact .inl (by rw [e1];exact List.mem_append_left _ q)
     ·simp at q
      exact .inr (.inr ⟨by rw [q];exact hk,fun v hv hk2=>(comeL_at _ _ hi _).2 (.inr ⟨v,by rw [← q];exact hv,hk2,rfl⟩)⟩)
    ·exact .inr (.inl ⟨q1,by rw [comeL_weak];exact q2⟩)
    ·exact .inr (.inr ⟨q1,fun v hv hk=>mono _ (q2 v hv hk)⟩)
  ·have:=comeL_sum _ _ hi
   rw [comeL_weak]
   have e3:(RW.mk w.seen a w.weak).todo.length=a.length:=rfl
   have e4:(RW.mk w.seen a w.weak).un=w.un:=rfl
   have e5:(RW.mk w.seen a w.weak).weak=w.weak:=rfl
   rw [e3,e4] at this
   rw [e5]
   omega
def shut (s:GState) (w:RW) (n:Int) (j:Nat):Prop := ∀ k,k<j->2*k+1<(cellAt s n).vals.length->w.at_ (valAt (cellAt s n).vals (2*k)).n.toNat=true->(valAt (cellAt s n).vals (2*k+1)).kind=5->w.at_ (valAt (cellAt s n).vals (2*k+1)).n.toNat=true
theorem RI.all {s:GState} {w:RW} (h:RI s w) (ht:w.todo=[]) (hr : ∀ v∈valsS s,v.kind=5->w.at_ v.n.toNat=true) (hw : ∀ n∈w.weak, ∀ j,shut s w n j) (n:Nat):w.at_ n=true↔Got s n:=by
 refine ⟨h.rch n,fun hn => ?_⟩
 induction hn with
 | root hv hk=>exact hr _ hv hk
 | @kid m v hm h7 hv hk ih =>
  rcases h.done m ih with q | ⟨q1,_⟩ | ⟨_,q2⟩
  ·rw [ht] at q;cases q
  ·exact absurd q1 h7
  ·exact q2 v hv hk
 | @key m k hm h7 hl hk5 hkey ih1 ih2 =>
  rcases h.done m ih1 with q | ⟨_,q2⟩ | ⟨q1,_⟩
  ·rw [ht] at q;cases q
  ·exact hw _ q2 (k+1) k (by omega) hl ih2 hkey
  ·exact absurd h7 q1
section
variable {p:GProg} {s:GState}
theorem fits_in {v:GVal} (h:fitsB s v=true):In s.cells.length v:=fun e5=>by
 simp only [fitsB,Bool.and_eq_true] at h
 have hp:=right_pos h.1 (.inr e5)
 have h2:=h.2
 rw [if_neg (by omega),if_pos e5] at h2
 simp only [Bool.and_eq_true,decide_eq_true_eq] at h2
 exact ⟨hp,h2.1⟩
theorem names_inC {v:GVal} {k:Int} (h:namesB s v k=true):In s.cells.length v:=fun _=>by
 simp only [namesB,Bool.and_eq_true,decide_eq_true_eq] at h
 exact ⟨h.1.1.2,h.1.2⟩
theorem frame_parts {f:GFrame} (h:frameB p s f=true):namesB s f.self 4=true∧f.regs.all (fitsB s)=true:=by
 simp only [frameB,Bool.and_eq_true] at h
 exact ⟨h.1.1.1.1.1.1.1.2,h.2⟩
theorem valsF_in {f:GFrame} (h:frameB p s f=true) (hg:0≤f.gen->f.gen<s.cells.length) : ∀ v∈valsF f,In s.cells.length v:=fun v hv=>by
 obtain ⟨h1,h2⟩:=frame_parts h
 unfold valsF at hv
 rcases List.mem_append.1 hv with hv | hv
 ·rcases List.mem_cons.1 hv with rfl | hv
  ·exact names_inC h1
  ·exact fits_in (List.all_eq_true.1 h2 v hv)
 ·split at hv
  ·rename_i h0
   rw [List.mem_singleton] at hv
   subst hv
   exact fun _=>⟨h0,hg h0⟩
  ·cases hv
theorem cell_right (h:stateQ wordsT p s=0) {c:GCell} (hc:c∈s.cells):cellB s c=true∧heapB p s c=true:=by
 obtain ⟨-, h2, -, h4⟩:=stateQ_iff.1 h
 obtain ⟨-, -, -, -, g5, -⟩:=cellsQ_iff.1 h2
 simp only [stateB,Bool.and_eq_true] at h4
 exact ⟨List.all_eq_true.1 g5 c hc,List.all_eq_true.1 h4.1.1.1.2 c hc⟩
theorem cell_saved (h:stateQ wordsT p s=0) {c:GCell} (hc:c∈s.cells) {f:GFrame} (hf:f∈c.frames):c.kind=5∧savedB p s f=true:=by
 obtain ⟨hb,hh⟩:=cell_right h hc
 simp only [cellB,Bool.and_eq_true,decide_eq_true_eq] at hb
 obtain ⟨⟨⟨-, hl⟩, -⟩, -⟩:=hb
 unfold framesOf at hl
 split at hl
 ·rename_i hk
  unfold heapB at hh
  rw [if_neg (by omega),if_pos hk.1] at hh
  simp only [hk.2,decide_true,Bool.not_true,Bool.false_or] at hh
  obtain ⟨k,hk2,rfl⟩:=List.getElem_of_mem hf
  obtain rfl:k=0:=by omega
  rw [List.getD_eq_getElem?_getD,List.getElem?_eq_getElem hk2] at hh
  exact ⟨hk.1,hh⟩
 ·rw [List.eq_nil_of_length_eq_zero hl] at hf;cases hf
theorem saved_parts {f:GFrame} (h:savedB p s f=true):frameB p s f=true∧f.gen = -1:=by
 simp only [savedB,Bool.and_eq_true,decide_eq_true_eq] at h
 exact ⟨h.1.1.1.1,h.1.1.2⟩
def unp (ps:List (GVal×GVal)):List GVal:=ps.flatMap fun q=>[q.1,q.2]
@[simp] theorem unp_nil:unp []=[]:=rfl
@[simp] theorem unp_cons (q:GVal×GVal) (ps:List (GVal×GVal)):unp (q::ps)=q.1::q.2::unp ps:=rfl
theorem unp_app (a b:List (GVal×GVal)):unp (a++b)=unp a++unp b:=List.flatMap_append
theorem unp_len : ∀ ps:List (GVal×GVal),(unp ps).length=2*ps.length
 | []=>rfl
 | q::ps=>by simp [unp_len ps];omega
theorem unp_at : ∀ (ps:List (GVal×GVal)) (j:Nat),(unp ps)[2*j]? = (ps[j]?).map (·.1)∧(unp ps)[2*j+1]? = (ps[j]?).map (·.2)
 | [],j=>by simp
 | q::ps,0=>by simp
 | q::ps,j+1=>by
  have:=unp_at ps j
  rw [show 2*(j+1)=2*j+1+1 by omega]
  simpa using this
theorem unp_ex : ∀ (n:Nat) (l:List GVal),l.length=2*n -> ∃ ps:List (GVal×GVal),l=unp ps∧ps.length=n
 | 0,l,h=>⟨[],by simpa using h,rfl⟩
 | n+1,[],h=>by simp at h
 | n+1,[_],h=>by simp at h;omega
 | n+1,a::b::l,h=>by
  obtain ⟨ps,rfl,h2⟩:=unp_ex n l (by simp at h;omega)
  exact ⟨(a,b)::ps,rfl,by simp [h2]⟩
theorem unp_val {ps:List (GVal×GVal)} {j:Nat} (h:j<ps.length):valAt (unp ps) (2*j)=ps[j].1∧valAt (unp ps) (2*j+1)=ps[j].2:=by
 unfold valAt
 rw [List.getD_eq_getElem?_getD,List.getD_eq_getElem?_getD,(unp_at ps j).1,(unp_at ps j).2,List.getElem?_eq_getElem h]
 exact ⟨rfl,rfl⟩
theorem unp_mem {ps:List (GVal×GVal)} {v:GVal} : v∈unp ps ↔ ∃ q∈ps,v=q.1∨v=q.2:=by
 simp [unp]
theorem weak_iff {l:List GVal} : weakB l=true ↔ ∃ ps:List (GVal×GVal),l=unp ps∧(∀ q∈ps,q.1.kind=5)∧(ps.map (·.1.n)).Nodup:=by
 constructor
 ·intro h
  simp only [weakB,Bool.and_eq_true,decide_eq_true_eq,List.all_eq_true,List.mem_range] at h
  obtain ⟨ps,rfl,hn⟩:=unp_ex (l.length/2) l (by omega)
  have hk : ∀ j (hj:j<ps.length),ps[j].1.kind=5 ∧ ∀ i (hi:i<j),ps[i].1.n≠ps[j].1.n:=fun j hj=>by
   have:=h.2 j (by rw [unp_len];omega)
   simp only [keyB,Bool.and_eq_true,decide_eq_true_eq,List.all_eq_true,List.mem_range,Bool.not_eq_true',decide_eq_false_iff_not,(unp_val hj).1] at this
   refine ⟨this.1,fun i hi => ?_⟩
   have h2:=this.2 i hi
   rwa [(unp_val (show i<ps.length by omega)).1] at h2
  refine ⟨ps,rfl,fun q hq => ?_,?_⟩
  ·obtain ⟨j,hj,rfl⟩:=List.getElem_of_mem hq
   exact (hk j hj).1
  ·rw [List.nodup_iff_pairwise_ne,List.pairwise_iff_getElem]
   intro i j hi hj hij
   simp only [List.length_map] at hi hj
   rw [List.getElem_map,List.getElem_map]
   exact (hk j hj).2 i hij
 ·rintro ⟨ps,rfl,h1,h2⟩
  simp only [weakB,Bool.and_eq_true,decide_eq_true_eq,List.all_eq_true,List.mem_range]
  refine ⟨by rw [unp_len];omega,fun j hj => ?_⟩
  rw [unp_len] at hj
  have hj':j<ps.length:=by omega
  simp only [keyB,Bool.and_eq_true,decide_eq_true_eq,List.all_eq_true,List.mem_range,Bool.not_eq_true',decide_eq_false_iff_not,(unp_val hj').1]
  refine ⟨h1 _ (List.getElem_mem hj'),fun i hi => ?_⟩
  rw [(unp_val (show i<ps.length by omega)).1]
  rw [List.nodup_iff_pairwise_ne,List.pairwise_iff_getElem] at h2
  have:=h2 i j (by simpa using (show i<ps.length by omega)) (by simpa using hj') hi
  rwa [List.getElem_map,List.getElem_map] at this
theorem kind_weak {c:GCell} (h:kindB s c=true) (hk:c.kind=7):c.num=0∧weakB c.vals=true:=by
 unfold kindB at h
 rw [if_neg (by omega),if_neg (by omega),if_neg (by omega),if_neg (by omega),if_neg (by omega),if_neg (by omega),if_neg (by omega),if_pos hk] at h
 simpa using h
theorem cellB_parts {c:GCell} (h:cellB s c=true):kindB s c=true∧c.frames.length=framesOf c∧c.vals.all (fitsB s)=true∧c.frames.all (frameFits s)=true:=by
 simp only [cellB,Bool.and_eq_true,decide_eq_true_eq] at h
 exact ⟨h.1.1.1,h.1.1.2,h.1.2,h.2⟩
theorem thread_on {t:GThread} (h:threadB p s t=true):fitsB s t.val=true∧(t.state=1->namesB s ⟨5,t.on⟩ 6=true):=by
 simp only [threadB,Bool.and_eq_true] at h
 refine ⟨h.1.1.1.2,fun e => ?_⟩
 have:=h.1.2
 rwa [onB,if_pos e] at this
theorem end_names (h:stateQ wordsT p s=0) {e:GEnd} (he:e∈s.ends):btw e.cell 0 (s.cells.length-1)=true∧namesB s e.fn 4=true:=by
 obtain ⟨-, h2, -, -⟩:=stateQ_iff.1 h
 obtain ⟨-, -, -, -, -, -, g7⟩:=cellsQ_iff.1 h2
 have:=List.all_eq_true.1 g7 e he
 simpa only [endB,Bool.and_eq_true] using this
theorem at_mem {m:Nat} (hm:m<s.cells.length):cellAt s m∈s.cells:=by rw [at_nat hm];exact List.getElem_mem hm
theorem goodS_of (h:stateQ wordsT p s=0):GoodS s:=by
 refine ⟨fun v hv => ?_,fun m hm v hv => ?_,fun m hm hk => ?_,fun m hm => ?_⟩
 ·rcases List.mem_append.1 hv with hv | hv
  ·obtain ⟨t,ht,hv⟩:=List.mem_flatMap.1 hv
   have hT:=(state_thread h ht).1
   rcases List.mem_append.1 hv with hv | hv
   ·obtain ⟨f,hf,hv⟩:=List.mem_flatMap.1 hv
    exact valsF_in (thread_frames h ht hf) (thread_gens h ht hf) v hv
   ·rcases List.mem_cons.1 hv with rfl | hv
    ·exact fits_in (thread_on hT).1
    ·split at hv
     ·rename_i e
      rw [List.mem_singleton] at hv
      subst hv
      exact names_inC ((thread_on hT).2 e)
     ·cases hv
  ·obtain ⟨e,he,rfl⟩:=List.mem_map.1 hv
   exact names_inC (end_names h he).2
 ·have hc:=at_mem (s:=s) hm
  obtain ⟨-, -, h3, -⟩:=cellB_parts (cell_right h hc).1
  rcases List.mem_append.1 hv with hv | hv
  ·exact fits_in (List.all_eq_true.1 h3 v hv)
  ·obtain ⟨f,hf,hv⟩:=List.mem_flatMap.1 hv
   obtain ⟨q1,q2⟩:=saved_parts (cell_saved h hc hf).2
   exact valsF_in q1 (fun h0=>by omega) v hv
 ·obtain ⟨ps,e,h1, -⟩:=weak_iff.1 (kind_weak (cellB_parts (cell_right h (at_mem hm)).1).1 hk).2
  rw [e,unp_len]
  refine ⟨by omega,fun k hk => ?_⟩
  have hk':k<ps.length:=by omega
  rw [(unp_val hk').1]
  exact h1 _ (List.getElem_mem hk')
 ·exact Nat.le_trans (cell_frames h (at_mem hm)).1 (by omega)
end
def keepP (b:List Bool):List GVal->List GVal
 | k::v::l=>if b.getD k.n.toNat false=true then k::v::keepP b l else keepP b l
 | _=>[]
def colC (b:List Bool) (n:Nat) (c:GCell):GCell:=if b.getD n false=true then (if c.kind=7 then ⟨c.kind,c.num,keepP b c.vals,c.frames⟩ else c) else ⟨0,0,[],[]⟩
def colS (b:List Bool) (s:GState):GState:=⟨s.cells.mapIdx (colC b),s.shapes,s.texts,s.threads,s.ends,s.said,s.asked,s.steps⟩
structure SeenB (s:GState) (b:List Bool):Prop where
 len:b.length=s.cells.length
 iff : ∀ n,b.getD n false=true↔Got s n
theorem keepP_unp (b:List Bool) : ∀ ps:List (GVal×GVal),keepP b (unp ps)=unp (ps.filter fun q=>b.getD q.1.n.toNat false)
 | []=>rfl
 | q::ps=>by
  rw [unp_cons,keepP,keepP_unp b ps,List.filter_cons]
  split <;> simp
section
variable {p:GProg} {s:GState} {b:List Bool}
theorem Got.lt (hg:GoodS s) {n:Nat} (h:Got s n):n<s.cells.length:=by
 induction h with
 | root hv hk=>have:=hg.root _ hv hk;omega
 | @kid m v hm h7 hv hk ih=>have:=hg.kid m ih v hv hk;omega
 | @key m k hm h7 hl hk5 hkey ih1 ih2 =>
  have hc:valAt (cellAt s m).vals (2*k+1)∈valsC (cellAt s m):=by
   refine List.mem_append_left _ ?_
   rw [valAt,List.getD_eq_getElem?_getD,List.getElem?_eq_getElem hl]
   exact List.getElem_mem hl
  have:=hg.kid m ih1 _ hc hkey
  omega
theorem SeenB.same (hb:SeenB s b) {c:GCell} {n:Nat} (h:Got s n) (h7:c.kind≠7):colC b n c=c:=by
 rw [colC,if_pos ((hb.iff n).2 h),if_neg h7]
theorem SeenB.weak (hb:SeenB s b) {c:GCell} {n:Nat} (h:Got s n) (h7:c.kind=7):colC b n c=⟨c.kind,c.num,keepP b c.vals,c.frames⟩:=by
 rw [colC,if_pos ((hb.iff n).2 h),if_pos h7]
theorem SeenB.free (hb:SeenB s b) {c:GCell} {n:Nat} (h : ¬ Got s n):colC b n c=⟨0,0,[],[]⟩:=by
 rw [colC,if_neg (fun e=>h ((hb.iff n).1 e))]
theorem good_pairs (hg:GoodS s) {m:Nat} (hm:m<s.cells.length) (h7:(cellAt s m).kind=7) : ∃ ps:List (GVal×GVal),(cellAt s m).vals=unp ps:=by
 obtain ⟨h1, -⟩:=hg.weak m hm h7
 obtain ⟨ps,e, -⟩:=unp_ex ((cellAt s m).vals.length/2) (cellAt s m).vals (by omega)
 exact ⟨ps,e⟩
end
section
variable {p:GProg} {s:GState}
end
structure SameK (s t:GState):Prop where
 texts:t.texts=s.texts
 cl:t.cells.length=s.cells.length
 tl:t.threads.length=s.threads.length
 kind : ∀ n,(cellAt t n).kind=(cellAt s n).kind
 num : ∀ n,(cellAt s n).kind=4∨(cellAt s n).kind=5->(cellAt t n).num=(cellAt s n).num
section
variable {p:GProg} {s t:GState}
end
end Go.Proofs.YtbphdcffpobcbaaGreatDoor
