/- Several texts in one. -/
import Derived.Orders
import Derived.Tactics
import Derived.Below
import Derived.Test.YtbphdcffpobcbaaGreatDoorProg
import Derived.Maps.OwnSet
import Derived.Maps.OwnOps
import Derived.DeepKeys4
import Derived.Lib.LaidTab
import Derived.Lib.Space
import Derived.WalkKit
import Derived.ProofKit
import Derived.Deep.AppendSrc
import Derived.Deep.MidRow
import Derived.Laws.CopyRow
set_option linter.unusedSimpArgs false
set_option linter.unusedVariables false
set_option maxRecDepth 100000
set_option maxHeartbeats 16000000
namespace Go.Proofs.YtbphdcffpobcbaaGreatDoor
section
open Go.RowKit
def dstOf (ops:Array Oper) (i:Nat):Option Tmp:=(ops[i]?).bind (·.dst)
def YV (P:Program) (ops:Array Oper) (o:Oper) (a:Act) (w:World) (x:Value):Prop :=
 (Region.wanted o (yielded ops a.tmps)=true∧((execOp a.eval o).run P w = .ok (.value x) w∨((execOp a.eval o).run P w = .ok .skip w∧x=undef))) ∨
 (Region.wanted o (yielded ops a.tmps)=false∧x=undef)
def slotOf (a:Act) (o:Oper):Value:=match o.dst with | some d=>a.tmps.getD d undef | none=>undef
def pendOk (P:Program) (ops:Array Oper) (a:Act) (w:World):List Nat->Prop
 | []=>True
 | i::l=>(∀ o,ops[i]? = some o->Region.wanted o (yielded ops a.tmps)=true->(execOp a.eval o).run P w = .ok (.value (slotOf a o)) w)∧pendOk P ops a w l
inductive Plan where
 | last
 | seg (i:Nat) (p:Plan)
 | eff (j:Nat) (pend:List Nat) (p:Plan)
 | fork (j:Nat) (pend:List Nat) (p rest:Plan)
def nthOp:List Oper->Nat->Option Oper
 | [],_=>none
 | o::_,0=>some o
 | _::l,n+1=>nthOp l n
theorem nthOp_eq : ∀ (l:List Oper) (i:Nat),nthOp l i=l.toArray[i]?
 | [],i=>by simp [nthOp]
 | o::l,0=>by simp [nthOp]
 | o::l,n+1=>by simp [nthOp,nthOp_eq l n]
def Plan.wp (P:Program) (ops:Array Oper) (Q:Exit->Act->World->Prop):Plan->Act->World->Prop
 | .last,a,w=>Q .normal a w
 | .seg i p,a,w => ∀ o,ops[i]? = some o -> ∀ Q':Exit->Act->World->Prop,(∀ a',Plan.wp P ops Q p a' w->Q' .normal a' w)->wpList P ops Q' [o] a w
 | .eff j pend p,a,w => ∀ o,ops[j]? = some o -> ∀ Q':Exit->Act->World->Prop,(∀ a' w',pendOk P ops a' w' pend->Plan.wp P ops Q p a' w'->Q' .normal a' w')->wpList P ops Q' [o] a w
 | .fork j pend p rest,a,w=>(∀ o,ops[j]? = some o -> ∀ Q':Exit->Act->World->Prop,(∀ a' w',pendOk P ops a' w' pend->Plan.wp P ops Q p a' w'->Q' .normal a' w')->wpList P ops Q' [o] a w)∧Plan.wp P ops Q rest a w
section steps
variable {P:Program} {l:List Oper} {Q:Exit->Act->World->Prop} {a:Act} {w:World}
end steps
def depsIn (D:List Nat) (o:Oper):Bool:=o.after.toList.all fun e => !Region.binds .any e||D.contains e.on
def ancOk (ops:Array Oper) (T:List Nat):Bool:=(List.range ops.size).all fun i=>(List.range ops.size).all fun k =>
 !((T.getD i 0).testBit k)||match ops[i]? with
  | some o=>o.after.toList.any fun e=>Region.binds .any e&&decide (e.on<i)&&(e.on == k||(T.getD e.on 0).testBit k)
  | none=>false
def ancB (T:List Nat) (k i:Nat):Bool:=(T.getD i 0).testBit k
def ownOk (ops:Array Oper):Bool:=(List.range ops.size).all fun i=>(List.range ops.size).all fun k =>
 i == k||match dstOf ops i with
  | some d=>dstOf ops k != some d
  | none=>true
def readsOk (ops:Array Oper) (T:List Nat):Bool:=(List.range ops.size).all fun i=>match ops[i]? with
 | some o=>(o.looksAt ops).all fun t=>(List.range ops.size).all fun k=>k == i||dstOf ops k != some t||ancB T k i||ancB T i k
 | none=>true
def plainOp:Op->Bool
 | .select .. | .defer .. | .go .. => false
 | _=>true
def backOk (ops:Array Oper):Bool:=(List.range ops.size).all fun i=>match ops[i]? with
 | some o=>o.after.toList.all (fun e => !Region.binds .any e||decide (e.on<i))&&plainOp o.op
 | none=>true
def valOp:Op->Bool
 | .move _ | .assign _ | .pick .. | .alloc _ | .box .. | .build .. | .buildSlice .. | .load .. | .store .. | .binOp .. | .unOp .. | .convert .. | .makeInterface .. | .makeFunc .. | .makeMap .. | .makeSlice .. | .slice ..
 | .fieldAddr .. | .field .. | .indexAddr .. | .index .. | .lookup .. | .extract .. | .nilCheck .. => true
 | .call { callee := .builtin b,.. } => match b with | .len | .cap | .min | .max=>true | _=>false
 | _=>false
def freeOp:Op->Bool
 | .move _ | .assign _ | .pick .. | .extract .. => true
 | _=>false
def pendNeeds (ops:Array Oper) (T:List Nat) (D E:List Nat) (j:Nat) (pend:List Nat):Bool :=
 D.all fun i=>E.contains i||ancB T i j||(E.any fun e=>ancB T i e)||match ops[i]? with
  | some o=>freeOp o.op||(pend.contains i&&(o.looksAt ops).all fun t=>(List.range ops.size).all fun k=>dstOf ops k != some t||ancB T k i)
  | none=>false
def effOk (ops:Array Oper) (T:List Nat) (D E:List Nat) (j:Nat) (pend:List Nat):Bool :=
 !D.contains j&&(match ops[j]? with | some o=>depsIn D o | none=>false)&&pendNeeds ops T D E j pend
def Plan.ok (ops:Array Oper) (T:List Nat):List Nat->List Nat->List Nat->Plan->Bool
 | D,_,alts,.last=>alts.isEmpty&&(List.range ops.size).all (D.contains ·)
 | D,E,alts,.seg i p=>alts.isEmpty && !D.contains i&&(match ops[i]? with | some o=>depsIn D o&&valOp o.op&&o.dst.isSome | none=>false)&&Plan.ok ops T (i::D) E [] p
 | D,E,alts,.eff j pend p=>effOk ops T D E j pend&&((List.range ops.size).all fun i=>i == j||D.contains i||alts.contains i||(List.range ops.size).any fun k => !D.contains k&&ancB T k i)&&Plan.ok ops T (j::D) (j::E) [] p
 | D,E,alts,.fork j pend p rest=>effOk ops T D E j pend&&Plan.ok ops T (j::D) (j::E) [] p&&(match rest with | .eff .. | .fork .. => true | _=>false)&&Plan.ok ops T D E (j::alts) rest
def planOk (l:List Oper) (T:List Nat) (p:Plan):Bool :=
 ancOk l.toArray T&&ownOk l.toArray&&readsOk l.toArray T&&backOk l.toArray&&Plan.ok l.toArray T [] [] [] p
section sound
variable {P:Program} {ops:Array Oper} {Q:Exit->Act->World->Prop}
structure Rep (ops:Array Oper) (a0:Act) (v:Nat->Value) (D:Nat->Prop) (a:Act):Prop where
 size:a.tmps.size=a0.tmps.size
 hit : ∀ i d,D i->dstOf ops i=some d->a.tmps[d]? = if d<a0.tmps.size then some (v i) else none
 miss : ∀ t,(∀ i,D i->dstOf ops i≠some t)->a.tmps[t]? = a0.tmps[t]?
def Own (ops:Array Oper):Prop := ∀ i k d,i<ops.size->k<ops.size->i≠k->dstOf ops i=some d->dstOf ops k≠some d
theorem dst_lt {i:Nat} {d:Tmp} (h:dstOf ops i=some d):i<ops.size:=by
 unfold dstOf at h
 rcases Nat.lt_or_ge i ops.size with h' | h'
 ·exact h'
 ·simp [Array.getElem?_eq_none h'] at h
theorem Rep.put {a0:Act} {v:Nat->Value} {D:Nat->Prop} {a:Act} (hr:Rep ops a0 v D a) (ho:Own ops) {i:Nat} (hi : ¬ D i) (x:Value) (v':Nat->Value) (hv:v' i=x)
  (hv' : ∀ k,D k->v' k=v k):Rep ops a0 v' (fun k=>k=i∨D k) (a.put (dstOf ops i) x):=by
 cases hd:dstOf ops i with
 | none =>
  refine ⟨hr.size,?_,?_⟩
  ·rintro k d (rfl | hk) hkd
   ·rw [hd] at hkd;cases hkd
   ·show a.tmps[d]? = _
    rw [hr.hit k d hk hkd,hv' k hk]
  ·intro t ht
   exact hr.miss t (fun k hk=>ht k (.inr hk))
 | some e =>
  refine ⟨by simp [Act.put,hr.size],?_,?_⟩
  ·rintro k d (rfl | hk) hkd
   ·rw [hd] at hkd;cases hkd
    show (a.tmps.setIfInBounds e x)[e]? = _
    rw [Array.getElem?_setIfInBounds]
    simp [hr.size,hv]
   ·have hne:e≠d:=by
     intro he
     subst he
     by_cases hki:k=i
     ·exact hi (hki▸hk)
     ·exact ho i k e (dst_lt hd) (dst_lt hkd) (fun h=>hki h.symm) hd hkd
    show (a.tmps.setIfInBounds e x)[d]? = _
    rw [Array.getElem?_setIfInBounds_ne hne,hr.hit k d hk hkd,hv' k hk]
  ·intro t ht
   have hne:e≠t:=fun he=>ht i (.inl rfl) (he▸hd)
   show (a.tmps.setIfInBounds e x)[t]? = _
   rw [Array.getElem?_setIfInBounds_ne hne]
   exact hr.miss t (fun k hk=>ht k (.inr hk))
theorem Rep.agree {a0:Act} {v:Nat->Value} {D D':Nat->Prop} {a a':Act} (h:Rep ops a0 v D a) (h':Rep ops a0 v D' a') {t:Tmp}
  (hk : ∀ k,dstOf ops k=some t->(D k↔D' k)):a.tmps[t]? = a'.tmps[t]? := by
 by_cases hx : ∃ k,D k∧dstOf ops k=some t
 ·obtain ⟨k,hD,hd⟩:=hx
  rw [h.hit k t hD hd,h'.hit k t ((hk k hd).1 hD) hd]
 ·rw [h.miss t (fun i hi hd=>hx ⟨i,hi,hd⟩),h'.miss t (fun i hi hd=>hx ⟨i,(hk i hd).2 hi,hd⟩)]
theorem Rep.mono_v {a0:Act} {v v':Nat->Value} {D:Nat->Prop} {a:Act} (h:Rep ops a0 v D a) (hv : ∀ k,D k->v' k=v k):Rep ops a0 v' D a :=
 ⟨h.size,fun i d hi hd=>by rw [h.hit i d hi hd,hv i hi],h.miss⟩
theorem Rep.iff {a0:Act} {v:Nat->Value} {D D':Nat->Prop} {a:Act} (h:Rep ops a0 v D a) (hD : ∀ k,D k↔D' k):Rep ops a0 v D' a:=by
 have:D=D':=funext fun k=>propext (hD k)
 exact this▸h
theorem looks_same {o:Oper} (hs : ∀ cs b,o.op ≠ .select cs b) {a a':Act} (h : ∀ t∈o.looksAt ops,a.tmps[t]? = a'.tmps[t]?) :
  execOp a.eval o=execOp a'.eval o∧Region.wanted o (yielded ops a.tmps)=Region.wanted o (yielded ops a'.tmps):=by
 constructor
 ·refine execOp_congr o hs fun x hx => ?_
  cases x with
  | tmp t =>
   have:=h t (List.mem_append_left _ (List.mem_filterMap.2 ⟨.tmp t,by simpa using hx,rfl⟩))
   simp only [Act.eval,Array.getD_eq_getD_getElem?, this]
  | _=>rfl
 ·unfold Region.wanted
  cases hg:o.guard with
  | none=>rfl
  | some gw =>
   obtain ⟨g,want⟩:=gw
   have hy:yielded ops a.tmps g=yielded ops a'.tmps g:=by
    unfold yielded
    cases ht:(ops[g]?).bind (·.dst) with
    | none=>rfl
    | some t =>
     have:=h t (List.mem_append_right _ (by simp [hg,ht]))
     simp only [Option.bind_some,this]
   simp only [hy]
theorem free_run {o:Oper} (hf:freeOp o.op=true) {ρ:Operand->Value} {w w':World} {x:Value} (h:(execOp ρ o).run P w = .ok (.value x) w) :
  (execOp ρ o).run P w' = .ok (.value x) w':=by
 obtain ⟨dst,op,type,pos,after,guard⟩:=o
 cases op <;> simp only [freeOp,Bool.false_eq_true] at hf
 case move y=>simp only [execOp,Sem.run_pure,Result.ok.injEq,Next.value.injEq] at h ⊢; exact ⟨h.1,trivial⟩
 case assign y=>simp only [execOp,Sem.run_pure,Result.ok.injEq,Next.value.injEq] at h ⊢; exact ⟨h.1,trivial⟩
 case pick c y z =>
  simp only [execOp] at h ⊢
  cases hc:ρ c <;> simp [hc,asBool,stuck] at h ⊢
  exact h
 case extract y k =>
  simp only [execOp,Instr.extract] at h ⊢
  cases hy:ρ y <;> simp [hy,stuck] at h ⊢
  rename_i vs
  cases hk:vs[k]? <;> simp [hk] at h ⊢
  exact h
theorem bind_back {α β:Type} {m:Sem α} {k:α->Sem β} {w w':World} {n:β} {Q:Prop} (hk : ∀ a w1,(k a).run P w1 = .ok n w'->Q) (h:(m >>= k).run P w = .ok n w'):Q:=by
 rw [Sem.run_bind] at h
 cases hr:m.run P w with
 | ok x w1=>rw [hr] at h;exact hk _ _ h
 | halt x w1=>rw [hr] at h;simp at h
theorem val_run {o : Oper} (hv : valOp o.op = true) {ρ : Operand → Value} {w w' : World} {n : Next} (h : (execOp ρ o).run P w = .ok n w') :
    (∃ x, n = .value x) ∨ n = .skip := by
  have key : ∀ (s : Sem Value) (n : Next), Sem.run P (do let x ← s; Pure.pure (Next.value x)) w = .ok n w' → (∃ x, n = .value x) ∨ n = .skip := by
    intro s n hs
    simp only [Sem.run_bind, Sem.run_pure] at hs
    cases hr : s.run P w with
    | ok x w1 => rw [hr] at hs; simp at hs; exact .inl ⟨x, hs.1.symm⟩
    | halt x w1 => rw [hr] at hs; simp at hs
  have keyu : ∀ (s : Sem Unit) (n : Next), Sem.run P (do s; Pure.pure Next.skip) w = .ok n w' → (∃ x, n = .value x) ∨ n = .skip := by
    intro s n hs
    simp only [Sem.run_bind, Sem.run_pure] at hs
    cases hr : s.run P w with
    | ok x w1 => rw [hr] at hs; simp at hs; exact .inr hs.1.symm
    | halt x w1 => rw [hr] at hs; simp at hs
  obtain ⟨dst, op, type, pos, after, guard⟩ := o
  cases op <;> simp only [valOp, Bool.false_eq_true] at hv
  case call c =>
    obtain ⟨callee, args, argTypes⟩ := c
    cases callee <;> simp at hv
    rename_i b
    simp only [execOp, resolve, pure_bind, invoke] at h
    cases b <;> simp at hv <;> (simp only [builtin] at h; exact key _ _ h)
  case move => simp only [execOp, Sem.run_pure, Result.ok.injEq] at h; exact .inl ⟨_, h.1.symm⟩
  case assign => simp only [execOp, Sem.run_pure, Result.ok.injEq] at h; exact .inl ⟨_, h.1.symm⟩
  case pick c y z =>
    simp only [execOp, Sem.run_bind, Sem.run_pure] at h
    cases hr : Sem.run P (asBool (ρ c)) w with
    | ok x w1 => rw [hr] at h; simp at h; exact .inl ⟨_, h.1.symm⟩
    | halt x w1 => rw [hr] at h; simp at h
  case nilCheck x =>
    simp only [execOp] at h
    repeat' split at h
    all_goals first
      | (simp only [Sem.run_pure, Result.ok.injEq] at h; exact .inl ⟨_, h.1.symm⟩)
      | (simp [runtimePanic] at h; done)
      | (refine bind_back (fun _ _ h => ?_) h
         refine bind_back (fun _ _ h => ?_) h
         split at h
         · refine bind_back (fun _ _ h => ?_) h
           simp only [Sem.run_pure, Result.ok.injEq] at h; exact .inl ⟨_, h.1.symm⟩
         · simp only [Sem.run_pure, Result.ok.injEq] at h; exact .inl ⟨_, h.1.symm⟩)
  all_goals (simp only [execOp] at h; first | exact key _ _ h | exact keyu _ _ h)
theorem anc_mem {T:List Nat} (hT:ancOk ops T=true) (S:Nat->Prop) (hS : ∀ i o,S i->ops[i]? = some o -> ∀ e∈o.after,Region.binds .any e=true->S e.on) :
  ∀ (i:Nat) (o:Oper),ops[i]? = some o->(∀ e∈o.after,Region.binds .any e=true->S e.on) -> ∀ k,k<ops.size->ancB T k i=true->S k:=by
 intro i
 induction i using Nat.strongRecOn with
 | _ i ih =>
  intro o ho hd k hk ha
  have hi:i<ops.size:=(Array.getElem?_eq_some_iff.1 ho).1
  unfold ancOk at hT
  rw [List.all_eq_true] at hT
  have h1:=hT i (List.mem_range.2 hi)
  rw [List.all_eq_true] at h1
  have h2:=h1 k (List.mem_range.2 hk)
  unfold ancB at ha
  simp only [ha,Bool.not_true,ho,Bool.false_or,List.any_eq_true,Bool.and_eq_true,decide_eq_true_eq,Bool.or_eq_true,beq_iff_eq] at h2
  obtain ⟨e,he,⟨hb,hlt⟩,h3⟩:=h2
  have he':e∈o.after:=Array.mem_toList_iff.1 he
  have hSe:=hd e he' hb
  rcases h3 with rfl | h3
  ·exact hSe
  ·have hes:e.on<ops.size:=by omega
   exact ih e.on hlt ops[e.on] (Array.getElem?_eq_getElem hes) (hS e.on _ hSe (Array.getElem?_eq_getElem hes)) k hk h3
theorem countP_lt (p q:Nat->Bool) : ∀ (l:List Nat),(∀ x∈l,p x=true->q x=true)->(∃ x∈l,q x=true∧p x=false)->l.countP p<l.countP q
 | [],_,⟨_,h,_⟩=>(List.not_mem_nil h).elim
 | y::l,h,⟨x,hx,hq,hp⟩=>by
  have hle:l.countP p≤l.countP q:=List.countP_mono_left (fun z hz=>h z (List.mem_cons_of_mem _ hz))
  simp only [List.countP_cons]
  rcases List.mem_cons.1 hx with rfl | hx'
  ·simp [hq,hp];omega
  ·have:=countP_lt p q l (fun z hz=>h z (List.mem_cons_of_mem _ hz)) ⟨x,hx',hq,hp⟩
   have hy:=h y (List.mem_cons_self ..)
   cases hpy:p y <;> cases hqy:q y <;> simp_all <;> omega
def unl (n:Nat) (S:Array Bool):Nat:=(List.range n).countP fun i => !S.getD i false
theorem unl_set {n:Nat} {S:Array Bool} {i:Nat} (hn:S.size=n) (hi:i<n) (hS:S.getD i false=false):unl n (S.setIfInBounds i true)<unl n S:=by
 unfold unl
 refine countP_lt _ _ _ ?_ ⟨i,List.mem_range.2 hi,by simp [hS],?_⟩
 ·intro x hx h
  by_cases hxi:i=x
  ·subst hxi
   simp [hS]
  ·rw [getD_set_ne false hxi] at h
   exact h
 ·have hi':i<S.size:=hn▸hi
  simp [hi']
theorem unl_zero {n:Nat} {S:Array Bool} (h:unl n S=0) {i:Nat} (hi:i<n):S.getD i false=true:=by
 unfold unl at h
 rw [List.countP_eq_zero] at h
 simpa using h i (List.mem_range.2 hi)
def Alt:Plan->Nat->List Nat->Plan->Prop
 | .eff j pend p,i,q,r=>i=j∧q=pend∧r=p
 | .fork j pend p rest,i,q,r=>(i=j∧q=pend∧r=p)∨Alt rest i q r
 | _,_,_,_=>False
theorem alt_wp {a:Act} {w:World} : ∀ {p:Plan} {j:Nat} {pend:List Nat} {r:Plan}, Plan.wp P ops Q p a w->Alt p j pend r ->
  ∀ o,ops[j]? = some o -> ∀ Q':Exit->Act->World->Prop,(∀ a' w',pendOk P ops a' w' pend->Plan.wp P ops Q r a' w'->Q' .normal a' w')->wpList P ops Q' [o] a w
 | .last,_,_,_,_,h2=>h2.elim
 | .seg _ _,_,_,_,_,h2=>h2.elim
 | .eff _ _ _,_,_,_,h1,⟨e1,e2,e3⟩=>by subst e1 e2 e3;exact h1
 | .fork _ _ _ rest,_,_,_,h1,h2=>by
  rcases h2 with ⟨e1,e2,e3⟩ | h2
  ·subst e1 e2 e3;exact h1.1
  ·exact alt_wp h1.2 h2
theorem alt_ok {T D E:List Nat} : ∀ {p:Plan} {alts:List Nat} {j:Nat} {pend:List Nat} {r:Plan}, Plan.ok ops T D E alts p=true->Alt p j pend r ->
  effOk ops T D E j pend=true∧Plan.ok ops T (j::D) (j::E) [] r=true
 | .last,_,_,_,_,_,h2=>h2.elim
 | .seg _ _,_,_,_,_,_,h2=>h2.elim
 | .eff _ _ _,_,_,_,_,h1,⟨e1,e2,e3⟩=>by
  subst e1 e2 e3
  simp only [Plan.ok,Bool.and_eq_true] at h1
  exact ⟨h1.1.1,h1.2⟩
 | .fork _ _ _ rest,_,_,_,_,h1,h2=>by
  simp only [Plan.ok,Bool.and_eq_true] at h1
  rcases h2 with ⟨e1,e2,e3⟩ | h2
  ·subst e1 e2 e3;exact ⟨h1.1.1.1,h1.1.1.2⟩
  ·exact alt_ok h1.2 h2
theorem alt_all {T D E:List Nat} : ∀ {p:Plan} {alts:List Nat}, Plan.ok ops T D E alts p=true->(∀ i q,p ≠ .seg i q) ->
  ∀ i,i<ops.size->i ∉ D->i∈alts∨(∃ pend r,Alt p i pend r) ∨ ∃ k,k<ops.size∧k ∉ D∧ancB T k i=true
 | .last,alts,h1,_,i,hi,hD=>by
  simp only [Plan.ok,Bool.and_eq_true,List.all_eq_true,List.mem_range,List.contains_iff_mem] at h1
  exact absurd (h1.2 i hi) hD
 | .seg i q,_,_,h2,_,_,_=>absurd rfl (h2 i q)
 | .eff j pend p,alts,h1,_,i,hi,hD=>by
  simp only [Plan.ok,Bool.and_eq_true,List.all_eq_true,List.mem_range,Bool.or_eq_true,beq_iff_eq,List.contains_iff_mem,List.any_eq_true,Bool.not_eq_true', ← Bool.not_eq_true] at h1
  rcases h1.1.2 i hi with ((rfl | h) | h) | ⟨k,hk,h3,h4⟩
  ·exact .inr (.inl ⟨pend,p,rfl,rfl,rfl⟩)
  ·exact absurd h hD
  ·exact .inl h
  ·exact .inr (.inr ⟨k,hk,by simpa using h3,h4⟩)
 | .fork j pend p rest,alts,h1,_,i,hi,hD=>by
  simp only [Plan.ok,Bool.and_eq_true] at h1
  have hrest : ∀ i q,rest ≠ .seg i q:=by
   intro i q e
   subst e
   simp at h1
  rcases alt_all h1.2 hrest i hi hD with h | ⟨pend',r,h⟩ | h
  ·rcases List.mem_cons.1 h with rfl | h
   ·exact .inr (.inl ⟨pend,p,.inl ⟨rfl,rfl,rfl⟩⟩)
   ·exact .inl h
  ·exact .inr (.inl ⟨pend',r,.inr h⟩)
  ·exact .inr (.inr h)
def Waits (P:Program) (ops:Array Oper) (a0:Act) (v:Nat->Value) (D:List Nat) (i:Nat) (w:World):Prop :=
 ∃ (o:Oper) (snap:Act) (Di:Nat->Prop),ops[i]? = some o∧Rep ops a0 v Di snap∧(∀ k,Di k->k∈D) ∧
  (∀ k o',Di k->ops[k]? = some o' -> ∀ e∈o'.after,Region.binds .any e=true->Di e.on) ∧ ¬ Di i∧(∀ e∈o.after,Region.binds .any e=true->Di e.on)∧YV P ops o snap w (v i)
structure Inv (P:Program) (ops:Array Oper) (a0:Act) (v:Nat->Value) (S:Array Bool) (D E:List Nat) (aL a':Act) (w:World):Prop where
 size:S.size=ops.size
 sub : ∀ i,S.getD i false=true->i∈D
 effs : ∀ i∈E,S.getD i false=true
 clS : ∀ i o,S.getD i false=true->ops[i]? = some o -> ∀ e∈o.after,Region.binds .any e=true->S.getD e.on false=true
 clD : ∀ i o,i∈D->ops[i]? = some o -> ∀ e∈o.after,Region.binds .any e=true->e.on∈D
 inb : ∀ i∈D,i<ops.size
 repL:Rep ops a0 v (· ∈ D) aL
 repS:Rep ops a0 v (fun i=>S.getD i false=true) a'
 defs:a'.defers=aL.defers
 pend : ∀ i∈D,S.getD i false=false->Waits P ops a0 v D i w
def OnlyN (K:Act->World->Prop):Exit->Act->World->Prop
 | .normal,a,w=>K a w
 | _,_,_=>False
theorem onlyN_lets {K:Act->World->Prop} (h:LetsOut (OnlyN K)):False:=by
 obtain ⟨a,w,h⟩:=h
 exact h
theorem ite_off {S:Array Bool} {i:Nat} (h:S.getD i false≠true):S.getD i false=false:=by
 cases hh:S.getD i false
 ·rfl
 ·exact absurd hh h
theorem set_iff {S:Array Bool} {i k:Nat} (hi:i<S.size):(S.setIfInBounds i true).getD k false=true↔k=i∨S.getD k false=true:=by
 by_cases hki:i=k
 ·subst hki
  simp [hi]
 ·rw [getD_set_ne false hki]
  exact ⟨.inr,fun h=>h.resolve_left (fun e=>hki e.symm)⟩
theorem seg_step {o:Oper} {p:Plan} {a:Act} {w:World} (hv:valOp o.op=true)
  (h : ∀ Q':Exit->Act->World->Prop,(∀ a',Plan.wp P ops Q p a' w->Q' .normal a' w)->wpList P ops Q' [o] a w) :
  ∃ x,YV P ops o a w x∧Plan.wp P ops Q p (a.put o.dst x) w:=by
 have h1:=h (OnlyN fun a' w'=>w'=w∧Plan.wp P ops Q p a' w') (fun a' hp=>⟨rfl,hp⟩)
 unfold wpList at h1
 split at h1
 ·rename_i hw
  rcases h1 with h1 | ⟨_,h1⟩
  ·unfold Oper.wp at h1
   generalize hr:(execOp a.eval o).run P w=r at h1
   cases r with
   | ok n w1 =>
    rcases val_run hv hr with ⟨x,rfl⟩ | rfl
    ·obtain ⟨rfl,h2⟩:=(h1:w1=w∧Plan.wp P ops Q p (a.put o.dst x) w1)
     exact ⟨x,.inl ⟨hw,.inl hr⟩,h2⟩
    ·obtain ⟨rfl,h2⟩:=(h1:w1=w∧Plan.wp P ops Q p (a.put o.dst undef) w1)
     exact ⟨undef,.inl ⟨hw,.inr ⟨hr,rfl⟩⟩,h2⟩
   | halt x w1=>cases x <;> exact (h1:False).elim
  ·exact (onlyN_lets h1).elim
 ·rename_i hw
  obtain ⟨_,h2⟩:=(h1:w=w∧Plan.wp P ops Q p (a.put o.dst undef) w)
  exact ⟨undef,.inr ⟨by simpa using hw,rfl⟩,h2⟩
theorem free_noskip {o:Oper} (hf:freeOp o.op=true) {ρ:Operand->Value} {w:World} (h:(execOp ρ o).run P w = .ok .skip w):False:=by
 obtain ⟨dst,op,type,pos,after,guard⟩:=o
 cases op <;> simp only [freeOp,Bool.false_eq_true] at hf
 case move y=>simp [execOp] at h
 case assign y=>simp [execOp] at h
 case pick c y z =>
  simp only [execOp] at h
  cases hc:ρ c <;> simp [hc,asBool,stuck] at h
 case extract y k =>
  simp only [execOp,Instr.extract] at h
  cases hy:ρ y <;> simp [hy,stuck] at h
  rename_i vs
  cases hk:vs[k]? <;> simp [hk] at h
theorem reads_spec {T:List Nat} (h:readsOk ops T=true) {i:Nat} {o:Oper} (ho:ops[i]? = some o) {t:Tmp} (ht:t∈o.looksAt ops) {k:Nat} (hk:dstOf ops k=some t) :
  k=i∨ancB T k i=true∨ancB T i k=true:=by
 unfold readsOk at h
 rw [List.all_eq_true] at h
 have h1:=h i (List.mem_range.2 (Array.getElem?_eq_some_iff.1 ho).1)
 simp only [ho,List.all_eq_true,List.mem_range] at h1
 have h2:=h1 t ht k (dst_lt hk)
 simp only [Bool.or_eq_true,beq_iff_eq,bne_iff_ne,ne_eq,hk,not_true,or_false] at h2
 rcases h2 with (h2 | h2) | h2
 ·exact .inl h2
 ·exact .inr (.inl h2)
 ·exact .inr (.inr h2)
theorem agree_at {T:List Nat} {a0:Act} {v:Nat->Value} (hT:ancOk ops T=true) (hR:readsOk ops T=true) {A B:Nat->Prop} {a b:Act} (ha:Rep ops a0 v A a) (hb:Rep ops a0 v B b)
  (cA : ∀ k o',A k->ops[k]? = some o' -> ∀ e∈o'.after,Region.binds .any e=true->A e.on)
  (cB : ∀ k o',B k->ops[k]? = some o' -> ∀ e∈o'.after,Region.binds .any e=true->B e.on)
  {i:Nat} {o:Oper} (ho:ops[i]? = some o) (nA : ¬ A i) (nB : ¬ B i)
  (dA : ∀ e∈o.after,Region.binds .any e=true->A e.on) (dB : ∀ e∈o.after,Region.binds .any e=true->B e.on) :
  ∀ t∈o.looksAt ops,a.tmps[t]? = b.tmps[t]? := by
 intro t ht
 refine ha.agree hb (fun k hk => ?_)
 have hi:=(Array.getElem?_eq_some_iff.1 ho).1
 have hkl:=dst_lt hk
 rcases reads_spec hR ho ht hk with rfl | h | h
 ·exact ⟨fun h=>absurd h nA,fun h=>absurd h nB⟩
 ·exact ⟨fun _=>anc_mem hT B cB i o ho dB k hkl h,fun _=>anc_mem hT A cA i o ho dA k hkl h⟩
 ·have ho':ops[k]? = some ops[k]:=Array.getElem?_eq_getElem hkl
  exact ⟨fun hA=>absurd (anc_mem hT A cA k _ ho' (cA k _ hA ho') i hi h) nA,fun hB=>absurd (anc_mem hT B cB k _ ho' (cB k _ hB ho') i hi h) nB⟩
theorem YV.wpOp {i:Nat} {o:Oper} {x:Value} {a:Act} {w:World} (hi:ops[i]? = some o) (hy:YV P ops o a w x) {K:Act->World->Prop} (h:K (a.put o.dst x) w):wpOp P ops Q i K a w:=by
 unfold Go.wpOp
 simp only [hi]
 rcases hy with ⟨hw,hv | ⟨hv,rfl⟩⟩ | ⟨hw,rfl⟩
 ·simp only [hw,if_true,Oper.wp,hv,Oper.upon];exact .inl h
 ·simp only [hw,if_true,Oper.wp,hv,Oper.upon];exact .inl h
 ·simp only [hw,Bool.false_eq_true,if_false];exact h
theorem YV.same {o:Oper} {x:Value} {a b:Act} {w:World} (hs : ∀ cs b,o.op ≠ .select cs b) (h : ∀ t∈o.looksAt ops,a.tmps[t]? = b.tmps[t]?) (hy:YV P ops o a w x):YV P ops o b w x:=by
 obtain ⟨h1,h2⟩:=looks_same hs h
 unfold YV at *
 rw [← h1, ← h2]
 exact hy
theorem plain_noselect {o:Oper} (h:plainOp o.op=true) : ∀ cs b,o.op ≠ .select cs b:=by
 intro cs b e
 rw [e] at h
 cases h
structure Fit (ops:Array Oper) (T:List Nat):Prop where
 anc:ancOk ops T=true
 own:Own ops
 reads:readsOk ops T=true
 back : ∀ i o,ops[i]? = some o->(∀ e∈o.after,Region.binds .any e=true->e.on<i)∧plainOp o.op=true
theorem fit_of {T:List Nat} (h1:ancOk ops T=true) (h2:ownOk ops=true) (h3:readsOk ops T=true) (h4:backOk ops=true):Fit ops T:=by
 refine ⟨h1,?_,h3,?_⟩
 ·intro i k d hi hk hik hd
  unfold ownOk at h2
  rw [List.all_eq_true] at h2
  have h5:=h2 i (List.mem_range.2 hi)
  rw [List.all_eq_true] at h5
  have h6:=h5 k (List.mem_range.2 hk)
  simpa [hd,hik] using h6
 ·intro i o ho
  unfold backOk at h4
  rw [List.all_eq_true] at h4
  have h5:=h4 i (List.mem_range.2 (Array.getElem?_eq_some_iff.1 ho).1)
  simp only [ho,Bool.and_eq_true,List.all_eq_true,Bool.or_eq_true,Bool.not_eq_true',decide_eq_true_eq] at h5
  refine ⟨fun e he hb => ?_,h5.2⟩
  rcases h5.1 e (Array.mem_toList_iff.2 he) with h | h
  ·rw [hb] at h;cases h
  ·exact h
theorem all_of_ready {T:List Nat} (hF:Fit ops T) {S:Array Bool} (hn:S.size=ops.size) (hr:Region.ready .any ops S=[]) : ∀ i,i<ops.size->S.getD i false=true:=by
 intro i
 induction i using Nat.strongRecOn with
 | _ i ih =>
  intro hi
  apply Classical.byContradiction
  intro hS
  have ho:ops[i]? = some ops[i]:=Array.getElem?_eq_getElem hi
  have:i∈Region.ready .any ops S:=by
   rw [mem_ready]
   refine ⟨?_,_,ho,fun e he hb => ?_⟩
   ·have hi':i<S.size:=hn▸hi
    have:=ite_off hS
    simpa [hi'] using this
   ·have hlt:=(hF.back i _ ho).1 e he hb
    exact ih e.on hlt (by omega)
  rw [hr] at this
  cases this
theorem Inv.done {a0:Act} {v:Nat->Value} {S:Array Bool} {D E:List Nat} {aL a':Act} {w:World} (h:Inv P ops a0 v S D E aL a' w) (hall : ∀ i,i<ops.size->S.getD i false=true):a'=aL:=by
 have hsets : ∀ k,S.getD k false=true↔k∈D:=fun k=>⟨h.sub k,fun hk=>hall k (h.inb k hk)⟩
 have ht:a'.tmps=aL.tmps:=by
  apply Array.ext_getElem?
  intro t
  exact h.repS.agree h.repL (fun k _=>hsets k)
 cases a'
 cases aL
 simp only at ht
 have:=h.defs
 simp only at this
 rw [ht,this]
theorem last_of_all {a0:Act} {v:Nat->Value} {S:Array Bool} {D E:List Nat} {aL a':Act} {w:World} {T:List Nat} {p:Plan} (h:Inv P ops a0 v S D E aL a' w)
  (hall : ∀ i,i<ops.size->S.getD i false=true) (hp:Plan.ok ops T D E [] p=true) (hns : ∀ i q,p ≠ .seg i q) (hwp:Plan.wp P ops Q p aL w):Q .normal a' w:=by
 have bad : ∀ j pend,effOk ops T D E j pend=true->False:=by
  intro j pend he
  unfold effOk at he
  simp only [Bool.and_eq_true,Bool.not_eq_true', ← Bool.not_eq_true,List.contains_iff_mem] at he
  cases ho:ops[j]? with
  | none=>simp [ho] at he
  | some o =>
   have hj:=(Array.getElem?_eq_some_iff.1 ho).1
   exact he.1.1 (h.sub j (hall j hj))
 cases p with
 | last=>rw [h.done hall];exact hwp
 | seg i q=>exact absurd rfl (hns i q)
 | eff j pend q =>
  simp only [Plan.ok,Bool.and_eq_true] at hp
  exact (bad _ _ hp.1.1).elim
 | fork j pend q r =>
  simp only [Plan.ok,Bool.and_eq_true] at hp
  exact (bad _ _ hp.1.1.1).elim
theorem Waits.mono {a0:Act} {v v':Nat->Value} {D D':List Nat} {i:Nat} {w:World} (h:Waits P ops a0 v D i w) (hD : ∀ k∈D,k∈D') (hi:v' i=v i) (hv : ∀ k∈D,v' k=v k):Waits P ops a0 v' D' i w:=by
 obtain ⟨o,snap,Di,h1,h2,h3,h4,h5,h6,h7⟩:=h
 exact ⟨o,snap,Di,h1,h2.mono_v (fun k hk=>hv k (h3 k hk)),fun k hk=>hD k (h3 k hk),h4,h5,h6,by rw [hi];exact h7⟩
end sound
section main
variable {P:Program} {ops:Array Oper} {Q:Exit->Act->World->Prop}
def upd (v:Nat->Value) (i:Nat) (x:Value):Nat->Value:=fun k=>if k=i then x else v k
theorem upd_self (v:Nat->Value) (i:Nat) (x:Value):upd v i x i=x:=by simp [upd]
theorem upd_ne (v:Nat->Value) {i k:Nat} (x:Value) (h:k≠i):upd v i x k=v k:=by simp [upd,h]
theorem ready_parts {S:Array Bool} (hn:S.size=ops.size) {i:Nat} (hi:i∈Region.ready .any ops S) :
  i<ops.size∧S.getD i false=false ∧ ∃ o,ops[i]? = some o ∧ ∀ e∈o.after,Region.binds .any e=true->S.getD e.on false=true:=by
 rw [mem_ready] at hi
 obtain ⟨h0,o,ho,hd⟩:=hi
 have hlt:=(Array.getElem?_eq_some_iff.1 ho).1
 refine ⟨hlt,?_,o,ho,hd⟩
 have hi':i<S.size:=hn▸hlt
 simpa [hi'] using h0
theorem inv_seg {a0:Act} {v:Nat->Value} {S:Array Bool} {D E:List Nat} {aL a':Act} {w:World} {T:List Nat} (hF:Fit ops T) (h:Inv P ops a0 v S D E aL a' w) {i:Nat} {o:Oper}
  (ho:ops[i]? = some o) (hiD:i ∉ D) (hd : ∀ e∈o.after,Region.binds .any e=true->e.on∈D) {x:Value} (hy:YV P ops o aL w x) :
  Inv P ops a0 (upd v i x) S (i::D) E (aL.put o.dst x) a' w:=by
 have hlt:=(Array.getElem?_eq_some_iff.1 ho).1
 have hdst:dstOf ops i=o.dst:=by simp [dstOf,ho]
 have hne : ∀ k∈D,k≠i:=fun k hk e=>hiD (e▸hk)
 have hv : ∀ k∈D,upd v i x k=v k:=fun k hk=>upd_ne v x (hne k hk)
 refine ⟨h.size,fun k hk=>List.mem_cons_of_mem _ (h.sub k hk),h.effs,h.clS,?_,?_,?_,?_,?_,?_⟩
 ·intro k o' hk ho' e he hb
  rcases List.mem_cons.1 hk with rfl | hk
  ·rw [ho] at ho';cases ho'
   exact List.mem_cons_of_mem _ (hd e he hb)
  ·exact List.mem_cons_of_mem _ (h.clD k o' hk ho' e he hb)
 ·intro k hk
  rcases List.mem_cons.1 hk with rfl | hk
  ·exact hlt
  ·exact h.inb k hk
 ·have:=h.repL.put hF.own hiD x (upd v i x) (upd_self v i x) hv
  rw [hdst] at this
  exact this.iff (fun k=>by simp [List.mem_cons])
 ·exact h.repS.mono_v (fun k hk=>hv k (h.sub k hk))
 ·rw [h.defs]
  cases o.dst <;> rfl
 ·intro k hk hS
  rcases List.mem_cons.1 hk with rfl | hk
  ·exact ⟨o,aL,(· ∈ D),ho,h.repL.mono_v hv,fun k hk=>List.mem_cons_of_mem _ hk,h.clD,hiD,hd,by rw [upd_self];exact hy⟩
  ·exact (h.pend k hk hS).mono (fun k hk=>List.mem_cons_of_mem _ hk) (hv k hk) hv
theorem inv_read {a0:Act} {v:Nat->Value} {S:Array Bool} {D E:List Nat} {aL a':Act} {w:World} {T:List Nat} (hF:Fit ops T) (h:Inv P ops a0 v S D E aL a' w) {i:Nat} {o:Oper}
  (ho:ops[i]? = some o) (hiD:i∈D) (hS:S.getD i false=false) (hd : ∀ e∈o.after,Region.binds .any e=true->S.getD e.on false=true) :
  YV P ops o a' w (v i)∧Inv P ops a0 v (S.setIfInBounds i true) D E aL (a'.put o.dst (v i)) w:=by
 have hlt:=(Array.getElem?_eq_some_iff.1 ho).1
 have hdst:dstOf ops i=o.dst:=by simp [dstOf,ho]
 have hiS:i<S.size:=by rw [h.size];exact hlt
 have nS : ¬ S.getD i false=true:=by rw [hS];simp
 constructor
 ·obtain ⟨o',snap,Di,h1,h2,h3,h4,h5,h6,h7⟩:=h.pend i hiD hS
  rw [ho] at h1;cases h1
  exact h7.same (plain_noselect (hF.back i o ho).2) (agree_at hF.anc hF.reads h2 h.repS h4 h.clS ho h5 nS h6 hd)
 ·refine ⟨by simp [h.size],?_,?_,?_,h.clD,h.inb,h.repL,?_,?_,?_⟩
  ·intro k hk
   rcases (set_iff hiS).1 hk with rfl | hk
   ·exact hiD
   ·exact h.sub k hk
  ·intro k hk
   exact (set_iff hiS).2 (.inr (h.effs k hk))
  ·intro k o' hk ho' e he hb
   rcases (set_iff hiS).1 hk with rfl | hk
   ·rw [ho] at ho';cases ho'
    exact (set_iff hiS).2 (.inr (hd e he hb))
   ·exact (set_iff hiS).2 (.inr (h.clS k o' hk ho' e he hb))
  ·have:=h.repS.put hF.own nS (v i) v rfl (fun _ _=>rfl)
   rw [hdst] at this
   exact this.iff (fun k=>(set_iff hiS).symm)
  ·rw [← h.defs]
   cases o.dst <;> rfl
  ·intro k hk hkS
   have hk':S.getD k false=false:=by
    apply ite_off
    intro hh
    rw [(set_iff hiS).2 (.inr hh)] at hkS
    cases hkS
   exact h.pend k hk hk'
theorem inv_act {a0:Act} {v:Nat->Value} {S:Array Bool} {D E:List Nat} {aL a':Act} {w w1:World} {T:List Nat} (hF:Fit ops T) (hsz : ∀ i d,dstOf ops i=some d->d<a0.tmps.size)
  (h:Inv P ops a0 v S D E aL a' w) {i:Nat} {o:Oper} {pend:List Nat}
  (ho:ops[i]? = some o) (hS:S.getD i false=false) (hd : ∀ e∈o.after,Region.binds .any e=true->S.getD e.on false=true) (he:effOk ops T D E i pend=true)
  {x:Value} {aL1 a1:Act} (hL:aL1.tmps=(aL.put o.dst x).tmps) (h1:a1.tmps=(a'.put o.dst x).tmps) (hdf:a1.defers=aL1.defers) (hp:pendOk P ops aL1 w1 pend) (hval : ∀ k o',k∈D->k ∉ E->ops[k]? = some o'->o'.dst.isSome=true) :
  Inv P ops a0 (upd v i x) (S.setIfInBounds i true) (i::D) (i::E) aL1 a1 w1:=by
 have hlt:=(Array.getElem?_eq_some_iff.1 ho).1
 have hdst:dstOf ops i=o.dst:=by simp [dstOf,ho]
 have hiS:i<S.size:=by rw [h.size];exact hlt
 have nS : ¬ S.getD i false=true:=by rw [hS];simp
 unfold effOk at he
 simp only [Bool.and_eq_true,Bool.not_eq_true', ← Bool.not_eq_true,List.contains_iff_mem] at he
 obtain ⟨⟨hiD,hdep⟩,hpn⟩:=he
 have hdD : ∀ e∈o.after,Region.binds .any e=true->e.on∈D:=fun e he' hb=>h.sub _ (hd e he' hb)
 have hne : ∀ k∈D,k≠i:=fun k hk e=>hiD (e▸hk)
 have hv : ∀ k∈D,upd v i x k=v k:=fun k hk=>upd_ne v x (hne k hk)
 have repL1:Rep ops a0 (upd v i x) (· ∈ i::D) aL1:=by
  have:=h.repL.put hF.own hiD x (upd v i x) (upd_self v i x) hv
  rw [hdst] at this
  have this:=this.iff (D':=(· ∈ i::D)) (fun k=>by simp [List.mem_cons])
  exact ⟨by rw [hL];exact this.size,fun k d a b=>by rw [hL];exact this.hit k d a b,fun t a=>by rw [hL];exact this.miss t a⟩
 have clD1 : ∀ k o',k∈i::D->ops[k]? = some o' -> ∀ e∈o'.after,Region.binds .any e=true->e.on∈i::D:=by
  intro k o' hk ho' e he hb
  rcases List.mem_cons.1 hk with rfl | hk
  ·rw [ho] at ho';cases ho'
   exact List.mem_cons_of_mem _ (hdD e he hb)
  ·exact List.mem_cons_of_mem _ (h.clD k o' hk ho' e he hb)
 refine ⟨by simp [h.size],?_,?_,?_,clD1,?_,repL1,?_,hdf,?_⟩
 ·intro k hk
  rcases (set_iff hiS).1 hk with rfl | hk
  ·exact List.mem_cons_self ..
  ·exact List.mem_cons_of_mem _ (h.sub k hk)
 ·intro k hk
  rcases List.mem_cons.1 hk with rfl | hk
  ·exact (set_iff hiS).2 (.inl rfl)
  ·exact (set_iff hiS).2 (.inr (h.effs k hk))
 ·intro k o' hk ho' e he hb
  rcases (set_iff hiS).1 hk with rfl | hk
  ·rw [ho] at ho';cases ho'
   exact (set_iff hiS).2 (.inr (hd e he hb))
  ·exact (set_iff hiS).2 (.inr (h.clS k o' hk ho' e he hb))
 ·intro k hk
  rcases List.mem_cons.1 hk with rfl | hk
  ·exact hlt
  ·exact h.inb k hk
 ·have:=h.repS.put hF.own nS x (upd v i x) (upd_self v i x) (fun k hk=>hv k (h.sub k hk))
  rw [hdst] at this
  have this:=this.iff (D':=fun k=>(S.setIfInBounds i true).getD k false=true) (fun k=>(set_iff hiS).symm)
  exact ⟨by rw [h1];exact this.size,fun k d a b=>by rw [h1];exact this.hit k d a b,fun t a=>by rw [h1];exact this.miss t a⟩
 ·intro k hk hkS
  have hki:k≠i:=fun e=>by
   rw [(set_iff hiS).2 (.inl e)] at hkS
   cases hkS
  have hkD:k∈D:=(List.mem_cons.1 hk).resolve_left hki
  have hkS':S.getD k false=false:=by
   apply ite_off
   intro hh
   rw [(set_iff hiS).2 (.inr hh)] at hkS
   cases hkS
  have hkE:k ∉ E:=fun hh=>by
   have:=h.effs k hh
   rw [hkS'] at this
   cases this
  obtain ⟨ok,snap,Di,g1,g2,g3,g4,g5,g6,g7⟩:=h.pend k hkD hkS'
  refine ⟨ok,snap,Di,g1,g2.mono_v (fun m hm=>hv m (g3 m hm)),fun m hm=>List.mem_cons_of_mem _ (g3 m hm),g4,g5,g6,?_⟩
  rw [hv k hkD]
  have hkl:=(Array.getElem?_eq_some_iff.1 g1).1
  unfold pendNeeds at hpn
  rw [List.all_eq_true] at hpn
  have hpk:=hpn k hkD
  simp only [g1,Bool.or_eq_true,List.any_eq_true,List.contains_iff_mem,Bool.and_eq_true,List.all_eq_true,List.mem_range,bne_iff_ne,ne_eq] at hpk
  rcases g7 with ⟨hw,hr⟩ | hn
  ·refine .inl ⟨hw,?_⟩
   rcases hpk with ((hpk | hpk) | hpk) | hpk
   ·exact absurd hpk hkE
   ·have:=anc_mem hF.anc (fun m=>S.getD m false=true) h.clS i o ho hd k hkl hpk
    rw [hkS'] at this
    cases this
   ·obtain ⟨e,he,hpk⟩:=hpk
    have hse:=h.effs e he
    have hlt':e<ops.size:=by
     rw [← h.size]
     by_cases hh:e<S.size
     ·exact hh
     ·simp [Array.getD_eq_getD_getElem?, Array.getElem?_eq_none (Nat.le_of_not_lt hh)] at hse
    have:=anc_mem hF.anc (fun m=>S.getD m false=true) h.clS e ops[e] (Array.getElem?_eq_getElem hlt') (h.clS e _ hse (Array.getElem?_eq_getElem hlt')) k hkl hpk
    rw [hkS'] at this
    cases this
   ·rcases hpk with hfr | ⟨hin,hwr⟩
    ·rcases hr with hr | ⟨hr,_⟩
     ·exact .inl (free_run hfr hr)
     ·exact (free_noskip hfr hr).elim
    ·have hag : ∀ t∈ok.looksAt ops,snap.tmps[t]? = aL1.tmps[t]? := by
      intro t ht
      refine (g2.mono_v (v':=upd v i x) (fun m hm=>hv m (g3 m hm))).agree repL1 (fun m hm => ?_)
      have hml:=dst_lt hm
      have hanc:=(hwr t ht m hml).resolve_left (fun hh=>hh hm)
      exact ⟨fun hh=>List.mem_cons_of_mem _ (g3 m hh),fun _=>anc_mem hF.anc Di g4 k ok g1 g6 m hml hanc⟩
     obtain ⟨s1,s2⟩:=looks_same (plain_noselect (hF.back k ok g1).2) hag
     have hpo : ∀ (pl:List Nat),k∈pl->pendOk P ops aL1 w1 pl->Region.wanted ok (yielded ops aL1.tmps)=true->(execOp aL1.eval ok).run P w1 = .ok (.value (slotOf aL1 ok)) w1:=by
      intro pl
      induction pl with
      | nil=>intro hh;cases hh
      | cons m pl ih =>
       intro hh hpo hwa
       rcases List.mem_cons.1 hh with rfl | hh
       ·exact hpo.1 ok g1 hwa
       ·exact ih hh hpo.2 hwa
     have hrun:=hpo pend hin hp (by rw [← s2];exact hw)
     have hsl:slotOf aL1 ok=v k:=by
      have hsome:=hval k ok hkD hkE g1
      cases hod:ok.dst with
      | none=>simp [hod] at hsome
      | some d =>
       have hdk:dstOf ops k=some d:=by simp [dstOf,g1,hod]
       have:=repL1.hit k d hk hdk
       rw [if_pos (hsz k d hdk),upd_ne v x hki] at this
       simp [slotOf,hod,this]
     rw [hsl, ← s1] at hrun
     exact .inl hrun
  ·exact .inr hn
theorem plan_step {a0:Act} {T:List Nat} (hF:Fit ops T) (hsz : ∀ i d,dstOf ops i=some d->d<a0.tmps.size) {fuel:Nat}
  (ihf : ∀ (p:Plan) (v:Nat->Value) (S:Array Bool) (D E:List Nat) (aL a':Act) (w:World),Inv P ops a0 v S D E aL a' w ->
   (∀ k o',k∈D->k ∉ E->ops[k]? = some o'->o'.dst.isSome=true) ->
   unl ops.size S≤fuel->Plan.ok ops T D E [] p=true->Plan.wp P ops Q p aL w->wpAny P .any ops Q fuel S a' w)
  {p:Plan} {v:Nat->Value} {S:Array Bool} {D E:List Nat} {aL a':Act} {w:World} (hns : ∀ i q,p ≠ .seg i q) (hI:Inv P ops a0 v S D E aL a' w)
  (hval : ∀ k o',k∈D->k ∉ E->ops[k]? = some o'->o'.dst.isSome=true) (hu:unl ops.size S≤fuel+1) (hok:Plan.ok ops T D E [] p=true) (hwp:Plan.wp P ops Q p aL w) :
  wpAny P .any ops Q (fuel+1) S a' w:=by
 refine ⟨fun hr=>last_of_all hI (all_of_ready hF hI.size hr) hok hns hwp,fun i hi => ?_⟩
 obtain ⟨hlt,hS,o,ho,hd⟩:=ready_parts hI.size hi
 have hu':unl ops.size (S.setIfInBounds i true)≤fuel:=by
  have:=unl_set hI.size hlt hS
  omega
 by_cases hiD:i∈D
 ·obtain ⟨hy,hI'⟩:=inv_read hF hI ho hiD hS hd
  exact hy.wpOp ho (ihf p v _ D E aL _ w hI' hval hu' hok hwp)
 ·rcases alt_all hok hns i hlt hiD with h | ⟨pend,r,hA⟩ | ⟨k,hk,hkD,hanc⟩
  ·cases h
  ·obtain ⟨hef,hok'⟩:=alt_ok hok hA
   have hdD : ∀ e∈o.after,Region.binds .any e=true->e.on∈D:=fun e he hb=>hI.sub _ (hd e he hb)
   have nS : ¬ S.getD i false=true:=by rw [hS];simp
   have hag:=agree_at hF.anc hF.reads hI.repL hI.repS hI.clD hI.clS ho hiD nS hdD hd
   obtain ⟨s1,s2⟩:=looks_same (plain_noselect (hF.back i o ho).2) hag
   have h1:=alt_wp hwp hA o ho (OnlyN fun a1 w1=>pendOk P ops a1 w1 pend∧Plan.wp P ops Q r a1 w1) (fun _ _ hp hw=>⟨hp,hw⟩)
   have hval' : ∀ k o',k∈i::D->k ∉ i::E->ops[k]? = some o'->o'.dst.isSome=true:=by
    intro k o' hk hkE ho'
    have hki:k≠i:=fun e=>hkE (e▸List.mem_cons_self ..)
    exact hval k o' ((List.mem_cons.1 hk).resolve_left hki) (fun hh=>hkE (List.mem_cons_of_mem _ hh)) ho'
   have fin : ∀ (x:Value) (w1:World) (aL1 a1:Act),aL1.tmps=(aL.put o.dst x).tmps->a1.tmps=(a'.put o.dst x).tmps->a1.defers=aL1.defers ->
     (pendOk P ops aL1 w1 pend∧Plan.wp P ops Q r aL1 w1)->wpAny P .any ops Q fuel (S.setIfInBounds i true) a1 w1:=by
    intro x w1 aL1 a1 e1 e2 e3 hq
    exact ihf r (upd v i x) _ (i::D) (i::E) aL1 a1 w1 (inv_act hF hsz hI ho hS hd hef e1 e2 e3 hq.1 hval) hval' hu' hok' hq.2
   have hdefs : ∀ (x:Value),(a'.put o.dst x).defers=(aL.put o.dst x).defers:=by
    intro x
    cases o.dst <;> exact hI.defs
   unfold wpList at h1
   unfold wpOp
   simp only [ho]
   rw [← s2]
   split
   ·rename_i hw
    rw [if_pos hw] at h1
    refine .inl ?_
    rcases h1 with h1 | ⟨_,h1⟩
    ·unfold Oper.wp at *
     rw [← s1]
     generalize (execOp aL.eval o).run P w=res at *
     cases res with
     | ok n w1 =>
      cases n with
      | value x=>exact fin x w1 _ _ rfl rfl (hdefs x) h1
      | skip=>exact fin undef w1 _ _ rfl rfl (hdefs undef) h1
      | defer d =>
       refine fin undef w1 _ _ ?_ ?_ ?_ h1
       ·cases o.dst <;> rfl
       ·cases o.dst <;> rfl
       ·have:=hI.defs
        cases o.dst <;> simp [Act.put,this]
      | enter f args =>
       refine Calls.mono h1 fun e w2 he => ?_
       cases e with
       | returned x=>exact fin x w2 _ _ rfl rfl (hdefs x) he
       | panicked c=>exact (he:False).elim
       | outgrown=>exact (onlyN_lets he).elim
      | row row args=>exact Rows.mono h1 fun x w2 he=>fin x w2 _ _ rfl rfl (hdefs x) he
      | _=>exact (h1:False).elim
     | halt y w1=>cases y <;> exact (h1:False).elim
    ·exact (onlyN_lets h1).elim
   ·rename_i hw
    rw [if_neg hw] at h1
    exact fin undef w _ _ rfl rfl (hdefs undef) h1
  ·exact absurd (hI.sub k (anc_mem hF.anc (fun m=>S.getD m false=true) hI.clS i o ho hd k hk hanc)) hkD
theorem plan_sound {a0:Act} {T:List Nat} (hF:Fit ops T) (hsz : ∀ i d,dstOf ops i=some d->d<a0.tmps.size) :
  ∀ (fuel:Nat) (p:Plan) (v:Nat->Value) (S:Array Bool) (D E:List Nat) (aL a':Act) (w:World),Inv P ops a0 v S D E aL a' w ->
   (∀ k o',k∈D->k ∉ E->ops[k]? = some o'->o'.dst.isSome=true) ->
   unl ops.size S≤fuel->Plan.ok ops T D E [] p=true->Plan.wp P ops Q p aL w->wpAny P .any ops Q fuel S a' w:=by
 intro fuel
 induction fuel with
 | zero =>
  intro p
  induction p with
  | seg i p ih =>
   intro v S D E aL a' w hI hval hu hok hwp
   simp only [Plan.ok,Bool.and_eq_true,Bool.not_eq_true', ← Bool.not_eq_true,List.contains_iff_mem] at hok
   cases ho:ops[i]? with
   | none=>simp [ho] at hok
   | some o =>
    simp only [ho,Bool.and_eq_true] at hok
    exact absurd (hI.sub i (unl_zero (by omega) (Array.getElem?_eq_some_iff.1 ho).1)) hok.1.1.2
  | _ =>
   intro v S D E aL a' w hI hval hu hok hwp
   have hall : ∀ i,i<ops.size->S.getD i false=true:=fun i hi=>unl_zero (by omega) hi
   refine ⟨?_,last_of_all hI hall hok (by intro i q e;cases e) hwp⟩
   cases hr:Region.ready .any ops S with
   | nil=>rfl
   | cons i l =>
    have:=ready_parts hI.size (i:=i) (by rw [hr];exact List.mem_cons_self ..)
    rw [hall i this.1] at this
    exact absurd this.2.1 (by simp)
 | succ fuel ihf =>
  intro p
  induction p with
  | seg i p ih =>
   intro v S D E aL a' w hI hval hu hok hwp
   simp only [Plan.ok,Bool.and_eq_true,Bool.not_eq_true', ← Bool.not_eq_true,List.contains_iff_mem] at hok
   cases ho:ops[i]? with
   | none=>simp [ho] at hok
   | some o =>
    simp only [ho,Bool.and_eq_true] at hok
    obtain ⟨x,hy,hwp'⟩:=seg_step hok.1.2.1.2 (hwp o ho)
    have hd : ∀ e∈o.after,Region.binds .any e=true->e.on∈D:=by
     intro e he hb
     have:=hok.1.2.1.1
     unfold depsIn at this
     rw [List.all_eq_true] at this
     have:=this e (Array.mem_toList_iff.2 he)
     simpa [hb] using this
    refine ih _ S (i::D) E _ a' w (inv_seg hF hI ho hok.1.1.2 hd hy) ?_ hu hok.2 hwp'
    intro k o' hk hkE ho'
    rcases List.mem_cons.1 hk with rfl | hk
    ·rw [ho] at ho';cases ho'
     exact hok.1.2.2
    ·exact hval k o' hk hkE ho'
  | _ =>
   intro v S D E aL a' w hI hval hu hok hwp
   exact plan_step hF hsz ihf (by intro i q e;cases e) hI hval hu hok hwp
theorem wp_region_plan {id:Nat} {l:List Oper} {a:Act} {w:World} (T:List Nat) (p:Plan) (hm:P.follows .mixedOrders=true) (hok:planOk l T p=true)
  (hsz:(l.all fun o=>match o.dst with | some d=>decide (d<a.tmps.size) | none=>true)=true) (h:Plan.wp P l.toArray Q p a w.drew):(Code.region id l.toArray true).wp P Q a w:=by
 unfold planOk at hok
 simp only [Bool.and_eq_true] at hok
 have hF:=fit_of hok.1.1.1.1 hok.1.1.1.2 hok.1.1.2 hok.1.2
 refine wp_region_any hm ?_
 have hrep : ∀ D:Nat->Prop,(∀ k, ¬ D k)->Rep l.toArray a (fun _=>undef) D a:=fun D hD=>⟨rfl,fun i d hi=>absurd hi (hD i),fun _ _=>rfl⟩
 have hno : ∀ k, ¬ (Array.replicate l.toArray.size false).getD k false=true:=by
  intro k
  simp only [Array.getD_eq_getD_getElem?]
  rcases Nat.lt_or_ge k l.toArray.size with hk | hk
  ·simp [Array.getElem?_replicate]
   split <;> simp
  ·simp [Array.getElem?_replicate]
   split <;> simp
 refine plan_sound (a0:=a) hF ?_ l.toArray.size p (fun _=>undef) _ [] [] a a _ ⟨by simp,fun i hi=>absurd hi (hno i),fun _ h=>(List.not_mem_nil h).elim,fun i _ hi=>absurd hi (hno i),fun _ _ h=>(List.not_mem_nil h).elim,fun _ h=>(List.not_mem_nil h).elim,hrep _ (fun _ h=>(List.not_mem_nil h).elim),hrep _ hno,rfl,fun _ h=>(List.not_mem_nil h).elim⟩ (fun _ _ h=>(List.not_mem_nil h).elim) ?_ hok.2 h
 ·intro i d hd
  unfold dstOf at hd
  cases ho:l.toArray[i]? with
  | none=>simp [ho] at hd
  | some o =>
   rw [List.all_eq_true] at hsz
   have hmem:o∈l:=by
    have:=Array.mem_of_getElem? ho
    simpa using this
   have:=hsz o hmem
   simp only [ho,Option.bind_some] at hd
   simpa [hd] using this
 ·refine Nat.le_trans List.countP_le_length ?_
  simp
#print axioms wp_region_plan
end main
end
section
open Go.RowKit Go
inductive Dt where
 | lit (v:Value)
 | emp
 | sl (S:Bool) (es:List (List Dt))
 | at_ (S:Bool) (cs:List Dt)
 | fn (f:Fn) (fst cap:List Dt)
def nth2 {α:Type} (es:List (List α)) (i j:Nat):Option α:=(es[i]?).bind (·[j]?)
structure Env where
 F:Nat->Prop
 B:Nat->Prop
def Env.ok (E:Env) (S:Bool) (b:Nat):Prop:=E.F b∨(S=false∧E.B b)
def Env.solid (E:Env):Env:=⟨E.F,fun _=>False⟩
inductive RD:Env->World->Dt->Value->Prop
 | lit {E w v} (h:v.oneCell'=true):RD E w (.lit v) v
 | emp {E w A} : RD E w .emp (.slice A 0 0)
 | sl {E:Env} {w:World} {S:Bool} {es:List (List Dt)} {A:Option Addr} {cap k:Nat} (X:Nat->Nat->Value) (h1:es.length≤cap) (h2:cap≤maxLen) (hk : ∀ e∈es,e.length=k) (h3:A=none->cap=0)
   (h4:0<es.length -> ∃ b o,A=some ⟨b,o,none⟩∧E.ok S b ∧ ∀ i j c,nth2 es i j=some c->w.cell? ⟨b,o+i*k+j,none⟩=some (X i j))
   (h5 : ∀ i j c,nth2 es i j=some c->RD E.solid w c (X i j)):RD E w (.sl S es) (.slice A es.length cap)
 | at_ {E:Env} {w:World} {S:Bool} {cs:List Dt} {b o:Nat} (X:Nat->Value) (h4:E.ok S b) (hc : ∀ (j:Nat) c,cs[j]? = some c->w.cell? ⟨b,o+j,none⟩=some (X j))
   (h5 : ∀ (j:Nat) c,cs[j]? = some c->RD E.solid w c (X j)):RD E w (.at_ S cs) (.pointer (some ⟨b,o,none⟩))
 | fn {E:Env} {w:World} {f:Fn} {fs cs:List Dt} {xs ys:Array Value} (l1:xs.size=fs.length) (l2:ys.size=cs.length)
   (h1 : ∀ (j:Nat) c x,fs[j]? = some c->xs[j]? = some x->RD E w c x) (h2 : ∀ (j:Nat) c x,cs[j]? = some c->ys[j]? = some x->RD E w c x):RD E w (.fn f fs cs) (.func f xs ys)
theorem RD.one {E:Env} {w:World} {d:Dt} {v:Value} (h:RD E w d v):v.oneCell'=true:=by
 cases h with
 | lit h=>exact h
 | _=>rfl
structure Env.le (E E':Env) (w w':World):Prop where
 F : ∀ b,E.F b->E'.F b
 B : ∀ b,E.B b->E'.B b
 f : ∀ b,E.F b->w'.heap[b]? = w.heap[b]?
 b : ∀ b,E.B b->w'.heap[b]? = w.heap[b]?
theorem Env.le.solid {E E':Env} {w w':World} (h:E.le E' w w'):E.solid.le E'.solid w w':=⟨h.F,fun _ h=>h,h.f,fun _ h=>h.elim⟩
theorem Env.le.ok {E E':Env} {w w':World} (h:E.le E' w w') {S:Bool} {b:Nat} (ho:E.ok S b):E'.ok S b∧w'.heap[b]? = w.heap[b]? := by
 rcases ho with h0 | ⟨h0,h1⟩
 ·exact ⟨.inl (h.F b h0),h.f b h0⟩
 ·exact ⟨.inr ⟨h0,h.B b h1⟩,h.b b h1⟩
theorem cell_block {w w':World} {b:Nat} (h:w'.heap[b]? = w.heap[b]?) (o:Nat):w'.cell? ⟨b,o,none⟩=w.cell? ⟨b,o,none⟩:=by
 simp only [World.cell?, h]
theorem RD.keep {E:Env} {w:World} {d:Dt} {v:Value} (h:RD E w d v) : ∀ {E':Env} {w':World}, E.le E' w w'->RD E' w' d v:=by
 induction h with
 | lit h=>intro _ _ _;exact .lit h
 | emp=>intro _ _ _;exact .emp
 | sl X h1 h2 hk h3 h4 h5 ih =>
  intro E' w' hle
  refine .sl X h1 h2 hk h3 (fun h0 => ?_) (fun i j c hc=>ih i j c hc hle.solid)
  obtain ⟨b,o,ha,ho,hc⟩:=h4 h0
  exact ⟨b,o,ha,(hle.ok ho).1,fun i j c h=>by rw [cell_block (hle.ok ho).2];exact hc i j c h⟩
 | at_ X h4 hc h5 ih =>
  intro E' w' hle
  exact .at_ X (hle.ok h4).1 (fun j c h=>by rw [cell_block (hle.ok h4).2];exact hc j c h) (fun j c h=>ih j c h hle.solid)
 | fn l1 l2 h1 h2 i1 i2 =>
  intro E' w' hle
  exact .fn l1 l2 (fun j c x hc hx=>i1 j c x hc hx hle) (fun j c x hc hx=>i2 j c x hc hx hle)
inductive Cap where
 | d (x:Dt)
 | ptr (n k i o:Nat)
 | own (n k l:Nat)
inductive C where
 | d (x:Dt)
 | own (n k l:Nat)
 | ptr (n k i o:Nat)
 | map (n:Nat)
 | fnp (f:Fn) (cs:List Cap)
 | ifo (t:TypeId) (n k l:Nat)
 | any
abbrev Nms:=Nat->Option (Nat×Nat)
def RCap (E:Env) (w:World) (ι:Nms):Cap->Value->Prop
 | .d x,v=>RD E w x v
 | .ptr n k i o,v => ∃ b cap,ι n=some (b,cap)∧0<cap∧v = .pointer (some ⟨b,i*k+o,none⟩)
 | .own n _ l,v => ∃ b cap,ι n=some (b,cap)∧l≤cap∧cap≤maxLen∧((cap=0 ∧ ∃ A,v = .slice A 0 0)∨(0<cap∧v = .slice (some ⟨b,0,none⟩) l cap))
def RCaps (E:Env) (w:World) (ι:Nms):List Cap->List Value->Prop
 | [],[]=>True
 | c::cs,v::vs=>RCap E w ι c v∧RCaps E w ι cs vs
 | _,_=>False
def RC (E:Env) (w:World) (ι:Nms):C->Value->Prop
 | .d x,v=>RD E w x v
 | .own n _ l,v => ∃ b cap,ι n=some (b,cap)∧l≤cap∧cap≤maxLen∧((cap=0 ∧ ∃ A,v = .slice A 0 0)∨(0<cap∧v = .slice (some ⟨b,0,none⟩) l cap))
 | .ptr n k i o,v => ∃ b cap,ι n=some (b,cap)∧0<cap∧v = .pointer (some ⟨b,i*k+o,none⟩)
 | .map n,v => ∃ b cap,ι n=some (b,cap)∧0<cap∧v = .map (some b)
 | .fnp f cs,v => ∃ ys:Array Value,v = .func f #[] ys∧RCaps E w ι cs ys.toList
 | .ifo t n _ l,v => ∃ b cap,ι n=some (b,cap)∧l≤cap∧cap≤maxLen∧((cap=0 ∧ ∃ A,v = .iface t (.slice A 0 0))∨(0<cap∧v = .iface t (.slice (some ⟨b,0,none⟩) l cap)))
 | .any,v=>v.oneCell'=true
theorem RC.one {E:Env} {w:World} {ι:Nms} {c:C} {v:Value} (h:RC E w ι c v):v.oneCell'=true:=by
 cases c with
 | d x=>exact RD.one h
 | own n k l=>obtain ⟨b,cap, -, -, -, h⟩:=h;rcases h with ⟨-, A,rfl⟩ | ⟨-, rfl⟩ <;> rfl
 | ptr n k i o=>obtain ⟨b,cap, -, -, rfl⟩:=h;rfl
 | map n=>obtain ⟨b,cap, -, -, rfl⟩:=h;rfl
 | fnp f cs=>obtain ⟨ys,rfl, -⟩:=h;rfl
 | ifo t n k l=>obtain ⟨b,cap, -, -, -, h⟩:=h;rcases h with ⟨-, A,rfl⟩ | ⟨-, rfl⟩ <;> rfl
 | any=>exact h
def Nms.le (ι ι':Nms):Prop := ∀ n x,ι n=some x->ι' n=some x
theorem RCap.keep {E E':Env} {w w':World} {ι ι':Nms} {c:Cap} {v:Value} (h:RCap E w ι c v) (hle:E.le E' w w') (hi:Nms.le ι ι'):RCap E' w' ι' c v:=by
 cases c with
 | d x=>exact RD.keep h hle
 | ptr n k i o=>obtain ⟨b,cap,h1,h2⟩:=h;exact ⟨b,cap,hi _ _ h1,h2⟩
 | own n k l=>obtain ⟨b,cap,h1,h2⟩:=h;exact ⟨b,cap,hi _ _ h1,h2⟩
theorem RCaps.keep {E E':Env} {w w':World} {ι ι':Nms} (hle:E.le E' w w') (hi:Nms.le ι ι') : ∀ {cs:List Cap} {vs:List Value}, RCaps E w ι cs vs->RCaps E' w' ι' cs vs
 | [],[],_=>trivial
 | _::_,_::_,h=>⟨h.1.keep hle hi,RCaps.keep hle hi h.2⟩
theorem RC.keep {E E':Env} {w w':World} {ι ι':Nms} {c:C} {v:Value} (h:RC E w ι c v) (hle:E.le E' w w') (hi:Nms.le ι ι'):RC E' w' ι' c v:=by
 cases c with
 | d x=>exact RD.keep h hle
 | own n k l=>obtain ⟨b,cap,h1,h2⟩:=h;exact ⟨b,cap,hi _ _ h1,h2⟩
 | ptr n k i o=>obtain ⟨b,cap,h1,h2⟩:=h;exact ⟨b,cap,hi _ _ h1,h2⟩
 | map n=>obtain ⟨b,cap,h1,h2⟩:=h;exact ⟨b,cap,hi _ _ h1,h2⟩
 | fnp f cs=>obtain ⟨ys,h1,h2⟩:=h;exact ⟨ys,h1,h2.keep hle hi⟩
 | ifo t n k l=>obtain ⟨b,cap,h1,h2⟩:=h;exact ⟨b,cap,hi _ _ h1,h2⟩
 | any=>exact h
inductive D where
 | one (c:C)
 | agg (cs:List C)
 | tup (ds:List D)
 | top
def RCs (E:Env) (w:World) (ι:Nms):List C->List Value->Prop
 | [],[]=>True
 | c::cs,v::vs=>RC E w ι c v∧RCs E w ι cs vs
 | _,_=>False
mutual
def RV (E:Env) (w:World) (ι:Nms):D->Value->Prop
 | .one c,v=>RC E w ι c v
 | .agg cs,v => ∃ xs:Array Value,v = .agg xs∧RCs E w ι cs xs.toList
 | .tup ds,v => ∃ xs:Array Value,v = .tuple xs∧RVs E w ι ds xs.toList
 | .top,_=>True
def RVs (E:Env) (w:World) (ι:Nms):List D->List Value->Prop
 | [],[]=>True
 | d::ds,v::vs=>RV E w ι d v∧RVs E w ι ds vs
 | _,_=>False
end
theorem RCs.keep {E E':Env} {w w':World} {ι ι':Nms} (hle:E.le E' w w') (hi:Nms.le ι ι') : ∀ {cs:List C} {vs:List Value}, RCs E w ι cs vs->RCs E' w' ι' cs vs
 | [],[],_=>trivial
 | _::_,_::_,h=>⟨h.1.keep hle hi,RCs.keep hle hi h.2⟩
mutual
theorem RV.keep {E E':Env} {w w':World} {ι ι':Nms} (hle:E.le E' w w') (hi:Nms.le ι ι') : ∀ {d:D} {v:Value}, RV E w ι d v->RV E' w' ι' d v
 | .one _,_,h=>by rw [RV] at h ⊢; exact RC.keep h hle hi
 | .agg _,_,h=>by rw [RV] at h ⊢; obtain ⟨xs,h1,h2⟩:=h;exact ⟨xs,h1,RCs.keep hle hi h2⟩
 | .tup _,_,h=>by rw [RV] at h ⊢; obtain ⟨xs,h1,h2⟩:=h;exact ⟨xs,h1,RVs.keep hle hi h2⟩
 | .top,_,_=>by rw [RV];trivial
theorem RVs.keep {E E':Env} {w w':World} {ι ι':Nms} (hle:E.le E' w w') (hi:Nms.le ι ι') : ∀ {ds:List D} {vs:List Value}, RVs E w ι ds vs->RVs E' w' ι' ds vs
 | [],[],_=>by rw [RVs];trivial
 | _::_,_::_,h=>by rw [RVs] at h ⊢; exact ⟨RV.keep hle hi h.1,RVs.keep hle hi h.2⟩
 | [],_::_,h=>by simp [RVs] at h
 | _::_,[],h=>by simp [RVs] at h
end
theorem RCs.len {E:Env} {w:World} {ι:Nms} : ∀ {cs:List C} {vs:List Value}, RCs E w ι cs vs->vs.length=cs.length
 | [],[],_=>rfl
 | _::_,_::_,h=>by simp [RCs.len h.2]
theorem RCs.get {E:Env} {w:World} {ι:Nms} : ∀ {cs:List C} {vs:List Value}, RCs E w ι cs vs -> ∀ {j:Nat} {c:C}, cs[j]? = some c -> ∃ v,vs[j]? = some v∧RC E w ι c v
 | _::_,v::_,h,0,c,hc=>by simp only [List.getElem?_cons_zero,Option.some.injEq] at hc;subst hc;exact ⟨v,rfl,h.1⟩
 | _::_,_::_,h,j+1,c,hc=>RCs.get h.2 (by simpa using hc)
 | [],_,_,j,c,hc=>by simp at hc
theorem RCs.mk {E:Env} {w:World} {ι:Nms} : ∀ {cs:List C} {vs:List Value}, vs.length=cs.length->(∀ (j:Nat) c v,cs[j]? = some c->vs[j]? = some v->RC E w ι c v)->RCs E w ι cs vs
 | [],[],_,_=>trivial
 | [],_::_,h,_=>by simp at h
 | _::_,[],h,_=>by simp at h
 | c::cs,v::vs,h,hr=>⟨hr 0 c v rfl rfl,RCs.mk (by simpa using h) fun j c' v' hc hv=>hr (j+1) c' v' (by simpa using hc) (by simpa using hv)⟩
theorem RCs.one {E:Env} {w:World} {ι:Nms} : ∀ {cs:List C} {vs:List Value}, RCs E w ι cs vs -> ∀ v∈vs,v.oneCell'=true
 | _::_,_::_,h,v,hv=>by
  rcases List.mem_cons.1 hv with rfl | hv
  ·exact h.1.one
  ·exact RCs.one h.2 v hv
 | [],[],_,v,hv=>by simp at hv
inductive BT where
 | c (t:TypeId)
 | m (kt:TypeId) (f:Value->Int) (n:Nat)
def MapIs (w:World) (b:Nat) (kt:TypeId) (f:Value->Int) (n:Nat):Prop :=
 ∃ (D:DataW Unit) (m:Nat),m≤n∧w.ownsMap Tryz.prog kt (plainElem Tryz.prog 3) b m D ∧ ∀ k kl,keyOf Tryz.prog kt k=some kl->D.atKey kl (.lit (.int .i64 0)) = .lit (.int .i64 (f k))
def BlkIs (w:World) (b:Nat) (arr:Array Value):BT->Prop
 | .c t=>w.heap[b]? = some (.cells arr t (0,0))
 | .m kt f n=>arr = #[]∧MapIs w b kt f n
theorem MapIs.keep {w w':World} {b n:Nat} {kt:TypeId} {f:Value->Int} (h:MapIs w b kt f n) (hw:w'.heap[b]? = w.heap[b]?):MapIs w' b kt f n:=by
 obtain ⟨D,m,h1,hD,h2⟩:=h
 refine ⟨D,m,h1,?_,h2⟩
 obtain ⟨es,cl,he,rest⟩:=hD
 exact ⟨es,cl,hw.trans he,rest⟩
theorem BlkIs.keep {w w':World} {b:Nat} {arr:Array Value} {t:BT} (h:BlkIs w b arr t) (hw:w'.heap[b]? = w.heap[b]?):BlkIs w' b arr t:=by
 cases t with
 | c t=>exact hw.trans h
 | m kt f n=>exact ⟨h.1,h.2.keep hw⟩
theorem BlkIs.cells {w:World} {b:Nat} {arr:Array Value} {t:BT} (h:BlkIs w b arr t) {j:Nat} {v:Value} (hj:arr[j]? = some v) : ∃ t',t = .c t'∧w.heap[b]? = some (.cells arr t' (0,0)):=by
 cases t with
 | c t=>exact ⟨t,rfl,h⟩
 | m kt f n=>rw [h.1] at hj;simp at hj
theorem BlkIs.cell {w:World} {b:Nat} {arr:Array Value} {t:BT} (h:BlkIs w b arr t) {j:Nat} {v:Value} (hj:arr[j]? = some v):w.cell? ⟨b,j,none⟩=some v:=by
 obtain ⟨t', -, h⟩:=h.cells hj
 simp [World.cell?, h,hj]
structure Blk where
 t:BT
 k:Nat
 es:List (List C)
def RB (E:Env) (w:World) (ι:Nms) (n:Nat) (x:Blk):Prop := ∃ b cap,ι n=some (b,cap)∧x.es.length≤cap∧(∀ e∈x.es,e.length=x.k) ∧
 (0<cap -> ∃ arr:Array Value,BlkIs w b arr x.t∧arr.size=cap*x.k∧(∀ v∈arr,v.oneCell'=true) ∧ ∀ i j c,nth2 x.es i j=some c -> ∃ v,arr[i*x.k+j]? = some v∧RC E w ι c v)
abbrev Hp:=Nat->Option Blk
def Hp.none:Hp:=fun _=>Option.none
def Hp.set (H:Hp) (n:Nat) (x:Option Blk):Hp:=fun m=>if m=n then x else H m
@[simp] theorem Hp.set_same (H:Hp) (n:Nat) (x:Option Blk):H.set n x n=x:=by simp [Hp.set]
theorem Hp.set_ne (H:Hp) {n m:Nat} (x:Option Blk) (h:m≠n):H.set n x m=H m:=by simp [Hp.set,h]
structure Base where
 w0:World
 N0:Nat->Prop
 F0:Nat->Prop
 ι0:Nms:=fun _=>none
def Base.B (β:Base):Nat->Prop:=fun b=>b<β.w0.heap.size ∧ ¬ β.N0 b
def glb:List (Nat×Array Value) := [(2,(Lib.asciiSpaceTab.map fun z=>Value.int .u8 z).toArray)]
def GlOk (F:Nat->Prop) (w:World):Prop := ∀ g arr,(g,arr)∈glb->F g ∧ ∃ t fz,w.heap[g]? = some (.cells arr t fz)
structure Base.good (β:Base):Prop where
 gl:GlOk β.F0 β.w0
 lt : ∀ b,β.F0 b->b<β.w0.heap.size
 no : ∀ b,β.F0 b -> ¬ β.N0 b
def SameIo (w w':World):Prop:=w'.os=w.os∧w'.output=w.output∧w'.tape=w.tape
theorem SameIo.refl (w:World):SameIo w w:=⟨rfl,rfl,rfl⟩
theorem SameIo.trans {w1 w2 w3:World} (h:SameIo w1 w2) (g:SameIo w2 w3):SameIo w1 w3:=⟨g.1.trans h.1,g.2.1.trans h.2.1,g.2.2.trans h.2.2⟩
structure HpOk (β:Base) (F:Nat->Prop) (w:World) (ι:Nms) (H:Hp) (nx:Nat):Prop where
 size:β.w0.heap.size≤w.heap.size
 keep : ∀ b,b<β.w0.heap.size -> ¬ β.N0 b->w.heap[b]? = β.w0.heap[b]?
 Flt : ∀ b,F b->b<w.heap.size
 Fof : ∀ b,F b->β.F0 b∨β.N0 b∨β.w0.heap.size≤b
 F0 : ∀ b,β.F0 b->F b
 blk : ∀ n x,H n=some x->RB ⟨F,β.B⟩ w ι n x
 own : ∀ n b cap,H n≠Option.none->ι n=some (b,cap)->0<cap->b<w.heap.size ∧ ¬ F b∧(β.N0 b∨β.w0.heap.size≤b)
 inj : ∀ n m b c c',H n≠Option.none->H m≠Option.none->ι n=some (b,c)->ι m=some (b,c')->0<c->0<c'->n=m
 nx : ∀ n,nx≤n->ι n=Option.none
 nm:Nms.le β.ι0 ι
 io:SameIo β.w0 w
theorem HpOk.gl {β:Base} {F:Nat->Prop} {w:World} {ι:Nms} {H:Hp} {nx:Nat} (h:HpOk β F w ι H nx) (hg:β.good):GlOk F w:=fun g arr hm=>by
 obtain ⟨h1,t,fz,h2⟩:=hg.gl g arr hm
 exact ⟨h.F0 g h1,t,fz,by rw [h.keep g (hg.lt g h1) (hg.no g h1)];exact h2⟩
def lk:List (Nat×D)->Nat->D
 | [],_ => .top
 | (s,d)::l,t=>if t=s then d else lk l t
def ins:List (Nat×D)->Nat->D->List (Nat×D)
 | [],t,d=>[(t,d)]
 | (s,e)::l,t,d=>if t=s then (t,d)::l else if t<s then (t,d)::(s,e)::l else (s,e)::ins l t d
theorem lk_ins (t:Nat) (d:D) (u:Nat) : ∀ l:List (Nat×D),lk (ins l t d) u=if u=t then d else lk l u
 | []=>by simp [ins,lk]
 | (s,e)::l=>by
  unfold ins
  split
  ·rename_i h;subst h
   by_cases hu:u=t <;> simp [lk,hu]
  ·split
   ·by_cases hu:u=t <;> simp [lk,hu]
   ·simp only [lk,lk_ins t d u l]
    by_cases hu:u=t
    ·subst hu
     rename_i h1 _
     simp [h1]
    ·simp [hu]
structure St where
 n:Nat
 tm:List (Nat×D)
 H:Hp
 nx:Nat
def St.put (st:St) (t:Nat) (d:D):St:=⟨st.n,ins st.tm t d,st.H,st.nx⟩
structure Holds (β:Base) (F:Nat->Prop) (ι:Nms) (st:St) (a:Act) (w:World):Prop where
 good:β.good
 defers:a.defers=[]
 size:a.tmps.size=st.n
 tm : ∀ t,RV ⟨F,β.B⟩ w ι (lk st.tm t) (a.tmps.getD t undef)
 heap:HpOk β F w ι st.H st.nx
def cellOf:Value->Dt
 | .slice none 0 0 => .emp
 | v => .lit v
theorem cellOf_ok {E:Env} {w:World} {v:Value} (h:v.oneCell'=true):RD E w (cellOf v) v:=by
 unfold cellOf
 split
 ·exact .emp
 ·exact .lit h
def ofVal:Value->D
 | .agg xs=>if xs.toList.all Value.oneCell' then .agg (xs.toList.map fun v => .d (cellOf v)) else .top
 | .tuple _ => .top
 | v => .one (.d (cellOf v))
theorem RCs.ofList {E:Env} {w:World} {ι:Nms} : ∀ {xs:List Value}, xs.all Value.oneCell'=true->RCs E w ι (xs.map fun v => .d (cellOf v)) xs
 | [],_=>trivial
 | x::xs,h=>by
  simp only [List.all_cons,Bool.and_eq_true] at h
  exact ⟨cellOf_ok h.1,RCs.ofList h.2⟩
theorem RV.ofVal {E:Env} {w:World} {ι:Nms} (v:Value):RV E w ι (ofVal v) v:=by
 unfold Go.Proofs.YtbphdcffpobcbaaGreatDoor.ofVal
 split
 ·rename_i xs
  split
  ·rename_i h
   rw [RV]
   exact ⟨xs,rfl,RCs.ofList h⟩
  ·rw [RV];trivial
 ·rw [RV];trivial
 ·rename_i h1 h2
  rw [RV]
  refine cellOf_ok (E:=E) ?_
  cases v <;> first | rfl | (exact absurd rfl (h1 _)) | (exact absurd rfl (h2 _))
def ev (st:St):Operand->D
 | .tmp t=>lk st.tm t
 | .const v=>ofVal v
 | .global _ => .top
 | .func f => .one (.d (.fn (.func f) [] []))
theorem Holds.ev {β:Base} {F:Nat->Prop} {ι:Nms} {st:St} {a:Act} {w:World} (h:Holds β F ι st a w) (x:Operand):RV ⟨F,β.B⟩ w ι (ev st x) (a.eval x):=by
 cases x with
 | tmp t=>exact h.tm t
 | const v=>exact RV.ofVal v
 | global g=>simp only [Go.Proofs.YtbphdcffpobcbaaGreatDoor.ev];rw [RV];trivial
 | func f=>simp only [Go.Proofs.YtbphdcffpobcbaaGreatDoor.ev];rw [RV];exact .fn rfl rfl (fun j c x hc _=>by simp at hc) (fun j c x hc _=>by simp at hc)
theorem Holds.put {β:Base} {F:Nat->Prop} {ι:Nms} {st:St} {a:Act} {w:World} (h:Holds β F ι st a w) {d:D} {v:Value} (hd:RV ⟨F,β.B⟩ w ι d v) {t:Nat} (ht:t<st.n) :
  Holds β F ι (st.put t d) (a.put (some t) v) w:=by
 refine ⟨h.good,h.defers,by simpa [Act.put,St.put] using h.size,fun u => ?_,h.heap⟩
 simp only [St.put,lk_ins,Act.put]
 by_cases hu:u=t
 ·subst hu
  simp only [if_true]
  have:(a.tmps.setIfInBounds u v).getD u undef=v:=by simp [Array.getD,h.size,ht]
  rw [this];exact hd
 ·simp only [hu,if_false]
  have:(a.tmps.setIfInBounds t v).getD u undef=a.tmps.getD u undef:=by
   simp only [Array.getD_eq_getD_getElem?]
   rw [Array.getElem?_setIfInBounds_ne (fun e=>hu e.symm)]
  rw [this];exact h.tm u
def Old (w w':World):Prop := ∀ b,b<w.heap.size->w'.heap[b]? = w.heap[b]?
theorem Old.refl (w:World):Old w w:=fun _ _=>rfl
def quietO:Op->Bool
 | .alloc _ | .box .. | .buildSlice .. | .makeSlice .. | .load .. => true
 | .call { callee := .value _,.. } => true
 | _=>false
def newO:Op->Bool
 | .alloc _ | .box .. => true
 | _=>false
def Poke (b:Nat) (w w':World):Prop:=w.heap.size≤w'.heap.size ∧ ∀ c,c≠b->w'.heap[c]? = w.heap[c]?
structure Chg (qt:Bool) (o:Oper) (a:Act) (w:World) (v:Value) (w':World):Prop where
 old:qt=true->quietO o.op=true->Old w w'
 new:newO o.op=true->v = .pointer (some ⟨w.heap.size,0,none⟩)
 poke : ∀ ty x y,o.op = .store ty x y -> ∃ b,Poke b w w' ∧ ∀ b' of s,a.eval x = .pointer (some ⟨b',of,s⟩)->b'=b
theorem Chg.call {qt:Bool} {o:Oper} {a:Act} {w:World} {v:Value} {w':World} {c:Call} (ho:o.op = .call c) (h:qt=true->quietO o.op=true->Old w w'):Chg qt o a w v w' :=
 ⟨h,fun e=>(by rw [ho] at e;cases e),fun ty x y e=>(by rw [ho] at e;cases e)⟩
theorem zeroValue_same {P:Program} {ty:TypeId} {w w1:World} {z:Value} (h:(zeroValue ty).run P w = .ok z w1):w1=w:=by
 cases hi:P.info? ty with
 | none=>simp [zeroValue,typeInfo,hi] at h
 | some i =>
  cases hz:i.zero with
  | none=>simp [zeroValue,typeInfo,hi,hz] at h
  | some z=>simp [zeroValue,typeInfo,hi,hz] at h;exact h.2.symm
theorem new_run {P:Program} {o:Oper} {ρ:Operand->Value} {w w':World} {v:Value} (hn:newO o.op=true) (h:(execOp ρ o).run P w = .ok (.value v) w'):v = .pointer (some ⟨w.heap.size,0,none⟩):=by
 unfold newO at hn
 split at hn
 ·rename_i ty ho
  cases hz:(zeroValue ty).run P w with
  | ok z w1 =>
   obtain rfl:=zeroValue_same hz
   simp [execOp,ho,Instr.alloc,hz,newVar,newRow] at h
   exact h.1.symm
  | halt x w1=>simp [execOp,ho,Instr.alloc,hz] at h
 ·rename_i ty x ho
  simp [execOp,ho,Instr.box,newVar,newRow] at h
  exact h.1.symm
 ·cases hn
def EvO (P:Program) (qt:Bool) (o:Oper) (st:St) (K:St->Prop):Prop :=
 ∀ β F ι a w,Holds β F ι st a w -> ∀ (next:Act->World->Prop) (Q:Exit->Act->World->Prop),(∀ F' ι' st' v w',Chg qt o a w v w'->Holds β F' ι' st' (a.put o.dst v) w'->K st'->next (a.put o.dst v) w')->o.wp P a w next Q
def EvS (P:Program) (o:Oper) (st:St) (d:D) (free:Bool):Prop :=
 ∀ β F ι a w,Holds β F ι st a w -> ∃ v,(∀ w',(free=true∨Old w w')->(execOp a.eval o).run P w' = .ok (.value v) w')∧RV ⟨F,β.B⟩ w ι d v
theorem EvO.val {P:Program} {qt:Bool} {o:Oper} {st:St} {K:St->Prop} {t:Nat} (ht:o.dst=some t) (hn:t<st.n) (st':St) (hs:st'.n=st.n) (d:D) (hK:K (st'.put t d))
  (h : ∀ β F ι a w,Holds β F ι st a w -> ∃ v F' ι' w',(execOp a.eval o).run P w = .ok (.value v) w'∧Holds β F' ι' st' a w'∧RV ⟨F',β.B⟩ w' ι' d v∧(quietO o.op=true->Old w w')) (hst : ∀ ty x y,o.op = .store ty x y->False:=by intro _ _ _ e;simp_all):EvO P qt o st K:=by
 intro β F ι a w hh next Q hnext
 obtain ⟨v,F',ι',w',hr,h1,h2,h3⟩:=h β F ι a w hh
 unfold Oper.wp
 rw [hr,Oper.upon_value]
 have:=h1.put h2 (t:=t) (by rw [hs];exact hn)
 rw [ht]
 rw [ht] at hnext
 exact hnext _ _ _ v w' ⟨fun _=>h3,fun e=>new_run e hr,fun ty x y e=>(hst ty x y e).elim⟩ this hK
def blockOf:Value->Nat
 | .pointer (some ad)=>ad.block
 | _=>0
theorem Chg.same {P:Program} {qt:Bool} {o:Oper} {a:Act} {w:World} {v:Value} (hr:(execOp a.eval o).run P w = .ok (.value v) w):Chg qt o a w v w :=
 ⟨fun _ _=>Old.refl w,fun e=>new_run e hr,fun _ x _ _=>⟨blockOf (a.eval x),⟨Nat.le_refl _,fun _ _=>rfl⟩,fun b' of s e=>by rw [e];rfl⟩⟩
theorem EvS.toO {P:Program} {qt:Bool} {o:Oper} {st:St} {K:St->Prop} {t:Nat} {d:D} {fr:Bool} (h:EvS P o st d fr) (ht:o.dst=some t) (hn:t<st.n) (hK:K (st.put t d))   : EvO P qt o st K:=by
 intro β F ι a w hh next Q hnext
 obtain ⟨v,h1,h2⟩:=h β F ι a w hh
 have hr:=h1 w (.inr (Old.refl w))
 unfold Oper.wp
 rw [hr,Oper.upon_value]
 have:=hh.put h2 (t:=t) hn
 rw [ht]
 rw [ht] at hnext
 exact hnext _ _ _ v w (Chg.same hr) this hK
theorem EvO.unit {P:Program} {qt:Bool} {o:Oper} {st:St} {K:St->Prop} (ht:o.dst=none) (hq:quietO o.op=false) (st':St) (hK:K st')
  (hnew:newO o.op=false) (h : ∀ β F ι a w,Holds β F ι st a w -> ∃ F' ι' w',(execOp a.eval o).run P w = .ok .skip w'∧Holds β F' ι' st' a w' ∧ ∀ ty x y,o.op = .store ty x y -> ∃ b,Poke b w w' ∧ ∀ b' of s,a.eval x = .pointer (some ⟨b',of,s⟩)->b'=b)   : EvO P qt o st K:=by
 intro β F ι a w hh next Q hnext
 obtain ⟨F',ι',w',hr,h1,h2⟩:=h β F ι a w hh
 unfold Oper.wp
 rw [hr,Oper.upon_skip,ht]
 rw [ht] at hnext
 exact hnext _ _ _ undef _ ⟨fun _ h=>(by rw [hq] at h;cases h),fun e=>(by rw [hnew] at e;cases e),h2⟩ h1 hK
def szOf (P:Program) (t:TypeId):Option Nat:=(P.info? t).map (·.size)
def rowT (P:Program) (t:TypeId):Option Bool:=(P.underlying t).map fun | .struct _=>true | .array _ _=>true | _=>false
def fldOf (P:Program) (s:TypeId) (f:Nat):Option (Nat×Nat):=match P.underlying s with
 | some (.struct fs)=>(fs[f]?).bind fun x=>(szOf P x.type).map fun k=>(x.offset,k)
 | _=>none
def elOf (P:Program) (t:TypeId):Option (TypeId×Nat):=match P.underlying t with
 | some (.slice e)=>(szOf P e).map fun k=>(e,k)
 | _=>none
def zeroOf (P:Program) (t:TypeId):Option (List Value):=(P.info? t).bind fun i=>i.zero.map fun z=>z.cells.toList
theorem szOf_run {P:Program} {t:TypeId} {k:Nat} (h:szOf P t=some k) (w:World):(sizeOf t).run P w = .ok k w:=by
 unfold szOf at h
 cases hi:P.info? t with
 | none=>simp [hi] at h
 | some i=>simp [hi] at h;simp [sizeOf,typeInfo,hi,h]
theorem rowT_run {P:Program} {t:TypeId} {b:Bool} (h:rowT P t=some b) (w:World):(isAgg t).run P w = .ok b w:=by
 unfold rowT at h
 cases hu:P.underlying t with
 | none=>simp [hu] at h
 | some d =>
  simp only [hu,Option.map_some,Option.some.injEq] at h
  unfold isAgg
  rw [Sem.run_bind,run_underlying hu w]
  cases d <;> simp_all
theorem solid_le (E:Env) (w:World):E.solid.le E w w:=⟨fun _ h=>h,fun _ h=>h.elim,fun _ _=>rfl,fun _ _=>rfl⟩
theorem Nms.le_refl (ι:Nms):Nms.le ι ι:=fun _ _ h=>h
theorem RD.lit_inv {E:Env} {w:World} {x v:Value} (h:RD E w (.lit x) v):v=x:=by cases h;rfl
def Reads (E:Env) (w:World) (ι:Nms) (cs:List C) (b o:Nat):Prop := ∃ vs,RCs E w ι cs vs∧w.rangeAt b o vs
theorem Reads.of {E:Env} {w:World} {ι:Nms} {cs:List C} {b o:Nat} (h : ∀ (j:Nat) c,cs[j]? = some c -> ∃ v,w.cell? ⟨b,o+j,none⟩=some v∧RC E w ι c v):Reads E w ι cs b o:=by
 refine ⟨(List.range cs.length).map fun j=>(w.cell? ⟨b,o+j,none⟩).getD undef,RCs.mk (by simp) fun j c v hc hv => ?_,fun j v hv => ?_⟩
 ·obtain ⟨v',h1,h2⟩:=h j c hc
  have hj:=(List.getElem?_eq_some_iff.1 hc).1
  simp [hj,h1] at hv
  subst hv
  exact h2
 ·have hj:j<cs.length:=by have:=(List.getElem?_eq_some_iff.1 hv).1;simpa using this
  obtain ⟨v',h1,h2⟩:=h j _ (List.getElem?_eq_getElem hj)
  simp [hj,h1] at hv
  subst hv
  exact h1
def rd (st:St) (x:Operand):Option (List C):=match ev st x with
 | .one (.d (.at_ _ cs))=>some (cs.map .d)
 | .one (.ptr n k i o)=>(st.H n).bind fun x=>if x.k=k then (x.es[i]?).map (·.drop o) else none
 | _=>none
theorem RB.reads {E:Env} {w:World} {ι:Nms} {n:Nat} {x:Blk} (h:RB E w ι n x) {i:Nat} {e:List C} (he:x.es[i]? = some e) :
  ∃ b cap,ι n=some (b,cap)∧0<cap∧Reads E w ι e b (i*x.k):=by
 obtain ⟨b,cap,h1,h2,h3,h4⟩:=h
 have hi:=(List.getElem?_eq_some_iff.1 he).1
 obtain ⟨arr,g1,g2,g3,g4⟩:=h4 (by omega)
 refine ⟨b,cap,h1,by omega,Reads.of fun j c hc => ?_⟩
 obtain ⟨v,k1,k2⟩:=g4 i j c (by simp [nth2,he,hc])
 exact ⟨v,g1.cell k1,k2⟩
theorem Reads.drop {E:Env} {w:World} {ι:Nms} {cs:List C} {b o:Nat} (h:Reads E w ι cs b o) (m:Nat):Reads E w ι (cs.drop m) b (o+m):=by
 obtain ⟨vs,h1,h2⟩:=h
 refine Reads.of fun j c hc => ?_
 rw [List.getElem?_drop] at hc
 obtain ⟨v,k1,k2⟩:=h1.get hc
 exact ⟨v,by rw [Nat.add_assoc];exact h2 _ _ k1,k2⟩
theorem RD.reads {E:Env} {w:World} {ι:Nms} {S:Bool} {cs:List Dt} {v:Value} (h:RD E w (.at_ S cs) v) : ∃ b o,v = .pointer (some ⟨b,o,none⟩)∧E.ok S b∧Reads E w ι (cs.map .d) b o:=by
 cases h with
 | at_ X h4 hc h5 =>
  refine ⟨_,_,rfl,h4,Reads.of fun j c hj => ?_⟩
  rw [List.getElem?_map] at hj
  cases hj':cs[j]? with
  | none=>simp [hj'] at hj
  | some c' =>
   simp only [hj',Option.map_some,Option.some.injEq] at hj
   subst hj
   exact ⟨_,hc j c' hj',(h5 j c' hj').keep (solid_le E w)⟩
theorem rd_ok {β:Base} {F:Nat->Prop} {ι:Nms} {st:St} {a:Act} {w:World} (h:Holds β F ι st a w) {x:Operand} {cs:List C} (hr:rd st x=some cs) :
  ∃ b o,a.eval x = .pointer (some ⟨b,o,none⟩)∧Reads ⟨F,β.B⟩ w ι cs b o:=by
 have he:=h.ev x
 unfold rd at hr
 split at hr
 ·rename_i S cs' hx
  simp only [Option.some.injEq] at hr
  subst hr
  rw [hx,RV] at he
  obtain ⟨b,o,h1, -, h2⟩:=RD.reads (ι:=ι) he
  exact ⟨b,o,h1,h2⟩
 ·rename_i n k i o hx
  rw [hx,RV] at he
  cases hb:st.H n with
  | none=>simp [hb] at hr
  | some y =>
   simp only [hb,Option.bind_some] at hr
   split at hr
   ·rename_i hk
    cases hi:y.es[i]? with
    | none=>simp [hi] at hr
    | some e =>
     simp only [hi,Option.map_some,Option.some.injEq] at hr
     subst hr hk
     obtain ⟨b,cap,h1,h2,h3⟩:=(h.heap.blk n y hb).reads hi
     obtain ⟨b',cap',h1',h2',h3'⟩:=he
     rw [h1] at h1'
     simp only [Option.some.injEq,Prod.mk.injEq] at h1'
     obtain ⟨rfl,rfl⟩:=h1'
     exact ⟨b,_,h3',h3.drop o⟩
   ·simp at hr
 ·simp at hr
section
variable {P:Program} {qt:Bool} {o:Oper} {st:St} {K:St->Prop} {t:Nat}
theorem ev_move {x:Operand} (ho:o.op = .move x∨o.op = .assign x):EvS P o st (ev st x) true:=fun β F ι a w h=>⟨a.eval x,fun w' _=>by rcases ho with ho | ho <;> simp [execOp,ho],h.ev x⟩
theorem ev_pick {c x y:Operand} {b:Bool} (ho:o.op = .pick c x y) (hc:ev st c = .one (.d (.lit (.bool b)))):EvS P o st (if b then ev st x else ev st y) true:=fun β F ι a w h=>by
 have he:=h.ev c
 rw [hc,RV] at he
 have he:=RD.lit_inv he
 refine ⟨if b then a.eval x else a.eval y,fun w' _ => ?_,?_⟩
 ·simp [execOp,ho,he,asBool]
 ·cases b
  ·exact h.ev y
  ·exact h.ev x
theorem cell_old {w w':World} (ho:Old w w') {b o:Nat} {v:Value} (h:w.cell? ⟨b,o,none⟩=some v):w'.cell? ⟨b,o,none⟩=some v:=by
 have hb:b<w.heap.size:=World.block_lt_of_cell? w _ h
 rw [cell_block (ho b hb)];exact h
theorem ev_load_one {ty:TypeId} {x:Operand} {c:C} {cs:List C} (ho:o.op = .load ty x) (hr:rd st x=some (c::cs)) (hty:rowT P ty=some false):EvS P o st (.one c) false:=fun β F ι a w h=>by
 obtain ⟨b,off,he,vs,h1,h2⟩:=rd_ok h hr
 obtain ⟨v,hv,hc⟩:=h1.get (j:=0) (c:=c) rfl
 refine ⟨v,fun w' hw => ?_,by rw [RV];exact hc⟩
 have this:=cell_old (hw.resolve_left (by simp)) (h2 0 v hv)
 simp [execOp,ho,Instr.loadAt,he,Instr.sureAddr,loadVar,rowT_run hty,load,Sem.run,World.cell?] at this ⊢
 simp [this]
theorem RCs.take {E:Env} {w:World} {ι:Nms} : ∀ {cs:List C} {vs:List Value} (m:Nat),RCs E w ι cs vs->RCs E w ι (cs.take m) (vs.take m)
 | _,_,0,_=>by simp [RCs]
 | [],[],m+1,_=>trivial
 | _::_,_::_,m+1,h=>⟨h.1,RCs.take m h.2⟩
theorem ev_load_agg {ty:TypeId} {x:Operand} {k:Nat} {cs:List C} (ho:o.op = .load ty x) (hr:rd st x=some cs) (hty:rowT P ty=some true) (hk:szOf P ty=some k) (hl:k≤cs.length):EvS P o st (.agg (cs.take k)) false:=fun β F ι a w h=>by
 obtain ⟨b,off,he,vs,h1,h2⟩:=rd_ok h hr
 have h3:=h1.take k
 have hlen:=h3.len
 have hvl:(vs.take k).length=k:=by rw [hlen,List.length_take];omega
 refine ⟨.agg (vs.take k).toArray,fun w' hw => ?_,by rw [RV];exact ⟨_,rfl,by simpa using h3⟩⟩
 have hc:=run_loadCells_list (P:=P) w' ⟨b,off,none⟩ (vs.take k) (fun j v hj=>by
  rw [Addr.add_mid]
  rw [List.getElem?_take] at hj
  split at hj
  ·exact cell_old (hw.resolve_left (by simp)) (h2 j v hj)
  ·simp at hj)
 rw [hvl] at hc
 simp [execOp,ho,Instr.loadAt,he,Instr.sureAddr,loadVar,rowT_run hty,szOf_run hk,hc]
theorem ev_nilCheck {x:Operand} {c:C} (ho:o.op = .nilCheck x) (hx:ev st x = .one c) (hc : ∃ y,rd st x=some y):EvS P o st (.one c) true:=fun β F ι a w h=>by
 obtain ⟨y,hc⟩:=hc
 obtain ⟨b,off,he, -⟩:=rd_ok h hc
 exact ⟨a.eval x,fun w' _=>by simp [execOp,ho,he],hx▸h.ev x⟩
end
def fieldA:C->Nat->Option C
 | .d (.at_ S cs),off=>some (.d (.at_ S (cs.drop off)))
 | .ptr n k i o,off=>some (.ptr n k i (o+off))
 | _,_=>none
theorem RD.at_drop {E:Env} {w:World} {S:Bool} {cs:List Dt} {v:Value} (h:RD E w (.at_ S cs) v) (m:Nat) : ∃ b o,v = .pointer (some ⟨b,o,none⟩)∧RD E w (.at_ S (cs.drop m)) (.pointer (some ⟨b,o+m,none⟩)):=by
 cases h with
 | at_ X h4 hc h5 =>
  refine ⟨_,_,rfl,.at_ (fun j=>X (m+j)) h4 (fun j c hj => ?_) (fun j c hj => ?_)⟩
  ·rw [List.getElem?_drop] at hj
   rw [Nat.add_assoc];exact hc _ c hj
  ·rw [List.getElem?_drop] at hj
   exact h5 _ c hj
theorem RC.field {E:Env} {w:World} {ι:Nms} {c c':C} {off:Nat} {v:Value} (h:RC E w ι c v) (hf:fieldA c off=some c') : ∃ b o,v = .pointer (some ⟨b,o,none⟩)∧RC E w ι c' (.pointer (some ⟨b,o+off,none⟩)):=by
 unfold fieldA at hf
 split at hf
 ·simp only [Option.some.injEq] at hf
  subst hf
  exact RD.at_drop h off
 ·simp only [Option.some.injEq] at hf
  subst hf
  obtain ⟨b,cap,h1,h2,rfl⟩:=h
  exact ⟨b,_,rfl,b,cap,h1,h2,by rw [Nat.add_assoc]⟩
 ·simp at hf
theorem add_zero_or (b o m:Nat):(⟨b,o,none⟩:Addr).add m=⟨b,o+m,none⟩:=Addr.add_mid b o m
section
variable {P:Program} {qt:Bool} {o:Oper} {st:St} {K:St->Prop} {t:Nat}
theorem ev_fieldAddr {s f:Nat} {x:Operand} {c c':C} {off k:Nat} (ho:o.op = .fieldAddr s x f) (hx:ev st x = .one c) (hf:fldOf P s f=some (off,k)) (hk:0<k) (hc:fieldA c off=some c'):EvS P o st (.one c') true:=fun β F ι a w h=>by
  have he:=h.ev x
  rw [hx,RV] at he
  obtain ⟨b,of,hv,hr⟩:=RC.field he hc
  refine ⟨_,fun w' _ => ?_,by rw [RV];exact hr⟩
  unfold fldOf at hf
  split at hf
  ·rename_i fs hu
   cases hfs:fs[f]? with
   | none=>simp [hfs] at hf
   | some g =>
    cases hz:szOf P g.type with
    | none=>simp [hfs,hz] at hf
    | some k' =>
     simp only [hfs,hz,Option.bind_some,Option.map_some,Option.some.injEq,Prod.mk.injEq] at hf
     obtain ⟨rfl,rfl⟩:=hf
     have hne : ¬ k'=0:=by omega
     simp [execOp,ho,Instr.fieldAt,run_underlying hu,hfs,hv,Instr.sureAddr,fieldPlace,szOf_run hz,hne,add_zero_or]
  ·simp at hf
def idxA:C->Nat->Nat->Option C
 | .d (.sl S es),i,z=>match es[i]? with
  | some e=>if e.length=z then some (.d (.at_ S e)) else none
  | none=>none
 | .own n k l,i,z=>if i<l∧k=z then some (.ptr n k i 0) else none
 | _,_,_=>none
theorem RC.idx {E:Env} {w:World} {ι:Nms} {c c':C} {i z:Nat} {v:Value} (h:RC E w ι c v) (hf:idxA c i z=some c') :
  ∃ b o len cap,v = .slice (some ⟨b,o,none⟩) len cap∧i<len∧RC E w ι c' (.pointer (some ⟨b,o+i*z,none⟩)):=by
 cases c with
 | d x =>
  cases x with
  | sl S es =>
   simp only [idxA] at hf
   cases he:es[i]? with
   | none=>simp [he] at hf
   | some e =>
    simp only [he] at hf
    split at hf
    ·rename_i hl
     simp only [Option.some.injEq] at hf
     subst hf hl
     cases h with
     | sl X h1 h2 hk h3 h4 h5 =>
      have hi:=(List.getElem?_eq_some_iff.1 he).1
      obtain ⟨b,of,rfl,hok,hc⟩:=h4 (by omega)
      refine ⟨b,of,_,_,rfl,hi,.at_ (X i) hok (fun j c hj => ?_) (fun j c hj=>h5 i j c (by simp [nth2,he,hj]))⟩
      rw [hk e (List.mem_of_getElem? he)]
      exact hc i j c (by simp [nth2,he,hj])
    ·simp at hf
  | _=>simp [idxA] at hf
 | own n k l =>
  simp only [idxA] at hf
  split at hf
  ·rename_i hl
   simp only [Option.some.injEq] at hf
   obtain ⟨hl,rfl⟩:=hl
   subst hf
   obtain ⟨b,cap,h1,h2,h3,h4⟩:=h
   rcases h4 with ⟨h4, -⟩ | ⟨h4,rfl⟩
   ·omega
   ·exact ⟨b,0,_,_,rfl,hl,b,cap,h1,h4,by simp⟩
  ·simp at hf
 | _=>simp [idxA] at hf
def intOf? : D->Option Int
 | .one (.d (.lit (.int _ n)))=>some n
 | _=>none
theorem intOf_ok {β:Base} {F:Nat->Prop} {ι:Nms} {st:St} {a:Act} {w:World} (h:Holds β F ι st a w) {x:Operand} {n:Int} (hx:intOf? (ev st x)=some n) : ∃ k,a.eval x = .int k n:=by
 unfold intOf? at hx
 split at hx
 ·rename_i k m he
  simp only [Option.some.injEq] at hx
  subst hx
  have:=h.ev x
  rw [he,RV] at this
  exact ⟨k,RD.lit_inv this⟩
 ·simp at hx
theorem elOf_run {P:Program} {t e:TypeId} {k:Nat} (h:elOf P t=some (e,k)):P.underlying t=some (.slice e)∧szOf P e=some k:=by
 unfold elOf at h
 split at h
 ·rename_i e' hu
  cases hz:szOf P e' with
  | none=>simp [hz] at h
  | some k' =>
   simp only [hz,Option.map_some,Option.some.injEq,Prod.mk.injEq] at h
   obtain ⟨rfl,rfl⟩:=h
   exact ⟨hu,hz⟩
 ·simp at h
theorem ev_indexAddr {ty e:TypeId} {z:Nat} {x y:Operand} {c c':C} {n:Int} (ho:o.op = .indexAddr ty x y) (hx:ev st x = .one c) (hy:intOf? (ev st y)=some n) (h0:0≤n) (he:elOf P ty=some (e,z)) (hc:idxA c n.toNat z=some c'):EvS P o st (.one c') true:=fun β F ι a w h=>by
  have hv:=h.ev x
  rw [hx,RV] at hv
  obtain ⟨b,of,len,cap,hv,hi,hr⟩:=RC.idx hv hc
  obtain ⟨k,hk⟩:=intOf_ok h hy
  obtain ⟨hu,hz⟩:=elOf_run he
  refine ⟨_,fun w' _ => ?_,by rw [RV];exact hr⟩
  have h1:n<len:=by omega
  simp [execOp,ho,hv,hk,Instr.indexAt,asIntOf,run_underlying hu,szOf_run hz,h0,h1,add_zero_or]
def lenOf? : D->Option Nat
 | .one (.d (.sl _ es))=>some es.length
 | .one (.d .emp)=>some 0
 | .one (.own _ _ l)=>some l
 | _=>none
theorem lenOf_ok {E:Env} {w:World} {ι:Nms} {d:D} {v:Value} {n:Nat} (h:RV E w ι d v) (hl:lenOf? d=some n) : ∃ A cap,v = .slice A n cap∧n≤9223372036854775807:=by
 unfold lenOf? at hl
 split at hl
 ·simp only [Option.some.injEq] at hl
  subst hl
  rw [RV] at h
  cases h with
  | sl X h1 h2=>exact ⟨_,_,rfl,by simp only [maxLen] at h2;omega⟩
 ·simp only [Option.some.injEq] at hl
  subst hl
  rw [RV] at h
  cases h
  exact ⟨_,_,rfl,by omega⟩
 ·simp only [Option.some.injEq] at hl
  subst hl
  rw [RV] at h
  obtain ⟨b,cap,h1,h2,h3,h4⟩:=h
  rcases h4 with ⟨h4,A,rfl⟩ | ⟨-, rfl⟩
  ·obtain rfl:_=0:=Nat.le_zero.1 (h4▸h2)
   exact ⟨_,_,rfl,by omega⟩
  ·exact ⟨_,_,rfl,by simp only [maxLen] at h3;omega⟩
 ·simp at hl
theorem ev_len {x:Operand} {ty:TypeId} {n:Nat} {ez:TypeId×Nat} (ho:o.op = .call { callee := .builtin .len,args := #[x],argTypes := #[ty] }) (he:elOf P ty=some ez) (hx:lenOf? (ev st x)=some n):EvS P o st (.one (.d (.lit (.int .i64 n)))) true:=fun β F ι a w h=>by
 obtain ⟨A,cap,hv, -⟩:=lenOf_ok (h.ev x) hx
 refine ⟨.int .i64 n,fun w' _ => ?_,by rw [RV];exact .lit rfl⟩
 obtain ⟨e,z⟩:=ez
 simp [execOp,ho,resolve,hv,invoke,builtin,Builtin.len_,goInt,run_underlying (elOf_run he).1]
end
def Nms.set (ι:Nms) (n:Nat) (x:Nat×Nat):Nms:=fun m=>if m=n then some x else ι m
theorem Nms.le_set {ι:Nms} {n:Nat} {x:Nat×Nat} (h:ι n=none):Nms.le ι (ι.set n x):=fun m y hm=>by
 unfold Nms.set
 by_cases e:m=n
 ·subst e;rw [h] at hm;cases hm
 ·simp [e,hm]
theorem RB.keep {E E':Env} {w w':World} {ι ι':Nms} {n:Nat} {x:Blk} (h:RB E w ι n x) (hle:E.le E' w w') (hi:Nms.le ι ι') (hb : ∀ b cap,ι n=some (b,cap)->0<cap->w'.heap[b]? = w.heap[b]?):RB E' w' ι' n x:=by
 obtain ⟨b,cap,h1,h2,h3,h4⟩:=h
 refine ⟨b,cap,hi _ _ h1,h2,h3,fun hc => ?_⟩
 obtain ⟨arr,g1,g2,g3,g4⟩:=h4 hc
 refine ⟨arr,g1.keep (hb b cap h1 hc),g2,g3,fun i j c hj => ?_⟩
 obtain ⟨v,k1,k2⟩:=g4 i j c hj
 exact ⟨v,k1,k2.keep hle hi⟩
theorem HpOk.env {β:Base} {F:Nat->Prop} {w w':World} {ι:Nms} {H:Hp} {nx:Nat} (h:HpOk β F w ι H nx) (hw : ∀ b,b<w.heap.size->(F b∨β.B b)->w'.heap[b]? = w.heap[b]?):Env.le ⟨F,β.B⟩ ⟨F,β.B⟩ w w' :=
 ⟨fun _ h=>h,fun _ h=>h,fun b hb=>hw b (h.Flt b hb) (.inl hb),fun b hb=>hw b (Nat.lt_of_lt_of_le hb.1 h.size) (.inr hb)⟩
theorem HpOk.alloc0 {β:Base} {F:Nat->Prop} {w w':World} {ι:Nms} {H:Hp} {nx:Nat} (h:HpOk β F w ι H nx) (arr:Array Value) (x:Blk) (c:Nat) (hc:0<c)
  {ob:Obj} (hw:w'.heap=w.heap.push ob) (hio:SameIo w w') (hbi:BlkIs w' w.heap.size arr x.t) (hl:x.es.length≤c) (hk : ∀ e∈x.es,e.length=x.k) (hs:arr.size=c*x.k) (h1 : ∀ v∈arr,v.oneCell'=true)
  (hr : ∀ i j y,nth2 x.es i j=some y -> ∃ v,arr[i*x.k+j]? = some v∧RC ⟨F,β.B⟩ w ι y v) :
  HpOk β F w' (ι.set nx (w.heap.size,c)) (H.set nx (some x)) (nx+1)∧Env.le ⟨F,β.B⟩ ⟨F,β.B⟩ w w'∧Nms.le ι (ι.set nx (w.heap.size,c)):=by
 have hold : ∀ b,b<w.heap.size->w'.heap[b]? = w.heap[b]? := fun b hb=>by rw [hw,Array.getElem?_push_lt hb,Array.getElem?_eq_getElem hb]
 have hle:=h.env (w':=w') fun b hb _=>hold b hb
 have hnew:ι nx=none:=h.nx nx (Nat.le_refl _)
 have hi:=Nms.le_set (x:=(w.heap.size,c)) hnew
 have hsz:w'.heap.size=w.heap.size+1:=by rw [hw,Array.size_push]
 have hset : ∀ m,m≠nx->ι.set nx (w.heap.size,c) m=ι m:=fun m hm=>by simp [Nms.set,hm]
 have hblt : ∀ n b cap,H n≠none->ι n=some (b,cap)->0<cap->b<w.heap.size:=fun n b cap h1 h2 h3=>(h.own n b cap h1 h2 h3).1
 refine ⟨⟨by rw [hsz];have:=h.size;omega,fun b hb hN => ?_,fun b hb=>by have:=h.Flt b hb;omega,h.Fof,h.F0,fun n y hn => ?_,fun n b cap hn hb hcp => ?_,fun n m b c1 c2 hn hm hb1 hb2 p1 p2 => ?_,fun n hn => ?_,fun m y hm=>hi m y (h.nm m y hm),h.io.trans hio⟩,hle,hi⟩
 ·rw [hold b (Nat.lt_of_lt_of_le hb h.size)];exact h.keep b hb hN
 ·by_cases e:n=nx
  ·subst e
   simp only [Hp.set_same,Option.some.injEq] at hn
   subst hn
   refine ⟨w.heap.size,c,by simp [Nms.set],hl,hk,fun _=>⟨arr,hbi,hs,h1,fun i j y hy => ?_⟩⟩
   obtain ⟨v,g1,g2⟩:=hr i j y hy
   exact ⟨v,g1,g2.keep hle hi⟩
  ·rw [Hp.set_ne _ _ e] at hn
   exact (h.blk n y hn).keep hle hi fun b cap h1 h2=>hold b (hblt n b cap (by rw [hn];simp) h1 h2)
 ·by_cases e:n=nx
  ·subst e
   simp only [Nms.set,if_true,Option.some.injEq,Prod.mk.injEq] at hb
   obtain ⟨rfl,rfl⟩:=hb
   exact ⟨by omega,fun hF=>by have:=h.Flt _ hF;omega,.inr h.size⟩
  ·rw [Hp.set_ne _ _ e] at hn
   rw [hset n e] at hb
   have:=h.own n b cap hn hb hcp
   exact ⟨by omega,this.2⟩
 ·by_cases e1:n=nx <;> by_cases e2:m=nx
  ·rw [e1,e2]
  ·subst e1
   rw [Hp.set_ne _ _ e2] at hm
   rw [hset m e2] at hb2
   simp only [Nms.set,if_true,Option.some.injEq,Prod.mk.injEq] at hb1
   obtain ⟨rfl,rfl⟩:=hb1
   have:=hblt m _ _ hm hb2 p2
   omega
  ·subst e2
   rw [Hp.set_ne _ _ e1] at hn
   rw [hset n e1] at hb1
   simp only [Nms.set,if_true,Option.some.injEq,Prod.mk.injEq] at hb2
   obtain ⟨rfl,rfl⟩:=hb2
   have:=hblt n _ _ hn hb1 p1
   omega
  ·rw [Hp.set_ne _ _ e1] at hn
   rw [Hp.set_ne _ _ e2] at hm
   rw [hset n e1] at hb1
   rw [hset m e2] at hb2
   exact h.inj n m b c1 c2 hn hm hb1 hb2 p1 p2
 ·rw [hset n (by omega)]
  exact h.nx n (by omega)
theorem HpOk.alloc {β:Base} {F:Nat->Prop} {w w':World} {ι:Nms} {H:Hp} {nx:Nat} (h:HpOk β F w ι H nx) (arr:Array Value) (ty:TypeId) (k:Nat) (es:List (List C)) (c:Nat) (hc:0<c)
  (hw:w'.heap=w.heap.push (.cells arr ty (0,0))) (hio:SameIo w w') (hl:es.length≤c) (hk : ∀ e∈es,e.length=k) (hs:arr.size=c*k) (h1 : ∀ v∈arr,v.oneCell'=true)
  (hr : ∀ i j y,nth2 es i j=some y -> ∃ v,arr[i*k+j]? = some v∧RC ⟨F,β.B⟩ w ι y v) :
  HpOk β F w' (ι.set nx (w.heap.size,c)) (H.set nx (some ⟨.c ty,k,es⟩)) (nx+1)∧Env.le ⟨F,β.B⟩ ⟨F,β.B⟩ w w'∧Nms.le ι (ι.set nx (w.heap.size,c)) :=
 h.alloc0 arr ⟨.c ty,k,es⟩ c hc hw hio (by show w'.heap[w.heap.size]? = _;rw [hw];simp) hl hk hs h1 hr
theorem HpOk.write {β:Base} {F:Nat->Prop} {w w':World} {ι:Nms} {H:Hp} {nx:Nat} (h:HpOk β F w ι H nx) {n:Nat} {x:Blk} (hn:H n=some x) {b cap:Nat} (hb:ι n=some (b,cap)) (hc:0<cap) (arr:Array Value) (x':Blk)
  (hw : ∀ b',b'≠b->w'.heap[b']? = w.heap[b']?) (hsz:w'.heap.size=w.heap.size) (hio:SameIo w w') (hwb:BlkIs w' b arr x'.t) (hl:x'.es.length≤cap) (hk : ∀ e∈x'.es,e.length=x'.k) (hs:arr.size=cap*x'.k) (h1 : ∀ v∈arr,v.oneCell'=true)
  (hr : ∀ i j y,nth2 x'.es i j=some y -> ∃ v,arr[i*x'.k+j]? = some v∧RC ⟨F,β.B⟩ w ι y v) :
  HpOk β F w' ι (H.set n (some x')) nx∧Env.le ⟨F,β.B⟩ ⟨F,β.B⟩ w w':=by
 have hown:=h.own n b cap (by rw [hn];simp) hb hc
 have hB : ¬ β.B b:=fun hB=>by
  rcases hown.2.2 with h0 | h0
  ·exact hB.2 h0
  ·have:=hB.1;omega
 have hle:=h.env (w':=w') fun b' _ hr=>hw b' fun e=>by
  subst e
  rcases hr with hr | hr
  ·exact hown.2.1 hr
  ·exact hB hr
 have hset : ∀ m,H.set n (some x') m≠none->H m≠none:=fun m hm=>by
  by_cases e:m=n
  ·subst e;rw [hn];simp
  ·rwa [Hp.set_ne _ _ e] at hm
 refine ⟨⟨by rw [hsz];exact h.size,fun b' hb' hN => ?_,fun b' hb'=>by rw [hsz];exact h.Flt b' hb',h.Fof,h.F0,fun m y hm => ?_,fun m b' cap' hm hb' hcp=>by rw [hsz];exact h.own m b' cap' (hset m hm) hb' hcp,
  fun m m' b' c1 c2 hm hm'=>h.inj m m' b' c1 c2 (hset m hm) (hset m' hm'),h.nx,h.nm,h.io.trans hio⟩,hle⟩
 ·rw [hw b' fun e=>hB ⟨e▸hb',e▸hN⟩];exact h.keep b' hb' hN
 ·by_cases e:m=n
  ·subst e
   simp only [Hp.set_same,Option.some.injEq] at hm
   subst hm
   refine ⟨b,cap,hb,hl,hk,fun _=>⟨arr,hwb,hs,h1,fun i j y hy => ?_⟩⟩
   obtain ⟨v,g1,g2⟩:=hr i j y hy
   exact ⟨v,g1,g2.keep hle (Nms.le_refl _)⟩
  ·rw [Hp.set_ne _ _ e] at hm
   refine (h.blk m y hm).keep hle (Nms.le_refl _) fun b' c' h1 h2=>hw b' fun eb => ?_
   subst eb
   exact e (h.inj m n b' c' cap (by rw [hm];simp) (by rw [hn];simp) h1 hb h2 hc)
def Dcells:D->Option (List C)
 | .one c=>some [c]
 | .agg cs=>some cs
 | _=>none
theorem Dcells_ok {E:Env} {w:World} {ι:Nms} {d:D} {v:Value} {cs:List C} (h:RV E w ι d v) (hc:Dcells d=some cs):RCs E w ι cs v.cells.toList ∧ ∀ x∈v.cells,x.oneCell'=true:=by
 unfold Dcells at hc
 split at hc
 ·simp only [Option.some.injEq] at hc
  subst hc
  rw [RV] at h
  have h1:=h.one
  have hv:v.cells = #[v]:=by cases v <;> first | rfl | cases h1
  rw [hv]
  exact ⟨⟨h,trivial⟩,by simpa using h1⟩
 ·simp only [Option.some.injEq] at hc
  subst hc
  rw [RV] at h
  obtain ⟨xs,rfl,h⟩:=h
  exact ⟨h,fun x hx=>RCs.one h x (by simpa [Value.cells] using hx)⟩
 ·simp at hc
theorem old_alloc (w:World) (x:Obj):Old w (w.alloc x):=fun b hb=>by
 show (w.heap.push x)[b]? = _
 rw [Array.getElem?_push_lt hb,Array.getElem?_eq_getElem hb]
def St.newVar (st:St) (t:TypeId) (cs:List C):St:=⟨st.n,st.tm,st.H.set st.nx (some ⟨.c t,cs.length,[cs]⟩),st.nx+1⟩
theorem nth2_one {α:Type} {cs:List α} {i j:Nat} {y:α} (h:nth2 [cs] i j=some y):i=0∧cs[j]? = some y:=by
 unfold nth2 at h
 cases i with
 | zero=>exact ⟨rfl,by simpa using h⟩
 | succ i=>simp at h
theorem Holds.newVar {β:Base} {F:Nat->Prop} {ι:Nms} {st:St} {a:Act} {w:World} (h:Holds β F ι st a w) (t:TypeId) {cs:List C} {vs:Array Value} (hr:RCs ⟨F,β.B⟩ w ι cs vs.toList) :
  Holds β F (ι.set st.nx (w.heap.size,1)) (st.newVar t cs) a (w.alloc (.cells vs t))∧RV ⟨F,β.B⟩ (w.alloc (.cells vs t)) (ι.set st.nx (w.heap.size,1)) (.one (.ptr st.nx cs.length 0 0)) (.pointer (some ⟨w.heap.size,0,none⟩)):=by
 have hlen:=hr.len
 obtain ⟨h1,h2,h3⟩:=h.heap.alloc (w':=w.alloc (.cells vs t)) vs t cs.length [cs] 1 (by omega) rfl ⟨rfl,rfl,rfl⟩ (by simp) (by simp) (by simpa using hlen) (fun v hv=>RCs.one hr v (by simpa using hv)) (fun i j y hy=>by
  obtain ⟨rfl,hy⟩:=nth2_one hy
  obtain ⟨v,g1,g2⟩:=hr.get hy
  exact ⟨v,by simpa using g1,g2⟩)
 refine ⟨⟨h.good,h.defers,h.size,fun u=>(h.tm u).keep h2 h3,h1⟩,?_⟩
 rw [RV]
 exact ⟨w.heap.size,1,by simp [Nms.set],by omega,by simp⟩
section
variable {P:Program} {qt:Bool} {o:Oper} {st:St} {K:St->Prop} {t:Nat}
theorem ev_box {ty:TypeId} {x:Operand} {cs:List C} (ho:o.op = .box ty x) (hx:Dcells (ev st x)=some cs) (ht:o.dst=some t) (hn:t<st.n) (hK:K ((st.newVar ty cs).put t (.one (.ptr st.nx cs.length 0 0)))):EvO P qt o st K :=
 EvO.val ht hn (st.newVar ty cs) rfl _ hK fun β F ι a w h=>by
  obtain ⟨h1,h2⟩:=Dcells_ok (h.ev x) hx
  obtain ⟨g1,g2⟩:=h.newVar ty h1
  exact ⟨_,F,_,_,by simp [execOp,ho,Instr.box,newVar,newRow],g1,g2,fun _=>old_alloc w _⟩
theorem zeroOf_run {P:Program} {ty:TypeId} {zs:List Value} (h:zeroOf P ty=some zs) (w:World) : ∃ z,(zeroValue ty).run P w = .ok z w∧z.cells=zs.toArray:=by
 unfold zeroOf at h
 cases hi:P.info? ty with
 | none=>simp [hi] at h
 | some i =>
  cases hz:i.zero with
  | none=>simp [hi,hz] at h
  | some z =>
   simp only [hi,hz,Option.bind_some,Option.map_some,Option.some.injEq] at h
   exact ⟨z,by simp [zeroValue,typeInfo,hi,hz],by rw [← h]⟩
theorem ev_alloc {ty:TypeId} {zs:List Value} (ho:o.op = .alloc ty) (hz:zeroOf P ty=some zs) (h1:zs.all Value.oneCell'=true) (ht:o.dst=some t) (hn:t<st.n)
  (hK:K ((st.newVar ty (zs.map fun v => .d (cellOf v))).put t (.one (.ptr st.nx (zs.map fun v=>C.d (cellOf v)).length 0 0)))):EvO P qt o st K :=
 EvO.val ht hn (st.newVar ty (zs.map fun v => .d (cellOf v))) rfl _ hK fun β F ι a w h=>by
  obtain ⟨z,hr,hc⟩:=zeroOf_run hz w
  obtain ⟨g1,g2⟩:=h.newVar ty (vs:=zs.toArray) (cs:=zs.map fun v => .d (cellOf v)) (by simpa using RCs.ofList h1)
  refine ⟨_,F,_,_,?_,g1,g2,fun _=>old_alloc w _⟩
  simp [execOp,ho,Instr.alloc,hr,newVar,newRow,hc]
def splice (e:List C) (o:Nat) (cs:List C):List C:=e.take o++cs++e.drop (o+cs.length)
theorem splice_len {e:List C} {o:Nat} {cs:List C} (h:o+cs.length≤e.length):(splice e o cs).length=e.length:=by
 unfold splice;simp;omega
theorem splice_get {α:Type} {e cs:List α} {o j:Nat} (h:o+cs.length≤e.length):(e.take o++cs++e.drop (o+cs.length))[j]? = if o≤j∧j<o+cs.length then cs[j-o]? else e[j]? := by
 by_cases h1:j<o
 ·have : ¬ (o≤j∧j<o+cs.length):=by omega
  rw [if_neg this,List.append_assoc,List.getElem?_append_left (by simp;omega),List.getElem?_take,if_pos h1]
 ·by_cases h2:j<o+cs.length
  ·rw [if_pos ⟨by omega,h2⟩,List.append_assoc,List.getElem?_append_right (by simp;omega)]
   have hl:(e.take o).length=o:=by simp;omega
   rw [hl,List.getElem?_append_left (by omega)]
  ·rw [if_neg (by omega),List.getElem?_append_right (by simp;omega)]
   have hl:(e.take o++cs).length=o+cs.length:=by simp;omega
   rw [hl,List.getElem?_drop]
   congr 1;omega
theorem cellAt_ne {i i' j o k m:Nat} (hne:i'≠i) (hj:j<k) (ho:o+m≤k) : ¬ (i*k+o≤i'*k+j∧i'*k+j<i*k+o+m):=by
 rcases Nat.lt_or_gt_of_ne hne with h | h
 ·have:(i'+1)*k≤i*k:=Nat.mul_le_mul_right k h
  rw [Nat.succ_mul] at this
  omega
 ·have:(i+1)*k≤i'*k:=Nat.mul_le_mul_right k h
  rw [Nat.succ_mul] at this
  omega
theorem nth2_set {α:Type} {es:List (List α)} {i i' j:Nat} {e:List α} {y:α} (h:nth2 (es.set i e) i' j=some y):(i'=i∧i<es.length∧e[j]? = some y)∨(i'≠i∧nth2 es i' j=some y):=by
 unfold nth2 at h ⊢
 by_cases hi:i'=i
 ·subst hi
  by_cases hl:i'<es.length
  ·exact .inl ⟨rfl,hl,by simpa [hl] using h⟩
  ·have hnone:(es.set i' e)[i']? = none:=List.getElem?_eq_none (by simp;omega)
   rw [hnone] at h
   cases h
 ·exact .inr ⟨hi,by rw [List.getElem?_set_ne (fun e=>hi e.symm)] at h;exact h⟩
theorem nth2_lt {α:Type} {es:List (List α)} {k i j:Nat} {y:α} (h:nth2 es i j=some y) (hk : ∀ e∈es,e.length=k):i<es.length∧j<k:=by
 unfold nth2 at h
 cases hi:es[i]? with
 | none=>simp [hi] at h
 | some e =>
  simp only [hi,Option.bind_some] at h
  exact ⟨(List.getElem?_eq_some_iff.1 hi).1,by rw [← hk e (List.mem_of_getElem? hi)];exact (List.getElem?_eq_some_iff.1 h).1⟩
theorem ev_store {ty bt:TypeId} {x y:Operand} {n k i of:Nat} {b:Blk} {e cs:List C} (ho:o.op = .store ty x y) (hx:ev st x = .one (.ptr n k i of)) (hb:st.H n=some b) (hbt:b.t = .c bt) (hk:b.k=k) (he:b.es[i]? = some e) (hy:Dcells (ev st y)=some cs)
  (hz:szOf P ty=some cs.length) (hl:of+cs.length≤e.length) (ht:o.dst=none) (hK:K ⟨st.n,st.tm,st.H.set n (some ⟨.c bt,b.k,b.es.set i (splice e of cs)⟩),st.nx⟩):EvO P qt o st K :=
 EvO.unit ht (by rw [ho];rfl) _ hK (by rw [ho];rfl) fun β F ι a w h=>by
  subst hk
  obtain ⟨h1,h2⟩:=Dcells_ok (h.ev y) hy
  have hp:=h.ev x
  rw [hx,RV] at hp
  obtain ⟨bn,cap,p1,p2,p3⟩:=hp
  obtain ⟨bn',cap',q1,q2,q3,q4⟩:=h.heap.blk n b hb
  rw [p1] at q1
  simp only [Option.some.injEq,Prod.mk.injEq] at q1
  obtain ⟨rfl,rfl⟩:=q1
  obtain ⟨arr,r1,r2,r3,r4⟩:=q4 p2
  rw [hbt] at r1
  replace r1:w.heap[bn]? = some (.cells arr bt (0,0)):=r1
  have hi:=(List.getElem?_eq_some_iff.1 he).1
  have hek:=q3 e (List.mem_of_getElem? he)
  have hfit:i*b.k+of+cs.length≤arr.size:=by
   have:(i+1)*b.k≤cap*b.k:=Nat.mul_le_mul_right _ (by omega)
   rw [Nat.succ_mul] at this
   omega
  have hvl:(a.eval y).cells.toList.length=cs.length:=h1.len
  have hst:=run_storeCells_at (P:=P) bn (i*b.k+of) bt (a.eval y).cells.toList 0 arr w r1 (by rw [hvl];omega) (fun v hv=>h2 v (by simpa using hv))
  simp only [Nat.add_zero] at hst
  generalize hA:arr.toList.take (i*b.k+of)++(a.eval y).cells.toList++arr.toList.drop (i*b.k+of+(a.eval y).cells.toList.length)=L at hst
  have hLl:L.length=arr.size:=by rw [← hA];simp at hvl ⊢; omega
  have hget : ∀ j,L[j]? = if i*b.k+of≤j∧j<i*b.k+of+cs.length then (a.eval y).cells.toList[j-(i*b.k+of)]? else arr[j]? := fun j=>by
   rw [← hA,splice_get (by rw [hvl];simpa using hfit),hvl]
   simp
  obtain ⟨g1,g2⟩:=h.heap.write (w':=w.setRow bn L.toArray) hb p1 p2 L.toArray ⟨.c bt,b.k,b.es.set i (splice e of cs)⟩ (fun b' hb'=>setRow_other w bn b' _ hb') (by first | exact setRow_size .. | simp) ⟨rfl,rfl,rfl⟩ (setRow_heap w bn arr _ bt _ r1)
   (by simpa using q2) (fun e' he'=>by
    rcases List.mem_or_eq_of_mem_set he' with he' | rfl
    ·exact q3 e' he'
    ·rw [splice_len hl];exact hek) (by simp only [List.size_toArray];rw [hLl];exact r2) (fun v hv=>by
    have hv:v∈L:=by simpa using hv
    obtain ⟨j,hj⟩:=List.getElem?_of_mem hv
    rw [hget] at hj
    split at hj
    ·exact h2 v (by have:=List.mem_of_getElem? hj;simpa using this)
    ·exact r3 v (Array.mem_of_getElem? hj)) (fun i' j y' hy'=>by
    have hkk : ∀ e'∈b.es.set i (splice e of cs),e'.length=b.k:=fun e' he'=>by
     rcases List.mem_or_eq_of_mem_set he' with he' | rfl
     ·exact q3 e' he'
     ·rw [splice_len hl];exact hek
    have hlt:=(nth2_lt hy' hkk).2
    simp only [List.getElem?_toArray,hget]
    rcases nth2_set hy' with ⟨rfl, -, hy'⟩ | ⟨hne,hy'⟩
    ·unfold splice at hy'
     rw [splice_get hl] at hy'
     split at hy'
     ·rename_i hin
      rw [if_pos (by omega)]
      obtain ⟨v,k1,k2⟩:=h1.get hy'
      exact ⟨v,by rw [show i'*b.k+j-(i'*b.k+of)=j-of by omega];exact k1,k2⟩
     ·rename_i hin
      rw [if_neg (by omega)]
      exact r4 i' j y' (by simp [nth2,he,hy'])
    ·rw [if_neg (cellAt_ne hne hlt (by rw [← hek];exact hl))]
     exact r4 i' j y' hy')
  have hpk : ∀ ty x y,o.op = .store ty x y -> ∃ b',Poke b' w (w.setRow bn L.toArray) ∧ ∀ b2 of s,a.eval x = .pointer (some ⟨b2,of,s⟩)->b2=b':=fun ty' x' y' e=>by
   rw [ho] at e
   cases e
   refine ⟨bn,⟨by first | exact Nat.le_of_eq (setRow_size ..).symm | simp [World.setRow],fun c hc=>setRow_other w bn c _ hc⟩,fun b2 of2 s hp => ?_⟩
   rw [p3] at hp
   cases hp;rfl
  refine ⟨F,ι,_,?_,⟨h.good,h.defers,h.size,fun u=>(h.tm u).keep g2 (Nms.le_refl _),g1⟩,hpk⟩
  have hz' : ¬ (a.eval y).cells.size≠cs.length:=by simpa using hvl
  simp only [execOp,ho,Instr.storeAt,p3,Instr.sureAddr,storeVar]
  simp [szOf_run hz,hz',hst]
  try simp at hvl
  try simp [hvl,hst]
end
theorem RV.undef {E:Env} {w:World} {ι:Nms} : RV E w ι (.tup []) undef:=by rw [RV];exact ⟨#[],rfl,by rw [RVs];trivial⟩
def gd (l:List Oper) (st:St) (o:Oper):Option (Bool×Bool×Option Nat):=match o.guard with
 | none=>some (true,true,none)
 | some (j,want)=>match (nthOp l j).bind (·.dst) with
  | some d=>match lk st.tm d with
   | .one (.d (.lit (.bool b)))=>if d<st.n then some (b,want,some d) else none
   | .tup []=>if d<st.n then some (!want,want,none) else none
   | _=>none
  | none=>none
theorem gd_ok {β:Base} {F:Nat->Prop} {ι:Nms} {st:St} {a:Act} {w:World} (h:Holds β F ι st a w) {l:List Oper} {o:Oper} {x y:Bool} {dd:Option Nat} (hg:gd l st o=some (x,y,dd)):Region.wanted o (yielded l.toArray a.tmps)=(x == y):=by
 unfold gd at hg
 unfold Region.wanted
 cases hgo:o.guard with
 | none =>
  simp only [hgo,Option.some.injEq,Prod.mk.injEq] at hg
  obtain ⟨rfl,rfl, -⟩:=hg
  rfl
 | some jw =>
  obtain ⟨j,want⟩:=jw
  simp only [hgo] at hg ⊢
  unfold yielded
  rw [← nthOp_eq]
  cases hd:(nthOp l j).bind (·.dst) with
  | none=>simp [hd] at hg
  | some d =>
   simp only [hd] at hg
   split at hg
   ·rename_i b hb
    split at hg
    ·rename_i hlt
     simp only [Option.some.injEq,Prod.mk.injEq] at hg
     obtain ⟨rfl,rfl, -⟩:=hg
     have:=h.tm d
     rw [hb,RV] at this
     have hv:=RD.lit_inv this
     have hlt':d<a.tmps.size:=by rw [h.size];exact hlt
     have hq:a.tmps[d]? = some (.bool b):=by
      rw [Array.getElem?_eq_getElem hlt']
      simpa [Array.getD,hlt'] using hv
     simp [hq]
    ·simp at hg
   ·rename_i hb
    split at hg
    ·rename_i hlt
     simp only [Option.some.injEq,Prod.mk.injEq] at hg
     obtain ⟨rfl,rfl, -⟩:=hg
     have:=h.tm d
     rw [hb,RV] at this
     obtain ⟨xs,hv,hr⟩:=this
     have hlt':d<a.tmps.size:=by rw [h.size];exact hlt
     have hq:a.tmps[d]? = some (.tuple xs):=by
      rw [Array.getElem?_eq_getElem hlt']
      simpa [Array.getD,hlt'] using hv
     cases want <;> simp [hq]
    ·simp at hg
   ·simp at hg
def EvL (P:Program) (l:List Oper) (rest:List Oper) (K:St->Prop) (st:St):Prop :=
 ∀ β F ι a w,Holds β F ι st a w -> ∀ Q:Exit->Act->World->Prop,(∀ F' ι' st' a' w',Holds β F' ι' st' a' w'->K st'->Q .normal a' w')->wpList P l.toArray Q rest a w
def Ev (P:Program) (c:Code) (K:Exit->St->Prop) (st:St):Prop :=
 ∀ β F ι a w,Holds β F ι st a w -> ∀ Q:Exit->Act->World->Prop,(∀ e F' ι' st' a' w',Holds β F' ι' st' a' w'->K e st'->Q e a' w')->c.wp P Q a w
def St.told (st:St) (d:Option Nat) (b:Bool):St:=match d with
 | some d=>st.put d (.one (.d (.lit (.bool b))))
 | none=>st
theorem told_ok {β:Base} {F:Nat->Prop} {ι:Nms} {st:St} {a:Act} {w:World} (h:Holds β F ι st a w) {l:List Oper} {o:Oper} {x y:Bool} {d:Option Nat} (hg:gd l st o=some (x,y,d)):Holds β F ι (st.told d x) a w:=by
 unfold gd at hg
 cases hgo:o.guard with
 | none=>simp only [hgo,Option.some.injEq,Prod.mk.injEq] at hg;obtain ⟨-, -, rfl⟩:=hg;exact h
 | some jw =>
  obtain ⟨j,want⟩:=jw
  simp only [hgo] at hg
  split at hg
  ·split at hg
   ·rename_i b hb
    split at hg
    ·simp only [Option.some.injEq,Prod.mk.injEq] at hg
     obtain ⟨rfl,rfl,rfl⟩:=hg
     refine ⟨h.good,h.defers,h.size,fun u => ?_,h.heap⟩
     simp only [St.told,St.put,lk_ins]
     split
     ·rename_i e;subst e;rw [← hb];exact h.tm u
     ·exact h.tm u
    ·cases hg
   ·split at hg
    ·simp only [Option.some.injEq,Prod.mk.injEq] at hg
     obtain ⟨rfl,rfl,rfl⟩:=hg
     exact h
    ·cases hg
   ·cases hg
  ·cases hg
def St.skip (st:St) (o:Oper):St:=match o.dst with
 | some t=>st.put t (.tup [])
 | none=>st
section
variable {P:Program} {l rest:List Oper} {o:Oper} {st:St}
theorem evl_nil {K:St->Prop} (h:K st):EvL P l [] K st:=fun β F ι a w hh Q hQ=>hQ F ι st a w hh h
theorem evl_if {K:St->Prop} {x y:Bool} {d:Option Nat} (hg:gd l st o=some (x,y,d)) (hd : ∀ t,o.dst=some t->t<st.n) (h1:x=y->EvO P false o (st.told d y) (EvL P l rest K)) (h2:x = !y->EvL P l rest K ((st.told d (!y)).skip o)):EvL P l (o::rest) K st:=fun β F ι a w hh Q hQ=>by
 have ht:=told_ok hh hg
 unfold wpList
 rw [gd_ok hh hg]
 by_cases e:x=y
 ·subst e
  simp only [beq_self_eq_true,if_true]
  exact .inl (h1 rfl β F ι a w ht _ _ fun F' ι' st' v w' _ h1 h2=>h2 β F' ι' _ w' h1 Q hQ)
 ·have e':x = !y:=by cases x <;> cases y <;> simp_all
  have hne:(x == y)=false:=by simpa using e
  rw [hne]
  simp only [Bool.false_eq_true,if_false]
  subst e'
  refine h2 rfl β F ι _ w ?_ Q hQ
  have hn:(st.told d (!y)).n=st.n:=by cases d <;> rfl
  unfold St.skip
  cases ho:o.dst with
  | none=>simpa [Act.put] using ht
  | some t=>exact ht.put RV.undef (by rw [hn];exact hd t ho)
variable {K:Exit->St->Prop}
theorem ev_region {id:Nat} (h:EvL P l l (K .normal) st):Ev P (.region id l.toArray false) K st:=fun β F ι a w hh Q hQ=>by
 refine wp_region ?_
 have:wpOps P l.toArray Q (List.range l.toArray.size)=wpList P l.toArray Q l:=by
  rw [List.size_toArray,List.range_eq_range']
  exact wpOps_eq_wpList l 0 (fun j=>by simp)
 rw [this]
 exact h β F ι a w hh Q fun F' ι' st' a' w' h1 h2=>hQ .normal F' ι' st' a' w' h1 h2
theorem ev_skip (h:K .normal st):Ev P .skip K st:=fun β F ι a w hh Q hQ=>wp_skip (hQ .normal F ι st a w hh h)
theorem ev_ret (h:K .ret st):Ev P .ret K st:=fun β F ι a w hh Q hQ=>wp_ret (hQ .ret F ι st a w hh h)
theorem ev_exit {id:Nat} (h:K (.exit id) st):Ev P (.exit id) K st:=fun β F ι a w hh Q hQ=>wp_exit (hQ (.exit id) F ι st a w hh h)
def thenK (K1:St->Prop) (K:Exit->St->Prop):Exit->St->Prop
 | .normal,st=>K1 st
 | e,st=>K e st
theorem ev_seq {x y:Code} (h:Ev P x (thenK (Ev P y K) K) st):Ev P (.seq x y) K st:=fun β F ι a w hh Q hQ=>by
 refine wp_seq (h β F ι a w hh _ fun e F' ι' st' a' w' h1 h2 => ?_)
 cases e with
 | normal=>exact h2 β F' ι' a' w' h1 Q hQ
 | _=>exact hQ _ F' ι' st' a' w' h1 h2
def blockK (id:Nat) (K:Exit->St->Prop):Exit->St->Prop
 | .exit id',st=>if id'=id then K .normal st else K (.exit id') st
 | e,st=>K e st
theorem ev_block {id:Nat} {c:Code} (h:Ev P c (blockK id K) st):Ev P (.block id c) K st:=fun β F ι a w hh Q hQ=>by
 refine wp_block (h β F ι a w hh _ fun e F' ι' st' a' w' h1 h2 => ?_)
 cases e with
 | exit id' =>
  simp only [blockK] at h2
  simp only [Exit.inBlock]
  split at h2
  ·rename_i e;rw [if_pos e];exact hQ .normal F' ι' st' a' w' h1 h2
  ·rename_i e;rw [if_neg e];exact hQ _ F' ι' st' a' w' h1 h2
 | _=>exact hQ _ F' ι' st' a' w' h1 h2
theorem ev_cond {c:Operand} {x y:Code} {b:Bool} (hc:ev st c = .one (.d (.lit (.bool b)))) (h1:b=true->Ev P x K st) (h2:b=false->Ev P y K st):Ev P (.cond c x y) K st:=fun β F ι a w hh Q hQ=>by
 have:=hh.ev c
 rw [hc,RV] at this
 refine wp_cond_split (RD.lit_inv this) (fun e=>h1 e β F ι a w hh Q hQ) (fun e=>h2 e β F ι a w hh Q hQ)
def Wk (st st':St):Prop := ∀ β F ι a w,Holds β F ι st a w -> ∃ F' ι',Holds β F' ι' st' a w
theorem Wk.refl (st:St):Wk st st:=fun _ F ι _ _ h=>⟨F,ι,h⟩
theorem Wk.trans {s1 s2 s3:St} (h1:Wk s1 s2) (h2:Wk s2 s3):Wk s1 s3:=fun β F ι a w h=>by
 obtain ⟨F',ι',h'⟩:=h1 β F ι a w h
 exact h2 β F' ι' a w h'
theorem Ev.weak {c:Code} {st':St} (h:Ev P c K st') (hw:Wk st st'):Ev P c K st:=fun β F ι a w hh Q hQ=>by
 obtain ⟨F',ι',h'⟩:=hw β F ι a w hh
 exact h β F' ι' a w h' Q hQ
def loopK {α:Type} (S:α->St) (m:α->Nat) (x:α) (K:Exit->St->Prop):Exit->St->Prop
 | .normal,st => ∃ x',m x'<m x∧Wk st (S x')
 | e,st=>K e st
theorem ev_loop {α:Type} {c:Code} (S:α->St) (m:α->Nat) (x0:α) (h0:Wk st (S x0)) (round : ∀ x,Ev P c (loopK S m x K) (S x)):Ev P (.loop c) K st:=fun β F ι a w hh Q hQ=>by
 classical
 let G:Nat->Act->World->Prop:=fun n a w => ∃ x F ι,m x=n∧Holds β F ι (S x) a w
 let μ:Act->World->Nat:=fun a w=>if h : ∃ n,G n a w ∧ ∀ n',G n' a w->n≤n' then h.choose else 0
 have hμ : ∀ n a w,G n a w->G (μ a w) a w∧μ a w≤n:=fun n a w hn=>by
  have hex : ∃ n,G n a w ∧ ∀ n',G n' a w->n≤n':=by
   induction n using Nat.strongRecOn with
   | _ n ih =>
    by_cases hlt : ∃ n',n'<n∧G n' a w
    ·obtain ⟨n',h1,h2⟩:=hlt
     exact ih n' h1 h2
    ·exact ⟨n,hn,fun n' hn'=>Nat.le_of_not_lt fun h=>hlt ⟨n',h,hn'⟩⟩
  have he:μ a w=hex.choose:=dif_pos hex
  rw [he]
  exact ⟨hex.choose_spec.1,hex.choose_spec.2 n hn⟩
 refine wp_loop (fun a w => ∃ n,G n a w) μ ?_ ?_
 ·obtain ⟨F',ι',h'⟩:=h0 β F ι a w hh
  exact ⟨m x0,x0,F',ι',rfl,h'⟩
 ·rintro a w ⟨n,hn⟩
  obtain ⟨⟨x,F1,ι1,hm,h1⟩, -⟩:=hμ n a w hn
  refine round x β F1 ι1 a w h1 _ fun e F' ι' st' a' w' g1 g2 => ?_
  cases e with
  | normal =>
   obtain ⟨x',hlt,hwk⟩:=g2
   obtain ⟨F2,ι2,g3⟩:=hwk β F' ι' a' w' g1
   have hG:G (m x') a' w':=⟨x',F2,ι2,rfl,g3⟩
   exact ⟨⟨_,hG⟩,by have:=(hμ _ a' w' hG).2;omega⟩
  | _=>exact hQ _ F' ι' st' a' w' g1 g2
end
def keepF:Nat->List (Nat×D)->List Nat->List (Nat×D)
 | 0,_,_=>[]
 | _,[],_=>[]
 | _,_::_,[]=>[]
 | n+1,(t,d)::l,k::ks=>if t=k then (t,d)::keepF n l ks else if t<k then keepF n l (k::ks) else keepF n ((t,d)::l) ks
def ascB:List Nat->Bool
 | a::b::l=>decide (a<b)&&ascB (b::l)
 | _=>true
theorem ascB_lt : ∀ {l:List Nat} {a:Nat}, ascB (a::l)=true -> ∀ b∈l,a<b
 | [],_,_,b,hb=>by cases hb
 | c::l,a,h,b,hb=>by
  simp only [ascB,Bool.and_eq_true,decide_eq_true_eq] at h
  rcases List.mem_cons.1 hb with rfl | hb
  ·exact h.1
  ·exact Nat.lt_trans h.1 (ascB_lt h.2 b hb)
theorem ascB_tail {l:List Nat} {a:Nat} (h:ascB (a::l)=true):ascB l=true:=by
 cases l with
 | nil=>rfl
 | cons b l=>simp only [ascB,Bool.and_eq_true] at h;exact h.2
theorem keepF_none : ∀ (n:Nat) (l:List (Nat×D)) (ks:List Nat) (u:Nat),u ∉ ks->lk (keepF n l ks) u = .top
 | 0,_,_,_,_=>rfl
 | _+1,[],_,_,_=>by unfold keepF;rfl
 | _+1,_::_,[],_,_=>by unfold keepF;rfl
 | n+1,(t,d)::l,k::ks,u,hu=>by
  unfold keepF
  split
  ·rename_i e
   subst e
   have h1:u≠t:=fun e=>hu (e▸List.mem_cons_self ..)
   simp only [lk,h1,if_false]
   exact keepF_none n l ks u fun h=>hu (List.mem_cons_of_mem _ h)
  ·split
   ·exact keepF_none n l (k::ks) u hu
   ·exact keepF_none n ((t,d)::l) ks u fun h=>hu (List.mem_cons_of_mem _ h)
theorem lk_keepF (u:Nat) : ∀ (n:Nat) (l:List (Nat×D)) (ks:List Nat),ascB ks=true->lk (keepF n l ks) u=lk l u∨lk (keepF n l ks) u = .top
 | 0,_,_,_ => .inr rfl
 | _+1,[],_,_=>by unfold keepF;exact .inl rfl
 | _+1,_::_,[],_=>by unfold keepF;exact .inr rfl
 | n+1,(t,d)::l,k::ks,h=>by
  unfold keepF
  split
  ·simp only [lk]
   by_cases hu:u=t
   ·simp [hu]
   ·simp only [hu,if_false];exact lk_keepF u n l ks (ascB_tail h)
  ·rename_i hne
   split
   ·rename_i hlt
    by_cases hu:u=t
    ·subst hu
     exact .inr (keepF_none n l (k::ks) u fun hm=>by
      rcases List.mem_cons.1 hm with e | hm
      ·exact hne e
      ·have:=ascB_lt h u hm;omega)
    ·simp only [lk,hu,if_false];exact lk_keepF u n l (k::ks) h
   ·exact lk_keepF u n ((t,d)::l) ks (ascB_tail h)
def keepT (l:List (Nat×D)) (ks:List Nat):List (Nat×D):=if ascB ks=true then keepF (l.length+ks.length) l ks else []
theorem lk_keepT (ks:List Nat) (u:Nat) (l:List (Nat×D)):lk (keepT l ks) u=lk l u∨lk (keepT l ks) u = .top:=by
 unfold keepT
 split
 ·rename_i h;exact lk_keepF u _ l ks h
 ·exact .inr rfl
def St.only (st:St) (ks:List Nat):St:=⟨st.n,keepT st.tm ks,st.H,st.nx⟩
theorem Wk.only (st:St) (ks:List Nat):Wk st (st.only ks):=fun β F ι a w h=>⟨F,ι,h.good,h.defers,h.size,fun t=>by
 rcases lk_keepT ks t st.tm with e | e
 ·simp only [St.only,e];exact h.tm t
 ·simp only [St.only,e];rw [RV];trivial,h.heap⟩
def goFn (P : Program) (f : FuncId) : Bool := match P.funcs[f]? with
  | some fn => !(fn.name == "runtime.NumGoroutine") && fn.body.isSome
  | none => false
theorem goFn_run {P : Program} {f : FuncId} (h : goFn P f = true) (args : Array Value) (w : World) : (callFunc f args).run P w = .ok (.enter f args) w := by
  unfold goFn at h
  cases hf : P.funcs[f]? with
  | none => simp [hf] at h
  | some fn =>
    simp only [hf, Bool.and_eq_true, Bool.not_eq_true'] at h
    have h1 : ¬ fn.name = "runtime.NumGoroutine" := by simpa using h.1
    have h2 : ¬ fn.body = none := fun e => by rw [e] at h; simp at h
    simp [callFunc, hf, h1, h2]
def allD (x:Blk):Prop := ∀ e∈x.es, ∀ c∈e, ∃ y,c=C.d y
def noB:Nat->Prop:=fun _=>False
structure Out (F:Nat->Prop) (w w':World) (F':Nat->Prop) (ι:Nms) (d:D) (fr:List Blk) (v:Value):Prop where
 size:w.heap.size≤w'.heap.size
 old : ∀ b,b<w.heap.size->w'.heap[b]? = w.heap[b]?
 Fle : ∀ b,F b->F' b
 new : ∀ b,F' b->(F b∨w.heap.size≤b)∧b<w'.heap.size
 blk : ∀ i x,fr[i]? = some x->RB ⟨F',noB⟩ w' ι i x∧allD x
 own : ∀ i b cap,i<fr.length->ι i=some (b,cap)->0<cap->w.heap.size≤b∧b<w'.heap.size ∧ ¬ F' b
 inj : ∀ i j b c c',i<fr.length->j<fr.length->ι i=some (b,c)->ι j=some (b,c')->0<c->0<c'->i=j
 dom : ∀ i,fr.length≤i->ι i=none
 val:RV ⟨F',noB⟩ w' ι d v
 io:SameIo w w'
def DPure (P:Program) (f:FuncId) (ds:List D) (K:D->List Blk->Prop):Prop:=goFn P f=true ∧
 ∀ F w vs,(∀ b,F b->b<w.heap.size)->GlOk F w->RVs ⟨F,fun b=>b<w.heap.size⟩ w (fun _=>none) ds vs->Calls P f vs.toArray w fun e w' => ∃ F' ι d fr v,e = .returned v∧Out F w w' F' ι d fr v∧K d fr
def Dt.solidT:Dt->Bool
 | .lit _=>true
 | .emp=>true
 | .sl S _=>S
 | .at_ S _=>S
 | .fn _ fs cs=>fs.isEmpty&&cs.isEmpty
def C.isD:C->Bool
 | .d x=>x.solidT
 | _=>false
def C.dt:C->Dt
 | .d x=>x
 | _ => .emp
theorem RD.toSolid {E:Env} {w:World} {x:Dt} {v:Value} (h:RD E w x v) (hs:x.solidT=true):RD E.solid w x v:=by
 cases h with
 | lit h=>exact .lit h
 | emp=>exact .emp
 | sl X h1 h2 hk h3 h4 h5 =>
  simp only [Dt.solidT] at hs
  subst hs
  refine .sl X h1 h2 hk h3 (fun h0 => ?_) h5
  obtain ⟨b,o,ha,ho,hc⟩:=h4 h0
  rcases ho with ho | ⟨h, -⟩
  ·exact ⟨b,o,ha,.inl ho,hc⟩
  ·cases h
 | at_ X h4 hc h5 =>
  simp only [Dt.solidT] at hs
  subst hs
  rcases h4 with ho | ⟨h, -⟩
  ·exact .at_ X (.inl ho) hc h5
  ·cases h
 | fn l1 l2 h1 h2 =>
  simp only [Dt.solidT,Bool.and_eq_true,List.isEmpty_iff] at hs
  obtain ⟨rfl,rfl⟩:=hs
  exact .fn l1 l2 (fun j c x hc _=>by simp at hc) (fun j c x hc _=>by simp at hc)
theorem RC.dtSolid {E:Env} {w:World} {ι:Nms} {c:C} {v:Value} (h:RC E w ι c v) (hd:c.isD=true):RD E.solid w c.dt v:=by
 cases c with
 | d x=>exact RD.toSolid h hd
 | _=>cases hd
def lendC (H:Hp):C->Option Dt
 | .d x=>some x
 | .own n k l=>(H n).bind fun x=>if x.k=k∧l≤x.es.length∧((x.es.take l).all fun e=>e.all C.isD)=true then some (.sl false ((x.es.take l).map fun e=>e.map C.dt)) else none
 | .ptr n k i o=>(H n).bind fun x=>if x.k=k then (x.es[i]?).bind fun e=>if ((e.drop o).all C.isD)=true then some (.at_ false ((e.drop o).map C.dt)) else none else none
 | .map _=>none
 | .fnp _ _=>none
 | .ifo _ _ _ _=>none
 | .any=>none
theorem all_isD {l:List C} (h:l.all C.isD=true) : ∀ {j:Nat} {c:C}, l[j]? = some c->c.isD=true:=fun hj=>List.all_eq_true.1 h _ (List.mem_of_getElem? hj)
theorem lendC_ok {β:Base} {F:Nat->Prop} {w:World} {ι:Nms} {H:Hp} {nx:Nat} (h:HpOk β F w ι H nx) {c:C} {x:Dt} {v:Value} (hc:RC ⟨F,β.B⟩ w ι c v) (hl:lendC H c=some x):RD ⟨F,fun b=>b<w.heap.size⟩ w x v:=by
 have hle:Env.le ⟨F,β.B⟩ ⟨F,fun b=>b<w.heap.size⟩ w w:=⟨fun _ h=>h,fun b hb=>Nat.lt_of_lt_of_le hb.1 h.size,fun _ _=>rfl,fun _ _=>rfl⟩
 cases c with
 | d y =>
  simp only [lendC,Option.some.injEq] at hl
  subst hl
  exact RD.keep hc hle
 | any=>cases hl
 | map n=>cases hl
 | fnp f cs=>cases hl
 | ifo t n k l=>cases hl
 | own n k l =>
  cases hH:H n with
  | none=>simp [lendC,hH] at hl
  | some b =>
   simp only [lendC,hH,Option.bind_some] at hl
   split at hl
   ·rename_i hcond
    obtain ⟨hk,hln,hall⟩:=hcond
    simp only [Option.some.injEq] at hl
    subst hl
    obtain ⟨bn,cap,p1,p2,p3,p4⟩:=hc
    obtain ⟨bn',cap',q1,q2,q3,q4⟩:=h.blk n b hH
    rw [p1] at q1
    simp only [Option.some.injEq,Prod.mk.injEq] at q1
    obtain ⟨rfl,rfl⟩:=q1
    have hlen:((b.es.take l).map fun e=>e.map C.dt).length=l:=by simp;omega
    rcases p4 with ⟨h0,A,rfl⟩ | ⟨h0,rfl⟩
    ·subst h0
     obtain rfl:l=0:=Nat.le_zero.1 p2
     simp only [List.take_zero,List.map_nil]
     exact RD.sl (k:=0) (fun _ _=>undef) (Nat.le_refl _) (by simp [maxLen]) (by simp) (fun _=>rfl) (fun h=>by simp at h) (fun i j c hc=>by simp [nth2] at hc)
    ·obtain ⟨arr,r1,r2,r3,r4⟩:=q4 h0
     have hn2 : ∀ i j c,nth2 ((b.es.take l).map fun e=>e.map C.dt) i j=some c -> ∃ c',nth2 b.es i j=some c'∧c'.isD=true∧c=c'.dt:=fun i j c hc=>by
      unfold nth2 at hc ⊢
      rw [List.getElem?_map,List.getElem?_take] at hc
      by_cases hi:i<l
      ·simp only [hi,if_true] at hc
       cases he:b.es[i]? with
       | none=>simp [he] at hc
       | some e =>
        simp only [he,Option.map_some,Option.bind_some,List.getElem?_map] at hc ⊢
        cases hj:e[j]? with
        | none=>simp [hj] at hc
        | some c' =>
         simp only [hj,Option.map_some,Option.some.injEq] at hc
         refine ⟨c',rfl,?_,hc.symm⟩
         have:=List.all_eq_true.1 hall e (List.mem_of_getElem? (i:=i) (by rw [List.getElem?_take,if_pos hi,he]))
         exact all_isD this hj
      ·simp [hi] at hc
     have hR : ∀ i j c,nth2 ((b.es.take l).map fun e=>e.map C.dt) i j=some c->arr[i*b.k+j]? = some (arr.getD (i*b.k+j) undef)∧RD ⟨F,noB⟩ w c (arr.getD (i*b.k+j) undef):=fun i j c hc=>by
      obtain ⟨c',g1,g2,rfl⟩:=hn2 i j c hc
      obtain ⟨v,g3,g4⟩:=r4 i j c' g1
      have:arr.getD (i*b.k+j) undef=v:=by simp [Array.getD_eq_getD_getElem?, g3]
      rw [this]
      exact ⟨g3,g4.dtSolid g2⟩
     rw [show (Value.slice (some ⟨bn,0,none⟩) l cap) = .slice (some ⟨bn,0,none⟩) ((b.es.take l).map fun e=>e.map C.dt).length cap by rw [hlen]]
     refine RD.sl (k:=b.k) (fun i j=>arr.getD (i*b.k+j) undef) (by rw [hlen];exact p2) p3 (fun e he => ?_) (fun h=>by cases h) (fun _=>⟨bn,0,rfl,.inr ⟨rfl,(h.own n bn cap (by rw [hH];simp) p1 h0).1⟩,fun i j c hc => ?_⟩) (fun i j c hc=>(hR i j c hc).2)
     ·obtain ⟨e',he',rfl⟩:=List.mem_map.1 he
      rw [List.length_map];exact q3 e' (List.mem_of_mem_take he')
     ·simp only [Nat.zero_add]
      exact r1.cell (hR i j c hc).1
   ·cases hl
 | ptr n k i o =>
  cases hH:H n with
  | none=>simp [lendC,hH] at hl
  | some b =>
   simp only [lendC,hH,Option.bind_some] at hl
   split at hl
   ·rename_i hk
    cases he:b.es[i]? with
    | none=>simp [he] at hl
    | some e =>
     simp only [he,Option.bind_some] at hl
     split at hl
     ·rename_i hall
      simp only [Option.some.injEq] at hl
      subst hl hk
      obtain ⟨bn,cap,p1,p2,rfl⟩:=hc
      obtain ⟨bn',cap',q1,q2,q3⟩:=(h.blk n b hH).reads he
      rw [p1] at q1
      simp only [Option.some.injEq,Prod.mk.injEq] at q1
      obtain ⟨rfl,rfl⟩:=q1
      obtain ⟨vs,k1,k2⟩:=q3.drop o
      refine RD.at_ (fun j=>vs.getD j undef) (.inr ⟨rfl,(h.own n bn cap (by rw [hH];simp) p1 p2).1⟩) (fun j c hc => ?_) (fun j c hc => ?_)
      all_goals
       rw [List.getElem?_map] at hc
       cases hj:(e.drop o)[j]? with
       | none=>simp [hj] at hc
       | some c' =>
        simp only [hj,Option.map_some,Option.some.injEq] at hc
        subst hc
        obtain ⟨v,g1,g2⟩:=k1.get hj
        simp only [List.getD,g1,Option.getD_some]
        first | exact k2 j v g1 | exact g2.dtSolid (all_isD hall hj)
     ·cases hl
   ·cases hl
end
end Go.Proofs.YtbphdcffpobcbaaGreatDoor
