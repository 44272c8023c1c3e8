/- Several texts in one. -/
import Derived.Test.YtbphdcffpobcbaaGreatDoorMc
set_option linter.unusedSimpArgs false
set_option linter.unusedVariables false
set_option maxRecDepth 100000
set_option maxHeartbeats 16000000
namespace Go.Proofs.YtbphdcffpobcbaaGreatDoor
open Go.RowKit Go
theorem HpOk.frzRow {β:Base} {F:Nat->Prop} {w:World} {ι:Nms} {H:Hp} {nx n:Nat} {x:Blk} (h:HpOk β F w ι H nx) (hx:H n=some x) (hall:(x.es.all fun e=>e.all C.isD)=true) :
  ∃ F',HpOk β F' w ι (H.set n none) nx∧Env.le ⟨F,β.B⟩ ⟨F',β.B⟩ w w ∧ ∀ l v,l≤x.es.length->RC ⟨F,β.B⟩ w ι (.own n x.k l) v->RD ⟨F',β.B⟩ w (.sl true ((x.es.take l).map fun e=>e.map C.dt)) v:=by
 obtain ⟨b,cap,p1,p2,p3,p4⟩:=h.blk n x hx
 have hd:=h.drop n
 rcases Nat.eq_zero_or_pos cap with hc | hc
 ·subst hc
  refine ⟨F,hd,⟨fun _ h=>h,fun _ h=>h,fun _ _=>rfl,fun _ _=>rfl⟩,fun l v hl hr => ?_⟩
  obtain ⟨b',cap',q1,q2,q3,q4⟩:=hr
  rw [p1] at q1
  simp only [Option.some.injEq,Prod.mk.injEq] at q1
  obtain ⟨rfl,rfl⟩:=q1
  obtain rfl:l=0:=by omega
  rcases q4 with ⟨-, A,rfl⟩ | ⟨h0, -⟩
  ·simp only [List.take_zero,List.map_nil]
   exact RD.sl (k:=0) (fun _ _=>undef) (Nat.le_refl _) (by simp [maxLen]) (by simp) (fun _=>rfl) (fun h=>by simp at h) (fun i j c hc=>by simp [nth2] at hc)
  ·omega
 ·obtain ⟨arr,r1,r2,r3,r4⟩:=p4 hc
  obtain ⟨o1,o2,o3⟩:=h.own n b cap (by rw [hx];simp) p1 hc
  let F':Nat->Prop:=fun q=>F q∨q=b
  have hle:Env.le ⟨F,β.B⟩ ⟨F',β.B⟩ w w:=⟨fun _ h => .inl h,fun _ h=>h,fun _ _=>rfl,fun _ _=>rfl⟩
  have hset : ∀ m,H.set n none m≠none->m≠n∧H m≠none:=fun m hm=>by
   by_cases e:m=n
   ·subst e;simp at hm
   ·exact ⟨e,by rwa [Hp.set_ne _ _ e] at hm⟩
  refine ⟨F',⟨h.size,h.keep,fun q hq => ?_,fun q hq => ?_,fun q hq => .inl (h.F0 q hq),fun m y hm=>(hd.blk m y hm).keep hle (Nms.le_refl _) fun _ _ _ _=>rfl,
    fun m q c hm hq hc' => ?_,hd.inj,h.nx,h.nm,h.io⟩,hle,fun l v hl hr => ?_⟩
  ·rcases hq with hq | rfl
   ·exact h.Flt q hq
   ·exact o1
  ·rcases hq with hq | rfl
   ·exact h.Fof q hq
   ·exact .inr o3
  ·obtain ⟨g1,g2⟩:=hset m hm
   obtain ⟨s1,s2,s3⟩:=h.own m q c g2 hq hc'
   refine ⟨s1,fun hF => ?_,s3⟩
   rcases hF with hF | rfl
   ·exact s2 hF
   ·exact g1 (h.inj m n q c cap g2 (by rw [hx];simp) hq p1 hc' hc)
  ·obtain ⟨b',cap',q1,q2,q3,q4⟩:=hr
   rw [p1] at q1
   simp only [Option.some.injEq,Prod.mk.injEq] at q1
   obtain ⟨rfl,rfl⟩:=q1
   rcases q4 with ⟨h0, -⟩ | ⟨h0,rfl⟩
   ·omega
   have hlen:((x.es.take l).map fun e=>e.map C.dt).length=l:=by simp;omega
   have hn2 : ∀ i j c,nth2 ((x.es.take l).map fun e=>e.map C.dt) i j=some c -> ∃ c',nth2 x.es i j=some c'∧c'.isD=true∧c=c'.dt:=fun i j c hc=>by
    unfold nth2 at hc ⊢
    rw [List.getElem?_map,List.getElem?_take] at hc
    by_cases hi:i<l
    ·simp only [hi,if_true] at hc
     cases he:x.es[i]? with
     | none=>simp [he] at hc
     | some e =>
      simp only [he,Option.map_some,Option.bind_some,List.getElem?_map] at hc ⊢
      cases hj:e[j]? with
      | none=>simp [hj] at hc
      | some c' =>
       simp only [hj,Option.map_some,Option.some.injEq] at hc
       exact ⟨c',rfl,all_isD (List.all_eq_true.1 hall e (List.mem_of_getElem? he)) hj,hc.symm⟩
    ·simp [hi] at hc
   have hR : ∀ i j c,nth2 ((x.es.take l).map fun e=>e.map C.dt) i j=some c->arr[i*x.k+j]? = some (arr.getD (i*x.k+j) undef)∧RD ⟨F',noB⟩ w c (arr.getD (i*x.k+j) undef):=fun i j c hc=>by
    obtain ⟨c',g1,g2,rfl⟩:=hn2 i j c hc
    obtain ⟨v,g3,g4⟩:=r4 i j c' g1
    have:arr.getD (i*x.k+j) undef=v:=by simp [Array.getD_eq_getD_getElem?, g3]
    rw [this]
    exact ⟨g3,(g4.keep hle (Nms.le_refl ι)).dtSolid g2⟩
   rw [show (Value.slice (some ⟨b,0,none⟩) l cap) = .slice (some ⟨b,0,none⟩) ((x.es.take l).map fun e=>e.map C.dt).length cap by rw [hlen]]
   refine RD.sl (k:=x.k) (fun i j=>arr.getD (i*x.k+j) undef) (by rw [hlen];exact q2) q3 (fun e he => ?_) (fun h=>by cases h) (fun _=>⟨b,0,rfl,.inl (.inr rfl),fun i j c hc => ?_⟩) (fun i j c hc=>(hR i j c hc).2)
   ·obtain ⟨e',he',rfl⟩:=List.mem_map.1 he
    rw [List.length_map];exact p3 e' (List.mem_of_mem_take he')
   ·simp only [Nat.zero_add]
    exact r1.cell (hR i j c hc).1
theorem ICall.frz {P:Program} {f:FuncId} {ds es:List D} {H:Hp} {nx n k l:Nat} {x:Blk} {K:D->Hp->Nat->Prop} (hx:H n=some x) (hall:(x.es.all fun e=>e.all C.isD)=true) (hk:x.k=k) (hl:l≤x.es.length)
  (h:ICall P f (ds ++ .one (.d (.sl true ((x.es.take l).map fun e=>e.map C.dt)))::es) (H.set n none) nx K):ICall P f (ds ++ .one (.own n k l)::es) H nx K:=by
 subst hk
 refine ⟨h.1,fun β F ι w vs hg hH hvs => ?_⟩
 obtain ⟨F',g1,g2,g3⟩:=hH.frzRow hx hall
 have hvs':RVs ⟨F',β.B⟩ w ι (ds ++ .one (.d (.sl true ((x.es.take l).map fun e=>e.map C.dt)))::es) vs:=by
  clear h
  induction ds generalizing vs with
  | nil =>
   cases vs with
   | nil=>simp [RVs] at hvs
   | cons v vs =>
    simp only [List.nil_append,RVs,RV] at hvs ⊢
    exact ⟨g3 l v hl hvs.1,RVs.keep g2 (Nms.le_refl _) hvs.2⟩
  | cons d ds ih =>
   cases vs with
   | nil=>simp [RVs] at hvs
   | cons v vs =>
    simp only [List.cons_append,RVs] at hvs ⊢
    exact ⟨RV.keep g2 (Nms.le_refl _) hvs.1,ih vs hvs.2⟩
 refine (h.2 β F' ι w vs hg g1 hvs').mono ?_
 rintro e w' ⟨F2,ι',H',nx',d,v,e1,e2,e3,e4,e5,e6⟩
 exact ⟨F2,ι',H',nx',d,v,e1,e2,⟨fun b hb=>e3.F b (g2.F b hb),e3.B,fun b hb=>e3.f b (g2.F b hb),e3.b⟩,e4,e5,e6⟩
def C.less (c c':C):Prop:=c=c'∨(c = .d .emp ∧ ∃ S,c' = .d (.sl S []))
theorem RC.less {E:Env} {w:World} {ι:Nms} {c c':C} {v:Value} (h:RC E w ι c v) (hc:c.less c'):RC E w ι c' v:=by
 rcases hc with rfl | ⟨rfl,S,rfl⟩
 ·exact h
 ·have h:RD E w .emp v:=h
  cases h
  exact RD.sl (k:=0) (fun _ _=>undef) (Nat.le_refl _) (by simp [maxLen]) (by simp) (fun _=>rfl) (fun h=>by simp at h) (fun i j c hc=>by simp [nth2] at hc)
structure Blk.less (x y:Blk):Prop where
 t:x.t=y.t
 k:x.k=y.k
 len:x.es.length=y.es.length
 row : ∀ e∈y.es,e.length=y.k
 c : ∀ i j c',nth2 y.es i j=some c' -> ∃ c,nth2 x.es i j=some c∧c.less c'
theorem HpOk.less {β:Base} {F:Nat->Prop} {w:World} {ι:Nms} {H H':Hp} {nx:Nat} (h:HpOk β F w ι H nx) (hl : ∀ n y,H' n=some y -> ∃ x,H n=some x∧x.less y):HpOk β F w ι H' nx:=by
 have hn : ∀ n,H' n≠none->H n≠none:=fun n hn=>by
  cases hy:H' n with
  | none=>exact absurd hy hn
  | some y=>obtain ⟨x,hx, -⟩:=hl n y hy;rw [hx];simp
 refine ⟨h.size,h.keep,h.Flt,h.Fof,h.F0,fun n y hy => ?_,fun n b cap hH=>h.own n b cap (hn n hH),fun n m b c c' h1 h2=>h.inj n m b c c' (hn n h1) (hn m h2),h.nx,h.nm,h.io⟩
 obtain ⟨x,hx,hxy⟩:=hl n y hy
 obtain ⟨b,cap,p1,p2,p3,p4⟩:=h.blk n x hx
 refine ⟨b,cap,p1,by rw [← hxy.len];exact p2,hxy.row,fun hc => ?_⟩
 obtain ⟨arr,r1,r2,r3,r4⟩:=p4 hc
 refine ⟨arr,by rw [← hxy.t];exact r1,by rw [← hxy.k];exact r2,r3,fun i j c' hc' => ?_⟩
 obtain ⟨c,g1,g2⟩:=hxy.c i j c' hc'
 obtain ⟨v,g3,g4⟩:=r4 i j c g1
 exact ⟨v,by rw [← hxy.k];exact g3,g4.less g2⟩
def D.less:D->D->Prop
 | .one c,.one c'=>c.less c'
 | d,d'=>d=d'
theorem RV.less {E:Env} {w:World} {ι:Nms} {d d':D} {v:Value} (h:RV E w ι d v) (hd:d.less d'):RV E w ι d' v:=by
 cases d with
 | one c=>cases d' with
  | one c'=>rw [RV] at h ⊢; exact RC.less h hd
  | _=>cases hd
 | _=>obtain rfl:_=d':=hd;exact h
def Ds.less:List D->List D->Prop
 | [],[]=>True
 | d::ds,e::es=>d.less e∧Ds.less ds es
 | _,_=>False
theorem RVs.less {E:Env} {w:World} {ι:Nms} : ∀ {ds es:List D} {vs:List Value}, RVs E w ι ds vs->Ds.less ds es->RVs E w ι es vs
 | [],[],_,h,_=>h
 | _::_,_::_,[],h,_=>by simp [RVs] at h
 | _::_,_::_,_::_,h,hd=>by rw [RVs] at h ⊢; exact ⟨h.1.less hd.1,RVs.less h.2 hd.2⟩
 | [],_::_,_,_,hd=>hd.elim
 | _::_,[],_,_,hd=>hd.elim
theorem ICall.less {P:Program} {f:FuncId} {ds es:List D} {H H':Hp} {nx:Nat} {K:D->Hp->Nat->Prop} (hd:Ds.less ds es) (hl : ∀ n y,H' n=some y -> ∃ x,H n=some x∧x.less y) (h:ICall P f es H' nx K):ICall P f ds H nx K :=
 ⟨h.1,fun β F ι w vs hg hH hvs=>h.2 β F ι w vs hg (hH.less hl) (hvs.less hd)⟩
theorem loopS_ok {P:Program} {pl:Pls} {n0:Nat} {ks:List Nat} {n:Nat} {tm:List (Nat×D)} {H:Hp} {nx:Nat} {K:Exit->St->Prop} {α:Type} {c:Code} (S:α->St) (m:α->Nat) (x0:α) (hx:P.follows .mixedOrders=true) (hp:plsOk pl n0 c=true) (h0:Wk ⟨n,tm,H,nx⟩ (S x0))
  (round : ∀ x,vc P pl n0 ks c (loopK S m x K) (S x)):Ev P (.loop c) K ⟨n,tm,H,nx⟩:=ev_loop S m x0 h0 fun x=>vc_ok hx hp (round x)
theorem Wk.heap {n:Nat} {tm:List (Nat×D)} {H H':Hp} {nx:Nat} (hl : ∀ i y,H' i=some y->H i=some y):Wk ⟨n,tm,H,nx⟩ ⟨n,tm,H',nx⟩:=fun β F ι a w h=>by
 have hn : ∀ n,H' n≠none->H n≠none:=fun n hn=>by
  cases hy:H' n with
  | none=>exact absurd hy hn
  | some y=>rw [hl n y hy];simp
 have hh:=h.heap
 exact ⟨F,ι,h.good,h.defers,h.size,h.tm,⟨hh.size,hh.keep,hh.Flt,hh.Fof,hh.F0,fun n y hy=>hh.blk n y (hl n y hy),fun n b cap hH=>hh.own n b cap (hn n hH),fun n m b c c' h1 h2=>hh.inj n m b c c' (hn n h1) (hn m h2),hh.nx,hh.nm,hh.io⟩⟩
def C.fz (m:Nat) (x:Blk):C->C
 | .own n k l=>if n=m∧k=x.k∧l≤x.es.length then .d (.sl true ((x.es.take l).map fun e=>e.map C.dt)) else .own n k l
 | c=>c
def D.fz (m:Nat) (x:Blk):D->D
 | .one c => .one (c.fz m x)
 | .agg cs => .agg (cs.map (C.fz m x))
 | d=>d
def fzT (m:Nat) (x:Blk):List (Nat×D)->List (Nat×D)
 | []=>[]
 | (t,d)::l=>(t,d.fz m x)::fzT m x l
theorem lk_fzT (m:Nat) (x:Blk) (u:Nat) : ∀ l,lk (fzT m x l) u=(lk l u).fz m x
 | []=>rfl
 | (t,d)::l=>by
  unfold fzT lk
  by_cases h:u=t
  ·simp [h]
  ·simp [h,lk_fzT m x u l]
def St.fzR (st:St) (m:Nat):St:=match st.H m with
 | some x=>if (x.es.all fun e=>e.all C.isD)=true then ⟨st.n,fzT m x st.tm,fun i=>if i=m then none else (st.H i).map fun y=>⟨y.t,y.k,y.es.map fun e=>e.map (C.fz m x)⟩,st.nx⟩ else st
 | none=>st
theorem Wk.fzR (st:St) (m:Nat):Wk st (st.fzR m):=fun β F ι a w h=>by
 unfold St.fzR
 split
 ·rename_i x hx
  split
  ·rename_i hall
   obtain ⟨F',g1,g2,g3⟩:=h.heap.frzRow hx hall
   have hC : ∀ c v,RC ⟨F,β.B⟩ w ι c v->RC ⟨F',β.B⟩ w ι (c.fz m x) v:=fun c v hc=>by
    cases c with
    | own n k l =>
     simp only [C.fz]
     split
     ·rename_i hh
      obtain ⟨rfl,rfl,hl⟩:=hh
      exact g3 l v hl hc
     ·exact hc.keep g2 (Nms.le_refl _)
    | _=>exact hc.keep g2 (Nms.le_refl _)
   have hCs : ∀ {cs:List C} {vs:List Value}, RCs ⟨F,β.B⟩ w ι cs vs->RCs ⟨F',β.B⟩ w ι (cs.map (C.fz m x)) vs:=by
    intro cs
    induction cs with
    | nil=>intro vs h;cases vs with
     | nil=>trivial
     | cons _ _=>exact h.elim
    | cons c cs ih=>intro vs h;cases vs with
     | nil=>exact h.elim
     | cons v vs=>exact ⟨hC c v h.1,ih h.2⟩
   have hn : ∀ n,((fun i=>if i=m then none else (st.H i).map fun y=>(⟨y.t,y.k,y.es.map fun e=>e.map (C.fz m x)⟩:Blk)):Hp) n≠none->n≠m∧st.H n≠none:=fun n hn=>by
    simp only at hn
    split at hn
    ·exact absurd rfl hn
    ·rename_i e
     refine ⟨e,fun e2=>hn (by rw [e2];rfl)⟩
   refine ⟨F',ι,h.good,h.defers,h.size,fun t => ?_,⟨g1.size,g1.keep,g1.Flt,g1.Fof,g1.F0,fun n y hy => ?_,fun n b cap hH=>g1.own n b cap (by rw [Hp.set_ne _ _ (hn n hH).1];exact (hn n hH).2),fun i j b c c' h1 h2=>g1.inj i j b c c' (by rw [Hp.set_ne _ _ (hn i h1).1];exact (hn i h1).2) (by rw [Hp.set_ne _ _ (hn j h2).1];exact (hn j h2).2),g1.nx,g1.nm,g1.io⟩⟩
   ·simp only [lk_fzT]
    have ht:=h.tm t
    cases hl:lk st.tm t with
    | one c=>rw [hl] at ht;simp only [D.fz];rw [RV] at ht ⊢; exact hC c _ ht
    | agg cs=>rw [hl] at ht;simp only [D.fz];rw [RV] at ht ⊢; obtain ⟨xs,e1,e2⟩:=ht;exact ⟨xs,e1,hCs e2⟩
    | tup ds=>rw [hl] at ht;exact ht.keep g2 (Nms.le_refl _)
    | top=>simp only [D.fz];rw [RV];trivial
   ·simp only at hy
    split at hy
    ·cases hy
    ·rename_i e
     cases hz:st.H n with
     | none=>rw [hz] at hy;cases hy
     | some z =>
      rw [hz] at hy
      simp only [Option.map_some,Option.some.injEq] at hy
      subst hy
      obtain ⟨b,cap,p1,p2,p3,p4⟩:=h.heap.blk n z hz
      refine ⟨b,cap,p1,by simpa using p2,fun e he => ?_,fun hc => ?_⟩
      ·obtain ⟨e',he',rfl⟩:=List.mem_map.1 he
       rw [List.length_map];exact p3 e' he'
      ·obtain ⟨arr,r1,r2,r3,r4⟩:=p4 hc
       refine ⟨arr,r1,r2,r3,fun i j c hj => ?_⟩
       have : ∃ c',nth2 z.es i j=some c'∧c=c'.fz m x:=by
        unfold nth2 at hj ⊢
        simp only [List.getElem?_map] at hj
        cases hi:z.es[i]? with
        | none=>simp [hi] at hj
        | some e =>
         simp only [hi,Option.map_some,Option.bind_some,List.getElem?_map] at hj ⊢
         cases hq:e[j]? with
         | none=>simp [hq] at hj
         | some c' =>
          simp only [hq,Option.map_some,Option.some.injEq] at hj
          exact ⟨c',rfl,hj.symm⟩
       obtain ⟨c',h1,rfl⟩:=this
       obtain ⟨v,k1,k2⟩:=r4 i j c' h1
       exact ⟨v,k1,hC c' v k2⟩
  ·exact ⟨F,ι,h⟩
 ·exact ⟨F,ι,h⟩
@[simp] theorem take_map_len {α β:Type} (g:α->β) (l:List α):(l.map g).take l.length=l.map g:=by rw [List.take_of_length_le (by simp)]
@[simp] theorem Hp.set_set (H:Hp) (n:Nat) (a b:Option Blk):(H.set n a).set n b=H.set n b:=by
 funext m
 unfold Hp.set
 by_cases h:m=n
 ·rw [if_pos h,if_pos h]
 ·rw [if_neg h,if_neg h,if_neg h]
theorem loopH_ok {P:Program} {pl:Pls} {n0:Nat} {ks:List Nat} {n:Nat} {tm:List (Nat×D)} {H:Hp} {nx:Nat} {K:Exit->St->Prop} {α:Type} {c:Code} (u:α->List (Nat×D)) (g:Hp->α->Hp) (nn:α->Nat) (m:α->Nat) (x0:α) (hx:P.follows .mixedOrders=true) (hp:plsOk pl n0 c=true)
  (h0:Wk ⟨n,tm,H,nx⟩ ⟨n,puts tm (u x0),g H x0,nn x0⟩) (round : ∀ x,vc P pl n0 ks c (loopK (fun x=>⟨n,puts tm (u x),g H x,nn x⟩) m x K) ⟨n,puts tm (u x),g H x,nn x⟩):Ev P (.loop c) K ⟨n,tm,H,nx⟩ :=
 ev_loop (fun x=>⟨n,puts tm (u x),g H x,nn x⟩) m x0 h0 fun x=>vc_ok hx hp (round x)
theorem Wk.subH {n nx:Nat} {tm tm':List (Nat×D)} {H H':Hp} (h:keepT tm (tm'.map (·.1))=tm') (hH:H=H'):Wk ⟨n,tm,H,nx⟩ ⟨n,tm',H',nx⟩:=by subst hH;exact Wk.sub h
def fzH (H:Hp) (m:Nat) (x:Blk):Hp:=fun i=>if i=m then none else (H i).map fun y=>⟨y.t,y.k,y.es.map fun e=>e.map (C.fz m x)⟩
theorem Wk.fz {n nx:Nat} {tm:List (Nat×D)} {H:Hp} {m:Nat} {x:Blk} (hx:H m=some x) (hall : ∀ e∈x.es, ∀ c∈e,c.isD=true):Wk ⟨n,tm,H,nx⟩ ⟨n,fzT m x tm,fzH H m x,nx⟩:=by
 have:=Wk.fzR ⟨n,tm,H,nx⟩ m
 simp only [St.fzR,hx] at this
 rw [if_pos (by simpa [List.all_eq_true] using hall)] at this
 exact this
theorem fz_id {m:Nat} {x y:Blk} (h : ∀ e∈y.es, ∀ c∈e,c.isD=true):(⟨y.t,y.k,y.es.map fun e=>e.map (C.fz m x)⟩:Blk)=y:=by
 obtain ⟨t,k,es⟩:=y
 congr 1
 refine (List.map_congr_left fun e he => ?_).trans (List.map_id _)
 refine (List.map_congr_left fun c hc => ?_).trans (List.map_id _)
 have:=h e he c hc
 cases c <;> first | rfl | cases this
theorem fzH_id {H:Hp} {m:Nat} {x y:Blk} {i:Nat} (hi:i≠m) (hy:H i=some y) (h : ∀ e∈y.es, ∀ c∈e,c.isD=true):fzH H m x i=some y:=by
 unfold fzH
 rw [if_neg hi,hy,Option.map_some,fz_id h]
theorem Wk.less1 {n nx:Nat} {tm:List (Nat×D)} {H:Hp} {m:Nat} {x y:Blk} (hx:H m=some x) (hxy:x.less y):Wk ⟨n,tm,H,nx⟩ ⟨n,tm,H.set m (some y),nx⟩:=fun β F ι a w h=>by
 have hh:HpOk β F w ι H nx:=h.heap
 have hn : ∀ i,(H.set m (some y)) i≠none->H i≠none:=fun i hi=>by
  by_cases e:i=m
  ·subst e;rw [hx];simp
  ·rwa [Hp.set_ne _ _ e] at hi
 refine ⟨F,ι,h.good,h.defers,h.size,h.tm,⟨hh.size,hh.keep,hh.Flt,hh.Fof,hh.F0,fun i z hz => ?_,fun i b cap hi=>hh.own i b cap (hn i hi),fun i j b c c' hi hj=>hh.inj i j b c c' (hn i hi) (hn j hj),hh.nx,hh.nm,hh.io⟩⟩
 replace hz:(H.set m (some y)) i=some z:=hz
 by_cases e:i=m
 ·subst e
  simp only [Hp.set_same,Option.some.injEq] at hz
  subst hz
  obtain ⟨b,cap,p1,p2,p3,p4⟩:=hh.blk i x hx
  refine ⟨b,cap,p1,by rw [← hxy.len];exact p2,hxy.row,fun hc => ?_⟩
  obtain ⟨arr,r1,r2,r3,r4⟩:=p4 hc
  refine ⟨arr,by rw [← hxy.t];exact r1,by rw [← hxy.k];exact r2,r3,fun i j c' hc' => ?_⟩
  obtain ⟨c,g1,g2⟩:=hxy.c i j c' hc'
  obtain ⟨v,g3,g4⟩:=r4 i j c g1
  exact ⟨v,by rw [← hxy.k];exact g3,g4.less g2⟩
 ·rw [Hp.set_ne _ _ e] at hz
  exact hh.blk i z hz
theorem all_take_next {α:Type} {L:List α} {p:α->Bool} {k:Nat} (hk:k<L.length):(L.take (k+1)).all p=((L.take k).all p&&p L[k]):=by
 rw [List.take_succ_eq_append_getElem hk,List.all_append];simp
theorem heap1 {x0:Option Blk} {H:Hp} (h0:H 0=x0) : ∀ i y,(Hp.none.set 0 x0) i=some y->H i=some y:=fun i y hy=>by
 by_cases e0:i=0
 ·subst e0;rw [Hp.set_same] at hy;rw [h0,hy]
 ·rw [Hp.set_ne _ _ e0] at hy;cases hy
theorem Wk.sub1 {n nx:Nat} {tm tm':List (Nat×D)} {H:Hp} {x0:Option Blk} (h:keepT tm (tm'.map (·.1))=tm') (h0:H 0=x0):Wk ⟨n,tm,H,nx⟩ ⟨n,tm',Hp.none.set 0 x0,nx⟩:=(Wk.sub h).trans (Wk.heap (heap1 h0))
theorem heap_drop {H:Hp} {m:Nat} {z:Option Blk} (hm:H m=none) : ∀ i y,H i=some y->(H.set m z) i=some y:=fun i y hy=>by
 by_cases e:i=m
 ·subst e;rw [hm] at hy;cases hy
 ·rw [Hp.set_ne _ _ e];exact hy
theorem Wk.sub2 {n nx m:Nat} {tm tm':List (Nat×D)} {H H':Hp} {z:Option Blk} (h:keepT tm (tm'.map (·.1))=tm') (he:H'=H.set m z) (hm:H m=none):Wk ⟨n,tm,H',nx⟩ ⟨n,tm',H,nx⟩:=by
 subst he
 exact (Wk.sub h).trans (Wk.heap (heap_drop hm))
def CRel (H:Hp) (N:Nat->Prop) (c c':C):Prop:=c'=c ∨ ∃ x,c' = .d x∧Shw H N c x
def CsRel (H:Hp) (N:Nat->Prop):List C->List C->Prop
 | [],[]=>True
 | c::cs,e::es=>CRel H N c e∧CsRel H N cs es
 | _,_=>False
def DRel (H:Hp) (N:Nat->Prop):D->D->Prop
 | _,.top=>True
 | .one c,.one c'=>CRel H N c c'
 | .agg cs,.agg cs'=>CsRel H N cs cs'
 | d,d'=>d'=d
theorem CRel.rc {B F:Nat->Prop} {w:World} {ι:Nms} {H:Hp} {N:Nat->Prop} (hh : ∀ n x,H n=some x->RB ⟨F,B⟩ w ι n x) {c c':C} (h:CRel H N c c') {v:Value} (hv:RC ⟨F,B⟩ w ι c v):RC ⟨giv F ι H N,B⟩ w ι c' v:=by
 rcases h with rfl | ⟨x,rfl,h⟩
 ·exact hv.keep giv_le (Nms.le_refl _)
 ·exact (h.rd hh hv).keep (show Env.le ⟨_,noB⟩ ⟨_,B⟩ w w from ⟨fun _ h=>h,fun _ h=>h.elim,fun _ _=>rfl,fun _ _=>rfl⟩)
theorem CsRel.rc {B F:Nat->Prop} {w:World} {ι:Nms} {H:Hp} {N:Nat->Prop} (hh : ∀ n x,H n=some x->RB ⟨F,B⟩ w ι n x) : ∀ {cs cs':List C}, CsRel H N cs cs' -> ∀ {vs:List Value}, RCs ⟨F,B⟩ w ι cs vs->RCs ⟨giv F ι H N,B⟩ w ι cs' vs
 | [],[],_,[],_=>trivial
 | _::_,_::_,h,_::_,hv=>⟨h.1.rc hh hv.1,CsRel.rc hh h.2 hv.2⟩
 | [],[],_,_::_,hv=>hv.elim
 | _::_,_::_,_,[],hv=>hv.elim
theorem DRel.rv {B F : Nat → Prop} {w : World} {ι : Nms} {H : Hp} {N : Nat → Prop} (hh : ∀ n x, H n = some x → RB ⟨F, B⟩ w ι n x) {d d' : D} (h : DRel H N d d') {v : Value} (hv : RV ⟨F, B⟩ w ι d v) : RV ⟨giv F ι H N, B⟩ w ι d' v := by
  cases d' with
  | top => rw [RV]; trivial
  | one c' =>
    cases d with
    | one c => rw [RV] at hv ⊢; exact CRel.rc hh h hv
    | _ => cases h
  | agg cs' =>
    cases d with
    | agg cs => rw [RV] at hv ⊢; obtain ⟨xs, e1, e2⟩ := hv; exact ⟨xs, e1, CsRel.rc hh h e2⟩
    | _ => cases h
  | tup ds' =>
    cases d with
    | tup ds => obtain rfl : ds' = ds := by injection h
                exact hv.keep giv_le (Nms.le_refl _)
    | _ => cases h
structure BRel (H:Hp) (N:Nat->Prop) (x y:Blk):Prop where
 t:x.t=y.t
 k:x.k=y.k
 len:y.es.length≤x.es.length
 row : ∀ e∈y.es,e.length=y.k
 c : ∀ i j c',nth2 y.es i j=some c' -> ∃ c,nth2 x.es i j=some c∧CRel H N c c'
theorem Wk.deep {n nx:Nat} {tm tm':List (Nat×D)} {H H':Hp} (N:Nat->Prop) (hT : ∀ t,DRel H N (lk tm t) (lk tm' t)) (hH : ∀ i y,H' i=some y -> ¬ N i ∧ ∃ x,H i=some x∧BRel H N x y):Wk ⟨n,tm,H,nx⟩ ⟨n,tm',H',nx⟩:=fun β F ι a w h=>by
 have hh:HpOk β F w ι H nx:=h.heap
 have hn : ∀ i,H' i≠none -> ¬ N i∧H i≠none:=fun i hi=>by
  cases hy:H' i with
  | none=>exact absurd hy hi
  | some y=>obtain ⟨g1,x,g2, -⟩:=hH i y hy;exact ⟨g1,by rw [g2];simp⟩
 refine ⟨giv F ι H N,ι,h.good,h.defers,h.size,fun t=>(hT t).rv hh.blk (h.tm t),⟨hh.size,hh.keep,fun q hq => ?_,fun q hq => ?_,fun q hq => .inl (hh.F0 q hq),fun i y hy => ?_,fun i b cap hi hb hc => ?_,fun i j b c c' hi hj=>hh.inj i j b c c' (hn i hi).2 (hn j hj).2,hh.nx,hh.nm,hh.io⟩⟩
 ·rcases hq with hq | ⟨m,cap, -, g1,g2,g3⟩
  ·exact hh.Flt q hq
  ·exact (hh.own m q cap g1 g2 g3).1
 ·rcases hq with hq | ⟨m,cap, -, g1,g2,g3⟩
  ·exact hh.Fof q hq
  ·exact .inr (hh.own m q cap g1 g2 g3).2.2
 ·obtain ⟨-, x,hx,hr⟩:=hH i y hy
  obtain ⟨b,cap,p1,p2,p3,p4⟩:=hh.blk i x hx
  refine ⟨b,cap,p1,Nat.le_trans hr.len p2,hr.row,fun hc => ?_⟩
  obtain ⟨arr,r1,r2,r3,r4⟩:=p4 hc
  refine ⟨arr,by rw [← hr.t];exact r1,by rw [← hr.k];exact r2,r3,fun i j c' hc' => ?_⟩
  obtain ⟨c,g1,g2⟩:=hr.c i j c' hc'
  obtain ⟨v,g3,g4⟩:=r4 i j c g1
  exact ⟨v,by rw [← hr.k];exact g3,g2.rc hh.blk g4⟩
 ·obtain ⟨g1,g2⟩:=hn i hi
  obtain ⟨s1,s2,s3⟩:=hh.own i b cap g2 hb hc
  refine ⟨s1,fun hF => ?_,s3⟩
  rcases hF with hF | ⟨m,cap',k1,k2,k3,k4⟩
  ·exact s2 hF
  ·have:=hh.inj i m b cap cap' g2 k2 hb k3 hc k4
   exact g1 (this▸k1)
theorem Wk.up {n nx:Nat} {tm:List (Nat×D)} {H:Hp} (m:Nat):Wk ⟨n,tm,H,nx⟩ ⟨n,tm,H,nx+m⟩:=fun β F ι a w h=>by
 have hh:HpOk β F w ι H nx:=h.heap
 exact ⟨F,ι,h.good,h.defers,h.size,h.tm,⟨hh.size,hh.keep,hh.Flt,hh.Fof,hh.F0,hh.blk,hh.own,hh.inj,fun i hi=>hh.nx i (by simp at hi;omega),hh.nm,hh.io⟩⟩
theorem Shw.row {H:Hp} {N:Nat->Prop} {n k l:Nat} {x:Blk} {es:List (List Dt)} (hn:N n) (hx:H n=some x) (hk:x.k=k) (h1:es.length=l) (h2:x.es.take l=es.map fun e=>e.map .d) (h3 : ∀ e∈es,e.length=k) (h4 : ∀ e∈es, ∀ d∈e,d.solidT=true):Shw H N (.own n k l) (.sl true es):=by
 have hl:l≤x.es.length:=by
  have:=congrArg List.length h2
  rw [List.length_take,List.length_map,h1] at this;omega
 have hget : ∀ i j d,nth2 es i j=some d->nth2 x.es i j=some (.d d)∧d.solidT=true:=fun i j d hd=>by
  unfold nth2 at hd ⊢
  cases he:es[i]? with
  | none=>simp [he] at hd
  | some e =>
   have hi:i<l:=by rw [← h1];exact (List.getElem?_eq_some_iff.1 he).1
   simp only [he,Option.bind_some] at hd
   have:x.es[i]? = some (e.map .d):=by
    have h5:(x.es.take l)[i]? = some (e.map .d):=by rw [h2,List.getElem?_map,he];rfl
    rwa [List.getElem?_take,if_pos hi] at h5
   simp only [this,Option.bind_some,List.getElem?_map,hd,Option.map_some,true_and]
   exact h4 e (List.mem_of_getElem? he) d (List.mem_of_getElem? hd)
 exact .own (fun i j=>((nth2 es i j).map C.d).getD .any) hn hx hk h1 hl h3 (fun i j d hd=>by rw [hd];exact (hget i j d hd).1) (fun i j d hd=>by rw [hd];exact .d (hget i j d hd).2)
theorem DPure.give {P:Program} {f:FuncId} {ds:List D} {K:D->List Blk->Prop} (h:DPure P f ds fun d fr => ∃ d',DShw (fun i=>fr[i]?) (fun _=>True) d d'∧K d' []):DPure P f ds K :=
 ⟨h.1,fun F w vs h1 hgl h2=>(h.2 F w vs h1 hgl h2).mono fun _ w' ⟨F',ι,d,fr,v,e1,ho,d',e2,e3⟩=>by
  refine ⟨giv F' ι (fun i=>fr[i]?) (fun _=>True),fun _=>none,d',[],v,e1,⟨ho.size,ho.old,fun b hb => .inl (ho.Fle b hb),fun b hb => ?_,fun i x hx=>by simp at hx,fun i b cap hi=>by simp at hi,fun i j b c c' hi=>by simp at hi,fun _ _=>rfl,DShw.rv (fun n x hx=>(ho.blk n x hx).1) e2 ho.val,ho.io⟩,e3⟩
  rcases hb with hb | ⟨n,cap, -, g1,g2,g3⟩
  ·exact ho.new b hb
  ·have hn:n<fr.length:=by
    by_cases hl:n<fr.length
    ·exact hl
    ·exact absurd (List.getElem?_eq_none (by omega)) g1
   obtain ⟨k1,k2, -⟩:=ho.own n b cap hn g2 g3
   exact ⟨.inr k1,k2⟩⟩
theorem HpOk.heap {β:Base} {F:Nat->Prop} {w:World} {ι:Nms} {H H':Hp} {nx:Nat} (hh:HpOk β F w ι H nx) (hl : ∀ i y,H' i=some y->H i=some y):HpOk β F w ι H' nx:=by
 have hn : ∀ n,H' n≠none->H n≠none:=fun n hn=>by
  cases hy:H' n with
  | none=>exact absurd hy hn
  | some y=>rw [hl n y hy];simp
 exact ⟨hh.size,hh.keep,hh.Flt,hh.Fof,hh.F0,fun n y hy=>hh.blk n y (hl n y hy),fun n b cap hH=>hh.own n b cap (hn n hH),fun n m b c c' h1 h2=>hh.inj n m b c c' (hn n h1) (hn m h2),hh.nx,hh.nm,hh.io⟩
theorem ICall.keepH {P:Program} {f:FuncId} {ds:List D} {H:Hp} {nx:Nat} {K:D->Hp->Nat->Prop} (hf : ∀ i,nx≤i->H i=none) (h:ICall P f ds H nx fun d H' nx'=>(∀ i,i<nx->H' i=H i)∧K d H nx'):ICall P f ds H nx K :=
 ⟨h.1,fun β F ι w vs h1 h2 h3=>(h.2 β F ι w vs h1 h2 h3).mono fun _ _ ⟨F',ι',H',nx',d,v,e1,e2,e3,e4,e5,e6,e7⟩=>⟨F',ι',H,nx',d,v,e1,e2.heap fun i y hy=>by rw [e6 i (Nat.lt_of_not_le fun hl=>by rw [hf i hl] at hy;cases hy)];exact hy,e3,e4,e5,e7⟩⟩
theorem ICall.fresh {P:Program} {f:FuncId} {ds:List D} {H:Hp} {nx:Nat} {K:D->Hp->Nat->Prop} (hg:goFn P f=true) (h:(∀ i,nx≤i->H i=none)->ICall P f ds H nx K):ICall P f ds H nx K :=
 ⟨hg,fun β F ι w vs h1 h2 h3=>(h fun i hi=>by
  cases hH:H i with
  | none=>rfl
  | some x =>
   obtain ⟨b,cap,p1, -⟩:=h2.blk i x hH
   rw [h2.nx i hi] at p1
   cases p1).2 β F ι w vs h1 h2 h3⟩
abbrev eI (n:Int):Dt := .lit (.int .i64 n)
abbrev eB (b:Bool):Dt := .lit (.bool b)
abbrev eS (s:ByteArray):Dt := .lit (.string s)
abbrev dI (n:Int):D := .one (.d (eI n))
abbrev dB (b:Bool):D := .one (.d (eB b))
abbrev dS (s:ByteArray):D := .one (.d (eS s))
abbrev dL (S:Bool) (es:List (List Dt)):D := .one (.d (.sl S es))
theorem kB {K:D->List Blk->Prop} {a b:Bool} (h:K (dB a) []) (e:a=b):K (dB b) []:=e▸h
@[simp] theorem wrap_add {n:Nat} (h:n<9223372036854775807):IntKind.i64.wrap ((n:Int)+1)=((n+1:Nat):Int):=by rw [wrap_id (by omega) (by omega)];omega
theorem take_eq_succ {α:Type} {L M:List α} {k:Nat} (h:L.take k=M.take k) (hl:k<L.length) (hm:k<M.length) (e:L[k]=M[k]):L.take (k+1)=M.take (k+1):=by
 rw [List.take_succ_eq_append_getElem hl,List.take_succ_eq_append_getElem hm,h,e]
structure GTry where
 reg:Int
 at_:Int
def eTry (t:GTry):List Dt := [eI t.reg,eI t.at_]
attribute [simp] eTry
@[simp] theorem eTry_len (t:GTry):(eTry t).length=2:=rfl
instance:DecidableEq GTry:=fun a b=>decidable_of_iff (a.reg=b.reg∧a.at_=b.at_) (by cases a;cases b;simp)
theorem equalT_ok (S T:Bool) (L M:List GTry) {K:D->List Blk->Prop} (h:K (dB (decide (L=M))) []):DPure Tryz.prog 227 [dL S (L.map eTry),dL T (M.map eTry)] K:=by
 refine fn_ok [0,1,4,5,10,12,13,14,24] [(6,[0,0,3,7,0,0,48,112,255],(.seg 0 (.seg 1 (.seg 2 (.seg 3 (.seg 4 (.seg 5 (.seg 6 (.seg 7 (.seg 8 .last))))))))))] Tryz.func227 rfl (by kernel_rfl) rfl rfl rfl rfl (by kernel_rfl) ?_
 simp
 intro hl hm
 refine alt (fun he => ?_) (fun hne=>kB h (by simp;rintro rfl;exact hne rfl))
 have he:L.length=M.length:=by omega
 intro _
 refine loop_ok (ks := [0,1,4,5,10,12,13,14,24]) (pl := [(6,[0,0,3,7,0,0,48,112,255],(.seg 0 (.seg 1 (.seg 2 (.seg 3 (.seg 4 (.seg 5 (.seg 6 (.seg 7 (.seg 8 .last))))))))))]) (n0:=26) (fun x : {k:Nat//k≤L.length∧L.take k=M.take k} => [(13,dI x.1)]) (fun x=>L.length-x.1) ⟨0,by simp⟩ rfl (by kernel_rfl) (Wk.sub (by simp)) ?_
 rintro ⟨k,hk,ht⟩
 by_cases h1:k<L.length
 ·have h2:k<M.length:=by omega
  simp [h1,h2]
  refine alt (fun hne=>kB h (by simp;rintro rfl;simp at hne)) (fun hc => ?_);simp at hc;obtain ⟨e1,e2⟩:=hc
  exact ⟨k+1,by omega,⟨by omega,take_eq_succ ht h1 h2 (by cases hx:L[k];cases hy:M[k];simp_all)⟩,Wk.sub (by simp [wrap_add (show k<9223372036854775807 by omega)])⟩
 ·simp [h1]
  obtain rfl:k=L.length:=by omega
  rw [List.take_length,he,List.take_length] at ht
  exact kB h (by simpa using ht)
theorem equalS_ok (S T:Bool) (L M:List ByteArray) {K:D->List Blk->Prop} (h:K (dB (decide (L=M))) []):DPure Tryz.prog 13 [dL S (L.map (fun b=>[eS b])),dL T (M.map (fun b=>[eS b]))] K:=by
 refine fn_ok [0,1,4,5,10,12,13,14,24] [(6,[0,0,3,7,0,0,48,112,255],(.seg 0 (.seg 1 (.seg 2 (.seg 3 (.seg 4 (.seg 5 (.seg 6 (.seg 7 (.seg 8 .last))))))))))] Tryz.func13 rfl (by kernel_rfl) rfl rfl rfl rfl (by kernel_rfl) ?_
 simp
 intro hl hm
 refine alt (fun he => ?_) (fun hne=>kB h (by simp;rintro rfl;exact hne rfl))
 have he:L.length=M.length:=by omega
 intro _
 refine loop_ok (ks := [0,1,4,5,10,12,13,14,24]) (pl := [(6,[0,0,3,7,0,0,48,112,255],(.seg 0 (.seg 1 (.seg 2 (.seg 3 (.seg 4 (.seg 5 (.seg 6 (.seg 7 (.seg 8 .last))))))))))]) (n0:=26) (fun x : {k:Nat//k≤L.length∧L.take k=M.take k} => [(13,dI x.1)]) (fun x=>L.length-x.1) ⟨0,by simp⟩ rfl (by kernel_rfl) (Wk.sub (by simp)) ?_
 rintro ⟨k,hk,ht⟩
 by_cases h1:k<L.length
 ·have h2:k<M.length:=by omega
  simp [h1,h2]
  refine alt (fun e1 => ?_) (fun hne=>kB h (by simp;rintro rfl;simp at hne))
  exact ⟨k+1,by omega,⟨by omega,take_eq_succ ht h1 h2 (by exact e1)⟩,Wk.sub (by simp [wrap_add (show k<9223372036854775807 by omega)])⟩
 ·simp [h1]
  obtain rfl:k=L.length:=by omega
  rw [List.take_length,he,List.take_length] at ht
  exact kB h (by simpa using ht)
theorem any_take_succ {α:Type} {L:List α} {p:α->Bool} {k:Nat} (h:(L.take k).any p=false) (hk:k<L.length) (e:p L[k]=false):(L.take (k+1)).any p=false:=by
 rw [List.take_succ_eq_append_getElem hk,List.any_append,h];simp [e]
def spcFn (f:FuncId):Bool:=frzFn f||wrFn f
theorem spc_of {f:FuncId} (h:spcFn f=false):frzFn f=false∧wrFn f=false:=by simpa only [spcFn,Bool.or_eq_false_iff] using h
theorem indexFI_ok {α:Type} (S:Bool) (L:List α) (en:α->List Dt) (el:α->D) (p:α->Bool) (g:FuncId) (hx : ∀ v,ext1 g v=none) (hz:spcFn g=false) (fs cs:List Dt) (he : ∀ x, ∃ c,en x=[c]∧el x = .one (.d c))
  (hp : ∀ x∈L, ∀ K:D->List Blk->Prop,K (dB (p x)) []->DPure Tryz.prog g (fs.map (fun x => .one (.d x))++(el x::cs.map fun x => .one (.d x))) K) {K:D->List Blk->Prop} (h : ∀ n:Int,(0≤n↔L.any p=true)->K (dI n) []) :
  DPure Tryz.prog 249 [dL S (L.map en),.one (.d (.fn (.func g) fs cs))] K:=by
 refine fn_ok [0,1,4,5,7,8,9,16] [] Tryz.func249 rfl (by kernel_rfl) rfl rfl rfl rfl (by kernel_rfl) ?_
 simp
 intro hl
 refine loop_ok (ks := [0,1,4,5,7,8,9,16]) (pl := []) (n0:=19) (fun x : {k:Nat//k≤L.length∧(L.take k).any p=false} => [(8,dI x.1)]) (fun x=>L.length-x.1) ⟨0,by simp⟩ rfl (by kernel_rfl) (Wk.sub (by simp)) ?_
 rintro ⟨k,hk,ht⟩
 by_cases h1:k<L.length
 ·have he':=he L[k]
  obtain ⟨c,e1,e2⟩:=he'
  obtain ⟨hz1,hz2⟩:=spc_of hz
  simp [h1,e1,hx,hz1,hz2, -ext1, -frzFn, -wrFn]
  rw [← e2]
  refine hp L[k] (List.getElem_mem h1) _ ?_
  simp
  refine alt (fun hb=>h _ ⟨fun _=>List.any_eq_true.2 ⟨_,List.getElem_mem h1,hb⟩,fun _=>by omega⟩) (fun hb=>⟨k+1,by omega,⟨by omega,by simpa using any_take_succ ht h1 (by simpa using hb)⟩,Wk.sub (by simp [wrap_add (show k<9223372036854775807 by omega)])⟩)
 ·simp [h1]
  obtain rfl:k=L.length:=by omega
  rw [List.take_length] at ht
  exact h _ (by simp [ht])
theorem containsFI_ok {α:Type} (S:Bool) (L:List α) (en:α->List Dt) (el:α->D) (p:α->Bool) (g:FuncId) (hx : ∀ v,ext1 g v=none) (hz:spcFn g=false) (fs cs:List Dt) (he : ∀ x, ∃ c,en x=[c]∧el x = .one (.d c))
  (hp : ∀ x∈L, ∀ K:D->List Blk->Prop,K (dB (p x)) []->DPure Tryz.prog g (fs.map (fun x => .one (.d x))++(el x::cs.map fun x => .one (.d x))) K) {K:D->List Blk->Prop} (h:K (dB (L.any p)) []) :
  DPure Tryz.prog 242 [dL S (L.map en),.one (.d (.fn (.func g) fs cs))] K:=by
 refine fn_ok [0,1,4] [] Tryz.func242 rfl (by kernel_rfl) rfl rfl rfl rfl (by kernel_rfl) ?_
 simp
 refine indexFI_ok S L en el p g hx hz fs cs he hp fun n hn => ?_
 simp
 exact kB h (by rw [Bool.eq_iff_iff];simp [← hn])
theorem indexFS_ok {α:Type} (S:Bool) (L:List α) (en:α->List Dt) (el:α->D) (p:α->Bool) (g:FuncId) (hx : ∀ v,ext1 g v=none) (hz:spcFn g=false) (fs cs:List Dt) (he : ∀ x, ∃ c,en x=[c]∧el x = .one (.d c))
  (hp : ∀ x∈L, ∀ K:D->List Blk->Prop,K (dB (p x)) []->DPure Tryz.prog g (fs.map (fun x => .one (.d x))++(el x::cs.map fun x => .one (.d x))) K) {K:D->List Blk->Prop} (h : ∀ n:Int,(0≤n↔L.any p=true)->K (dI n) []) :
  DPure Tryz.prog 215 [dL S (L.map en),.one (.d (.fn (.func g) fs cs))] K:=by
 refine fn_ok [0,1,4,5,7,8,9,16] [] Tryz.func215 rfl (by kernel_rfl) rfl rfl rfl rfl (by kernel_rfl) ?_
 simp
 intro hl
 refine loop_ok (ks := [0,1,4,5,7,8,9,16]) (pl := []) (n0:=19) (fun x : {k:Nat//k≤L.length∧(L.take k).any p=false} => [(8,dI x.1)]) (fun x=>L.length-x.1) ⟨0,by simp⟩ rfl (by kernel_rfl) (Wk.sub (by simp)) ?_
 rintro ⟨k,hk,ht⟩
 by_cases h1:k<L.length
 ·have he':=he L[k]
  obtain ⟨c,e1,e2⟩:=he'
  obtain ⟨hz1,hz2⟩:=spc_of hz
  simp [h1,e1,hx,hz1,hz2, -ext1, -frzFn, -wrFn]
  rw [← e2]
  refine hp L[k] (List.getElem_mem h1) _ ?_
  simp
  refine alt (fun hb=>h _ ⟨fun _=>List.any_eq_true.2 ⟨_,List.getElem_mem h1,hb⟩,fun _=>by omega⟩) (fun hb=>⟨k+1,by omega,⟨by omega,by simpa using any_take_succ ht h1 (by simpa using hb)⟩,Wk.sub (by simp [wrap_add (show k<9223372036854775807 by omega)])⟩)
 ·simp [h1]
  obtain rfl:k=L.length:=by omega
  rw [List.take_length] at ht
  exact h _ (by simp [ht])
theorem containsFS_ok {α:Type} (S:Bool) (L:List α) (en:α->List Dt) (el:α->D) (p:α->Bool) (g:FuncId) (hx : ∀ v,ext1 g v=none) (hz:spcFn g=false) (fs cs:List Dt) (he : ∀ x, ∃ c,en x=[c]∧el x = .one (.d c))
  (hp : ∀ x∈L, ∀ K:D->List Blk->Prop,K (dB (p x)) []->DPure Tryz.prog g (fs.map (fun x => .one (.d x))++(el x::cs.map fun x => .one (.d x))) K) {K:D->List Blk->Prop} (h:K (dB (L.any p)) []) :
  DPure Tryz.prog 173 [dL S (L.map en),.one (.d (.fn (.func g) fs cs))] K:=by
 refine fn_ok [0,1,4] [] Tryz.func173 rfl (by kernel_rfl) rfl rfl rfl rfl (by kernel_rfl) ?_
 simp
 refine indexFS_ok S L en el p g hx hz fs cs he hp fun n hn => ?_
 simp
 exact kB h (by rw [Bool.eq_iff_iff];simp [← hn])
theorem indexFV_ok {α:Type} (S:Bool) (L:List α) (en:α->List Dt) (el:α->D) (p:α->Bool) (g:FuncId) (hx : ∀ v,ext1 g v=none) (hz:spcFn g=false) (fs cs:List Dt) (he : ∀ x, ∃ a b,en x=[a,b]∧el x = .agg [.d a,.d b])
  (hp : ∀ x∈L, ∀ K:D->List Blk->Prop,K (dB (p x)) []->DPure Tryz.prog g (fs.map (fun x => .one (.d x))++(el x::cs.map fun x => .one (.d x))) K) {K:D->List Blk->Prop} (h : ∀ n:Int,(0≤n↔L.any p=true)->K (dI n) []) :
  DPure Tryz.prog 185 [dL S (L.map en),.one (.d (.fn (.func g) fs cs))] K:=by
 refine fn_ok [0,1,4,5,7,8,9,16] [] Tryz.func185 rfl (by kernel_rfl) rfl rfl rfl rfl (by kernel_rfl) ?_
 simp
 intro hl
 refine loop_ok (ks := [0,1,4,5,7,8,9,16]) (pl := []) (n0:=19) (fun x : {k:Nat//k≤L.length∧(L.take k).any p=false} => [(8,dI x.1)]) (fun x=>L.length-x.1) ⟨0,by simp⟩ rfl (by kernel_rfl) (Wk.sub (by simp)) ?_
 rintro ⟨k,hk,ht⟩
 by_cases h1:k<L.length
 ·have he':=he L[k]
  obtain ⟨a,b,e1,e2⟩:=he'
  obtain ⟨hz1,hz2⟩:=spc_of hz
  simp [h1,e1,hx,hz1,hz2, -ext1, -frzFn, -wrFn]
  rw [← e2]
  refine hp L[k] (List.getElem_mem h1) _ ?_
  simp
  refine alt (fun hb=>h _ ⟨fun _=>List.any_eq_true.2 ⟨_,List.getElem_mem h1,hb⟩,fun _=>by omega⟩) (fun hb=>⟨k+1,by omega,⟨by omega,by simpa using any_take_succ ht h1 (by simpa using hb)⟩,Wk.sub (by simp [wrap_add (show k<9223372036854775807 by omega)])⟩)
 ·simp [h1]
  obtain rfl:k=L.length:=by omega
  rw [List.take_length] at ht
  exact h _ (by simp [ht])
theorem containsFV_ok {α:Type} (S:Bool) (L:List α) (en:α->List Dt) (el:α->D) (p:α->Bool) (g:FuncId) (hx : ∀ v,ext1 g v=none) (hz:spcFn g=false) (fs cs:List Dt) (he : ∀ x, ∃ a b,en x=[a,b]∧el x = .agg [.d a,.d b])
  (hp : ∀ x∈L, ∀ K:D->List Blk->Prop,K (dB (p x)) []->DPure Tryz.prog g (fs.map (fun x => .one (.d x))++(el x::cs.map fun x => .one (.d x))) K) {K:D->List Blk->Prop} (h:K (dB (L.any p)) []) :
  DPure Tryz.prog 122 [dL S (L.map en),.one (.d (.fn (.func g) fs cs))] K:=by
 refine fn_ok [0,1,4] [] Tryz.func122 rfl (by kernel_rfl) rfl rfl rfl rfl (by kernel_rfl) ?_
 simp
 refine indexFV_ok S L en el p g hx hz fs cs he hp fun n hn => ?_
 simp
 exact kB h (by rw [Bool.eq_iff_iff];simp [← hn])
theorem indexFF_ok {α:Type} (S:Bool) (L:List α) (en:α->List Dt) (el:α->D) (p:α->Bool) (g:FuncId) (hx : ∀ v,ext1 g v=none) (hz:spcFn g=false) (fs cs:List Dt) (he : ∀ x, ∃ a b c d f,en x=[a,b,c,d,f]∧el x = .agg [.d a,.d b,.d c,.d d,.d f])
  (hp : ∀ x∈L, ∀ K:D->List Blk->Prop,K (dB (p x)) []->DPure Tryz.prog g (fs.map (fun x => .one (.d x))++(el x::cs.map fun x => .one (.d x))) K) {K:D->List Blk->Prop} (h : ∀ n:Int,(0≤n↔L.any p=true)->K (dI n) []) :
  DPure Tryz.prog 195 [dL S (L.map en),.one (.d (.fn (.func g) fs cs))] K:=by
 refine fn_ok [0,1,4,5,7,8,9,16] [] Tryz.func195 rfl (by kernel_rfl) rfl rfl rfl rfl (by kernel_rfl) ?_
 simp
 intro hl
 refine loop_ok (ks := [0,1,4,5,7,8,9,16]) (pl := []) (n0:=19) (fun x : {k:Nat//k≤L.length∧(L.take k).any p=false} => [(8,dI x.1)]) (fun x=>L.length-x.1) ⟨0,by simp⟩ rfl (by kernel_rfl) (Wk.sub (by simp)) ?_
 rintro ⟨k,hk,ht⟩
 by_cases h1:k<L.length
 ·have he':=he L[k]
  obtain ⟨a,b,c,d,f,e1,e2⟩:=he'
  obtain ⟨hz1,hz2⟩:=spc_of hz
  simp [h1,e1,hx,hz1,hz2, -ext1, -frzFn, -wrFn]
  rw [← e2]
  refine hp L[k] (List.getElem_mem h1) _ ?_
  simp
  refine alt (fun hb=>h _ ⟨fun _=>List.any_eq_true.2 ⟨_,List.getElem_mem h1,hb⟩,fun _=>by omega⟩) (fun hb=>⟨k+1,by omega,⟨by omega,by simpa using any_take_succ ht h1 (by simpa using hb)⟩,Wk.sub (by simp [wrap_add (show k<9223372036854775807 by omega)])⟩)
 ·simp [h1]
  obtain rfl:k=L.length:=by omega
  rw [List.take_length] at ht
  exact h _ (by simp [ht])
theorem containsFF_ok {α:Type} (S:Bool) (L:List α) (en:α->List Dt) (el:α->D) (p:α->Bool) (g:FuncId) (hx : ∀ v,ext1 g v=none) (hz:spcFn g=false) (fs cs:List Dt) (he : ∀ x, ∃ a b c d f,en x=[a,b,c,d,f]∧el x = .agg [.d a,.d b,.d c,.d d,.d f])
  (hp : ∀ x∈L, ∀ K:D->List Blk->Prop,K (dB (p x)) []->DPure Tryz.prog g (fs.map (fun x => .one (.d x))++(el x::cs.map fun x => .one (.d x))) K) {K:D->List Blk->Prop} (h:K (dB (L.any p)) []) :
  DPure Tryz.prog 140 [dL S (L.map en),.one (.d (.fn (.func g) fs cs))] K:=by
 refine fn_ok [0,1,4] [] Tryz.func140 rfl (by kernel_rfl) rfl rfl rfl rfl (by kernel_rfl) ?_
 simp
 refine indexFF_ok S L en el p g hx hz fs cs he hp fun n hn => ?_
 simp
 exact kB h (by rw [Bool.eq_iff_iff];simp [← hn])
theorem cloneT_ok (S:Bool) (es:List (List Dt)) (hk : ∀ e∈es,e.length=2) (hs : ∀ e∈es, ∀ x∈e,x.solidT=true) (hl:es.length≤100000000000) {K:D->List Blk->Prop} (h:K (.one (.own 0 2 es.length)) [⟨.c 147,2,es.map fun e=>e.map .d⟩]) :
  DPure Tryz.prog 131 [dL S es] K:=by
 refine DPure.own 147 2 ?_
 refine fn_ok [0,2,4] [] Tryz.func131 rfl (by kernel_rfl) rfl rfl rfl rfl (by kernel_rfl) ?_
 have hk' : ∀ d∈es.map (fun e=>e.map C.d),d.length=2:=fun d hd=>by
  obtain ⟨e,he,rfl⟩:=List.mem_map.1 hd
  simpa using hk e he
 simp [Function.comp_def,hl]
 refine ⟨fun e => ?_,fun e he=>hk e he,?_⟩
 ·subst e;exact .inr (by simpa using h)
 ·rw [if_pos fun e he x hx=>hs e he x hx]
  exact h
theorem cloneV_ok (S:Bool) (es:List (List Dt)) (hk : ∀ e∈es,e.length=2) (hs : ∀ e∈es, ∀ x∈e,x.solidT=true) (hl:es.length≤100000000000) {K:D->List Blk->Prop} (h:K (.one (.own 0 2 es.length)) [⟨.c 31,2,es.map fun e=>e.map .d⟩]) :
  DPure Tryz.prog 68 [dL S es] K:=by
 refine DPure.own 31 2 ?_
 refine fn_ok [0,2,4] [] Tryz.func68 rfl (by kernel_rfl) rfl rfl rfl rfl (by kernel_rfl) ?_
 have hk' : ∀ d∈es.map (fun e=>e.map C.d),d.length=2:=fun d hd=>by
  obtain ⟨e,he,rfl⟩:=List.mem_map.1 hd
  simpa using hk e he
 simp [Function.comp_def,hl]
 refine ⟨fun e => ?_,fun e he=>hk e he,?_⟩
 ·subst e;exact .inr (by simpa using h)
 ·rw [if_pos fun e he x hx=>hs e he x hx]
  exact h
theorem cloneS_ok (S:Bool) (es:List (List Dt)) (hk : ∀ e∈es,e.length=1) (hs : ∀ e∈es, ∀ x∈e,x.solidT=true) (hl:es.length≤100000000000) {K:D->List Blk->Prop} (h:K (.one (.own 0 1 es.length)) [⟨.c 9,1,es.map fun e=>e.map .d⟩]) :
  DPure Tryz.prog 65 [dL S es] K:=by
 refine DPure.own 9 1 ?_
 refine fn_ok [0,2,4] [] Tryz.func65 rfl (by kernel_rfl) rfl rfl rfl rfl (by kernel_rfl) ?_
 have hk' : ∀ d∈es.map (fun e=>e.map C.d),d.length=1:=fun d hd=>by
  obtain ⟨e,he,rfl⟩:=List.mem_map.1 hd
  simpa using hk e he
 simp [Function.comp_def,hl]
 refine ⟨fun e => ?_,fun e he=>hk e he,?_⟩
 ·subst e;exact .inr (by simpa using h)
 ·rw [if_pos fun e he x hx=>hs e he x hx]
  exact h
structure GIns where
 op:Int
 a:Int
 b:Int
 c:Int
 line:Int
def eIns (i:GIns):List Dt := [eI i.op,eI i.a,eI i.b,eI i.c,eI i.line]
structure GFn where
 params:Int
 regs:Int
 gen:Bool
 caught:List Int
 code:List GIns
def eInt (n:Int):List Dt := [eI n]
def eFn (f:GFn):List Dt := [eI f.params,eI f.regs,eB f.gen,.sl true (f.caught.map eInt),.sl true (f.code.map eIns)]
structure GVal where
 kind:Int
 n:Int
def eVal (v:GVal):List Dt := [eI v.kind,eI v.n]
def eStr (s:ByteArray):List Dt := [eS s]
structure GProg where
 fns:List GFn
 consts:List GVal
 texts:List ByteArray
def eProg (p:GProg):List Dt := [.sl true (p.fns.map eFn),.sl true (p.consts.map eVal),.sl true (p.texts.map eStr)]
attribute [simp] eIns eFn eInt eVal eStr eProg
abbrev aD (l:List Dt):D := .agg (l.map .d)
def btw (n lo hi:Int):Bool:=decide (lo≤n)&&decide (n≤hi)
theorem within_ok (n lo hi:Int) {K:D->List Blk->Prop} (h:K (dB (btw n lo hi)) []):DPure Tryz.prog 223 [dI n,dI lo,dI hi] K:=by
 refine fn_ok [0,1,2,6] [] Tryz.func223 rfl (by kernel_rfl) rfl rfl rfl rfl (by kernel_rfl) ?_
 simp
 refine alt (fun h1=>kB h (by simp [btw];omega)) (fun h1=>kB h (by simp [btw];omega))
theorem between_ok (n lo hi:Int) {K:D->List Blk->Prop} (h:K (dB (btw n lo hi)) []):DPure Tryz.prog 29 [dI n,dI lo,dI hi] K:=by
 refine fn_ok [0,1,2,6] [] Tryz.func29 rfl (by kernel_rfl) rfl rfl rfl rfl (by kernel_rfl) ?_
 simp
 refine alt (fun h1=>kB h (by simp [btw];omega)) (fun h1=>kB h (by simp [btw];omega))
abbrev aLook (p:GProg) (f:GFn):D:=aD (eProg p++eFn f)
theorem reg_ok (p:GProg) (f:GFn) (n:Int) {K:D->List Blk->Prop} (h:K (dB (btw n 0 (IntKind.i64.wrap (f.regs-1)))) []):DPure Tryz.prog 225 [aLook p f,dI n] K:=by
 refine fn_ok [0,1,2,4] [] Tryz.func225 rfl (by kernel_rfl) rfl rfl rfl rfl (by kernel_rfl) ?_
 simp
 refine within_ok _ _ _ ?_
 simp
 exact h
abbrev wr (n:Int):Int:=IntKind.i64.wrap n
abbrev lenI {α:Type} (l:List α):Int:=(l.length:Int)
abbrev dU (c:Int):D := .one (.d (.lit (.int .u8 c)))
theorem at_ok (p:GProg) (f:GFn) (n:Int) {K:D->List Blk->Prop} (h:K (dB (btw n 0 (wr (lenI f.code-1)))) []):DPure Tryz.prog 241 [aLook p f,dI n] K:=by
 refine fn_ok [0,1,2,4] [] Tryz.func241 rfl (by kernel_rfl) rfl rfl rfl rfl (by kernel_rfl) ?_
 simp
 intro hl
 refine within_ok _ _ _ ?_
 simpa using h
theorem text_ok (p:GProg) (f:GFn) (n:Int) {K:D->List Blk->Prop} (h:K (dB (btw n 0 (wr (lenI p.texts-1)))) []):DPure Tryz.prog 240 [aLook p f,dI n] K:=by
 refine fn_ok [0,1,2,4] [] Tryz.func240 rfl (by kernel_rfl) rfl rfl rfl rfl (by kernel_rfl) ?_
 simp
 intro hl
 refine within_ok _ _ _ ?_
 simpa using h
def nameB (p:GProg) (f:GFn) (c:Int) (n:Int):Bool :=
 if c=114 then btw n 0 (wr (f.regs-1)) else if c=107 then btw n 0 (wr (lenI p.consts-1)) else if c=116 then btw n 0 (wr (lenI p.texts-1)) else if c=97 then btw n 0 (wr (lenI f.code-1))
 else if c=117 then btw n 0 (wr (lenI f.caught-1)) else if c=102 then btw n 1 (wr (lenI p.fns-1)) else if c=108∨c=99∨c=110 then btw n 0 f.regs else decide (n=0)
theorem names_ok (p:GProg) (f:GFn) (c:Int) (n:Int) {K:D->List Blk->Prop} (h:K (dB (nameB p f c n)) []):DPure Tryz.prog 224 [aLook p f,dU c,dI n] K:=by
 refine fn_ok [0,1,2,3,6,7,8,13,22,27,32,41,50] [] Tryz.func224 rfl (by kernel_rfl) rfl rfl rfl rfl (by kernel_rfl) ?_
 simp
 repeat' (first | (refine alt (fun _ => ?_) (fun _ => ?_)) | intro _)
 all_goals first
  | (refine reg_ok p f n ?_;simp;exact kB h (by simp_all [nameB]))
  | (refine text_ok p f n ?_;simp;exact kB h (by simp_all [nameB]))
  | (refine at_ok p f n ?_;simp;exact kB h (by simp_all [nameB]))
  | (refine within_ok _ _ _ ?_;simp;exact kB h (by simp_all [nameB]))
  | exact kB h (by simp_all [nameB])
def caught1B (f:GFn) (c:Int):Bool := !btw c 0 (wr (f.regs-1)) && !btw c (wr (0-lenI f.caught)) (-1)
theorem caught1_ok (p:GProg) (f:GFn) (c:Int) {K:D->List Blk->Prop} (h:K (dB (caught1B f c)) []):DPure Tryz.prog 243 [dI c,.one (.d (.at_ true (eProg p++eFn f)))] K:=by
 refine fn_ok [0,1,3] [] Tryz.func243 rfl (by kernel_rfl) rfl rfl rfl rfl (by kernel_rfl) ?_
 simp
 refine reg_ok p f c ?_
 simp
 refine alt (fun e=>kB h (by simp [caught1B,e])) (fun e => ?_)
 intro hl
 refine within_ok _ _ _ ?_
 simp
 exact kB h (by simp [caught1B,e])
def caughtB (f g:GFn):Bool := !g.caught.any (caught1B f)
theorem caught_ok (p:GProg) (f g:GFn) {K:D->List Blk->Prop} (h:K (dB (caughtB f g)) []):DPure Tryz.prog 226 [aLook p f,aD (eFn g)] K:=by
 refine fn_ok [0,1,2,3,4] [] Tryz.func226 rfl (by kernel_rfl) rfl rfl rfl rfl (by kernel_rfl) ?_
 simp
 refine containsFI_ok true g.caught eInt (fun n=>dI n) (caught1B f) 243 (fun _=>by simp) rfl [] [.at_ true (eProg p++eFn f)] (fun x=>⟨_,rfl,rfl⟩) (fun x _ K hK=>caught1_ok p f x hK) ?_
 simp
 exact kB h rfl
theorem wr_le {n:Int} (h : -9223372036854775808≤n):wr n≤n:=by
 simp [wr,IntKind.wrap,IntKind.signed,IntKind.bits]
 split <;> omega
def formT:List (UInt8×UInt8×UInt8) := [(0,0,0),(114,107,45),(114,114,45),(114,114,114),(114,114,114),(114,114,114),(114,114,114),(114,114,114),(114,114,114),(114,114,114),(114,114,114),(114,114,45),(114,114,45),(97,45,45),(97,45,45),(114,97,45),(114,45,45),(114,114,116),(114,116,114),(114,108,110),(114,114,114),(114,114,114),(114,45,45),(114,114,45),(114,114,45),(114,117,45),(114,102,45),(114,99,110),(114,45,45),(114,45,45),(114,97,45),(45,45,45),(114,114,45),(114,45,45),(114,45,45),(114,114,45),(114,114,45),(114,45,45),(114,45,45)]
def formA (op:Int):UInt8×UInt8×UInt8:=formT.getD op.toNat (0,0,0)
def formS (t:UInt8×UInt8×UInt8):ByteArray:=⟨#[t.1,t.2.1,t.2.2]⟩
def isOp (op:Int):Prop:=1≤op∧op<39
instance (op:Int):Decidable (isOp op):=inferInstanceAs (Decidable (_∧_))
def formC:List C := .d (.lit (.string .empty))::(formT.drop 1).map fun t => .d (.lit (.string (formS t)))
theorem formC_get {op:Int} {c:C} (h:isOp op) (hc:formC[op.toNat]? = some c):c = .d (.lit (.string (formS (formA op)))):=by
 obtain ⟨n,rfl⟩ : ∃ n:Nat,op=((n+1:Nat):Int):=⟨op.toNat-1,by have:=h.1;omega⟩
 have hn:n<38:=by have:=h.2;omega
 simp [formC,formA,List.getElem?_drop] at hc ⊢
 obtain ⟨a,b,d,h1,rfl⟩:=hc
 rw [h1];rfl
theorem form_ok (op:Int) {K:D->List Blk->Prop} (h0 : ¬ isOp op->K (dS ⟨#[]⟩) []) (h:isOp op -> ∀ a b c,formA op=(a,b,c)->K (dS ⟨#[a,b,c]⟩) []):DPure Tryz.prog 222 [dI op] K:=by
 refine fn_ok [0,2,3,10] [] Tryz.func222 rfl (by kernel_rfl) rfl rfl rfl rfl (by kernel_rfl) ?_
 simp
 refine alt (fun h1=>alt (fun h2=>h0 (fun h=>by have:=h.2;omega)) (fun h2 => ?_)) (fun h1=>h0 (fun h=>by have:=h.1;omega))
 refine ⟨by omega,by omega,?_⟩
 split
 ·rename_i c hc
  replace hc:formC[op.toNat]? = some c:=hc
  cases formC_get ⟨h1,by omega⟩ hc
  simp
  exact h ⟨h1,by omega⟩ _ _ _ rfl
 ·rename_i hc
  replace hc:formC[op.toNat]? = none:=hc
  have:formC.length=39:=rfl
  simp at hc;omega
def orderK (p:GProg) (f:GFn) (at_:Int) (i:GIns):Bool :=
 if i.op=14 then decide (i.a≤at_) else if i.op=19 then decide (wr (i.b+i.c)≤f.regs) else if i.op=27 then btw (wr (i.b+i.c)) 0 (wr (f.regs-1))
 else if i.op=26 then caughtB f (p.fns.getD i.b.toNat ⟨0,0,false,[],[]⟩) else if i.op=32 then f.gen else true
def orderB (p:GProg) (f:GFn) (at_:Int) (i:GIns):Bool :=
 decide (isOp i.op)&&btw i.line 0 2000&&nameB p f (formA i.op).1.toNat i.a&&nameB p f (formA i.op).2.1.toNat i.b&&nameB p f (formA i.op).2.2.toNat i.c &&
 orderK p f at_ i
theorem order_ok (p:GProg) (f:GFn) (at_:Int) (i:GIns) {K:D->List Blk->Prop} (h:K (dB (orderB p f at_ i)) []):DPure Tryz.prog 196 [aLook p f,dI at_,aD (eIns i)] K:=by
 refine fn_ok [0,1,2,3,5,6,7,45,47,48,54,65,74,85] [(2,[0,1,3,7,15,31,63,127,255,511,511,1535,511,4607,16383,32767,65535,131071,262143,262143,786431,262143,2359295,8388607,16777215,33554431,67108863,134217727,134217727,402653183,134217727,1207959551,4294967295,8589934591,17179869183],(.seg 0 (.seg 1 (.seg 2 (.seg 3 (.seg 4 (.eff 5 [] (.seg 6 (.seg 7 (.seg 8 (.seg 9 (.seg 10 (.seg 11 (.seg 12 (.seg 13 (.eff 14 [] (.seg 15 (.seg 16 (.seg 17 (.seg 18 (.seg 19 (.seg 20 (.seg 21 (.seg 22 (.eff 23 [] (.seg 24 (.seg 25 (.seg 26 (.seg 27 (.seg 28 (.seg 29 (.seg 30 (.seg 31 (.eff 32 [] (.seg 33 (.seg 34 .last)))))))))))))))))))))))))))))))))))),(12,[0,0,2,6,0,16,62,126,255,511],(.seg 0 (.seg 1 (.seg 2 (.seg 3 (.seg 4 (.seg 5 (.seg 6 (.seg 7 (.eff 8 [] (.seg 9 .last)))))))))))] Tryz.func196 rfl (by kernel_rfl) rfl rfl rfl rfl (by kernel_rfl) ?_
 simp
 refine form_ok _ (fun e => ?_) (fun e a b c hf => ?_)
 ·simp
  exact kB h (by simp [orderB,e])
 simp
 refine within_ok _ _ _ ?_
 simp
 refine alt (fun h1 => ?_) (fun h1=>kB h (by simp [orderB,h1]))
 refine names_ok p f a.toNat _ ?_
 simp
 refine alt (fun h2 => ?_) (fun h2=>kB h (by simp [orderB,hf,h2]))
 refine names_ok p f b.toNat _ ?_
 simp
 refine alt (fun h3 => ?_) (fun h3=>kB h (by simp [orderB,hf,h3]))
 refine names_ok p f c.toNat _ ?_
 simp
 refine alt (fun h4 => ?_) (fun h4=>kB h (by simp [orderB,hf,h4]))
 have hR:orderB p f at_ i=orderK p f at_ i:=by simp only [orderB,hf,h1,h2,h3,h4,e,decide_true,Bool.true_and]
 rw [hR] at h
 refine alt (fun e=>kB h (by simp [orderK, *])) (fun e1 => ?_)
 refine alt (fun e=>kB h (by simp [orderK, *])) (fun e2 => ?_)
 refine alt (fun e => ?_) (fun e3 => ?_)
 ·refine reg_ok p f _ ?_
  simp
  exact kB h (by simp [orderK, *])
 refine alt (fun e => ?_) (fun e4 => ?_)
 ·have hA:formA i.op=(114,102,45):=by rw [e];rfl
  rw [hA] at hf
  cases hf
  simp [nameB,btw] at h3
  have hlt:i.b.toNat<p.fns.length:=by have h5:wr (lenI p.fns-1)≤lenI p.fns-1:=wr_le (by simp only [lenI];omega);have h6:lenI p.fns=p.fns.length:=rfl;omega
  refine ⟨by omega,?_⟩
  simp [List.getElem?_eq_getElem hlt]
  refine caught_ok p f _ ?_
  simp
  exact kB h (by simp [orderK, *])
 refine alt (fun e => ?_) (fun e5 => ?_)
 ·exact kB h (by simp [orderK, *])
 ·exact kB h (by simp [orderK, *])
structure Wlk where
 seen:List Bool
 out:List (List GTry)
 todo:List Int
 bad:Bool
def comeQ (f:GFn) (q:Wlk) (at_:Int) (l:List GTry):Wlk :=
 if (f.code.length:Int)≤at_∨20<l.length then { q with bad:=true }
 else if q.seen.getD at_.toNat false=false then { q with seen:=q.seen.set at_.toNat true,out:=q.out.set at_.toNat l,todo:=q.todo++[at_] }
 else if q.out.getD at_.toNat []=l then q else { q with bad:=true }
def fromQ (f:GFn) (q:Wlk) (k:Nat) (i:GIns) (l:List GTry):Wlk :=
 if i.op=28∨i.op=29 then q
 else if i.op=13∨i.op=14 then comeQ f q i.a l
 else if i.op=15 then comeQ f (comeQ f q i.b l) (k+1) l
 else if i.op=30 then comeQ f (comeQ f q i.b l) (k+1) (l++[⟨i.a,i.b⟩])
 else if i.op=31 then (if l=[] then { q with bad:=true } else comeQ f q (k+1) l.dropLast)
 else comeQ f q (k+1) l
def goesOk (i:GIns):Prop:=((i.op=13∨i.op=14)->0≤i.a)∧((i.op=15∨i.op=30)->0≤i.b)
theorem comeQ_todo (f:GFn) (q:Wlk) (n:Int) (l:List GTry):(comeQ f q n l).todo.length≤q.todo.length+1:=by
 unfold comeQ
 repeat' split
 all_goals simp
def succs (i:GIns) (k:Nat) (l:List GTry):List (Int×List GTry) :=
 if i.op=28∨i.op=29 then [] else if i.op=13∨i.op=14 then [(i.a,l)] else if i.op=15 then [(i.b,l),((k:Int)+1,l)]
 else if i.op=30 then [(i.b,l),((k:Int)+1,l++[⟨i.a,i.b⟩])] else if i.op=31 then [((k:Int)+1,l.dropLast)] else [((k:Int)+1,l)]
def stuck (i:GIns) (l:List GTry):Prop:=i.op=31∧l=[]
instance (i:GIns) (l:List GTry):Decidable (stuck i l):=inferInstanceAs (Decidable (_∧_))
def comesQ (f:GFn):Wlk->List (Int×List GTry)->Wlk
 | q,[]=>q
 | q,x::xs=>comesQ f (comeQ f q x.1 x.2) xs
theorem fromQ_eq (f:GFn) (q:Wlk) (k:Nat) (i:GIns) (l:List GTry):fromQ f q k i l=if stuck i l then { q with bad:=true } else comesQ f q (succs i k l):=by
 unfold fromQ succs
 by_cases h1:i.op=28∨i.op=29
 ·rw [if_pos h1,if_pos h1,if_neg (fun h:stuck i l=>by have:=h.1;omega)];rfl
 rw [if_neg h1,if_neg h1]
 by_cases h2:i.op=13∨i.op=14
 ·rw [if_pos h2,if_pos h2,if_neg (fun h:stuck i l=>by have:=h.1;omega)];rfl
 rw [if_neg h2,if_neg h2]
 by_cases h3:i.op=15
 ·rw [if_pos h3,if_pos h3,if_neg (fun h:stuck i l=>by have:=h.1;omega)];rfl
 rw [if_neg h3,if_neg h3]
 by_cases h4:i.op=30
 ·rw [if_pos h4,if_pos h4,if_neg (fun h:stuck i l=>by have:=h.1;omega)];rfl
 rw [if_neg h4,if_neg h4]
 by_cases h5:i.op=31
 ·rw [if_pos h5,if_pos h5]
  by_cases h6:l=[]
  ·rw [if_pos h6,if_pos (show stuck i l from ⟨h5,h6⟩)]
  ·rw [if_neg h6,if_neg (fun h:stuck i l=>h6 h.2)];rfl
 ·rw [if_neg h5,if_neg h5,if_neg (fun h:stuck i l=>h5 h.1)];rfl
inductive Rch (f:GFn):Int->List GTry->Prop
 | start:Rch f 0 []
 | step {k:Nat} {l:List GTry} {m:Int} {l':List GTry} (h:Rch f k l) (hk:k<f.code.length) (hs:(m,l')∈succs f.code[k] k l):Rch f m l'
def Fine (f:GFn):Prop := ∀ m l,Rch f m l->m<f.code.length∧l.length≤20∧(∀ l',Rch f m l'->l'=l) ∧ ∀ (k:Nat) (hk:k<f.code.length),m=k -> ¬ stuck f.code[k] l
def At (f:GFn) (q:Wlk) (m:Int) (l:List GTry):Prop:=0≤m∧m<f.code.length∧q.seen.getD m.toNat false=true∧q.out.getD m.toNat []=l∧l.length≤20
def goesAll (f:GFn):Prop := ∀ i∈f.code,goesOk i
theorem succs_pos {i:GIns} {k:Nat} {l:List GTry} (h:goesOk i) {m:Int} {l':List GTry} (hs:(m,l')∈succs i k l):0≤m:=by
 unfold succs at hs
 repeat' split at hs
 all_goals simp at hs
 all_goals first
  | (obtain ⟨rfl, -⟩:=hs;first | omega | (have:=h.1 (by assumption);omega))
  | (rcases hs with ⟨rfl, -⟩ | ⟨rfl, -⟩ <;> first | omega | (have:=h.2 (by omega);omega))
structure CInv (f:GFn) (q:Wlk) (ks:Option Nat):Prop where
 ls:q.seen.length=f.code.length
 lo:q.out.length=f.code.length
 todo : ∀ x∈q.todo,0≤x∧x<f.code.length∧q.seen.getD x.toNat false=true
 sound : ∀ k,q.seen.getD k false=true->Rch f k (q.out.getD k [])∧k<f.code.length∧(q.out.getD k []).length≤20
 closed:q.bad=false -> ∀ (k:Nat) (hk:k<f.code.length),q.seen.getD k false=true->(k:Int)∈q.todo∨some k=ks∨(¬ stuck f.code[k] (q.out.getD k []) ∧ ∀ m l,(m,l)∈succs f.code[k] k (q.out.getD k [])->At f q m l)
 bad:q.bad=true -> ¬ Fine f
theorem getD_set {α:Type} {l:List α} {n m:Nat} {a d:α} : (l.set n a).getD m d=if n=m∧n<l.length then a else l.getD m d:=by
 simp only [List.getD_eq_getElem?_getD,List.getElem?_set]
 split
 ·rename_i h;subst h
  split
  ·rename_i h;simp [h]
  ·rename_i h;simp [h,List.getElem?_eq_none (Nat.le_of_not_lt h)]
 ·rename_i h;simp [h]
theorem CInv.come {f:GFn} {q:Wlk} {ks:Option Nat} (h:CInv f q ks) {m:Int} {l:List GTry} (hr:Rch f m l) (hm:0≤m) :
  CInv f (comeQ f q m l) ks∧((comeQ f q m l).bad=true∨At f (comeQ f q m l) m l)∧(∀ x y,At f q x y->At f (comeQ f q m l) x y):=by
 unfold comeQ
 by_cases h1:(f.code.length:Int)≤m∨20<l.length
 ·rw [if_pos h1]
  refine ⟨⟨h.ls,h.lo,h.todo,h.sound,fun e=>(by cases e),fun _ hf => ?_⟩,.inl rfl,fun x y hx=>hx⟩
  have:=hf m l hr
  omega
 rw [if_neg h1]
 by_cases h2:q.seen.getD m.toNat false=false
 ·rw [if_pos h2]
  have hlt:m.toNat<f.code.length:=by omega
  have hmon : ∀ x y,At f q x y->At f { q with seen:=q.seen.set m.toNat true,out:=q.out.set m.toNat l,todo:=q.todo++[m] } x y:=fun x y hx=>by
   have hne:m.toNat≠x.toNat:=fun e=>by have:=hx.2.2.1;rw [← e,h2] at this;cases this
   refine ⟨hx.1,hx.2.1,?_,?_,hx.2.2.2.2⟩
   ·simp only [getD_set,hne,false_and,if_false];exact hx.2.2.1
   ·simp only [getD_set,hne,false_and,if_false];exact hx.2.2.2.1
  refine ⟨⟨by simpa using h.ls,by simpa using h.lo,fun x hx => ?_,fun k hk => ?_,fun hb k hk hs => ?_,h.bad⟩,.inr ⟨hm,by omega,?_,?_,by omega⟩,hmon⟩
  ·rcases List.mem_append.1 hx with hx | hx
   ·obtain ⟨a,b,c⟩:=h.todo x hx
    refine ⟨a,b,?_⟩
    simp only [getD_set];split
    ·rfl
    ·exact c
   ·obtain rfl:=List.mem_singleton.1 hx
    refine ⟨hm,by omega,?_⟩
    simp only [getD_set,h.ls,hlt,and_self,if_true]
  ·simp only [getD_set,h.ls,h.lo,hlt,and_true] at hk ⊢
   by_cases e:m.toNat=k
   ·subst e
    simp only [if_true]
    rw [show ((m.toNat:Nat):Int)=m by omega]
    exact ⟨hr,hlt,by omega⟩
   ·simp only [e,if_false] at hk ⊢
    exact h.sound k hk
  ·simp only [getD_set,h.ls,h.lo,hlt,and_true] at hs ⊢
   by_cases e:m.toNat=k
   ·refine .inl (List.mem_append_right _ ?_)
    subst e
    simp;omega
   ·simp only [e,if_false] at hs ⊢
    rcases h.closed hb k hk hs with h3 | h3 | ⟨h3,h4⟩
    ·exact .inl (List.mem_append_left _ h3)
    ·exact .inr (.inl h3)
    ·exact .inr (.inr ⟨h3,fun x y hx=>hmon x y (h4 x y hx)⟩)
  ·simp only [getD_set,h.ls,hlt,and_self,if_true]
  ·simp only [getD_set,h.lo,hlt,and_self,if_true]
 rw [if_neg h2]
 have h2:q.seen.getD m.toNat false=true:=by cases e:q.seen.getD m.toNat false <;> simp_all
 by_cases h3:q.out.getD m.toNat []=l
 ·rw [if_pos h3]
  exact ⟨h,.inr ⟨hm,by omega,h2,h3,by omega⟩,fun _ _ h=>h⟩
 ·rw [if_neg h3]
  refine ⟨⟨h.ls,h.lo,h.todo,h.sound,fun e=>(by cases e),fun _ hf => ?_⟩,.inl rfl,fun x y hx=>hx⟩
  obtain ⟨hs, -, -⟩:=h.sound _ h2
  rw [show ((m.toNat:Nat):Int)=m by omega] at hs
  exact h3 ((hf m l hr).2.2.1 _ hs)
theorem comeQ_bad {f:GFn} {q:Wlk} {m:Int} {l:List GTry} (h:q.bad=true):(comeQ f q m l).bad=true:=by
 unfold comeQ
 repeat' split
 all_goals first | rfl | exact h
theorem comesQ_bad {f:GFn} : ∀ {xs:List (Int×List GTry)} {q:Wlk}, q.bad=true->(comesQ f q xs).bad=true
 | [],_,h=>h
 | x::xs,q,h=>comesQ_bad (xs:=xs) (q:=comeQ f q x.1 x.2) (comeQ_bad h)
theorem CInv.comes {f:GFn} {ks:Option Nat} : ∀ (xs:List (Int×List GTry)) {q:Wlk}, CInv f q ks->(∀ m l,(m,l)∈xs->Rch f m l∧0≤m) ->
  CInv f (comesQ f q xs) ks∧((comesQ f q xs).bad=true ∨ ∀ m l,(m,l)∈xs->At f (comesQ f q xs) m l) ∧ ∀ x y,At f q x y->At f (comesQ f q xs) x y
 | [],q,h,_=>⟨h,.inr fun m l h=>by simp at h,fun _ _ h=>h⟩
 | (m,l)::xs,q,h,hx=>by
  obtain ⟨a1,a2⟩:=hx m l (List.mem_cons_self ..)
  obtain ⟨h1,h2,h3⟩:=h.come a1 a2
  obtain ⟨g1,g2,g3⟩:=CInv.comes xs h1 fun m l hm=>hx m l (List.mem_cons_of_mem _ hm)
  refine ⟨g1,?_,fun x y h=>g3 x y (h3 x y h)⟩
  rcases h2 with h2 | h2
  ·exact .inl (comesQ_bad (xs:=xs) (q:=comeQ f q m l) h2)
  rcases g2 with g2 | g2
  ·exact .inl g2
  ·refine .inr fun m' l' hm => ?_
   rcases List.mem_cons.1 hm with e | hm
   ·cases e;exact g3 _ _ h2
   ·exact g2 _ _ hm
def dIns:GIns:=⟨0,0,0,0,0⟩
def lastQ (q:Wlk):Nat:=(q.todo.getLast?.getD 0).toNat
def stepQ (f:GFn) (q:Wlk):Wlk:=fromQ f { q with todo:=q.todo.dropLast } (lastQ q) (f.code.getD (lastQ q) dIns) (q.out.getD (lastQ q) [])
def runQ (f:GFn):Nat->Wlk->Wlk
 | 0,q=>q
 | n+1,q=>if q.todo=[]∨q.bad=true then q else runQ f n (stepQ f q)
def initQ (f:GFn):Wlk:=⟨List.replicate f.code.length false,List.replicate f.code.length [],[],false⟩
def msr (q:Wlk):Nat:=2*q.seen.countP (fun b => !b)+q.todo.length
def triesQ (f:GFn):Wlk:=runQ f (2*f.code.length+1) (comeQ f (initQ f) 0 [])
theorem lastQ_mem {q:Wlk} (h:q.todo ≠ []) (hp : ∀ x∈q.todo,0≤x):((lastQ q:Nat):Int)=q.todo.getLast h:=by
 unfold lastQ
 rw [List.getLast?_eq_some_getLast h,Option.getD_some]
 have:=hp _ (List.getLast_mem h)
 omega
theorem mem_todo {l:List Int} (h:l ≠ []) {x:Int} (hx:x∈l):x∈l.dropLast∨x=l.getLast h:=by
 rw [← List.dropLast_concat_getLast h] at hx
 rcases List.mem_append.1 hx with hx | hx
 ·exact .inl hx
 ·exact .inr (List.mem_singleton.1 hx)
theorem CInv.step {f:GFn} (hg:goesAll f) {q:Wlk} (h:CInv f q none) (h0:q.todo ≠ []):CInv f (stepQ f q) none:=by
 have hl:=lastQ_mem h0 fun x hx=>(h.todo x hx).1
 obtain ⟨a1,a2,a3⟩:=h.todo _ (List.getLast_mem h0)
 rw [← hl] at a1 a2 a3
 have hk:lastQ q<f.code.length:=by omega
 rw [Int.toNat_natCast] at a3
 obtain ⟨b1, -, b2⟩:=h.sound _ a3
 have hpop:CInv f { q with todo:=q.todo.dropLast } (some (lastQ q)):=by
  refine ⟨h.ls,h.lo,fun x hx=>h.todo x (List.dropLast_subset _ hx),h.sound,fun hb k hk hs => ?_,h.bad⟩
  rcases h.closed hb k hk hs with h3 | h3 | h3
  ·rcases mem_todo h0 h3 with h4 | h4
   ·exact .inl h4
   ·rw [← hl] at h4
    exact .inr (.inl (by rw [Int.ofNat_inj.1 h4]))
  ·cases h3
  ·exact .inr (.inr h3)
 unfold stepQ
 rw [fromQ_eq]
 have hi:f.code.getD (lastQ q) dIns=f.code[lastQ q]:=by simp [List.getD_eq_getElem?_getD,List.getElem?_eq_getElem hk]
 rw [hi]
 by_cases hst:stuck f.code[lastQ q] (q.out.getD (lastQ q) [])
 ·rw [if_pos hst]
  exact ⟨h.ls,h.lo,hpop.todo,h.sound,fun e=>(by cases e),fun _ hf=>(hf _ _ b1).2.2.2 _ hk rfl hst⟩
 ·rw [if_neg hst]
  obtain ⟨g1,g2,g3⟩:=CInv.comes (f:=f) (succs f.code[lastQ q] (lastQ q) (q.out.getD (lastQ q) [])) hpop fun m l hm=>⟨Rch.step b1 hk hm,succs_pos (hg _ (List.getElem_mem hk)) hm⟩
  have hat:=g3 (lastQ q) (q.out.getD (lastQ q) []) ⟨by omega,by omega,by rw [Int.toNat_natCast];exact a3,by rw [Int.toNat_natCast],b2⟩
  refine ⟨g1.ls,g1.lo,g1.todo,g1.sound,fun hb k hk' hs => ?_,g1.bad⟩
  rcases g1.closed hb k hk' hs with h3 | h3 | h3
  ·exact .inl h3
  ·cases h3
   refine .inr (.inr ?_)
   have e:=hat.2.2.2.1
   rw [Int.toNat_natCast] at e
   rw [e]
   exact ⟨hst,fun m l hm=>(g2.resolve_left (by rw [hb];simp)) m l hm⟩
  ·exact .inr (.inr h3)
theorem comeQ_msr (f:GFn) (q:Wlk) (m:Int) (l:List GTry) (h:q.seen.length=f.code.length) (hm:0≤m):msr (comeQ f q m l)+(if (comeQ f q m l).todo=q.todo then 0 else 1)≤msr q:=by
 unfold comeQ
 by_cases h1:(f.code.length:Int)≤m∨20<l.length
 ·rw [if_pos h1];simp [msr]
 rw [if_neg h1]
 by_cases h2:q.seen.getD m.toNat false=false
 ·rw [if_pos h2]
  have hlt:m.toNat<q.seen.length:=by omega
  have hget:q.seen[m.toNat]=false:=by simpa [List.getD_eq_getElem?_getD,List.getElem?_eq_getElem hlt] using h2
  have:q.seen.countP (fun b => !b)=(q.seen.set m.toNat true).countP (fun b => !b)+1:=by
   rw [List.countP_set hlt]
   simp only [hget]
   have:0<q.seen.countP (fun b => !b):=List.countP_pos_iff.2 ⟨_,List.getElem_mem hlt,by rw [hget];rfl⟩
   simp;omega
  simp [msr];omega
 rw [if_neg h2]
 split <;> simp [msr]
theorem comesQ_msr (f:GFn) : ∀ (xs:List (Int×List GTry)) (q:Wlk),q.seen.length=f.code.length->(∀ m l,(m,l)∈xs->0≤m)->msr (comesQ f q xs)≤msr q
 | [],_,_,_=>Nat.le_refl _
 | (m,l)::xs,q,h,hx=>by
  have h1:=comeQ_msr f q m l h (hx m l (List.mem_cons_self ..))
  have h2:(comeQ f q m l).seen.length=f.code.length:=by
   unfold comeQ;repeat' split
   all_goals simpa using h
  have:=comesQ_msr f xs (comeQ f q m l) h2 fun m l hm=>hx m l (List.mem_cons_of_mem _ hm)
  show msr (comesQ f (comeQ f q m l) xs)≤_
  omega
theorem stepQ_msr {f:GFn} (hg:goesAll f) {q:Wlk} (h:CInv f q none) (h0:q.todo ≠ []):msr (stepQ f q)<msr q:=by
 have hpos:0<q.todo.length:=List.length_pos_iff.2 h0
 have hpop:msr { q with todo:=q.todo.dropLast } < msr q:=by simp [msr];omega
 unfold stepQ
 rw [fromQ_eq]
 split
 ·simp [msr];omega
 ·have hl:=lastQ_mem h0 fun x hx=>(h.todo x hx).1
  obtain ⟨a1,a2,a3⟩:=h.todo _ (List.getLast_mem h0)
  rw [← hl] at a1 a2
  have hk:lastQ q<f.code.length:=by omega
  refine Nat.lt_of_le_of_lt (comesQ_msr f _ _ h.ls fun m l hm=>succs_pos (i:=f.code[lastQ q]) (hg _ (List.getElem_mem hk)) (by simpa [List.getD_eq_getElem?_getD,List.getElem?_eq_getElem hk] using hm)) hpop
theorem CInv.run {f:GFn} (hg:goesAll f) : ∀ (n:Nat) {q:Wlk}, CInv f q none->msr q≤n->CInv f (runQ f n q) none∧((runQ f n q).todo=[]∨(runQ f n q).bad=true)
 | 0,q,h,hn=>⟨h,.inl (by unfold msr at hn;exact List.eq_nil_of_length_eq_zero (by show q.todo.length=0;omega))⟩
 | n+1,q,h,hn=>by
  unfold runQ
  by_cases hc:q.todo=[]∨q.bad=true
  ·rw [if_pos hc];exact ⟨h,hc⟩
  ·rw [if_neg hc]
   have h0:q.todo ≠ []:=fun e=>hc (.inl e)
   have:=stepQ_msr hg h h0
   exact CInv.run hg n (h.step hg h0) (by omega)
theorem CInv.init {f:GFn} : CInv f (initQ f) none:=by
 refine ⟨by simp [initQ],by simp [initQ],fun x hx=>(by simp [initQ] at hx),fun k hk => ?_,fun _ k hk hs => ?_,fun h=>(by cases h)⟩
 ·simp [initQ,List.getD_eq_getElem?_getD,List.getElem?_replicate] at hk
  split at hk <;> simp at hk
 ·simp [initQ,List.getD_eq_getElem?_getD,List.getElem?_replicate] at hs
  split at hs <;> simp at hs
theorem msr_init (f:GFn):msr (initQ f)≤2*f.code.length:=by
 have:(List.replicate f.code.length false).countP (fun b => !b)≤(List.replicate f.code.length false).length:=List.countP_le_length
 rw [List.length_replicate] at this
 simp only [msr,initQ,List.length_nil];omega
theorem triesQ_ok {f:GFn} (hg:goesAll f):CInv f (triesQ f) none∧((triesQ f).todo=[]∨(triesQ f).bad=true):=by
 have h1:=(CInv.init (f:=f)).come Rch.start (Int.le_refl 0)
 refine CInv.run hg _ h1.1 ?_
 have:=comeQ_msr f (initQ f) 0 [] (by simp [initQ]) (Int.le_refl 0)
 have:=msr_init f
 omega
theorem comeQ_at {f:GFn} {q:Wlk} {m:Int} {l:List GTry} {x:Int} {y:List GTry} (hx:At f q x y):At f (comeQ f q m l) x y:=by
 unfold comeQ
 by_cases h1:(f.code.length:Int)≤m∨20<l.length
 ·rw [if_pos h1];exact hx
 rw [if_neg h1]
 by_cases h2:q.seen.getD m.toNat false=false
 ·rw [if_pos h2]
  have hne:m.toNat≠x.toNat:=fun e=>by have:=hx.2.2.1;rw [← e,h2] at this;cases this
  refine ⟨hx.1,hx.2.1,?_,?_,hx.2.2.2.2⟩
  ·simp only [getD_set,hne,false_and,if_false];exact hx.2.2.1
  ·simp only [getD_set,hne,false_and,if_false];exact hx.2.2.2.1
 rw [if_neg h2]
 split <;> exact hx
theorem comesQ_at {f:GFn} {x:Int} {y:List GTry} : ∀ {xs:List (Int×List GTry)} {q:Wlk}, At f q x y->At f (comesQ f q xs) x y
 | [],_,h=>h
 | z::xs,q,h=>comesQ_at (xs:=xs) (q:=comeQ f q z.1 z.2) (comeQ_at h)
theorem stepQ_at {f:GFn} {q:Wlk} {x:Int} {y:List GTry} (h:At f q x y):At f (stepQ f q) x y:=by
 unfold stepQ
 rw [fromQ_eq]
 split
 ·exact h
 ·exact comesQ_at (q := { q with todo:=q.todo.dropLast }) h
theorem runQ_at {f:GFn} {x:Int} {y:List GTry} : ∀ (n:Nat) {q:Wlk}, At f q x y->At f (runQ f n q) x y
 | 0,_,h=>h
 | n+1,q,h=>by
  unfold runQ
  split
  ·exact h
  ·exact runQ_at n (stepQ_at h)
theorem runQ_bad {f:GFn} : ∀ (n:Nat) {q:Wlk}, q.bad=true->runQ f n q=q
 | 0,_,_=>rfl
 | n+1,q,h=>by unfold runQ;rw [if_pos (.inr h)]
theorem At.uniq {f:GFn} {q:Wlk} {m:Int} {l l':List GTry} (h:At f q m l) (h':At f q m l'):l'=l:=by
 rw [← h.2.2.2.1, ← h'.2.2.2.1]
theorem tries_at {f:GFn} (hg:goesAll f) (hb:(triesQ f).bad=false) {m:Int} {l:List GTry} (h:Rch f m l):At f (triesQ f) m l:=by
 obtain ⟨h1,h2⟩:=triesQ_ok hg
 have htodo:=h2.resolve_right (by rw [hb];simp)
 induction h with
 | start =>
  have hc:=(CInv.init (f:=f)).come Rch.start (Int.le_refl 0)
  rcases hc.2.1 with h | h
  ·exfalso
   have:(triesQ f).bad=true:=by unfold triesQ;rw [runQ_bad _ h];exact h
   rw [hb] at this;cases this
  ·exact runQ_at _ h
 | @step k l m l' h hk hs ih =>
  have e:=ih.2.2.2.1
  rw [Int.toNat_natCast] at e
  have hsn:=ih.2.2.1
  rw [Int.toNat_natCast] at hsn
  rcases h1.closed hb k hk hsn with h3 | h3 | h3
  ·rw [htodo] at h3;cases h3
  ·cases h3
  ·rw [e] at h3
   exact h3.2 _ _ hs
theorem tries_fine {f:GFn} (hg:goesAll f) (hb:(triesQ f).bad=false):Fine f:=fun m l h=>by
 have ha:=tries_at hg hb h
 obtain ⟨h1,h2⟩:=triesQ_ok hg
 have htodo:=h2.resolve_right (by rw [hb];simp)
 refine ⟨ha.2.1,ha.2.2.2.2,fun l' h'=>ha.uniq (tries_at hg hb h'),fun k hk e hs => ?_⟩
 subst e
 have hsn:=ha.2.2.1
 have ho:=ha.2.2.2.1
 rw [Int.toNat_natCast] at hsn ho
 rcases h1.closed hb k hk hsn with h3 | h3 | h3
 ·rw [htodo] at h3;cases h3
 ·cases h3
 ·rw [ho] at h3
  exact h3.1 hs
theorem tries_bad {f:GFn} (hg:goesAll f):(triesQ f).bad=true ↔ ¬ Fine f:=by
 constructor
 ·exact (triesQ_ok hg).1.bad
 ·intro h
  cases hb:(triesQ f).bad with
  | true=>rfl
  | false=>exact absurd (tries_fine hg hb) h
theorem tries_seen {f:GFn} (hg:goesAll f) (hb:(triesQ f).bad=false) (k:Nat) (l:List GTry):Rch f k l↔((triesQ f).seen.getD k false=true∧(triesQ f).out.getD k []=l):=by
 constructor
 ·intro h
  have ha:=tries_at hg hb h
  have h1:=ha.2.2.1
  have h2:=ha.2.2.2.1
  rw [Int.toNat_natCast] at h1 h2
  exact ⟨h1,h2⟩
 ·rintro ⟨h1,rfl⟩
  exact ((triesQ_ok hg).1.sound k h1).1
structure WH (f:GFn) (H:Hp) (nx nw ns no nt:Nat) (q:Wlk):Prop where
 w:H nw=some ⟨.c 252,9,[[.d (eI f.params),.d (eI f.regs),.d (eB f.gen),.d (.sl true (f.caught.map eInt)),.d (.sl true (f.code.map eIns)),.own ns 1 f.code.length,.own no 1 f.code.length,.own nt 1 q.todo.length,.d (eB q.bad)]]⟩
 s:H ns=some ⟨.c 4,1,q.seen.map fun b=>[.d (eB b)]⟩
 o:H no=some ⟨.c 98,1,q.out.map fun l=>[.d (.sl true (l.map eTry))]⟩
 t : ∃ junk,H nt=some ⟨.c 3,1,(q.todo.map fun n=>[.d (eI n)])++junk⟩
 d1:nw≠ns
 d2:nw≠no
 d3:nw≠nt
 d4:ns≠no
 d5:ns≠nt
 d6:no≠nt
 lw:nw<nx
 ls:ns<nx
 lo:no<nx
 lt:nt<nx
 sol:HSol H
 ks:q.seen.length=f.code.length
 ko:q.out.length=f.code.length
theorem HSol.set {H:Hp} {n:Nat} {b:Blk} (h:HSol H) (hb : ∀ e∈b.es, ∀ c∈e,C.solidC c=true):HSol (H.set n (some b)):=fun m x hx=>by
 by_cases e:m=n
 ·subst e;simp at hx;subst hx;exact hb
 ·rw [Hp.set_ne _ _ e] at hx;exact h m x hx
theorem HSol.none {H:Hp} {n:Nat} (h:HSol H):HSol (H.set n Option.none):=fun m x hx=>by
 by_cases e:m=n
 ·subst e;simp at hx
 ·rw [Hp.set_ne _ _ e] at hx;exact h m x hx
theorem solMap {α:Type} (l:List α) (g:α->C) (h : ∀ x,(g x).solidC=true) : ∀ e∈l.map (fun x=>[g x]), ∀ c∈e,C.solidC c=true:=fun e he c hc=>by
 obtain ⟨x, -, rfl⟩:=List.mem_map.1 he
 obtain rfl:=List.mem_singleton.1 hc
 exact h x
theorem come_ok {f:GFn} {H:Hp} {nx nw ns no nt:Nat} {q:Wlk} (hH:WH f H nx nw ns no nt q) (at_:Int) (h0:0≤at_) (l:List GTry) (ht:q.todo.length<100000000000) {K:D->Hp->Nat->Prop}
  (h : ∀ H' nx' nt',WH f H' nx' nw ns no nt' (comeQ f q at_ l)->nx≤nx'->(∀ m,m<nx->m≠nw->m≠ns->m≠no->m≠nt->H' m=H m)->K (.tup []) H' nx'):ICall Tryz.prog 197 [.one (.ptr nw 9 0 0),dI at_,dL true (l.map eTry)] H nx K:=by
 refine fni_ok [0,1,2,6,23,55] [(3,[0,1,3,7,0,0,32,96,224,0,0,511,2559,8191,16383],(.seg 0 (.seg 1 (.seg 2 (.seg 3 (.seg 4 (.seg 5 (.seg 6 (.seg 7 (.seg 8 (.seg 9 (.seg 10 (.seg 11 (.eff 12 [] (.seg 13 (.eff 14 [] .last))))))))))))))))] Tryz.func197 rfl (by kernel_rfl) rfl rfl rfl rfl (by kernel_rfl) ?_
 have hw:=hH.w
 have hs:=hH.s
 have ho:=hH.o
 obtain ⟨junk,hj⟩:=hH.t
 obtain ⟨-, -, -, -, d1,d2,d3,d4,d5,d6,lw,ls,lo,lt,sol,ks,ko⟩:=hH
 have bad:comeQ f q at_ l = { q with bad:=true } -> HSol (H.set nw (some ⟨.c 252,9,[[.d (eI f.params),.d (eI f.regs),.d (eB f.gen),.d (.sl true (f.caught.map eInt)),.d (.sl true (f.code.map eIns)),.own ns 1 f.code.length,.own no 1 f.code.length,.own nt 1 q.todo.length,.d (eB true)]]⟩)) ∧
   K (.tup []) (H.set nw (some ⟨.c 252,9,[[.d (eI f.params),.d (eI f.regs),.d (eB f.gen),.d (.sl true (f.caught.map eInt)),.d (.sl true (f.code.map eIns)),.own ns 1 f.code.length,.own no 1 f.code.length,.own nt 1 q.todo.length,.d (eB true)]]⟩)) nx:=fun e=>by
  have hsol:=HSol.set (n:=nw) (b:=⟨.c 252,9,[[.d (eI f.params),.d (eI f.regs),.d (eB f.gen),.d (.sl true (f.caught.map eInt)),.d (.sl true (f.code.map eIns)),.own ns 1 f.code.length,.own no 1 f.code.length,.own nt 1 q.todo.length,.d (eB true)]]⟩) sol (by simp)
  refine ⟨hsol,h _ _ nt ?_ (Nat.le_refl _) (fun m _ hm _ _ _=>Hp.set_ne _ _ hm)⟩
  rw [e]
  exact ⟨by simp,by rw [Hp.set_ne _ _ d1.symm];exact hs,by rw [Hp.set_ne _ _ d2.symm];exact ho,⟨junk,by rw [Hp.set_ne _ _ d3.symm];exact hj⟩,d1,d2,d3,d4,d5,d6,lw,ls,lo,lt,hsol,ks,ko⟩
 simp [hw]
 intro hl
 refine alt (fun h1 => ?_) (fun h1=>bad (by rw [comeQ,if_pos (.inl (by omega))]))
 intro hl2
 refine alt (fun h2=>bad (by rw [comeQ,if_pos (.inr (by omega))])) (fun h2 => ?_)
 have hlt:at_.toNat<f.code.length:=by omega
 have g1:at_.toNat<q.seen.length:=by omega
 have g2:at_.toNat<q.out.length:=by omega
 simp [h0,hlt,hs,ho,hj,List.getElem?_eq_getElem g1,List.getElem?_eq_getElem g2]
 refine alt (fun h3 => ?_) (fun h3 => ?_)
 ·refine equalT_ok true true _ _ ?_
  simp [hw]
  have e0:comeQ f q at_ l=if q.out[at_.toNat]=l then q else { q with bad:=true } := by
   rw [comeQ,if_neg (by omega),if_neg (by simp [List.getD,List.getElem?_eq_getElem g1,h3])]
   simp [List.getD,List.getElem?_eq_getElem g2]
  refine alt (fun h4=>⟨sol,h _ _ nt ?_ (Nat.le_refl _) (fun _ _ _ _ _ _=>rfl)⟩) (fun h4=>bad (by rw [e0,if_neg h4]))
  rw [e0,if_pos h4]
  exact ⟨hw,hs,ho,⟨junk,hj⟩,d1,d2,d3,d4,d5,d6,lw,ls,lo,lt,sol,ks,ko⟩
 ·simp [d1,d2,d3,d4,d5,d6,d1.symm,d2.symm,d3.symm,d4.symm,d5.symm,d6.symm,hj,hw,g2,List.getElem?_eq_getElem g2,show nt≠nx by omega,show nw≠nx by omega,show ns≠nx by omega,show no≠nx by omega,show nx≠nt by omega,show nx≠nw by omega,show nx≠ns by omega,show nx≠no by omega,show nw≠nx+1 by omega]
  refine ⟨?_,by omega,?_⟩
  ·rintro m b rfl
   simp [d5.symm,d6.symm,hj,show nt≠nx by omega]
   rintro rfl;simp
  have es1:(q.seen.map fun b=>[C.d (eB b)]).set at_.toNat [C.d (Dt.lit (Value.bool true))]=(q.seen.set at_.toNat true).map fun b=>[C.d (eB b)]:=by rw [List.map_set]
  have es2:(q.out.map fun l=>[C.d (Dt.sl true (l.map eTry))]).set at_.toNat [C.d (Dt.sl true (l.map eTry))]=(q.out.set at_.toNat l).map fun l=>[C.d (Dt.sl true (l.map eTry))]:=by rw [List.map_set]
  have es3:(q.todo.map fun n=>[C.d (eI n)])++[[C.d (eI at_)]]=(q.todo++[at_]).map fun n=>[C.d (eI n)]:=by simp
  rw [es1,es2,es3]
  have hc:comeQ f q at_ l = { q with seen:=q.seen.set at_.toNat true,out:=q.out.set at_.toNat l,todo:=q.todo++[at_] } := by
   rw [comeQ,if_neg (by omega),if_pos (by simpa [List.getD,List.getElem?_eq_getElem g1] using h3)]
  have hsol:=HSol.set (n:=nw) (b:=⟨.c 252,9,[[.d (eI f.params),.d (eI f.regs),.d (eB f.gen),.d (.sl true (f.caught.map eInt)),.d (.sl true (f.code.map eIns)),.own ns 1 f.code.length,.own no 1 f.code.length,.own (nx+1) 1 (q.todo.length+1),.d (eB q.bad)]]⟩)
   (HSol.set (n:=nx+1) (b:=⟨.c 3,1,(q.todo++[at_]).map fun n=>[C.d (eI n)]⟩) (HSol.none (n:=nt) (HSol.set (n:=nx) (b:=⟨.c 3,1,[[C.d (eI at_)]]⟩) (HSol.set (n:=no) (b:=⟨.c 98,1,(q.out.set at_.toNat l).map fun l=>[C.d (Dt.sl true (l.map eTry))]⟩)
    (HSol.set (n:=ns) (b:=⟨.c 4,1,(q.seen.set at_.toNat true).map fun b=>[C.d (eB b)]⟩) sol (solMap _ _ fun _=>rfl)) (solMap _ _ fun _=>rfl)) (by simp))) (solMap _ _ fun _=>rfl)) (by simp)
  refine ⟨hsol,h _ _ (nx+1) ?_ (by omega) (fun m m1 m2 m3 m4 m5=>by simp only [Hp.set];simp [m2,m3,m4,m5,show m≠nx by omega,show m≠nx+1 by omega])⟩
  rw [hc]
  have q1:ns≠nx+1:=by omega
  have q2:no≠nx+1:=by omega
  have q3:nw≠nx+1:=by omega
  have q4:ns≠nx:=by omega
  have q5:no≠nx:=by omega
  refine ⟨by simp,?_,?_,⟨[],?_⟩,d1,d2,q3,d4,q1,q2,by omega,by omega,by omega,by omega,hsol,by simpa using ks,by simpa using ko⟩
  ·simp only [Hp.set];simp [d1.symm,q1,d5,q4,d4]
  ·simp only [Hp.set];simp [d2.symm,q2,d6,q5]
  ·simp only [Hp.set];simp [q3.symm]
theorem WH.new {f:GFn} {H:Hp} {nx nw ns no nt:Nat} {q:Wlk} (h:WH f H nx nw ns no nt q) (b:Blk) (hb : ∀ e∈b.es, ∀ c∈e,C.solidC c=true):WH f (H.set nx (some b)) (nx+1) nw ns no nt q:=by
 have lw:=h.lw
 have ls:=h.ls
 have lo:=h.lo
 have lt:=h.lt
 obtain ⟨junk,hj⟩:=h.t
 exact ⟨by rw [Hp.set_ne _ _ (by omega)];exact h.w,by rw [Hp.set_ne _ _ (by omega)];exact h.s,by rw [Hp.set_ne _ _ (by omega)];exact h.o,⟨junk,by rw [Hp.set_ne _ _ (by omega)];exact hj⟩,h.d1,h.d2,h.d3,h.d4,h.d5,h.d6,by omega,by omega,by omega,by omega,h.sol.set hb,h.ks,h.ko⟩
theorem WH.ext {f:GFn} {H H2:Hp} {nx nx2 nw ns no nt:Nat} {q:Wlk} (h:WH f H nx nw ns no nt q) (hs:HSol H2) (he : ∀ m,m<nx->H2 m=H m) (hle:nx≤nx2):WH f H2 nx2 nw ns no nt q:=by
 have lw:=h.lw
 have ls:=h.ls
 have lo:=h.lo
 have lt:=h.lt
 obtain ⟨junk,hj⟩:=h.t
 exact ⟨by rw [he _ lw];exact h.w,by rw [he _ ls];exact h.s,by rw [he _ lo];exact h.o,⟨junk,by rw [he _ lt];exact hj⟩,h.d1,h.d2,h.d3,h.d4,h.d5,h.d6,by omega,by omega,by omega,by omega,hs,h.ks,h.ko⟩
theorem more_tries (l:List GTry) (a b:Int):(((l.map ((fun e=>e.map C.d)∘eTry)++[[C.d (eI a),C.d (eI b)]]).take (l.length+1)).map fun e=>e.map C.dt)=(l++[(⟨a,b⟩:GTry)]).map eTry:=by
 rw [List.take_of_length_le (by simp)]
 simp [Function.comp_def]
abbrev walkB (f:GFn) (ns no nt:Nat) (q:Wlk) (b:Bool):Blk:=⟨.c 252,9,[[.d (eI f.params),.d (eI f.regs),.d (eB f.gen),.d (.sl true (f.caught.map eInt)),.d (.sl true (f.code.map eIns)),.own ns 1 f.code.length,.own no 1 f.code.length,.own nt 1 q.todo.length,.d (eB b)]]⟩
theorem WH.setBad {f:GFn} {H:Hp} {nx nw ns no nt:Nat} {q:Wlk} (h:WH f H nx nw ns no nt q):WH f (H.set nw (some (walkB f ns no nt q true))) nx nw ns no nt { q with bad:=true } := by
 obtain ⟨junk,hj⟩:=h.t
 exact ⟨by simp,by rw [Hp.set_ne _ _ h.d1.symm];exact h.s,by rw [Hp.set_ne _ _ h.d2.symm];exact h.o,⟨junk,by rw [Hp.set_ne _ _ h.d3.symm];exact hj⟩,h.d1,h.d2,h.d3,h.d4,h.d5,h.d6,h.lw,h.ls,h.lo,h.lt,h.sol.set (by simp),h.ks,h.ko⟩
theorem from_ret28 {f:GFn} {H:Hp} {nx nw ns no nt:Nat} {q:Wlk} (hH:WH f H nx nw ns no nt q) (k:Nat) (hk:k<f.code.length) (hk2:f.code.length≤1000) {op a b c line:Int} (hI:f.code[k]=⟨op,a,b,c,line⟩) (hg:goesOk ⟨op,a,b,c,line⟩) {l:List GTry} (hko:k<q.out.length) (hL:q.out[k]=l) (h20:l.length≤20) (ht:q.todo.length+1<100000000000) (e:op=28) {K:D->Hp->Nat->Prop}
  (h : ∀ H' nx' nt',WH f H' nx' nw ns no nt' (fromQ f q k ⟨op,a,b,c,line⟩ l)->nx≤nx'->K (.tup []) H' nx'):ICall Tryz.prog 198 [.one (.ptr nw 9 0 0),dI k] H nx K:=by
 refine fni_ok [0,1,4,5,22,23,26,34,41,57,61] [(0,[0,1,3,7,15,0,63,127,0,256,768,1792,0,7936,16128,0,33023,131071],(.seg 0 (.seg 1 (.seg 2 (.seg 3 (.seg 4 (.seg 5 (.seg 6 (.seg 7 (.seg 8 (.seg 9 (.seg 10 (.seg 11 (.seg 12 (.seg 13 (.seg 14 (.eff 15 [1,2,3,4,6,7,9,10,11,13,14] (.eff 16 [9,10,11,13,14] (.seg 17 .last))))))))))))))))))),(11,[0,1,0,4,0,16,60,124,255,511],(.seg 0 (.seg 2 (.seg 3 (.seg 4 (.seg 5 (.seg 6 (.fork 1 [2,3,4,5,6] (.eff 7 [3,5] (.eff 8 [] (.seg 9 .last))) (.eff 7 [3,5] (.eff 1 [2,3,4,5,6] (.eff 8 [] (.seg 9 .last))))))))))))] Tryz.func198 rfl (by kernel_rfl) rfl rfl rfl rfl (by kernel_rfl) ?_
 have hw:=hH.w
 have ho:=hH.o
 have lw:=hH.lw
 have lo:=hH.lo
 have hN:=hH.new ⟨.c 103,5,[[.d (eI op),.d (eI a),.d (eI b),.d (eI c),.d (eI line)]]⟩ (by simp)
 have hwr:=wrap_add (show k<9223372036854775807 by omega)
 subst e
 simp [hw,ho,hk,List.getElem?_eq_getElem hk,List.getElem?_eq_getElem hko,hL,hI,hwr ]
 exact ⟨hN.sol,h _ _ nt (by simpa [fromQ] using hN) (by omega)⟩
theorem from_ret29 {f:GFn} {H:Hp} {nx nw ns no nt:Nat} {q:Wlk} (hH:WH f H nx nw ns no nt q) (k:Nat) (hk:k<f.code.length) (hk2:f.code.length≤1000) {op a b c line:Int} (hI:f.code[k]=⟨op,a,b,c,line⟩) (hg:goesOk ⟨op,a,b,c,line⟩) {l:List GTry} (hko:k<q.out.length) (hL:q.out[k]=l) (h20:l.length≤20) (ht:q.todo.length+1<100000000000) (e:op=29) {K:D->Hp->Nat->Prop}
  (h : ∀ H' nx' nt',WH f H' nx' nw ns no nt' (fromQ f q k ⟨op,a,b,c,line⟩ l)->nx≤nx'->K (.tup []) H' nx'):ICall Tryz.prog 198 [.one (.ptr nw 9 0 0),dI k] H nx K:=by
 refine fni_ok [0,1,4,5,22,23,26,34,41,57,61] [(0,[0,1,3,7,15,0,63,127,0,256,768,1792,0,7936,16128,0,33023,131071],(.seg 0 (.seg 1 (.seg 2 (.seg 3 (.seg 4 (.seg 5 (.seg 6 (.seg 7 (.seg 8 (.seg 9 (.seg 10 (.seg 11 (.seg 12 (.seg 13 (.seg 14 (.eff 15 [1,2,3,4,6,7,9,10,11,13,14] (.eff 16 [9,10,11,13,14] (.seg 17 .last))))))))))))))))))),(11,[0,1,0,4,0,16,60,124,255,511],(.seg 0 (.seg 2 (.seg 3 (.seg 4 (.seg 5 (.seg 6 (.fork 1 [2,3,4,5,6] (.eff 7 [3,5] (.eff 8 [] (.seg 9 .last))) (.eff 7 [3,5] (.eff 1 [2,3,4,5,6] (.eff 8 [] (.seg 9 .last))))))))))))] Tryz.func198 rfl (by kernel_rfl) rfl rfl rfl rfl (by kernel_rfl) ?_
 have hw:=hH.w
 have ho:=hH.o
 have lw:=hH.lw
 have lo:=hH.lo
 have hN:=hH.new ⟨.c 103,5,[[.d (eI op),.d (eI a),.d (eI b),.d (eI c),.d (eI line)]]⟩ (by simp)
 have hwr:=wrap_add (show k<9223372036854775807 by omega)
 subst e
 simp [hw,ho,hk,List.getElem?_eq_getElem hk,List.getElem?_eq_getElem hko,hL,hI,hwr ]
 exact ⟨hN.sol,h _ _ nt (by simpa [fromQ] using hN) (by omega)⟩
theorem from_jump13 {f:GFn} {H:Hp} {nx nw ns no nt:Nat} {q:Wlk} (hH:WH f H nx nw ns no nt q) (k:Nat) (hk:k<f.code.length) (hk2:f.code.length≤1000) {op a b c line:Int} (hI:f.code[k]=⟨op,a,b,c,line⟩) (hg:goesOk ⟨op,a,b,c,line⟩) {l:List GTry} (hko:k<q.out.length) (hL:q.out[k]=l) (h20:l.length≤20) (ht:q.todo.length+1<100000000000) (e:op=13) {K:D->Hp->Nat->Prop}
  (h : ∀ H' nx' nt',WH f H' nx' nw ns no nt' (fromQ f q k ⟨op,a,b,c,line⟩ l)->nx≤nx'->K (.tup []) H' nx'):ICall Tryz.prog 198 [.one (.ptr nw 9 0 0),dI k] H nx K:=by
 refine fni_ok [0,1,4,5,22,23,26,34,41,57,61] [(0,[0,1,3,7,15,0,63,127,0,256,768,1792,0,7936,16128,0,33023,131071],(.seg 0 (.seg 1 (.seg 2 (.seg 3 (.seg 4 (.seg 5 (.seg 6 (.seg 7 (.seg 8 (.seg 9 (.seg 10 (.seg 11 (.seg 12 (.seg 13 (.seg 14 (.eff 15 [1,2,3,4,6,7,9,10,11,13,14] (.eff 16 [9,10,11,13,14] (.seg 17 .last))))))))))))))))))),(11,[0,1,0,4,0,16,60,124,255,511],(.seg 0 (.seg 2 (.seg 3 (.seg 4 (.seg 5 (.seg 6 (.fork 1 [2,3,4,5,6] (.eff 7 [3,5] (.eff 8 [] (.seg 9 .last))) (.eff 7 [3,5] (.eff 1 [2,3,4,5,6] (.eff 8 [] (.seg 9 .last))))))))))))] Tryz.func198 rfl (by kernel_rfl) rfl rfl rfl rfl (by kernel_rfl) ?_
 have hw:=hH.w
 have ho:=hH.o
 have lw:=hH.lw
 have lo:=hH.lo
 have hN:=hH.new ⟨.c 103,5,[[.d (eI op),.d (eI a),.d (eI b),.d (eI c),.d (eI line)]]⟩ (by simp)
 have hwr:=wrap_add (show k<9223372036854775807 by omega)
 subst e
 simp [hw,ho,hk,List.getElem?_eq_getElem hk,List.getElem?_eq_getElem hko,hL,hI,hwr ]
 refine come_ok hN a (hg.1 (.inl rfl)) l (by omega) fun H' nx' nt' hW hle hfr => ?_;simp;exact ⟨hW.sol,h _ _ nt' (by simpa [fromQ] using hW) (by omega)⟩
theorem from_jump14 {f:GFn} {H:Hp} {nx nw ns no nt:Nat} {q:Wlk} (hH:WH f H nx nw ns no nt q) (k:Nat) (hk:k<f.code.length) (hk2:f.code.length≤1000) {op a b c line:Int} (hI:f.code[k]=⟨op,a,b,c,line⟩) (hg:goesOk ⟨op,a,b,c,line⟩) {l:List GTry} (hko:k<q.out.length) (hL:q.out[k]=l) (h20:l.length≤20) (ht:q.todo.length+1<100000000000) (e:op=14) {K:D->Hp->Nat->Prop}
  (h : ∀ H' nx' nt',WH f H' nx' nw ns no nt' (fromQ f q k ⟨op,a,b,c,line⟩ l)->nx≤nx'->K (.tup []) H' nx'):ICall Tryz.prog 198 [.one (.ptr nw 9 0 0),dI k] H nx K:=by
 refine fni_ok [0,1,4,5,22,23,26,34,41,57,61] [(0,[0,1,3,7,15,0,63,127,0,256,768,1792,0,7936,16128,0,33023,131071],(.seg 0 (.seg 1 (.seg 2 (.seg 3 (.seg 4 (.seg 5 (.seg 6 (.seg 7 (.seg 8 (.seg 9 (.seg 10 (.seg 11 (.seg 12 (.seg 13 (.seg 14 (.eff 15 [1,2,3,4,6,7,9,10,11,13,14] (.eff 16 [9,10,11,13,14] (.seg 17 .last))))))))))))))))))),(11,[0,1,0,4,0,16,60,124,255,511],(.seg 0 (.seg 2 (.seg 3 (.seg 4 (.seg 5 (.seg 6 (.fork 1 [2,3,4,5,6] (.eff 7 [3,5] (.eff 8 [] (.seg 9 .last))) (.eff 7 [3,5] (.eff 1 [2,3,4,5,6] (.eff 8 [] (.seg 9 .last))))))))))))] Tryz.func198 rfl (by kernel_rfl) rfl rfl rfl rfl (by kernel_rfl) ?_
 have hw:=hH.w
 have ho:=hH.o
 have lw:=hH.lw
 have lo:=hH.lo
 have hN:=hH.new ⟨.c 103,5,[[.d (eI op),.d (eI a),.d (eI b),.d (eI c),.d (eI line)]]⟩ (by simp)
 have hwr:=wrap_add (show k<9223372036854775807 by omega)
 subst e
 simp [hw,ho,hk,List.getElem?_eq_getElem hk,List.getElem?_eq_getElem hko,hL,hI,hwr ]
 refine come_ok hN a (hg.1 (.inr rfl)) l (by omega) fun H' nx' nt' hW hle hfr => ?_;simp;exact ⟨hW.sol,h _ _ nt' (by simpa [fromQ] using hW) (by omega)⟩
theorem from_test {f:GFn} {H:Hp} {nx nw ns no nt:Nat} {q:Wlk} (hH:WH f H nx nw ns no nt q) (k:Nat) (hk:k<f.code.length) (hk2:f.code.length≤1000) {op a b c line:Int} (hI:f.code[k]=⟨op,a,b,c,line⟩) (hg:goesOk ⟨op,a,b,c,line⟩) {l:List GTry} (hko:k<q.out.length) (hL:q.out[k]=l) (h20:l.length≤20) (ht:q.todo.length+1<100000000000) (e:op=15) {K:D->Hp->Nat->Prop}
  (h : ∀ H' nx' nt',WH f H' nx' nw ns no nt' (fromQ f q k ⟨op,a,b,c,line⟩ l)->nx≤nx'->K (.tup []) H' nx'):ICall Tryz.prog 198 [.one (.ptr nw 9 0 0),dI k] H nx K:=by
 refine fni_ok [0,1,4,5,22,23,26,34,41,57,61] [(0,[0,1,3,7,15,0,63,127,0,256,768,1792,0,7936,16128,0,33023,131071],(.seg 0 (.seg 1 (.seg 2 (.seg 3 (.seg 4 (.seg 5 (.seg 6 (.seg 7 (.seg 8 (.seg 9 (.seg 10 (.seg 11 (.seg 12 (.seg 13 (.seg 14 (.eff 15 [1,2,3,4,6,7,9,10,11,13,14] (.eff 16 [9,10,11,13,14] (.seg 17 .last))))))))))))))))))),(11,[0,1,0,4,0,16,60,124,255,511],(.seg 0 (.seg 2 (.seg 3 (.seg 4 (.seg 5 (.seg 6 (.fork 1 [2,3,4,5,6] (.eff 7 [3,5] (.eff 8 [] (.seg 9 .last))) (.eff 7 [3,5] (.eff 1 [2,3,4,5,6] (.eff 8 [] (.seg 9 .last))))))))))))] Tryz.func198 rfl (by kernel_rfl) rfl rfl rfl rfl (by kernel_rfl) ?_
 have hw:=hH.w
 have ho:=hH.o
 have lw:=hH.lw
 have lo:=hH.lo
 have hN:=hH.new ⟨.c 103,5,[[.d (eI op),.d (eI a),.d (eI b),.d (eI c),.d (eI line)]]⟩ (by simp)
 have hwr:=wrap_add (show k<9223372036854775807 by omega)
 subst e
 simp [hw,ho,hk,List.getElem?_eq_getElem hk,List.getElem?_eq_getElem hko,hL,hI,hwr ]
 refine come_ok hN b (hg.2 (.inl rfl)) l (by omega) fun H' nx' nt' hW hle hfr => ?_;simp [hwr];refine come_ok hW _ (by omega) l (by have:=comeQ_todo f q b l;omega) fun H2 nx2 nt2 hW2 hle2 _ => ?_;simp;exact ⟨hW2.sol,h _ _ nt2 (by simpa [fromQ] using hW2) (by omega)⟩
theorem from_else {f:GFn} {H:Hp} {nx nw ns no nt:Nat} {q:Wlk} (hH:WH f H nx nw ns no nt q) (k:Nat) (hk:k<f.code.length) (hk2:f.code.length≤1000) {op a b c line:Int} (hI:f.code[k]=⟨op,a,b,c,line⟩) (hg:goesOk ⟨op,a,b,c,line⟩) {l:List GTry} (hko:k<q.out.length) (hL:q.out[k]=l) (h20:l.length≤20) (ht:q.todo.length+1<100000000000) (e1:op≠28) (e2:op≠29) (e3:op≠13) (e4:op≠14) (e5:op≠15) (e6:op≠30) (e7:op≠31) {K:D->Hp->Nat->Prop}
  (h : ∀ H' nx' nt',WH f H' nx' nw ns no nt' (fromQ f q k ⟨op,a,b,c,line⟩ l)->nx≤nx'->K (.tup []) H' nx'):ICall Tryz.prog 198 [.one (.ptr nw 9 0 0),dI k] H nx K:=by
 refine fni_ok [0,1,4,5,22,23,26,34,41,57,61] [(0,[0,1,3,7,15,0,63,127,0,256,768,1792,0,7936,16128,0,33023,131071],(.seg 0 (.seg 1 (.seg 2 (.seg 3 (.seg 4 (.seg 5 (.seg 6 (.seg 7 (.seg 8 (.seg 9 (.seg 10 (.seg 11 (.seg 12 (.seg 13 (.seg 14 (.eff 15 [1,2,3,4,6,7,9,10,11,13,14] (.eff 16 [9,10,11,13,14] (.seg 17 .last))))))))))))))))))),(11,[0,1,0,4,0,16,60,124,255,511],(.seg 0 (.seg 2 (.seg 3 (.seg 4 (.seg 5 (.seg 6 (.fork 1 [2,3,4,5,6] (.eff 7 [3,5] (.eff 8 [] (.seg 9 .last))) (.eff 7 [3,5] (.eff 1 [2,3,4,5,6] (.eff 8 [] (.seg 9 .last))))))))))))] Tryz.func198 rfl (by kernel_rfl) rfl rfl rfl rfl (by kernel_rfl) ?_
 have hw:=hH.w
 have ho:=hH.o
 have lw:=hH.lw
 have lo:=hH.lo
 have hN:=hH.new ⟨.c 103,5,[[.d (eI op),.d (eI a),.d (eI b),.d (eI c),.d (eI line)]]⟩ (by simp)
 have hwr:=wrap_add (show k<9223372036854775807 by omega)
 simp [hw,ho,hk,List.getElem?_eq_getElem hk,List.getElem?_eq_getElem hko,hL,hI,hwr , e1,e2,e3,e4,e5,e6,e7]
 refine come_ok hN _ (by omega) l (by omega) fun H' nx' nt' hW hle hfr => ?_;simp;exact ⟨hW.sol,h _ _ nt' (by simpa [fromQ,e1,e2,e3,e4,e5,e6,e7] using hW) (by omega)⟩
theorem from_end31a {f:GFn} {H:Hp} {nx nw ns no nt:Nat} {q:Wlk} (hH:WH f H nx nw ns no nt q) (k:Nat) (hk:k<f.code.length) (hk2:f.code.length≤1000) {op a b c line:Int} (hI:f.code[k]=⟨op,a,b,c,line⟩) (hg:goesOk ⟨op,a,b,c,line⟩) {l:List GTry} (hko:k<q.out.length) (hL:q.out[k]=l) (h20:l.length≤20) (ht:q.todo.length+1<100000000000) (e:op=31) (e0:l=[]) {K:D->Hp->Nat->Prop}
  (h : ∀ H' nx' nt',WH f H' nx' nw ns no nt' (fromQ f q k ⟨op,a,b,c,line⟩ l)->nx≤nx'->K (.tup []) H' nx'):ICall Tryz.prog 198 [.one (.ptr nw 9 0 0),dI k] H nx K:=by
 refine fni_ok [0,1,4,5,22,23,26,34,41,57,61] [(0,[0,1,3,7,15,0,63,127,0,256,768,1792,0,7936,16128,0,33023,131071],(.seg 0 (.seg 1 (.seg 2 (.seg 3 (.seg 4 (.seg 5 (.seg 6 (.seg 7 (.seg 8 (.seg 9 (.seg 10 (.seg 11 (.seg 12 (.seg 13 (.seg 14 (.eff 15 [1,2,3,4,6,7,9,10,11,13,14] (.eff 16 [9,10,11,13,14] (.seg 17 .last))))))))))))))))))),(11,[0,1,0,4,0,16,60,124,255,511],(.seg 0 (.seg 2 (.seg 3 (.seg 4 (.seg 5 (.seg 6 (.fork 1 [2,3,4,5,6] (.eff 7 [3,5] (.eff 8 [] (.seg 9 .last))) (.eff 7 [3,5] (.eff 1 [2,3,4,5,6] (.eff 8 [] (.seg 9 .last))))))))))))] Tryz.func198 rfl (by kernel_rfl) rfl rfl rfl rfl (by kernel_rfl) ?_
 have hw:=hH.w
 have ho:=hH.o
 have lw:=hH.lw
 have lo:=hH.lo
 have hN:=hH.new ⟨.c 103,5,[[.d (eI op),.d (eI a),.d (eI b),.d (eI c),.d (eI line)]]⟩ (by simp)
 have hwr:=wrap_add (show k<9223372036854775807 by omega)
 subst e e0
 simp [hw,ho,hk,List.getElem?_eq_getElem hk,List.getElem?_eq_getElem hko,hL,hI,hwr , show nw≠nx by omega]
 exact ⟨hN.setBad.sol,h _ _ nt (by simpa [fromQ] using hN.setBad) (by omega)⟩
theorem from_end31b {f:GFn} {H:Hp} {nx nw ns no nt:Nat} {q:Wlk} (hH:WH f H nx nw ns no nt q) (k:Nat) (hk:k<f.code.length) (hk2:f.code.length≤1000) {op a b c line:Int} (hI:f.code[k]=⟨op,a,b,c,line⟩) (hg:goesOk ⟨op,a,b,c,line⟩) {l:List GTry} (hko:k<q.out.length) (hL:q.out[k]=l) (h20:l.length≤20) (ht:q.todo.length+1<100000000000) (e:op=31) (e0:l ≠ []) {K:D->Hp->Nat->Prop}
  (h : ∀ H' nx' nt',WH f H' nx' nw ns no nt' (fromQ f q k ⟨op,a,b,c,line⟩ l)->nx≤nx'->K (.tup []) H' nx'):ICall Tryz.prog 198 [.one (.ptr nw 9 0 0),dI k] H nx K:=by
 refine fni_ok [0,1,4,5,22,23,26,34,41,57,61] [(0,[0,1,3,7,15,0,63,127,0,256,768,1792,0,7936,16128,0,33023,131071],(.seg 0 (.seg 1 (.seg 2 (.seg 3 (.seg 4 (.seg 5 (.seg 6 (.seg 7 (.seg 8 (.seg 9 (.seg 10 (.seg 11 (.seg 12 (.seg 13 (.seg 14 (.eff 15 [1,2,3,4,6,7,9,10,11,13,14] (.eff 16 [9,10,11,13,14] (.seg 17 .last))))))))))))))))))),(11,[0,1,0,4,0,16,60,124,255,511],(.seg 0 (.seg 2 (.seg 3 (.seg 4 (.seg 5 (.seg 6 (.fork 1 [2,3,4,5,6] (.eff 7 [3,5] (.eff 8 [] (.seg 9 .last))) (.eff 7 [3,5] (.eff 1 [2,3,4,5,6] (.eff 8 [] (.seg 9 .last))))))))))))] Tryz.func198 rfl (by kernel_rfl) rfl rfl rfl rfl (by kernel_rfl) ?_
 have hw:=hH.w
 have ho:=hH.o
 have lw:=hH.lw
 have lo:=hH.lo
 have hN:=hH.new ⟨.c 103,5,[[.d (eI op),.d (eI a),.d (eI b),.d (eI c),.d (eI line)]]⟩ (by simp)
 have hwr:=wrap_add (show k<9223372036854775807 by omega)
 subst e;have hpos:0<l.length:=List.length_pos_iff.2 e0;have hwl:IntKind.i64.wrap ((l.length:Int)-1)=((l.length-1:Nat):Int):=by rw [wrap_id (by omega) (by omega)];omega
 simp [hw,ho,hk,List.getElem?_eq_getElem hk,List.getElem?_eq_getElem hko,hL,hI,hwr , e0,hwl]
 intro _;rw [← List.map_take, ← List.dropLast_eq_take];refine come_ok hN _ (by omega) l.dropLast (by omega) fun H' nx' nt' hW hle _ => ?_;simp;exact ⟨hW.sol,h _ _ nt' (by simpa [fromQ,e0] using hW) (by omega)⟩
theorem from_try30 {f:GFn} {H:Hp} {nx nw ns no nt:Nat} {q:Wlk} (hH:WH f H nx nw ns no nt q) (k:Nat) (hk:k<f.code.length) (hk2:f.code.length≤1000) {op a b c line:Int} (hI:f.code[k]=⟨op,a,b,c,line⟩) (hg:goesOk ⟨op,a,b,c,line⟩) {l:List GTry} (hko:k<q.out.length) (hL:q.out[k]=l) (h20:l.length≤20) (ht:q.todo.length+1<100000000000) (e:op=30) {K:D->Hp->Nat->Prop}
  (h : ∀ H' nx' nt',WH f H' nx' nw ns no nt' (fromQ f q k ⟨op,a,b,c,line⟩ l)->nx≤nx'->K (.tup []) H' nx'):ICall Tryz.prog 198 [.one (.ptr nw 9 0 0),dI k] H nx K:=by
 refine fni_ok [0,1,4,5,22,23,26,34,41,57,61] [(0,[0,1,3,7,15,0,63,127,0,256,768,1792,0,7936,16128,0,33023,131071],(.seg 0 (.seg 1 (.seg 2 (.seg 3 (.seg 4 (.seg 5 (.seg 6 (.seg 7 (.seg 8 (.seg 9 (.seg 10 (.seg 11 (.seg 12 (.seg 13 (.seg 14 (.eff 15 [1,2,3,4,6,7,9,10,11,13,14] (.eff 16 [9,10,11,13,14] (.seg 17 .last))))))))))))))))))),(11,[0,1,0,4,0,16,60,124,255,511],(.seg 0 (.seg 2 (.seg 3 (.seg 4 (.seg 5 (.seg 6 (.fork 1 [2,3,4,5,6] (.eff 7 [3,5] (.eff 8 [] (.seg 9 .last))) (.eff 7 [3,5] (.eff 1 [2,3,4,5,6] (.eff 8 [] (.seg 9 .last))))))))))))] Tryz.func198 rfl (by kernel_rfl) rfl rfl rfl rfl (by kernel_rfl) ?_
 have hw:=hH.w
 have ho:=hH.o
 have lw:=hH.lw
 have lo:=hH.lo
 have hN:=hH.new ⟨.c 103,5,[[.d (eI op),.d (eI a),.d (eI b),.d (eI c),.d (eI line)]]⟩ (by simp)
 have hwr:=wrap_add (show k<9223372036854775807 by omega)
 subst e
 simp [hw,ho,hk,List.getElem?_eq_getElem hk,List.getElem?_eq_getElem hko,hL,hI,hwr ]
 refine come_ok hN b (hg.2 (.inr rfl)) l (by omega) fun H' nx' nt' hW hle hfr => ?_
 have hbx:=hfr nx (by omega) (by omega) (by have:=hH.ls;omega) (by omega) (by have:=hH.lt;omega)
 rw [Hp.set_same] at hbx
 simp [hbx]
 refine ⟨?_,?_⟩
 all_goals (refine cloneT_ok true (l.map eTry) (by simp) (by simp) (by simp;omega) ?_)
 all_goals simp [hwr,hbx]
 all_goals
  refine ⟨by rintro m b1 rfl;simp;rintro rfl;simp,by omega,?_⟩
  refine ICall.frz (l:=l.length+1) (k:=2) (n:=nx'+1+1) (ds := [.one (.ptr nw 9 0 0),.one (.d (.lit (.int .i64 ((k:Int)+1))))]) (es := []) (Hp.set_same _ _ _) (by simp) rfl (by simp) ?_
  rw [more_tries,Hp.set_set]
  refine come_ok (f:=f) (q:=comeQ f q b l) (ns:=ns) (no:=no) (nt:=nt') ?_ ((k:Int)+1) (by omega) (l++[⟨a,b⟩]) ?_ ?_
  ·refine hW.ext ?_ (fun m hm=>by simp only [Hp.set];simp [show m≠nx'+1+1 by omega,show m≠nx'+1 by omega,show m≠nx' by omega]) (by omega)
   have hs:=hW.sol
   first
    | exact ((((hs.set (by simp)).set (by simp)).none).none)
    | exact (((hs.set (by simp)).none).none)
  ·have:=comeQ_todo f q b l;omega
  ·intro H2 nx2 nt2 hW2 hle2 _
   simp
   exact ⟨hW2.sol,h _ _ nt2 (by simpa [fromQ] using hW2) (by omega)⟩
theorem from_ok {f:GFn} {H:Hp} {nx nw ns no nt:Nat} {q:Wlk} (hH:WH f H nx nw ns no nt q) (k:Nat) (hk:k<f.code.length) (hk2:f.code.length≤1000) (hg:goesOk f.code[k]) (h20:(q.out.getD k []).length≤20) (ht:q.todo.length+1<100000000000) {K:D->Hp->Nat->Prop}
  (h : ∀ H' nx' nt',WH f H' nx' nw ns no nt' (fromQ f q k f.code[k] (q.out.getD k []))->nx≤nx'->K (.tup []) H' nx'):ICall Tryz.prog 198 [.one (.ptr nw 9 0 0),dI k] H nx K:=by
 have hko:k<q.out.length:=by rw [hH.ko];exact hk
 have hl:q.out.getD k []=q.out[k]:=by simp [List.getD,List.getElem?_eq_getElem hko]
 rw [hl] at h20 h
 generalize hI:f.code[k]=i at *
 obtain ⟨op,a,b,c,line⟩:=i
 by_cases e1:op=28
 ·exact from_ret28 hH k hk hk2 hI hg hko rfl h20 ht e1 h
 by_cases e2:op=29
 ·exact from_ret29 hH k hk hk2 hI hg hko rfl h20 ht e2 h
 by_cases e3:op=13
 ·exact from_jump13 hH k hk hk2 hI hg hko rfl h20 ht e3 h
 by_cases e4:op=14
 ·exact from_jump14 hH k hk hk2 hI hg hko rfl h20 ht e4 h
 by_cases e5:op=15
 ·exact from_test hH k hk hk2 hI hg hko rfl h20 ht e5 h
 by_cases e6:op=30
 ·exact from_try30 hH k hk hk2 hI hg hko rfl h20 ht e6 h
 by_cases e7:op=31
 ·by_cases e8:q.out[k]=[]
  ·exact from_end31a hH k hk hk2 hI hg hko rfl h20 ht e7 e8 h
  ·exact from_end31b hH k hk hk2 hI hg hko rfl h20 ht e7 e8 h
 ·exact from_else hH k hk hk2 hI hg hko rfl h20 ht e1 e2 e3 e4 e5 e6 e7 h
end Go.Proofs.YtbphdcffpobcbaaGreatDoor
