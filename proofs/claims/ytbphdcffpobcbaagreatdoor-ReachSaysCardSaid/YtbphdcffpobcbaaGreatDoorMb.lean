/- Several texts in one. -/
import Derived.Deep.DeepAppendWide
import Derived.Test.YtbphdcffpobcbaaGreatDoorMa
set_option linter.unusedSimpArgs false
set_option linter.unusedVariables false
set_option maxRecDepth 100000
set_option maxHeartbeats 16000000
namespace Go.Proofs.YtbphdcffpobcbaaGreatDoor
open Go.RowKit Go
def Cap.ren (ρ:Nat->Nat):Cap->Cap
 | .ptr n k i o => .ptr (ρ n) k i o
 | .own n k l => .own (ρ n) k l
 | c=>c
def C.ren (ρ:Nat->Nat):C->C
 | .own n k l => .own (ρ n) k l
 | .ptr n k i o => .ptr (ρ n) k i o
 | .map n => .map (ρ n)
 | .fnp f cs => .fnp f (cs.map (Cap.ren ρ))
 | .ifo t n k l => .ifo t (ρ n) k l
 | c=>c
mutual
def D.ren (ρ:Nat->Nat):D->D
 | .one c => .one (c.ren ρ)
 | .agg cs => .agg (cs.map (C.ren ρ))
 | .tup ds => .tup (Ds.ren ρ ds)
 | .top => .top
def Ds.ren (ρ:Nat->Nat):List D->List D
 | []=>[]
 | d::ds=>d.ren ρ::Ds.ren ρ ds
end
def C.okX (N:Nat->Prop):C->Prop
 | .d x=>x.solidT=true
 | .own n _ _=>N n
 | .ptr _ _ _ _=>False
 | .map _=>False
 | .fnp _ _=>False
 | .ifo _ _ _ _=>False
 | .any=>True
mutual
def D.okX (N:Nat->Prop):D->Prop
 | .one c=>c.okX N
 | .agg cs => ∀ c∈cs,C.okX N c
 | .tup ds=>Ds.okX N ds
 | .top=>True
def Ds.okX (N:Nat->Prop):List D->Prop
 | []=>True
 | d::ds=>d.okX N∧Ds.okX N ds
end
section
variable {E E':Env} {w w':World} {ι ι':Nms} {ρ:Nat->Nat}
theorem RCaps.ren (hle:E.le E' w w') (hi : ∀ n x,ι n=some x->ι' (ρ n)=some x) : ∀ {cs:List Cap} {vs:List Value}, RCaps E w ι cs vs->RCaps E' w' ι' (cs.map (Cap.ren ρ)) vs
 | [],[],_=>trivial
 | .d _::_,_::_,h=>⟨RD.keep h.1 hle,RCaps.ren hle hi h.2⟩
 | .ptr _ _ _ _::_,_::_,h=>⟨(by obtain ⟨b,cap,h1,h2⟩:=h.1;exact ⟨b,cap,hi _ _ h1,h2⟩),RCaps.ren hle hi h.2⟩
 | .own _ _ _::_,_::_,h=>⟨(by obtain ⟨b,cap,h1,h2⟩:=h.1;exact ⟨b,cap,hi _ _ h1,h2⟩),RCaps.ren hle hi h.2⟩
theorem RC.ren {c:C} {v:Value} (h:RC E w ι c v) (hle:E.le E' w w') (hi : ∀ n x,ι n=some x->ι' (ρ n)=some x):RC E' w' ι' (c.ren ρ) v:=by
 cases c with
 | d x=>exact RD.keep h hle
 | own n k l=>obtain ⟨b,cap,h1,h2⟩:=h;exact ⟨b,cap,hi _ _ h1,h2⟩
 | ptr n k i o=>obtain ⟨b,cap,h1,h2⟩:=h;exact ⟨b,cap,hi _ _ h1,h2⟩
 | map n=>obtain ⟨b,cap,h1,h2⟩:=h;exact ⟨b,cap,hi _ _ h1,h2⟩
 | fnp f cs=>obtain ⟨ys,h1,h2⟩:=h;exact ⟨ys,h1,RCaps.ren hle hi h2⟩
 | ifo t n k l=>obtain ⟨b,cap,h1,h2⟩:=h;exact ⟨b,cap,hi _ _ h1,h2⟩
 | any=>exact h
theorem RCs.ren (hle:E.le E' w w') (hi : ∀ n x,ι n=some x->ι' (ρ n)=some x) : ∀ {cs:List C} {vs:List Value}, RCs E w ι cs vs->RCs E' w' ι' (cs.map (C.ren ρ)) vs
 | [],[],_=>trivial
 | _::_,_::_,h=>⟨h.1.ren hle hi,RCs.ren hle hi h.2⟩
mutual
theorem RV.ren (hle:E.le E' w w') (hi : ∀ n x,ι n=some x->ι' (ρ n)=some x) : ∀ {d:D} {v:Value}, RV E w ι d v->RV E' w' ι' (d.ren ρ) v
 | .one _,_,h=>by rw [D.ren,RV];rw [RV] at h;exact RC.ren h hle hi
 | .agg _,_,h=>by rw [D.ren,RV];rw [RV] at h;obtain ⟨xs,h1,h2⟩:=h;exact ⟨xs,h1,RCs.ren hle hi h2⟩
 | .tup _,_,h=>by rw [D.ren,RV];rw [RV] at h;obtain ⟨xs,h1,h2⟩:=h;exact ⟨xs,h1,RVs.ren hle hi h2⟩
 | .top,_,_=>by rw [D.ren,RV];trivial
theorem RVs.ren (hle:E.le E' w w') (hi : ∀ n x,ι n=some x->ι' (ρ n)=some x) : ∀ {ds:List D} {vs:List Value}, RVs E w ι ds vs->RVs E' w' ι' (Ds.ren ρ ds) vs
 | [],[],_=>by rw [Ds.ren,RVs];trivial
 | _::_,_::_,h=>by rw [Ds.ren,RVs];rw [RVs] at h;exact ⟨RV.ren hle hi h.1,RVs.ren hle hi h.2⟩
 | [],_::_,h=>by simp [RVs] at h
 | _::_,[],h=>by simp [RVs] at h
end
theorem RC.out {N:Nat->Prop} {c:C} {v:Value} (h:RC E w ι c v) (ho:c.okX N) (hi : ∀ n x,N n->ι n=some x->ι' (ρ n)=some x):RC E.solid w ι' (c.ren ρ) v:=by
 cases c with
 | d x=>exact RD.toSolid h ho
 | own n k l=>obtain ⟨b,cap,h1,h2⟩:=h;exact ⟨b,cap,hi _ _ ho h1,h2⟩
 | ptr n k i o=>exact ho.elim
 | map n=>exact ho.elim
 | fnp f cs=>exact ho.elim
 | ifo t n k l=>exact ho.elim
 | any=>exact h
theorem RCs.out {N:Nat->Prop} (hi : ∀ n x,N n->ι n=some x->ι' (ρ n)=some x) : ∀ {cs:List C} {vs:List Value}, RCs E w ι cs vs->(∀ c∈cs,C.okX N c)->RCs E.solid w ι' (cs.map (C.ren ρ)) vs
 | [],[],_,_=>trivial
 | c::_,_::_,h,ho=>⟨h.1.out (ho c (List.mem_cons_self ..)) hi,RCs.out hi h.2 fun c hc=>ho c (List.mem_cons_of_mem _ hc)⟩
mutual
theorem RV.out {N:Nat->Prop} (hi : ∀ n x,N n->ι n=some x->ι' (ρ n)=some x) : ∀ {d:D} {v:Value}, RV E w ι d v->d.okX N->RV E.solid w ι' (d.ren ρ) v
 | .one _,_,h,ho=>by rw [D.ren,RV];rw [RV] at h;rw [D.okX] at ho;exact RC.out h ho hi
 | .agg _,_,h,ho=>by rw [D.ren,RV];rw [RV] at h;rw [D.okX] at ho;obtain ⟨xs,h1,h2⟩:=h;exact ⟨xs,h1,RCs.out hi h2 ho⟩
 | .tup _,_,h,ho=>by rw [D.ren,RV];rw [RV] at h;rw [D.okX] at ho;obtain ⟨xs,h1,h2⟩:=h;exact ⟨xs,h1,RVs.out hi h2 ho⟩
 | .top,_,_,_=>by rw [D.ren,RV];trivial
theorem RVs.out {N:Nat->Prop} (hi : ∀ n x,N n->ι n=some x->ι' (ρ n)=some x) : ∀ {ds:List D} {vs:List Value}, RVs E w ι ds vs->Ds.okX N ds->RVs E.solid w ι' (Ds.ren ρ ds) vs
 | [],[],_,_=>by rw [Ds.ren,RVs];trivial
 | _::_,_::_,h,ho=>by rw [Ds.ren,RVs];rw [RVs] at h;rw [Ds.okX] at ho;exact ⟨RV.out hi h.1 ho.1,RVs.out hi h.2 ho.2⟩
 | [],_::_,h,_=>by simp [RVs] at h
 | _::_,[],h,_=>by simp [RVs] at h
end
end
def addsH (H:Hp) (nx:Nat):List Blk->Hp
 | []=>H
 | x::l=>addsH (H.set nx (some x)) (nx+1) l
def St.adds (st:St) (fr:List Blk):St:=⟨st.n,st.tm,addsH st.H st.nx fr,st.nx+fr.length⟩
theorem RB.allD {E:Env} {w:World} {ι ι':Nms} {n m:Nat} {x:Blk} (h:RB E w ι n x) (ha:allD x) (hi:ι n=ι' m):RB E w ι' m x:=by
 obtain ⟨b,cap,h1,h2,h3,h4⟩:=h
 refine ⟨b,cap,by rw [← hi];exact h1,h2,h3,fun hc => ?_⟩
 obtain ⟨arr,g1,g2,g3,g4⟩:=h4 hc
 refine ⟨arr,g1,g2,g3,fun i j c hj => ?_⟩
 obtain ⟨v,k1,k2⟩:=g4 i j c hj
 have hl:=nth2_lt hj h3
 have hm : ∃ e∈x.es,c∈e:=by
  unfold nth2 at hj
  cases he:x.es[i]? with
  | none=>simp [he] at hj
  | some e=>exact ⟨e,List.mem_of_getElem? he,List.mem_of_getElem? (by simpa [he] using hj)⟩
 obtain ⟨e,he,hce⟩:=hm
 obtain ⟨y,rfl⟩:=ha e he c hce
 exact ⟨v,k1,k2⟩
theorem HpOk.adopt {β:Base} {F:Nat->Prop} {w:World} {ι:Nms} {H:Hp} {nx:Nat} (h:HpOk β F w ι H nx) {x:Blk} {b cap:Nat} (hx:RB ⟨F,β.B⟩ w (ι.set nx (b,cap)) nx x)
  (hb:0<cap->b<w.heap.size ∧ ¬ F b∧(β.N0 b∨β.w0.heap.size≤b)) (hne : ∀ n c,H n≠none->ι n=some (b,c)->0<c->0<cap->False) :
  HpOk β F w (ι.set nx (b,cap)) (H.set nx (some x)) (nx+1)∧Nms.le ι (ι.set nx (b,cap)):=by
 have hnew:ι nx=none:=h.nx nx (Nat.le_refl _)
 have hi:=Nms.le_set (x:=(b,cap)) hnew
 have hset : ∀ m,m≠nx->ι.set nx (b,cap) m=ι m:=fun m hm=>by simp [Nms.set,hm]
 have hle:Env.le ⟨F,β.B⟩ ⟨F,β.B⟩ w w:=⟨fun _ h=>h,fun _ h=>h,fun _ _=>rfl,fun _ _=>rfl⟩
 refine ⟨⟨h.size,h.keep,h.Flt,h.Fof,h.F0,fun n y hn => ?_,fun n b' cap' hn hb' hcp => ?_,fun n m b' c1 c2 hn hm hb1 hb2 p1 p2 => ?_,fun n hn => ?_,fun m y hm=>hi m y (h.nm m y hm),h.io⟩,hi⟩
 ·by_cases e:n=nx
  ·subst e
   simp only [Hp.set_same,Option.some.injEq] at hn
   subst hn
   exact hx
  ·rw [Hp.set_ne _ _ e] at hn
   exact (h.blk n y hn).keep hle hi fun _ _ _ _=>rfl
 ·by_cases e:n=nx
  ·subst e
   simp only [Nms.set,if_true,Option.some.injEq,Prod.mk.injEq] at hb'
   obtain ⟨rfl,rfl⟩:=hb'
   exact hb hcp
  ·rw [Hp.set_ne _ _ e] at hn
   rw [hset n e] at hb'
   exact h.own n b' cap' hn hb' hcp
 ·by_cases e1:n=nx <;> by_cases e2:m=nx
  ·rw [e1,e2]
  ·subst e1
   rw [Hp.set_ne _ _ e2] at hm
   rw [hset m e2] at hb2
   simp only [Nms.set,if_true,Option.some.injEq,Prod.mk.injEq] at hb1
   obtain ⟨rfl,rfl⟩:=hb1
   exact (hne m _ hm hb2 p2 p1).elim
  ·subst e2
   rw [Hp.set_ne _ _ e1] at hn
   rw [hset n e1] at hb1
   simp only [Nms.set,if_true,Option.some.injEq,Prod.mk.injEq] at hb2
   obtain ⟨rfl,rfl⟩:=hb2
   exact (hne n _ hn hb1 p1 p2).elim
  ·rw [Hp.set_ne _ _ e1] at hn
   rw [Hp.set_ne _ _ e2] at hm
   rw [hset n e1] at hb1
   rw [hset m e2] at hb2
   exact h.inj n m b' c1 c2 hn hm hb1 hb2 p1 p2
 ·rw [hset n (by omega)]
  exact h.nx n (by omega)
theorem HpOk.adopts {β:Base} {F:Nat->Prop} {w:World} {ι':Nms} : ∀ (fr:List Blk) (i0:Nat) {ι:Nms} {H:Hp} {nx:Nat}, HpOk β F w ι H nx ->
  (∀ i x,fr[i]? = some x->RB ⟨F,β.B⟩ w ι' (i0+i) x∧allD x) ->
  (∀ i b cap,i<fr.length->ι' (i0+i)=some (b,cap)->0<cap->b<w.heap.size ∧ ¬ F b∧(β.N0 b∨β.w0.heap.size≤b) ∧ ∀ n c,H n≠none->ι n=some (b,c)->0<c->False) ->
  (∀ i j b c c',i<fr.length->j<fr.length->ι' (i0+i)=some (b,c)->ι' (i0+j)=some (b,c')->0<c->0<c'->i=j) ->
  ∃ ι2,HpOk β F w ι2 (addsH H nx fr) (nx+fr.length)∧Nms.le ι ι2 ∧ ∀ i,i<fr.length->ι2 (nx+i)=ι' (i0+i)
 | [],i0,ι,H,nx,h,_,_,_=>⟨ι,h,Nms.le_refl _,fun i hi=>by simp at hi⟩
 | x::fr,i0,ι,H,nx,h,hb,ho,hj=>by
  obtain ⟨b,cap,hn, -⟩:=(hb 0 x rfl).1
  rw [Nat.add_zero] at hn
  have hx:RB ⟨F,β.B⟩ w (ι.set nx (b,cap)) nx x:=(hb 0 x rfl).1.allD (hb 0 x rfl).2 (by simp [Nms.set,hn])
  obtain ⟨h1,h2⟩:=h.adopt hx (fun hc=>let ⟨a1,a2,a3,_⟩:=ho 0 b cap (by simp) hn hc; ⟨a1,a2,a3⟩) (fun n c hn' hb' hc hc'=>(ho 0 b cap (by simp) hn hc').2.2.2 n c hn' hb' hc)
  obtain ⟨ι2,g1,g2,g3⟩:=HpOk.adopts fr (i0+1) h1 (fun i y hy=>by have:=hb (i+1) y (by simpa using hy);rwa [show i0+(i+1)=i0+1+i by omega] at this)
   (fun i b' cap' hi hb' hc=>by
    rw [show i0+1+i=i0+(i+1) by omega] at hb'
    obtain ⟨a1,a2,a3,a4⟩:=ho (i+1) b' cap' (by simp;omega) hb' hc
    refine ⟨a1,a2,a3,fun n c hn' hb2 hc' => ?_⟩
    by_cases e:n=nx
    ·subst e
     simp only [Nms.set,if_true,Option.some.injEq,Prod.mk.injEq] at hb2
     obtain ⟨rfl,rfl⟩:=hb2
     have:=hj 0 (i+1) b cap cap' (by simp) (by simp;omega) hn hb' hc' hc
     omega
    ·rw [Hp.set_ne _ _ e] at hn'
     exact a4 n c hn' (by simpa [Nms.set,e] using hb2) hc')
   (fun i j b' c c' hi hj' h1 h2 p1 p2=>by
    rw [show i0+1+i=i0+(i+1) by omega] at h1
    rw [show i0+1+j=i0+(j+1) by omega] at h2
    have:=hj (i+1) (j+1) b' c c' (by simp;omega) (by simp;omega) h1 h2 p1 p2
    omega)
  refine ⟨ι2,by rw [show nx+(x::fr).length=nx+1+fr.length by simp;omega];exact g1,fun n y hn'=>g2 n y (h2 n y hn'),fun i hi => ?_⟩
  cases i with
  | zero =>
   have:=g2 nx (b,cap) (by simp [Nms.set])
   simpa [hn] using this
  | succ i =>
   have:=g3 i (by simpa using hi)
   rw [show nx+(i+1)=nx+1+i by omega,show i0+(i+1)=i0+1+i by omega]
   exact this
def lendCs (H:Hp):List C->Option (List C)
 | []=>some []
 | c::cs=>(lendC H c).bind fun x=>(lendCs H cs).map fun l => .d x::l
def lendD (H:Hp):D->Option D
 | .one c=>(lendC H c).map fun x => .one (.d x)
 | .agg cs=>(lendCs H cs).map .agg
 | _=>none
def lends (H:Hp):List D->Option (List D)
 | []=>some []
 | d::ds=>(lendD H d).bind fun e=>(lends H ds).map fun l=>e::l
section
variable {β:Base} {F:Nat->Prop} {w:World} {ι:Nms} {H:Hp} {nx:Nat}
theorem lendCs_ok (h:HpOk β F w ι H nx) : ∀ {cs l:List C} {vs:List Value}, RCs ⟨F,β.B⟩ w ι cs vs->lendCs H cs=some l->RCs ⟨F,fun b=>b<w.heap.size⟩ w (fun _=>none) l vs
 | [],l,vs,hr,hl=>by simp only [lendCs,Option.some.injEq] at hl;subst hl;cases vs with | nil=>trivial | cons _ _=>exact hr.elim
 | c::cs,l,v::vs,hr,hl=>by
  simp only [lendCs] at hl
  cases h1:lendC H c with
  | none=>simp [h1] at hl
  | some x =>
   cases h2:lendCs H cs with
   | none=>simp [h1,h2] at hl
   | some m =>
    simp only [h1,h2,Option.bind_some,Option.map_some,Option.some.injEq] at hl
    subst hl
    exact ⟨lendC_ok h hr.1 h1,lendCs_ok h hr.2 h2⟩
 | c::cs,l,[],hr,hl=>hr.elim
theorem lendD_ok (h:HpOk β F w ι H nx) {d e:D} {v:Value} (hr:RV ⟨F,β.B⟩ w ι d v) (hl:lendD H d=some e):RV ⟨F,fun b=>b<w.heap.size⟩ w (fun _=>none) e v:=by
 cases d with
 | one c =>
  rw [RV] at hr
  simp only [lendD] at hl
  cases h1:lendC H c with
  | none=>simp [h1] at hl
  | some x =>
   simp only [h1,Option.map_some,Option.some.injEq] at hl
   subst hl
   rw [RV];exact lendC_ok h hr h1
 | agg cs =>
  rw [RV] at hr
  obtain ⟨xs,rfl,hr⟩:=hr
  simp only [lendD] at hl
  cases h1:lendCs H cs with
  | none=>simp [h1] at hl
  | some l =>
   simp only [h1,Option.map_some,Option.some.injEq] at hl
   subst hl
   rw [RV];exact ⟨xs,rfl,lendCs_ok h hr h1⟩
 | tup ds=>cases hl
 | top=>cases hl
theorem lends_ok (h:HpOk β F w ι H nx) : ∀ {ds es:List D} {vs:List Value}, RVs ⟨F,β.B⟩ w ι ds vs->lends H ds=some es->RVs ⟨F,fun b=>b<w.heap.size⟩ w (fun _=>none) es vs
 | [],es,[],hr,hl=>by simp only [lends,Option.some.injEq] at hl;subst hl;rw [RVs];trivial
 | [],es,_::_,hr,hl=>by simp [RVs] at hr
 | d::ds,es,[],hr,hl=>by simp [RVs] at hr
 | d::ds,es,v::vs,hr,hl=>by
  rw [RVs] at hr
  simp only [lends] at hl
  cases h1:lendD H d with
  | none=>simp [h1] at hl
  | some e =>
   cases h2:lends H ds with
   | none=>simp [h1,h2] at hl
   | some m =>
    simp only [h1,h2,Option.bind_some,Option.map_some,Option.some.injEq] at hl
    subst hl
    rw [RVs]
    exact ⟨lendD_ok h hr.1 h1,lends_ok h hr.2 h2⟩
end
theorem RVs.append {E:Env} {w:World} {ι:Nms} : ∀ {ds es:List D} {vs us:List Value}, RVs E w ι ds vs->RVs E w ι es us->RVs E w ι (ds++es) (vs++us)
 | [],es,[],us,_,h=>h
 | d::ds,es,v::vs,us,h1,h2=>by
  rw [RVs] at h1
  show RVs E w ι (d::(ds++es)) (v::(vs++us))
  rw [RVs]
  exact ⟨h1.1,h1.2.append h2⟩
 | [],_,_::_,_,h,_=>by simp [RVs] at h
 | _::_,_,[],_,h,_=>by simp [RVs] at h
theorem RVs.ofRD {E:Env} {w:World} {ι:Nms} : ∀ {fs:List Dt} {xs:List Value}, xs.length=fs.length->(∀ (j:Nat) c x,fs[j]? = some c->xs[j]? = some x->RD E w c x)->RVs E w ι (fs.map fun x => .one (.d x)) xs
 | [],[],_,_=>by rw [List.map_nil,RVs];trivial
 | f::fs,x::xs,hl,h=>by
  rw [List.map_cons,RVs]
  refine ⟨by rw [RV];exact h 0 f x rfl rfl,RVs.ofRD (by simpa using hl) fun j c y hc hy=>h (j+1) c y (by simpa using hc) (by simpa using hy)⟩
 | [],_::_,hl,_=>by simp at hl
 | _::_,[],hl,_=>by simp at hl
theorem evs_ok {β:Base} {F:Nat->Prop} {ι:Nms} {st:St} {a:Act} {w:World} (h:Holds β F ι st a w) : ∀ xs:List Operand,RVs ⟨F,β.B⟩ w ι (xs.map (ev st)) (xs.map a.eval)
 | []=>by rw [List.map_nil,List.map_nil,RVs];trivial
 | x::xs=>by rw [List.map_cons,List.map_cons,RVs];exact ⟨h.ev x,evs_ok h xs⟩
def callArgs (st:St) (fs cs:List Dt) (xs:List Operand):List D:=fs.map (fun x => .one (.d x))++xs.map (ev st)++cs.map (fun x => .one (.d x))
def St.putO (st:St) (t:Option Nat) (d:D):St:=match t with
 | some t=>st.put t d
 | none=>st
theorem Holds.out {β:Base} {F F':Nat->Prop} {ι ι':Nms} {st:St} {a:Act} {w w':World} (h:Holds β F ι st a w) {d:D} {fr:List Blk} {v:Value} (ho:Out F w w' F' ι' d fr v) :
  ∃ ι2,Holds β F' ι2 (st.adds fr) a w'∧RV ⟨F',β.B⟩ w' ι2 (d.ren (· + st.nx)) v∧Nms.le ι ι2:=by
 have hh:=h.heap
 have hle:Env.le ⟨F,β.B⟩ ⟨F',β.B⟩ w w':=⟨ho.Fle,fun _ h=>h,fun b hb=>ho.old b (hh.Flt b hb),fun b hb=>ho.old b (Nat.lt_of_lt_of_le hb.1 hh.size)⟩
 have hlt : ∀ n b cap,st.H n≠none->ι n=some (b,cap)->0<cap->b<w.heap.size:=fun n b cap h1 h2 h3=>(hh.own n b cap h1 h2 h3).1
 have h1:HpOk β F' w' ι st.H st.nx:=⟨Nat.le_trans hh.size ho.size,fun b hb hN=>by rw [ho.old b (Nat.lt_of_lt_of_le hb hh.size)];exact hh.keep b hb hN,fun b hb=>(ho.new b hb).2,
  fun b hb=>by
   rcases (ho.new b hb).1 with h0 | h0
   ·exact hh.Fof b h0
   ·exact .inr (.inr (Nat.le_trans hh.size h0)),
  fun b hb=>ho.Fle b (hh.F0 b hb),
  fun n x hn=>(hh.blk n x hn).keep hle (Nms.le_refl _) fun b cap hb hc=>ho.old b (hlt n b cap (by rw [hn];simp) hb hc),
  fun n b cap hn hb hc=>by
   obtain ⟨g1,g2,g3⟩:=hh.own n b cap hn hb hc
   refine ⟨Nat.lt_of_lt_of_le g1 ho.size,fun hF => ?_,g3⟩
   rcases (ho.new b hF).1 with h0 | h0
   ·exact g2 h0
   ·omega,
  hh.inj,hh.nx,hh.nm,hh.io.trans ho.io⟩
 obtain ⟨ι2,g1,g2,g3⟩:=HpOk.adopts fr 0 h1 (ι':=ι') (fun i x hi=>by
   rw [Nat.zero_add]
   obtain ⟨hb,hd⟩:=ho.blk i x hi
   refine ⟨?_,hd⟩
   obtain ⟨b,cap,a1,a2,a3,a4⟩:=hb
   refine ⟨b,cap,a1,a2,a3,fun hc => ?_⟩
   obtain ⟨arr,b1,b2,b3,b4⟩:=a4 hc
   refine ⟨arr,b1,b2,b3,fun i j c hj => ?_⟩
   obtain ⟨v,k1,k2⟩:=b4 i j c hj
   exact ⟨v,k1,k2.keep (show Env.le ⟨F',noB⟩ ⟨F',β.B⟩ w' w' from ⟨fun _ h=>h,fun _ h=>h.elim,fun _ _=>rfl,fun _ _=>rfl⟩) (Nms.le_refl _)⟩)
  (fun i b cap hi hb hc=>by
   rw [Nat.zero_add] at hb
   obtain ⟨a1,a2,a3⟩:=ho.own i b cap hi hb hc
   exact ⟨a2,a3,.inr (Nat.le_trans hh.size a1),fun n c hn hb' hc'=>by have:=hlt n b c hn hb' hc';omega⟩)
  (fun i j b c c' hi hj h1 h2 p1 p2=>ho.inj i j b c c' hi hj (by simpa using h1) (by simpa using h2) p1 p2)
 refine ⟨ι2,⟨h.good,h.defers,h.size,fun u=>(h.tm u).keep hle g2,g1⟩,?_,g2⟩
 refine ho.val.ren (ρ:=(· + st.nx)) (show Env.le ⟨F',noB⟩ ⟨F',β.B⟩ w' w' from ⟨fun _ h=>h,fun _ h=>h.elim,fun _ _=>rfl,fun _ _=>rfl⟩) fun n x hn => ?_
 have hl:n<fr.length:=by
  rcases Nat.lt_or_ge n fr.length with h | h
  ·exact h
  ·rw [ho.dom n h] at hn;cases hn
 have:=g3 n hl
 rw [Nat.zero_add] at this
 show ι2 (n+st.nx)=some x
 rw [Nat.add_comm,this,hn]
section
variable {P:Program} {qt:Bool} {o:Oper} {st:St} {K:St->Prop}
theorem ev_call {x:Operand} {xs:Array Operand} {tys:Array TypeId} {f:FuncId} {fs cs:List Dt} {ds:List D} (ho:o.op = .call { callee := .value x,args:=xs,argTypes:=tys }) (hx:ev st x = .one (.d (.fn (.func f) fs cs)))
  (hd:lends st.H (callArgs st fs cs xs.toList)=some ds) (ht : ∀ t,o.dst=some t->t<st.n) (hC:DPure P f ds fun d fr=>K ((st.adds fr).putO o.dst (d.ren (· + st.nx)))):EvO P qt o st K:=by
 intro β F ι a w h next Q hnext
 have he:=h.ev x
 rw [hx,RV] at he
 obtain ⟨ys,zs,hv,l1,l2,h1,h2⟩ : ∃ ys zs,a.eval x = .func (.func f) ys zs∧ys.size=fs.length∧zs.size=cs.length∧(∀ (j:Nat) c x,fs[j]? = some c->ys[j]? = some x->RD ⟨F,β.B⟩ w c x)∧(∀ (j:Nat) c x,cs[j]? = some c->zs[j]? = some x->RD ⟨F,β.B⟩ w c x):=by
  cases hq:a.eval x with
  | func fn ys zs =>
   rw [hq] at he
   cases he with
   | fn l1 l2 h1 h2=>exact ⟨ys,zs,rfl,l1,l2,h1,h2⟩
  | _=>rw [hq] at he;cases he
 have hrun:(execOp a.eval o).run P w = .ok (.enter f (ys++xs.map a.eval++zs)) w:=by
  simp [execOp,ho,resolve,hv,Deferred.ofValue,invoke,goFn_run hC.1]
 unfold Oper.wp
 rw [hrun,Oper.upon_enter]
 have hargs:RVs ⟨F,β.B⟩ w ι (callArgs st fs cs xs.toList) (ys.toList++xs.toList.map a.eval++zs.toList) :=
  ((RVs.ofRD (by simpa using l1) fun j c x hc hx=>h1 j c x hc (by simpa using hx)).append (evs_ok h xs.toList)).append (RVs.ofRD (by simpa using l2) fun j c x hc hx=>h2 j c x hc (by simpa using hx))
 have hc:=hC.2 F w _ (h.heap.Flt) (h.heap.gl h.good) (lends_ok h.heap hargs hd)
 rw [show (ys.toList++xs.toList.map a.eval++zs.toList).toArray=ys++xs.map a.eval++zs by apply Array.ext';simp] at hc
 refine hc.mono ?_
 rintro e w' ⟨F',ι',d,fr,v,rfl,hout,hK⟩
 obtain ⟨ι2,g1,g2, -⟩:=h.out hout
 refine hnext F' ι2 ((st.adds fr).putO o.dst (d.ren (· + st.nx))) v w' (Chg.call ho fun _ _=>hout.old) ?_ hK
 cases hdst:o.dst with
 | none=>exact g1
 | some t=>exact g1.put g2 (ht t hdst)
end
def tms:Nat->List D->List (Nat×D)
 | _,[]=>[]
 | i,d::ds=>(i,d)::tms (i+1) ds
theorem lk_tms (ds:List D) (i t:Nat):lk (tms i ds) t=if i≤t then (ds[t-i]?).getD .top else .top:=by
 induction ds generalizing i with
 | nil=>simp [tms,lk]
 | cons d ds ih =>
  unfold tms lk
  by_cases h:t=i
  ·subst h;simp
  ·rw [if_neg h,ih]
   by_cases h2:i≤t
   ·rw [if_pos h2,if_pos (by omega),show t-i=(t-(i+1))+1 by omega];simp
   ·rw [if_neg h2,if_neg (by omega)]
def resD (P:Program) (st:St):ResultVar->Option D
 | .tmp t=>some (lk st.tm t)
 | .cell t ty=>(rd st (.tmp t)).bind fun cs=>(rowT P ty).bind fun b=>if b then (szOf P ty).bind fun k=>if k≤cs.length then some (.agg (cs.take k)) else none else cs.head?.map .one
def resDs (P:Program) (st:St):List ResultVar->Option (List D)
 | []=>some []
 | r::rs=>(resD P st r).bind fun d=>(resDs P st rs).map fun l=>d::l
def resT:List D->D
 | [d]=>d
 | ds => .tup ds
def ownsC:C->List Nat
 | .own n _ _=>[n]
 | _=>[]
mutual
def D.owns:D->List Nat
 | .one c=>ownsC c
 | .agg cs=>cs.flatMap ownsC
 | .tup ds=>Ds.owns ds
 | .top=>[]
def Ds.owns:List D->List Nat
 | []=>[]
 | d::ds=>d.owns++Ds.owns ds
end
def blks (H:Hp):List Nat->Option (List Blk)
 | []=>some []
 | n::ns=>(H n).bind fun x=>if (x.es.all fun e=>e.all C.isD)=true then (blks H ns).map fun l=>x::l else none
def retK (P:Program) (rs:List ResultVar) (K:D->List Blk->Prop):Exit->St->Prop
 | .normal,st | .ret,st => ∃ ds fr,resDs P st rs=some ds∧(resT ds).owns.Nodup∧(resT ds).okX (fun n=>n∈(resT ds).owns)∧blks st.H (resT ds).owns=some fr∧K ((resT ds).ren fun n=>(resT ds).owns.idxOf n) fr
 | _,_=>False
theorem resD_ok {P:Program} {β:Base} {F:Nat->Prop} {ι:Nms} {st:St} {a:Act} {w:World} (h:Holds β F ι st a w) {r:ResultVar} {d:D} (hr:resD P st r=some d) :
  ∃ v,(match r with | .tmp t=>(pure (a.tmps.getD t undef):Sem Value) | .cell x t=>(do loadVar t (← asAddr (a.tmps.getD x undef)))).run P w = .ok v w∧RV ⟨F,β.B⟩ w ι d v:=by
 cases r with
 | tmp t =>
  simp only [resD,Option.some.injEq] at hr
  subst hr
  exact ⟨_,rfl,h.tm t⟩
 | cell t ty =>
  simp only [resD] at hr
  cases hrd:rd st (.tmp t) with
  | none=>simp [hrd] at hr
  | some cs =>
   cases hrow:rowT P ty with
   | none=>simp [hrd,hrow] at hr
   | some b =>
    obtain ⟨bb,off,he,vs,h1,h2⟩:=rd_ok h hrd
    have he':a.tmps.getD t undef = .pointer (some ⟨bb,off,none⟩):=he
    simp only [hrd,hrow,Option.bind_some] at hr
    cases b with
    | true =>
     simp only [if_true] at hr
     cases hk:szOf P ty with
     | none=>simp [hk] at hr
     | some k =>
      simp only [hk,Option.bind_some] at hr
      split at hr
      ·rename_i hl
       simp only [Option.some.injEq] at hr
       subst hr
       have h3:=h1.take k
       have hlen:=h3.len
       have hvl:(vs.take k).length=k:=by rw [hlen,List.length_take];omega
       have hc:=run_loadCells_list (P:=P) w ⟨bb,off,none⟩ (vs.take k) (fun j v hj=>by
        rw [Addr.add_mid]
        rw [List.getElem?_take] at hj
        split at hj
        ·exact h2 j v hj
        ·simp at hj)
       rw [hvl] at hc
       refine ⟨.agg (vs.take k).toArray,?_,by rw [RV];exact ⟨_,rfl,by simpa using h3⟩⟩
       simp [he',asAddr,loadVar,rowT_run hrow,szOf_run hk,hc]
      ·cases hr
    | false =>
     simp only [Bool.false_eq_true,if_false] at hr
     cases cs with
     | nil=>cases hr
     | cons c cs =>
      simp only [List.head?_cons,Option.map_some,Option.some.injEq] at hr
      subst hr
      obtain ⟨v,hv,hc⟩:=h1.get (j:=0) (c:=c) rfl
      have:=h2 0 v hv
      refine ⟨v,?_,by rw [RV];exact hc⟩
      simp [he',asAddr,loadVar,rowT_run hrow,load,Sem.run,World.cell?] at this ⊢
      simp [this]
def resRun (a:Act):ResultVar->Sem Value
 | .tmp t=>pure (a.tmps.getD t undef)
 | .cell x t=>do loadVar t (← asAddr (a.tmps.getD x undef))
theorem resDs_ok {P:Program} {β:Base} {F:Nat->Prop} {ι:Nms} {st:St} {a:Act} {w:World} (h:Holds β F ι st a w) : ∀ {rs:List ResultVar} {ds:List D}, resDs P st rs=some ds ->
  ∃ vs:List Value,(rs.mapM (resRun a)).run P w = .ok vs w∧RVs ⟨F,β.B⟩ w ι ds vs
 | [],ds,hr=>by
  simp only [resDs,Option.some.injEq] at hr
  subst hr
  exact ⟨[],rfl,by rw [RVs];trivial⟩
 | r::rs,ds,hr=>by
  simp only [resDs] at hr
  cases h1:resD P st r with
  | none=>simp [h1] at hr
  | some d =>
   cases h2:resDs P st rs with
   | none=>simp [h1,h2] at hr
   | some l =>
    simp only [h1,h2,Option.bind_some,Option.map_some,Option.some.injEq] at hr
    subst hr
    obtain ⟨v,g1,g2⟩:=resD_ok h h1
    obtain ⟨vs,g3,g4⟩:=resDs_ok h h2
    refine ⟨v::vs,?_,by rw [RVs];exact ⟨g2,g4⟩⟩
    have g1':(resRun a r).run P w = .ok v w:=by
     cases r <;> exact g1
    simp [List.mapM_cons,g1',g3]
theorem results_ok {P:Program} {β:Base} {F:Nat->Prop} {ι:Nms} {st:St} {a:Act} {w:World} (h:Holds β F ι st a w) {fn:Func} {ds:List D} (hr:resDs P st fn.results.toList=some ds) :
  ∃ v,(results fn a.tmps).run P w = .ok v w∧RV ⟨F,β.B⟩ w ι (resT ds) v:=by
 obtain ⟨vs,g1,g2⟩:=resDs_ok h hr
 have hm:(fn.results.mapM (resRun a)).run P w = .ok vs.toArray w:=by
  rw [Array.mapM_eq_mapM_toList,Sem.run_map,g1]
  rfl
 have hres:(results fn a.tmps).run P w = .ok (if h:vs.toArray.size=1 then vs.toArray[0] else .tuple vs.toArray) w:=by
  have e:results fn a.tmps=(fn.results.mapM (resRun a) >>= fun vs=>pure (if h:vs.size=1 then vs[0] else .tuple vs)):=by
   unfold results
   congr 2
  rw [e,Sem.run_bind,hm]
  rfl
 refine ⟨_,hres,?_⟩
 cases ds with
 | nil =>
  cases vs with
  | nil=>rw [dif_neg (by simp)];unfold resT;rw [RV];exact ⟨#[],rfl,by rw [RVs];trivial⟩
  | cons v vs=>simp [RVs] at g2
 | cons d ds =>
  cases vs with
  | nil=>simp [RVs] at g2
  | cons v vs =>
   rw [RVs] at g2
   cases ds with
   | nil =>
    cases vs with
    | nil=>rw [dif_pos (by simp)];simpa [resT] using g2.1
    | cons _ _=>simp [RVs] at g2
   | cons d2 ds =>
    cases vs with
    | nil=>simp [RVs] at g2
    | cons v2 vs =>
     rw [dif_neg (by simp)]
     show RV _ _ _ (.tup (d::d2::ds)) _
     rw [RV]
     refine ⟨_,rfl,?_⟩
     rw [RVs]
     exact g2
theorem blks_ok {H:Hp} : ∀ {ns:List Nat} {fr:List Blk}, blks H ns=some fr->fr.length=ns.length ∧ ∀ (i:Nat) x,fr[i]? = some x -> ∃ n,ns[i]? = some n∧H n=some x∧(x.es.all fun e=>e.all C.isD)=true
 | [],fr,h=>by simp only [blks,Option.some.injEq] at h;subst h;exact ⟨rfl,fun i x hx=>by simp at hx⟩
 | n::ns,fr,h=>by
  simp only [blks] at h
  cases h1:H n with
  | none=>simp [h1] at h
  | some x =>
   simp only [h1,Option.bind_some] at h
   split at h
   ·rename_i hall
    cases h2:blks H ns with
    | none=>simp [h2] at h
    | some l =>
     simp only [h2,Option.map_some,Option.some.injEq] at h
     subst h
     obtain ⟨g1,g2⟩:=blks_ok h2
     refine ⟨by simp [g1],fun i y hy => ?_⟩
     cases i with
     | zero=>simp only [List.getElem?_cons_zero,Option.some.injEq] at hy;subst hy;exact ⟨n,rfl,h1,hall⟩
     | succ i=>exact g2 i y (by simpa using hy)
   ·cases h
theorem dpure_of_ev {P:Program} {f:FuncId} {fn:Func} {c:Code} {ds:List D} {K:D->List Blk->Prop} (hf:P.funcs[f]? = some fn) (hb:fn.body=some c) (hg:goFn P f=true) (hn:ds.length≤fn.ntmps)
  (h:Ev P c (retK P fn.results.toList K) ⟨fn.ntmps,tms 0 ds,Hp.none,0⟩):DPure P f ds K:=by
 refine ⟨hg,fun F w vs hF hgl hvs=>calls_of_wp hf hb ?_⟩
 have hvl:vs.length=ds.length:=by
  have : ∀ {ds:List D} {vs:List Value} {E ι}, RVs E w ι ds vs->vs.length=ds.length:=by
   intro ds
   induction ds with
   | nil=>intro vs E ι h;cases vs with
    | nil=>rfl
    | cons _ _=>simp [RVs] at h
   | cons d ds ih=>intro vs E ι h;cases vs with
    | nil=>simp [RVs] at h
    | cons _ _=>rw [RVs] at h;simp [ih h.2]
  exact this hvs
 have hget : ∀ {ds:List D} {vs:List Value} {E:Env} {ι:Nms}, RVs E w ι ds vs -> ∀ t:Nat,RV E w ι ((ds[t]?).getD .top) ((vs[t]?).getD undef):=by
  intro ds
  induction ds with
  | nil=>intro vs E ι h t;simp only [List.getElem?_nil,Option.getD_none];rw [RV];trivial
  | cons d ds ih=>intro vs E ι h t;cases vs with
   | nil=>simp [RVs] at h
   | cons v vs =>
    rw [RVs] at h
    cases t with
    | zero=>simpa using h.1
    | succ t=>simpa using ih h.2 t
 let β:Base:=⟨w,fun _=>False,F,fun _=>none⟩
 have hle:Env.le ⟨F,fun b=>b<w.heap.size⟩ ⟨F,β.B⟩ w w:=⟨fun _ h=>h,fun b hb=>⟨hb,fun h=>h⟩,fun _ _=>rfl,fun _ _=>rfl⟩
 have hH:Holds β F (fun _=>none) ⟨fn.ntmps,tms 0 ds,Hp.none,0⟩ { tmps:=vs.toArray++Array.replicate (fn.ntmps-vs.toArray.size) undef,defers := [] } w:=by
  refine ⟨⟨hgl,hF,fun _ _ h=>h⟩,rfl,by simp;omega,fun t => ?_,⟨Nat.le_refl _,fun _ _ _=>rfl,hF,fun b hb => .inl hb,fun _ h=>h,fun n x h=>(by cases h),fun n b cap h=>absurd rfl h,fun n m b c c' h=>absurd rfl h,fun _ _=>rfl,fun _ _ h=>(by cases h),SameIo.refl _⟩⟩
  rw [lk_tms,if_pos (Nat.zero_le _),Nat.sub_zero]
  have:=(hget hvs t).keep hle (Nms.le_refl _)
  by_cases ht:t<vs.length
  ·have e:(vs.toArray++Array.replicate (fn.ntmps-vs.toArray.size) undef).getD t undef=(vs[t]?).getD undef:=by
    simp [Array.getD_eq_getD_getElem?, Array.getElem?_append,ht]
   rw [e];exact this
  ·have e:ds[t]? = none:=List.getElem?_eq_none (by omega)
   rw [e,Option.getD_none,RV];trivial
 refine h β F _ _ w hH _ fun e F' ι' st' a' w' h1 h2 => ?_
 have key : ∀ {e}, (e=Exit.normal∨e=Exit.ret)->retK P fn.results.toList K e st'->a'.defers=[] ∧ ∃ v,(results fn a'.tmps).run P w' = .ok v w' ∧ ∃ F' ι d fr v',Ending.returned v = .returned v'∧Out F w w' F' ι d fr v'∧K d fr:=by
  intro e he hk
  have hk' : ∃ ds fr,resDs P st' fn.results.toList=some ds∧(resT ds).owns.Nodup∧(resT ds).okX (fun n=>n∈(resT ds).owns)∧blks st'.H (resT ds).owns=some fr∧K ((resT ds).ren fun n=>(resT ds).owns.idxOf n) fr:=by
   rcases he with rfl | rfl <;> exact hk
  obtain ⟨rs,fr,k1,k2,k3,k4,k5⟩:=hk'
  obtain ⟨v,r1,r2⟩:=results_ok h1 k1
  obtain ⟨hlen,hfr⟩:=blks_ok k4
  generalize (resT rs).owns=ns at *
  have hh:=h1.heap
  refine ⟨h1.defers,v,r1,F',fun i=>(ns[i]?).bind ι',_,fr,v,rfl,?_,k5⟩
  have hown : ∀ i n x,ns[i]? = some n->fr[i]? = some x->st'.H n≠none:=fun i n x hi hx=>by
   obtain ⟨n',g1,g2, -⟩:=hfr i x hx
   rw [hi] at g1
   cases g1
   rw [g2];simp
  have hsome : ∀ i,i<fr.length -> ∃ n x,ns[i]? = some n∧fr[i]? = some x:=fun i hi=>by
   obtain ⟨n,g1, -, -⟩:=hfr i _ (List.getElem?_eq_getElem hi)
   exact ⟨n,_,g1,List.getElem?_eq_getElem hi⟩
  refine ⟨hh.size,fun b hb=>hh.keep b hb fun h=>h,fun b hb=>hh.F0 b hb,fun b hb=>⟨?_,hh.Flt b hb⟩,fun i x hx => ?_,fun i b cap hi hb hc => ?_,fun i j b c c' hi hj hb1 hb2 p1 p2 => ?_,fun i hi => ?_,?_,hh.io⟩
  ·rcases hh.Fof b hb with h | h | h
   ·exact .inl h
   ·exact h.elim
   ·exact .inr h
  ·obtain ⟨n,g1,g2,g3⟩:=hfr i x hx
   have had:allD x:=fun e he c hc=>by
    have:=List.all_eq_true.1 (List.all_eq_true.1 g3 e he) c hc
    cases c with
    | d y=>exact ⟨y,rfl⟩
    | _=>cases this
   refine ⟨?_,had⟩
   obtain ⟨b,cap,a1,a2,a3,a4⟩:=hh.blk n x g2
   refine ⟨b,cap,by simp [g1,a1],a2,a3,fun hc => ?_⟩
   obtain ⟨arr,b1,b2,b3,b4⟩:=a4 hc
   refine ⟨arr,b1,b2,b3,fun i j c hj => ?_⟩
   obtain ⟨v,q1,q2⟩:=b4 i j c hj
   have hm : ∃ e∈x.es,c∈e:=by
    unfold nth2 at hj
    cases he:x.es[i]? with
    | none=>simp [he] at hj
    | some e=>exact ⟨e,List.mem_of_getElem? he,List.mem_of_getElem? (by simpa [he] using hj)⟩
   obtain ⟨e,he,hce⟩:=hm
   have hcd:=List.all_eq_true.1 (List.all_eq_true.1 g3 e he) c hce
   obtain ⟨y,rfl⟩:=had e he c hce
   exact ⟨v,q1,RD.toSolid q2 hcd⟩
  ·obtain ⟨n,x,g1,g2⟩:=hsome i hi
   simp only [g1,Option.bind_some] at hb
   obtain ⟨q1,q2,q3⟩:=hh.own n b cap (hown i n x g1 g2) hb hc
   exact ⟨q3.resolve_left fun h=>h,q1,q2⟩
  ·obtain ⟨n,x,g1,g2⟩:=hsome i hi
   obtain ⟨m,y,g3,g4⟩:=hsome j hj
   simp only [g1,Option.bind_some] at hb1
   simp only [g3,Option.bind_some] at hb2
   have:=hh.inj n m b c c' (hown i n x g1 g2) (hown j m y g3 g4) hb1 hb2 p1 p2
   subst this
   have hi':i<ns.length:=by omega
   exact (List.getElem?_inj hi' k2).1 (by rw [g1,g3])
  ·simp [List.getElem?_eq_none (show ns.length≤i by omega)]
  ·refine r2.out (N:=fun n=>n∈ns) (ρ:=fun n=>ns.idxOf n) (fun n x hn hx => ?_) k3
   have:ns[ns.idxOf n]? = some n:=by
    rw [List.getElem?_eq_getElem (List.idxOf_lt_length_of_mem hn)]
    simp
   simp [this,hx]
 cases e with
 | normal=>exact key (.inl rfl) h2
 | ret=>exact key (.inr rfl) h2
 | _=>exact h2.elim
def sc:BinOp->Value->Value->Option Value
 | .add,.int k a,.int k' b=>if k=k' then some (.int k (k.wrap (a+b))) else none
 | .sub,.int k a,.int k' b=>if k=k' then some (.int k (k.wrap (a-b))) else none
 | .mul,.int k a,.int k' b=>if k=k' then some (.int k (k.wrap (a*b))) else none
 | .quo,.int k a,.int k' b=>if k=k'∧b≠0 then some (.int k (k.wrap (a.tdiv b))) else none
 | .rem,.int k a,.int k' b=>if k=k'∧b≠0 then some (.int k (a.tmod b)) else none
 | .eql,.int k a,.int k' b=>if k=k' then some (.bool (decide (a=b))) else none
 | .neq,.int k a,.int k' b=>if k=k' then some (.bool (!decide (a=b))) else none
 | .lss,.int k a,.int k' b=>if k=k' then some (.bool (decide (a<b))) else none
 | .leq,.int k a,.int k' b=>if k=k' then some (.bool (decide (a≤b))) else none
 | .gtr,.int k a,.int k' b=>if k=k' then some (.bool (decide (b<a))) else none
 | .geq,.int k a,.int k' b=>if k=k' then some (.bool (decide (b≤a))) else none
 | .eql,.float .f64 a,.float .f64 b=>some (.bool (Ieee.double.order a b == some .eq))
 | .neq,.float .f64 a,.float .f64 b=>some (.bool (Ieee.double.order a b != some .eq))
 | .lss,.float .f64 a,.float .f64 b=>some (.bool (Ieee.double.order a b == some .lt))
 | .leq,.float .f64 a,.float .f64 b=>some (.bool (Ieee.double.order a b == some .lt||Ieee.double.order a b == some .eq))
 | .gtr,.float .f64 a,.float .f64 b=>some (.bool (Ieee.double.order a b == some .gt))
 | .geq,.float .f64 a,.float .f64 b=>some (.bool (Ieee.double.order a b == some .gt||Ieee.double.order a b == some .eq))
 | .eql,.string a,.string b=>some (.bool (decide (a=b)))
 | .neq,.string a,.string b=>some (.bool (!decide (a=b)))
 | .add,.string a,.string b=>if a.size+b.size≤9223372036854775807 then some (.string (a++b)) else none
 | .shr,.int k a,.int _ b=>if 0≤b then some (.int k (a.fdiv (2 ^ (min b.toNat k.bits)))) else none
 | .and,.int k a,.int k' b=>if k=k' then some (.int k (k.wrap (BitVec.ofInt k.bits a &&& BitVec.ofInt k.bits b).toNat)) else none
 | _,_,_=>none
theorem bytes_beq (a b:ByteArray):(a.toList == b.toList)=decide (a=b):=by
 have h:a.toList=b.toList↔a=b:=⟨fun h=>by
  have h':a.data.toList=b.data.toList:=by simpa [ByteArray.toList_eq] using h
  cases a;cases b;congr;exact Array.ext' h',fun h=>by rw [h]⟩
 by_cases e:a=b
 ·simp [e]
 ·simp [e,h]
theorem sc_ok {P : Program} {op : BinOp} {t : TypeId} {x y : Operand} {u v r : Value} (h : sc op u v = some r) (w : World) : (do eqGuard op t x y u v; binOp op t u v : Sem Value).run P w = .ok r w ∧ r.oneCell' = true := by
  unfold sc at h
  split at h
  all_goals first
    | (split at h
       · rename_i hk
         simp only [Option.some.injEq] at h
         subst h
         refine ⟨?_, rfl⟩
         first
           | (subst hk; simp [eqGuard, binOp, Op.intArith, Op.intCmp]; done)
           | (obtain ⟨rfl, hb⟩ := hk; simp [eqGuard, binOp, Op.intDiv, hb]; done)
           | (subst hk; simp [eqGuard, binOp, Op.intArith, Op.intCmp]; rfl)
           | (simp [eqGuard, binOp, Op.stringOp]; omega)
           | (rename_i k a k' b
              have e2 : ¬ b < 0 := by omega
              simp [eqGuard, binOp, Op.shift, e2]; done)
           | (subst hk; simp [eqGuard, binOp, Op.intBits]; rfl)
           | (subst hk; simp [eqGuard, binOp, Op.intBits]; done)
       · cases h)
    | (simp only [Option.some.injEq] at h
       subst h
       refine ⟨?_, rfl⟩
       first | (simp [eqGuard, binOp, Op.stringOp, bytes_beq]; done) | (simp [eqGuard, binOp, Op.floatCmp]; rfl))
    | cases h
def litOf:D->Option Value
 | .one (.d (.lit v))=>some v
 | _=>none
theorem litOf_ok {E:Env} {w:World} {ι:Nms} {d:D} {v u:Value} (h:RV E w ι d v) (hl:litOf d=some u):v=u:=by
 unfold litOf at hl
 split at hl
 ·simp only [Option.some.injEq] at hl
  subst hl
  rw [RV] at h
  exact RD.lit_inv h
 ·cases hl
def intsOf:List C->Option (List Int)
 | []=>some []
 | .d (.lit (.int .i64 n))::cs=>(intsOf cs).map fun l=>n::l
 | _=>none
theorem intsOf_ok {E:Env} {w:World} {ι:Nms} : ∀ {cs:List C} {l:List Int} {vs:List Value}, RCs E w ι cs vs->intsOf cs=some l->vs=l.map (Value.int .i64)
 | [],l,[],_,h=>by simp only [intsOf,Option.some.injEq] at h;subst h;rfl
 | c::cs,l,v::vs,hr,h=>by
  unfold intsOf at h
  split at h
  ·rename_i he;cases he
  ·rename_i n cs' he
   simp only [List.cons.injEq] at he
   obtain ⟨rfl,rfl⟩:=he
   cases h2:intsOf cs with
   | none=>simp [h2] at h
   | some m =>
    simp only [h2,Option.map_some,Option.some.injEq] at h
    subst h
    rw [intsOf_ok hr.2 h2,RD.lit_inv hr.1];rfl
  ·cases h
 | [],_,_::_,hr,_=>hr.elim
 | _::_,_,[],hr,_=>hr.elim
def EqI (P:Program) (t:TypeId) (n:Nat):Prop := ∀ (x y:Operand) (l m:List Int) (w:World),l.length=n->m.length=n ->
 (do eqGuard .eql t x y (.agg (l.map (Value.int .i64)).toArray) (.agg (m.map (Value.int .i64)).toArray);binOp .eql t (.agg (l.map (Value.int .i64)).toArray) (.agg (m.map (Value.int .i64)).toArray):Sem Value).run P w = .ok (.bool (decide (l=m))) w ∧
 (do eqGuard .neq t x y (.agg (l.map (Value.int .i64)).toArray) (.agg (m.map (Value.int .i64)).toArray);binOp .neq t (.agg (l.map (Value.int .i64)).toArray) (.agg (m.map (Value.int .i64)).toArray):Sem Value).run P w = .ok (.bool (!decide (l=m))) w
def aggOf:D->Option (List C)
 | .agg cs=>some cs
 | _=>none
theorem aggOf_ok {E:Env} {w:World} {ι:Nms} {d:D} {v:Value} {cs:List C} (h:RV E w ι d v) (hl:aggOf d=some cs) : ∃ xs:Array Value,v = .agg xs∧RCs E w ι cs xs.toList:=by
 unfold aggOf at hl
 split at hl
 ·simp only [Option.some.injEq] at hl
  subst hl
  rwa [RV] at h
 ·cases hl
def ftyOf (P:Program) (s:TypeId) (f:Nat):Option (Nat×Nat×Bool):=match P.underlying s with
 | some (.struct fs)=>(fs[f]?).bind fun x=>(szOf P x.type).bind fun k=>(rowT P x.type).map fun b=>(x.offset,k,b)
 | _=>none
section
variable {P:Program} {qt:Bool} {o:Oper} {st:St} {K:St->Prop} {t:Nat}
theorem ev_binOp {op:BinOp} {ty yt:TypeId} {x y:Operand} {u v r:Value} (ho:o.op = .binOp op ty x y yt) (hx:litOf (ev st x)=some u) (hy:litOf (ev st y)=some v) (hr:sc op u v=some r):EvS P o st (.one (.d (.lit r))) true:=fun β F ι a w h=>by
  refine ⟨r,fun w' _ => ?_,by rw [RV];exact .lit (sc_ok (P:=P) (t:=ty) (x:=x) (y:=y) hr w).2⟩
  have h1:=(sc_ok (P:=P) (t:=ty) (x:=x) (y:=y) hr w').1
  rw [show execOp a.eval o=(do let s ← (do eqGuard op ty x y (a.eval x) (a.eval y);binOp op ty (a.eval x) (a.eval y):Sem Value);pure (.value s)) by simp [execOp,ho]]
  rw [litOf_ok (h.ev x) hx,litOf_ok (h.ev y) hy,Sem.run_bind,h1]
  rfl
theorem ev_eqI {n:Nat} {op:BinOp} {ty yt:TypeId} {x y:Operand} {cs ds:List C} {l m:List Int} (ho:o.op = .binOp op ty x y yt) (hop:op = .eql∨op = .neq) (he:EqI P ty n) (hx:aggOf (ev st x)=some cs) (hy:aggOf (ev st y)=some ds)
  (hl:intsOf cs=some l) (hm:intsOf ds=some m) (hln:l.length=n) (hmn:m.length=n):EvS P o st (.one (.d (.lit (.bool (if op = .eql then decide (l=m) else !decide (l=m)))))) true:=fun β F ι a w h=>by
  obtain ⟨xs,hv,h1⟩:=aggOf_ok (h.ev x) hx
  obtain ⟨ys,hu,h2⟩:=aggOf_ok (h.ev y) hy
  have e1:xs=(l.map (Value.int .i64)).toArray:=by apply Array.ext';simpa using intsOf_ok h1 hl
  have e2:ys=(m.map (Value.int .i64)).toArray:=by apply Array.ext';simpa using intsOf_ok h2 hm
  subst e1 e2
  refine ⟨_,fun w' _ => ?_,by rw [RV];exact .lit rfl⟩
  obtain ⟨g1,g2⟩:=he x y l m w' hln hmn
  rw [show execOp a.eval o=(do let s ← (do eqGuard op ty x y (a.eval x) (a.eval y);binOp op ty (a.eval x) (a.eval y):Sem Value);pure (.value s)) by simp [execOp,ho]]
  rw [hv,hu,Sem.run_bind]
  rcases hop with rfl | rfl
  ·rw [g1];rfl
  ·rw [g2];rfl
def boolT (P:Program) (t:TypeId):Bool:=match P.underlying t with
 | some .bool=>true
 | _=>false
def ptrT (P:Program) (t:TypeId):Bool:=match P.underlying t with
 | some (.pointer _)=>true
 | _=>false
def nilOf:D->Option Bool
 | .one (.d (.at_ _ _))=>some false
 | .one (.ptr _ _ _ _)=>some false
 | .one (.d (.lit (.pointer none)))=>some true
 | _=>none
theorem nilOf_ok {E:Env} {w:World} {ι:Nms} {d:D} {v:Value} {e:Bool} (h:RV E w ι d v) (hn:nilOf d=some e) : ∃ q,v = .pointer q∧q.isNone=e:=by
 unfold nilOf at hn
 split at hn
 ·cases hn
  rw [RV] at h
  cases h with
  | at_ X h4 hc h5=>exact ⟨_,rfl,rfl⟩
 ·cases hn
  rw [RV] at h
  obtain ⟨b,cap, -, -, rfl⟩:=h
  exact ⟨_,rfl,rfl⟩
 ·cases hn
  rw [RV] at h
  exact ⟨none,RD.lit_inv h,rfl⟩
 ·cases hn
theorem ev_ptrNil {op:BinOp} {ty yt:TypeId} {x y:Operand} {e:Bool} (ho:o.op = .binOp op ty x y yt) (hop:op = .eql∨op = .neq) (hb:ptrT P ty=true) (hx:nilOf (ev st x)=some e) (hy:litOf (ev st y)=some (.pointer none)) :
  EvS P o st (.one (.d (.lit (.bool (if op = .eql then e else !e))))) true:=fun β F ι a w h=>by
  obtain ⟨el,hu⟩ : ∃ el,P.underlying ty=some (.pointer el):=by
   unfold ptrT at hb
   split at hb
   ·rename_i el e;exact ⟨el,e⟩
   ·cases hb
  obtain ⟨q,hq,rfl⟩:=nilOf_ok (h.ev x) hx
  refine ⟨_,fun w' _ => ?_,by rw [RV];exact .lit rfl⟩
  have heq:(Op.equal ty (.pointer q) (.pointer none)).run P w' = .ok q.isNone w':=by
   show (Op.equalIn (9999+1) ty (.pointer q) (.pointer none)).run P w'=_
   rw [Op.equalIn]
   cases q <;> simp [run_underlying hu]
  rcases hop with rfl | rfl <;> simp [execOp,ho,hq,litOf_ok (h.ev y) hy,eqGuard,binOp,heq]
theorem ev_eqB {op:BinOp} {ty yt:TypeId} {x y:Operand} {p q:Bool} (ho:o.op = .binOp op ty x y yt) (hop:op = .eql∨op = .neq) (hb:boolT P ty=true) (hx:litOf (ev st x)=some (.bool p)) (hy:litOf (ev st y)=some (.bool q)) :
  EvS P o st (.one (.d (.lit (.bool (if op = .eql then p == q else p != q))))) true:=fun β F ι a w h=>by
  have hu:P.underlying ty=some .bool:=by
   unfold boolT at hb
   split at hb
   ·rename_i e;exact e
   ·cases hb
  refine ⟨_,fun w' _ => ?_,by rw [RV];exact .lit rfl⟩
  have heq:(Op.equal ty (.bool p) (.bool q)).run P w' = .ok (p == q) w':=by
   show (Op.equalIn (9999+1) ty (.bool p) (.bool q)).run P w'=_
   rw [Op.equalIn]
   simp [run_underlying hu]
  rcases hop with rfl | rfl <;> simp [execOp,ho,litOf_ok (h.ev x) hx,litOf_ok (h.ev y) hy,eqGuard,binOp,heq,bne]
theorem ev_not {ty:TypeId} {x:Operand} {b:Bool} (ho:o.op = .unOp .not ty x) (hx:litOf (ev st x)=some (.bool b)):EvS P o st (.one (.d (.lit (.bool (!b))))) true:=fun β F ι a w h=>⟨.bool (!b),fun w' _=>by simp [execOp,ho,litOf_ok (h.ev x) hx,Op.unary],by rw [RV];exact .lit rfl⟩
theorem ev_neg {ty:TypeId} {x:Operand} {k:IntKind} {n:Int} (ho:o.op = .unOp .neg ty x) (hx:litOf (ev st x)=some (.int k n)):EvS P o st (.one (.d (.lit (.int k (k.wrap (0-n)))))) true:=fun β F ι a w h=>⟨.int k (k.wrap (0-n)),fun w' _=>by simp [execOp,ho,litOf_ok (h.ev x) hx,Op.unary,Op.intArith],by rw [RV];exact .lit rfl⟩
def intT (P:Program) (t:TypeId):Option IntKind:=match P.underlying t with
 | some (.int k)=>some k
 | _=>none
theorem ev_conv {sr ds:TypeId} {x:Operand} {k k':IntKind} {n:Int} (ho:o.op = .convert sr ds x) (hx:litOf (ev st x)=some (.int k n)) (hs:intT P sr=some k) (hd:intT P ds=some k'):EvS P o st (.one (.d (.lit (.int k' (k'.wrap n))))) true:=fun β F ι a w h=>by
  have hu : ∀ {t:TypeId} {k:IntKind}, intT P t=some k->P.underlying t=some (.int k):=fun {t k} h=>by
   unfold intT at h
   split at h
   ·rename_i e;simp only [Option.some.injEq] at h;subst h;exact e
   ·cases h
  refine ⟨.int k' (k'.wrap n),fun w' _ => ?_,by rw [RV];exact .lit rfl⟩
  simp [execOp,ho,litOf_ok (h.ev x) hx,convert,run_underlying (hu hs),run_underlying (hu hd),Conv.intToInt]
theorem ev_extract {x:Operand} {i:Nat} {ds:List D} {d:D} (ho:o.op = .extract x i) (hx:ev st x = .tup ds) (hd:ds[i]? = some d):EvS P o st d true:=fun β F ι a w h=>by
  have he:=h.ev x
  rw [hx,RV] at he
  obtain ⟨xs,hv,hr⟩:=he
  have hget : ∀ {ds:List D} {vs:List Value} {E:Env} {ι:Nms}, RVs E w ι ds vs -> ∀ {t:Nat} {d:D}, ds[t]? = some d -> ∃ v,vs[t]? = some v∧RV E w ι d v:=by
   intro ds
   induction ds with
   | nil=>intro vs E ι h t d hd;simp at hd
   | cons d ds ih=>intro vs E ι h t e hd;cases vs with
    | nil=>simp [RVs] at h
    | cons v vs =>
     rw [RVs] at h
     cases t with
     | zero=>simp only [List.getElem?_cons_zero,Option.some.injEq] at hd;subst hd;exact ⟨v,rfl,h.1⟩
     | succ t=>exact ih h.2 (by simpa using hd)
  obtain ⟨v,g1,g2⟩:=hget hr hd
  refine ⟨v,fun w' _ => ?_,g2⟩
  have:xs[i]? = some v:=by simpa using g1
  simp [execOp,ho,hv,Instr.extract,this]
end
def byOf (P:Program) (t:TypeId):Option Nat:=(P.info? t).map (·.bytes)
def srcOf (st:St) (d:D):Option (List (List C)):=match d with
 | .one (.d (.sl _ es))=>some (es.map fun e=>e.map .d)
 | .one (.d .emp)=>some []
 | .one (.own n k l)=>(st.H n).bind fun x=>if x.k=k∧l≤x.es.length then some (x.es.take l) else none
 | _=>none
structure SrcC (P:Program) (E:Env) (w:World) (ι:Nms) (k:Nat) (tx:TypeId) (v:Value) (es:List (List C)) (news:List Value):Prop where
 src:Src P k tx v es.length news w
 rel : ∀ i j c,nth2 es i j=some c -> ∃ u,news[i*k+j]? = some u∧RC E w ι c u
theorem lt_mul {i j m k:Nat} (h:i<m) (hj:j<k):i*k+j<m*k:=by
 have:(i+1)*k≤m*k:=Nat.mul_le_mul_right k h
 rw [Nat.succ_mul] at this
 omega
theorem flat_at {α:Type} {k:Nat} (f:Nat->Nat->α) {m:Nat} (hk:0<k) (i j:Nat) (hi:i<m) (hj:j<k):((List.range (m*k)).map fun x=>f (x/k) (x%k))[i*k+j]? = some (f i j):=by
 have h1:i*k+j<m*k:=lt_mul hi hj
 have h2:(i*k+j)/k=i:=by rw [Nat.mul_comm,Nat.mul_add_div hk,Nat.div_eq_of_lt hj,Nat.add_zero]
 have h3:(i*k+j)%k=j:=by rw [Nat.mul_comm,Nat.mul_add_mod];exact Nat.mod_eq_of_lt hj
 simp [h1,h2,h3]
theorem src_ok {P:Program} {β:Base} {F:Nat->Prop} {ι:Nms} {st:St} {a:Act} {w:World} (h:Holds β F ι st a w) {d:D} {v:Value} (hd:RV ⟨F,β.B⟩ w ι d v) {es:List (List C)} (hs:srcOf st d=some es) {k:Nat} (hk0:0<k) (hk : ∀ e∈es,e.length=k)
  {tx e':TypeId} (hu:P.underlying tx=some (.slice e')) : ∃ news,SrcC P ⟨F,β.B⟩ w ι k tx v es news:=by
 unfold srcOf at hs
 split at hs
 ·rename_i S ds
  simp only [Option.some.injEq] at hs
  subst hs
  rw [RV] at hd
  cases hd with
  | sl X h1 h2 hk' h3 h4 h5 =>
   rename_i A cap k'
   have hlen:(ds.map fun e=>e.map C.d).length=ds.length:=by simp
   cases ds with
   | nil =>
    refine ⟨[],⟨?_,fun i j c hc=>by simp [nth2] at hc⟩⟩
    cases A with
    | none=>exact Src.ofNil w hu _
    | some ad=>exact Src.ofSlice w hu ad _ _ [] (by simp) (fun j u hj=>by simp at hj) (fun u hu=>by simp at hu)
   | cons d0 ds =>
    obtain ⟨b,o,rfl,hok,hc⟩:=h4 (by simp)
    have hkk:k'=k:=by
     rw [← hk' d0 (List.mem_cons_self ..), ← hk (d0.map C.d) (by simp)];simp
    subst hkk
    generalize hds:(d0::ds)=L at *
    have hfull : ∀ i j,i<L.length->j<k' -> ∃ c,nth2 L i j=some c:=fun i j hi hj=>by
     have:=hk' L[i] (List.getElem_mem hi)
     exact ⟨(L[i])[j]'(by omega),by simp [nth2,hi]⟩
    refine ⟨(List.range (L.length*k')).map fun x=>X (x/k') (x%k'),⟨?_,fun i j c hn => ?_⟩⟩
    ·rw [hlen]
     refine Src.ofSlice w hu ⟨b,o,none⟩ _ _ _ (by simp) (fun j u hj => ?_) (fun u hu => ?_)
     ·have hjl:j<L.length*k':=by have:=(List.getElem?_eq_some_iff.1 hj).1;simpa using this
      have hi:j/k'<L.length:=(Nat.div_lt_iff_lt_mul hk0).2 hjl
      have hm:j%k'<k':=Nat.mod_lt _ hk0
      obtain ⟨c,hcc⟩:=hfull (j/k') (j%k') hi hm
      have hq:=hc _ _ c hcc
      rw [Addr.add_mid]
      rw [Nat.add_assoc,show j/k'*k'+j%k'=j by rw [Nat.mul_comm];exact Nat.div_add_mod j k'] at hq
      simp [hjl] at hj
      rw [hq, ← hj]
     ·obtain ⟨x,hx,rfl⟩:=List.mem_map.1 hu
      have hx:=List.mem_range.1 hx
      obtain ⟨c,hcc⟩:=hfull (x/k') (x%k') ((Nat.div_lt_iff_lt_mul hk0).2 hx) (Nat.mod_lt _ hk0)
      exact (h5 _ _ c hcc).one
    ·have hn' : ∃ c',nth2 L i j=some c'∧c = .d c':=by
      unfold nth2 at hn ⊢
      rw [List.getElem?_map] at hn
      cases hq:L[i]? with
      | none=>simp [hq] at hn
      | some e =>
       simp only [hq,Option.map_some,Option.bind_some,List.getElem?_map] at hn ⊢
       cases hq2:e[j]? with
       | none=>simp [hq2] at hn
       | some c'=>simp only [hq2,Option.map_some,Option.some.injEq] at hn;exact ⟨c',rfl,hn.symm⟩
     obtain ⟨c',hc',rfl⟩:=hn'
     have hl:=nth2_lt hc' hk'
     exact ⟨_,flat_at X hk0 i j hl.1 hl.2,(h5 i j c' hc').keep (solid_le _ w)⟩
 ·simp only [Option.some.injEq] at hs
  subst hs
  rw [RV] at hd
  cases hd with
  | emp =>
   rename_i A
   refine ⟨[],⟨?_,fun i j c hc=>by simp [nth2] at hc⟩⟩
   cases A with
   | none=>exact Src.ofNil w hu _
   | some ad=>exact Src.ofSlice w hu ad _ _ [] (by simp) (fun j u hj=>by simp at hj) (fun u hu=>by simp at hu)
 ·rename_i n k' l
  cases hH:st.H n with
  | none=>simp [hH] at hs
  | some x =>
   simp only [hH,Option.bind_some] at hs
   split at hs
   ·rename_i hcond
    obtain ⟨rfl,hl⟩:=hcond
    simp only [Option.some.injEq] at hs
    subst hs
    rw [RV] at hd
    obtain ⟨b,cap,p1,p2,p3,p4⟩:=hd
    obtain ⟨b',cap',q1,q2,q3,q4⟩:=h.heap.blk n x hH
    rw [p1] at q1
    simp only [Option.some.injEq,Prod.mk.injEq] at q1
    obtain ⟨rfl,rfl⟩:=q1
    have hlen:(x.es.take l).length=l:=by simp;omega
    rcases p4 with ⟨h0,A,rfl⟩ | ⟨h0,rfl⟩
    ·subst h0
     obtain rfl:l=0:=Nat.le_zero.1 p2
     refine ⟨[],⟨?_,fun i j c hc=>by simp [nth2] at hc⟩⟩
     rw [hlen]
     cases A with
     | none=>exact Src.ofNil w hu _
     | some ad=>exact Src.ofSlice w hu ad _ _ [] (by simp) (fun j u hj=>by simp at hj) (fun u hu=>by simp at hu)
    ·obtain ⟨arr,r1,r2,r3,r4⟩:=q4 h0
     by_cases hl0:l=0
     ·subst hl0
      refine ⟨[],⟨Src.ofSlice w hu _ _ _ [] (by simp) (fun j u hj=>by simp at hj) (fun u hu=>by simp at hu),fun i j c hc=>by simp [nth2] at hc⟩⟩
     ·have hkk:x.k=k:=by
       cases hes:x.es with
       | nil=>simp [hes] at hl;omega
       | cons e es =>
        rw [← q3 e (by rw [hes];exact List.mem_cons_self ..)]
        exact hk e (by rw [hes];obtain ⟨m,rfl⟩ : ∃ m,l=m+1:=⟨l-1,by omega⟩;simp)
      have hsz:l*k≤arr.size:=by rw [r2,hkk];exact Nat.mul_le_mul_right k p2
      refine ⟨arr.toList.take (l*k),⟨?_,fun i j c hc => ?_⟩⟩
      ·rw [hlen]
       refine Src.ofSlice w hu _ _ _ _ (by simp;omega) (fun j u hj => ?_) (fun u hu=>r3 u (by simpa using List.mem_of_mem_take hu))
       rw [Addr.add_mid,Nat.zero_add]
       rw [List.getElem?_take] at hj
       split at hj
       ·exact r1.cell (by simpa using hj)
       ·cases hj
      ·have hlt:=nth2_lt hc (fun e he=>q3 e (List.mem_of_mem_take he))
       rw [hlen] at hlt
       have hc':nth2 x.es i j=some c:=by
        unfold nth2 at hc ⊢
        rw [List.getElem?_take,if_pos hlt.1] at hc
        exact hc
       obtain ⟨u,g1,g2⟩:=r4 i j c hc'
       rw [hkk] at g1 hlt
       exact ⟨u,by rw [List.getElem?_take,if_pos (lt_mul hlt.1 hlt.2)];simpa using g1,g2⟩
   ·cases hs
 ·cases hs
theorem run_append_room' {P:Program} (w:World) (t tx ty e:TypeId) (i:TypeInfo) (ht:P.underlying t=some (.slice e)) (hi:P.info? e=some i) (b sLen sCap:Nat) (x:Value) (n:Nat) (news:List Value) (hs:Src P i.size tx x n news w)
  (hroom:sLen+n≤sCap) (arr:Array Value) (hg:w.heap[b]? = some (.cells arr e (0,0))) (hl:sLen*i.size+news.length≤arr.size) :
  (Builtin.append_ #[t,tx] ty #[.slice (some ⟨b,0,none⟩) sLen sCap,x]).run P w = .ok (.slice (some ⟨b,0,none⟩) (sLen+n) sCap) (w.setRow b (arr.toList.take (sLen*i.size)++news++arr.toList.drop (sLen*i.size+news.length)).toArray):=by
 have hst:=run_storeCells_at (P:=P) b (sLen*i.size) e news 0 arr w hg (by omega) hs.one
 simp only [Nat.add_zero] at hst
 rcases hs.kind with ⟨e',hk⟩ | hk <;> simp [Builtin.append_,run_underlying ht,run_underlying hk,sizeOf,typeInfo,hi,hs.len,hroom,hs.cells,Addr.add_lit,hst]
theorem HpOk.drop {β:Base} {F:Nat->Prop} {w:World} {ι:Nms} {H:Hp} {nx:Nat} (h:HpOk β F w ι H nx) (n:Nat):HpOk β F w ι (H.set n none) nx:=by
 have hset : ∀ m,H.set n none m≠none->m≠n∧H m≠none:=fun m hm=>by
  by_cases e:m=n
  ·subst e;simp at hm
  ·exact ⟨e,by rwa [Hp.set_ne _ _ e] at hm⟩
 refine ⟨h.size,h.keep,h.Flt,h.Fof,h.F0,fun m x hm => ?_,fun m b cap hm=>h.own m b cap (hset m hm).2,fun m m' b c c' hm hm'=>h.inj m m' b c c' (hset m hm).2 (hset m' hm').2,h.nx,h.nm,h.io⟩
 have:=hset m (by rw [hm];simp)
 rw [Hp.set_ne _ _ this.1] at hm
 exact h.blk m x hm
theorem HpOk.drew {β:Base} {F:Nat->Prop} {w:World} {ι:Nms} {H:Hp} {nx:Nat} (h:HpOk β F w ι H nx):HpOk β F w.drew ι H nx∧Env.le ⟨F,β.B⟩ ⟨F,β.B⟩ w w.drew:=by
 have hle:Env.le ⟨F,β.B⟩ ⟨F,β.B⟩ w w.drew:=⟨fun _ h=>h,fun _ h=>h,fun _ _=>rfl,fun _ _=>rfl⟩
 exact ⟨⟨h.size,h.keep,h.Flt,h.Fof,h.F0,fun n x hn=>(h.blk n x hn).keep hle (Nms.le_refl _) fun _ _ _ _=>rfl,h.own,h.inj,h.nx,h.nm,h.io.trans ⟨rfl,rfl,rfl⟩⟩,hle⟩
theorem nth2_append {α:Type} {xs ys:List (List α)} {i j:Nat} {c:α} (h:nth2 (xs++ys) i j=some c):(i<xs.length∧nth2 xs i j=some c)∨(xs.length≤i∧nth2 ys (i-xs.length) j=some c):=by
 unfold nth2 at h ⊢
 by_cases hi:i<xs.length
 ·rw [List.getElem?_append_left hi] at h
  exact .inl ⟨hi,h⟩
 ·rw [List.getElem?_append_right (by omega)] at h
  exact .inr ⟨by omega,h⟩
def baseOf (st:St) (d:D):Option (Option Nat×List (List C)):=match d with
 | .one (.d .emp)=>some (none,[])
 | .one (.own n k l)=>(st.H n).bind fun x=>if x.k=k∧l≤x.es.length then some (some n,x.es.take l) else none
 | _=>none
def dropO (H:Hp):Option Nat->Hp
 | some n=>H.set n none
 | none=>H
theorem HpOk.dropO {β:Base} {F:Nat->Prop} {w:World} {ι:Nms} {H:Hp} {nx:Nat} (h:HpOk β F w ι H nx) (n:Option Nat):HpOk β F w ι (Go.Proofs.YtbphdcffpobcbaaGreatDoor.dropO H n) nx:=by
 cases n with
 | none=>exact h
 | some n=>exact h.drop n
def St.row (st:St) (n:Option Nat) (x:Blk):St:=⟨st.n,st.tm,(dropO st.H n).set st.nx (some x),st.nx+1⟩
section
variable {P:Program} {qt:Bool} {o:Oper} {st:St} {K:St->Prop} {t:Nat}
theorem ev_append {ty tx : TypeId} {x y : Operand} {e : TypeId} {k by' : Nat} {zs : List Value} {ez : TypeId × Nat} {n : Option Nat} {es ns : List (List C)} (ho : o.op = .call { callee := .builtin .append, args := #[x, y], argTypes := #[ty, tx] })
    (he : elOf P ty = some (e, k)) (hk : 0 < k) (hby : byOf P e = some by') (hb1 : by' ≤ 1024) (hz : zeroOf P e = some zs) (hzl : zs.length = k) (hz1 : zs.all Value.oneCell' = true) (hex : elOf P tx = some ez)
    (hx : baseOf st (ev st x) = some (n, es)) (hbk : ∀ m b, n = some m → st.H m = some b → b.t = .c e ∧ b.k = k) (hy : srcOf st (ev st y) = some ns) (hns : ∀ d ∈ ns, d.length = k) (hbig : es.length + ns.length ≤ 100000000000 ∨ (es.length + ns.length ≤ 20000000000000 ∧ (es.length + ns.length) * by' ≤ 200000000000000)) (ht : o.dst = some t) (hn : t < st.n)
    (hK : K ((st.row n ⟨.c e, k, es ++ ns⟩).put t (.one (.own st.nx k (es.length + ns.length))))) : EvO P qt o st K := by
  obtain ⟨hu, hsz⟩ := elOf_run he
  refine EvO.val ht hn (st.row n ⟨.c e, k, es ++ ns⟩) rfl _ hK fun β F ι a w h => ?_
  suffices hs : ∃ v F' ι' w', (execOp a.eval o).run P w = .ok (.value v) w' ∧ Holds β F' ι' (st.row n ⟨.c e, k, es ++ ns⟩) a w' ∧ RV ⟨F', β.B⟩ w' ι' (.one (.own st.nx k (es.length + ns.length))) v by
    obtain ⟨v, F', ι', w', q1, q2, q3⟩ := hs
    exact ⟨v, F', ι', w', q1, q2, q3, fun hq => by rw [ho] at hq; cases hq⟩
  obtain ⟨news, hsrc, hrel⟩ := src_ok h (h.ev y) hy hk hns (elOf_run (e := ez.1) (k := ez.2) hex).1 (P := P)
  have hnew : ι st.nx = none := h.heap.nx _ (Nat.le_refl _)
  obtain ⟨i, hi, hisz⟩ : ∃ i, P.info? e = some i ∧ i.size = k := by
    unfold szOf at hsz
    cases hq : P.info? e with
    | none => simp [hq] at hsz
    | some i => exact ⟨i, rfl, by simpa [hq] using hsz⟩
  have hiby : i.bytes = by' := by unfold byOf at hby; simpa [hi] using hby
  obtain ⟨z, hzz, hzc⟩ : ∃ z, i.zero = some z ∧ z.cells = zs.toArray := by
    unfold zeroOf at hz
    cases hq : i.zero with
    | none => simp [hi, hq] at hz
    | some z => refine ⟨z, rfl, ?_⟩; simp [hi, hq] at hz; rw [← hz]
  subst hisz
  have hrun : ∀ v u, a.eval x = v → a.eval y = u → ∀ r w', (Builtin.append_ #[ty, tx] o.type #[v, u]).run P w = .ok r w' → (execOp a.eval o).run P w = .ok (.value r) w' := fun v u h1 h2 r w' hr => by
    simp [execOp, ho, resolve, h1, h2, invoke, builtin, hr]
  have hnl := hsrc.newsLen
  -- a new row
  have grow : ∀ (A : Option Addr) (l cap : Nat) (olds : List Value), a.eval x = .slice A l cap → l = es.length → cap < l + ns.length → olds.length = l * i.size → (∀ v ∈ olds, v.oneCell' = true) → (∀ p j c, nth2 es p j = some c → ∃ v, olds[p * i.size + j]? = some v ∧ RC ⟨F, β.B⟩ w ι c v) → (∀ d ∈ es, d.length = i.size) →
      (Builtin.firstCells i.size l (.slice A l cap)).run P w.drew = .ok olds.toArray w.drew →
      ∃ v F' ι' w', (execOp a.eval o).run P w = .ok (.value v) w' ∧ Holds β F' ι' (st.row n ⟨.c e, i.size, es ++ ns⟩) a w' ∧ RV ⟨F', β.B⟩ w' ι' (.one (.own st.nx i.size (es.length + ns.length))) v := by
    intro A l cap olds hv hl hcap hol ho1 hor hek hfc
    subst hl
    have hfit : Builtin.nextslicecap (es.length + ns.length) cap * i.bytes ≤ 281474976710656 := by
      have h1 := nextslicecap_le_wide hcap
      rcases hbig with hbig | ⟨-, hbig⟩
      · have h2 : Builtin.nextslicecap (es.length + ns.length) cap * i.bytes ≤ ((es.length + ns.length) + (es.length + ns.length) / 4 + 192) * 1024 := Nat.mul_le_mul h1 (by omega)
        omega
      · have h2 : Builtin.nextslicecap (es.length + ns.length) cap * i.bytes ≤ ((es.length + ns.length) + (es.length + ns.length) / 4 + 192) * by' := Nat.mul_le_mul h1 (by omega)
        have h3 : (es.length + ns.length) / 4 * by' * 4 ≤ (es.length + ns.length) * by' := by
          have := Nat.mul_le_mul_right by' (Nat.div_mul_le_self (es.length + ns.length) 4)
          rw [Nat.mul_right_comm]; exact this
        rw [Nat.add_mul, Nat.add_mul] at h2
        omega
    have hr := run_append_grow_src (P := P) w ty tx o.type e i z hu hi hzz A es.length cap olds hfc (a.eval y) ns.length news hsrc hcap (by omega) hfit
    have hge := grownCap_ge w (es.length + ns.length) cap e
    have hmx := grownCap_le_maxLen w (es.length + ns.length) cap e (by simp only [maxLen]; omega)
    generalize grownCap w (es.length + ns.length) cap e = c at hr hge hmx
    generalize hA : (olds ++ news).toArray ++ Builtin.zeroCells z.cells (c - (es.length + ns.length)) = arr at hr
    have hzs : z.cells.size = i.size := by rw [hzc]; simpa using hzl
    have hasz : arr.size = c * i.size := by
      rw [← hA, Array.size_append, size_zeroCells, hzs]
      simp only [List.size_toArray, List.length_append, hol, hnl, ← Nat.add_mul]
      congr 1; omega
    have harr1 : ∀ v ∈ arr, v.oneCell' = true := fun v hv => by
      rw [← hA] at hv
      rcases Array.mem_append.1 hv with hv | hv
      · rcases List.mem_append.1 (by simpa using hv) with hv | hv
        · exact ho1 v hv
        · exact hsrc.one v hv
      · unfold Builtin.zeroCells at hv
        obtain ⟨q, hq, rfl⟩ := Array.mem_map.1 hv
        have hpos : 0 < z.cells.size := by omega
        have hlt : q % z.cells.size < z.cells.size := Nat.mod_lt _ hpos
        have hmem : ∀ v ∈ z.cells, v ∈ zs := by rw [hzc]; simp
        have : z.cells[q % z.cells.size]! ∈ zs := by
          rw [getElem!_pos z.cells _ hlt]
          exact hmem _ (Array.getElem_mem hlt)
        exact List.all_eq_true.1 hz1 _ this
    obtain ⟨g1, g2⟩ := (h.heap.dropO n).drew
    have hcp : 0 < c := by omega
    obtain ⟨k1, k2, k3⟩ := g1.alloc (w' := w.drew.alloc (.cells arr e)) arr e i.size (es ++ ns) c hcp rfl ⟨rfl, rfl, rfl⟩ (by simp; omega) (fun d hd => by
      rcases List.mem_append.1 hd with hd | hd
      · exact hek d hd
      · exact hns d hd) hasz harr1 (fun p j cc hc => by
      have hkk : ∀ d ∈ es ++ ns, d.length = i.size := fun d hd => by
        rcases List.mem_append.1 hd with hd | hd
        · exact hek d hd
        · exact hns d hd
      have hc : nth2 (es ++ ns) p j = some cc := hc
      show ∃ v, arr[p * i.size + j]? = some v ∧ _
      have hlt : p < (es ++ ns).length ∧ j < i.size := nth2_lt hc hkk
      have harr : ∀ q, q < (olds ++ news).length → arr[q]? = (olds ++ news)[q]? := fun q hq => by
        rw [← hA, Array.getElem?_append_left (by simpa using hq)]; simp
      rcases nth2_append hc with ⟨hp, hc⟩ | ⟨hp, hc⟩
      · obtain ⟨v, q1, q2⟩ := hor p j cc hc
        have hq := (List.getElem?_eq_some_iff.1 q1).1
        refine ⟨v, ?_, q2.keep g2 (Nms.le_refl _)⟩
        rw [harr _ (by simp; omega), List.getElem?_append_left hq]; exact q1
      · obtain ⟨v, q1, q2⟩ := hrel _ j cc hc
        have hq := (List.getElem?_eq_some_iff.1 q1).1
        refine ⟨v, ?_, q2.keep g2 (Nms.le_refl _)⟩
        have e1 : p * i.size = es.length * i.size + (p - es.length) * i.size := by rw [← Nat.add_mul]; congr 1; omega
        rw [harr _ (by simp; omega), List.getElem?_append_right (by omega), ← q1]
        congr 1; omega)
    refine ⟨_, F, _, _, hrun _ _ hv rfl _ _ hr, ⟨h.good, h.defers, h.size, fun u => ((h.tm u).keep g2 (Nms.le_refl _)).keep k2 k3, k1⟩, ?_⟩
    rw [RV]
    exact ⟨w.drew.heap.size, c, by simp [Nms.set], hge, hmx, .inr ⟨hcp, rfl⟩⟩
  unfold baseOf at hx
  have hvx := h.ev x
  split at hx
  · rename_i hd
    simp only [Option.some.injEq, Prod.mk.injEq] at hx
    obtain ⟨rfl, rfl⟩ := hx
    rw [hd, RV] at hvx
    obtain ⟨A, hv⟩ : ∃ A, a.eval x = .slice A 0 0 := by
      generalize a.eval x = q at hvx
      cases hvx
      exact ⟨_, rfl⟩
    have hfc0 : (Builtin.firstCells i.size 0 (.slice A 0 0)).run P w.drew = .ok ([] : List Value).toArray w.drew := by
      cases A with
      | none => exact run_firstCells_none w.drew i.size 0 0 0
      | some ad => exact run_firstCells_some w.drew i.size 0 ad 0 0 [] (by simp) (fun j u hj => by simp at hj)
    by_cases hm : ns = []
    · subst hm
      obtain rfl : news = [] := List.eq_nil_of_length_eq_zero (by simpa using hnl)
      have hr : (Builtin.append_ #[ty, tx] o.type #[.slice A 0 0, a.eval y]).run P w = .ok (.slice A 0 0) w := by
        have hcells : (Builtin.firstCells i.size 0 (a.eval y)).run P w = .ok #[] w := hsrc.cells
        have hlen : ∀ w', (Builtin.lenOf (a.eval y)).run P w' = .ok 0 w' := hsrc.len
        rcases hsrc.kind with ⟨e', hk'⟩ | hk' <;> cases A <;> simp [Builtin.append_, run_underlying hu, run_underlying hk', sizeOf, typeInfo, hi, hlen, hcells, storeCells]
      obtain ⟨g1, g2⟩ := h.heap.adopt (x := ⟨.c e, i.size, []⟩) (b := 0) (cap := 0) ⟨0, 0, by simp [Nms.set], Nat.le_refl _, by simp, fun h => absurd h (by omega)⟩ (fun h => absurd h (by omega)) (fun _ _ _ _ _ h => absurd h (by omega))
      refine ⟨_, F, _, w, hrun _ _ hv rfl _ _ hr, ⟨h.good, h.defers, h.size, fun u => (h.tm u).keep ⟨fun _ h => h, fun _ h => h, fun _ _ => rfl, fun _ _ => rfl⟩ g2, g1⟩, ?_⟩
      rw [RV]
      exact ⟨0, 0, by simp [Nms.set], by simp, by simp [maxLen], .inl ⟨rfl, A, rfl⟩⟩
    · have : 0 < ns.length := List.length_pos_iff.2 hm
      exact grow A 0 0 [] hv rfl (by omega) (by simp) (fun v hv => by simp at hv) (fun p j c hc => by simp [nth2] at hc) (fun d hd => by simp at hd) hfc0
  · rename_i m k' l hd
    cases hH : st.H m with
    | none => simp [hH] at hx
    | some b =>
      simp only [hH, Option.bind_some] at hx
      split at hx
      · rename_i hcond
        obtain ⟨rfl, hl⟩ := hcond
        simp only [Option.some.injEq, Prod.mk.injEq] at hx
        obtain ⟨rfl, rfl⟩ := hx
        obtain ⟨hbt, hbk'⟩ := hbk m b rfl hH
        have hlen : (b.es.take l).length = l := by simp; omega
        rw [hd, RV] at hvx
        obtain ⟨bn, cap, p1, p2, p3, p4⟩ := hvx
        obtain ⟨bn', cap', q1, q2, q3, q4⟩ := h.heap.blk m b hH
        rw [p1] at q1
        simp only [Option.some.injEq, Prod.mk.injEq] at q1
        obtain ⟨rfl, rfl⟩ := q1
        have hek : ∀ d ∈ b.es.take l, d.length = i.size := fun d hd => by rw [← hbk']; exact q3 d (List.mem_of_mem_take hd)
        rcases p4 with ⟨h0, A, hv⟩ | ⟨h0, hv⟩
        · subst h0
          obtain rfl : l = 0 := Nat.le_zero.1 p2
          have hfc0 : (Builtin.firstCells i.size 0 (.slice A 0 0)).run P w.drew = .ok ([] : List Value).toArray w.drew := by
            cases A with
            | none => exact run_firstCells_none w.drew i.size 0 0 0
            | some ad => exact run_firstCells_some w.drew i.size 0 ad 0 0 [] (by simp) (fun j u hj => by simp at hj)
          by_cases hm : ns = []
          · subst hm
            obtain rfl : news = [] := List.eq_nil_of_length_eq_zero (by simpa using hnl)
            have hr : (Builtin.append_ #[ty, tx] o.type #[.slice A 0 0, a.eval y]).run P w = .ok (.slice A 0 0) w := by
              have hcells : (Builtin.firstCells i.size 0 (a.eval y)).run P w = .ok #[] w := hsrc.cells
              have hlen : ∀ w', (Builtin.lenOf (a.eval y)).run P w' = .ok 0 w' := hsrc.len
              rcases hsrc.kind with ⟨e', hk'⟩ | hk' <;> cases A <;> simp [Builtin.append_, run_underlying hu, run_underlying hk', sizeOf, typeInfo, hi, hlen, hcells, storeCells]
            obtain ⟨g1, g2⟩ := (h.heap.drop m).adopt (x := ⟨.c e, i.size, []⟩) (b := 0) (cap := 0) ⟨0, 0, by simp [Nms.set], Nat.le_refl _, by simp, fun h => absurd h (by omega)⟩ (fun h => absurd h (by omega)) (fun _ _ _ _ _ h => absurd h (by omega))
            refine ⟨_, F, _, w, hrun _ _ hv rfl _ _ hr, ⟨h.good, h.defers, h.size, fun u => (h.tm u).keep ⟨fun _ h => h, fun _ h => h, fun _ _ => rfl, fun _ _ => rfl⟩ g2, g1⟩, ?_⟩
            rw [RV]
            exact ⟨0, 0, by simp [Nms.set], by simp, by simp [maxLen], .inl ⟨rfl, A, rfl⟩⟩
          · have : 0 < ns.length := List.length_pos_iff.2 hm
            exact grow A 0 0 [] hv (by simp) (by omega) (by simp) (fun v hv => by simp at hv) (fun p j c hc => by simp [nth2] at hc) (fun d hd => by simp at hd) hfc0
        · obtain ⟨arr, r1, r2, r3, r4⟩ := q4 h0
          rw [hbk'] at r2 r4
          rw [hbt] at r1
          replace r1 : w.heap[bn]? = some (.cells arr e (0, 0)) := r1
          have hlk : l * i.size ≤ arr.size := by rw [r2]; exact Nat.mul_le_mul_right _ p2
          have hold : ∀ p j c, nth2 (b.es.take l) p j = some c → ∃ v, (arr.toList.take (l * i.size))[p * i.size + j]? = some v ∧ RC ⟨F, β.B⟩ w ι c v := fun p j c hc => by
            have hlt := nth2_lt hc hek
            rw [hlen] at hlt
            have hc' : nth2 b.es p j = some c := by
              unfold nth2 at hc ⊢
              rw [List.getElem?_take, if_pos hlt.1] at hc
              exact hc
            obtain ⟨u, g1, g2⟩ := r4 p j c hc'
            exact ⟨u, by rw [List.getElem?_take, if_pos (lt_mul hlt.1 hlt.2)]; simpa using g1, g2⟩
          by_cases hroom : l + ns.length ≤ cap
          · have hfit : l * i.size + news.length ≤ arr.size := by
              rw [hnl, ← Nat.add_mul, r2]; exact Nat.mul_le_mul_right _ hroom
            have hr := run_append_room' (P := P) w ty tx o.type e i hu hi bn l cap (a.eval y) ns.length news hsrc hroom arr r1 hfit
            generalize hL : arr.toList.take (l * i.size) ++ news ++ arr.toList.drop (l * i.size + news.length) = L at hr
            have hLl : L.length = arr.size := by rw [← hL]; simp; omega
            have hget : ∀ j, L[j]? = if l * i.size ≤ j ∧ j < l * i.size + news.length then news[j - l * i.size]? else arr[j]? := fun j => by
              rw [← hL, splice_get (by simpa using hfit)]; simp
            obtain ⟨g1, g2⟩ := h.heap.write (w' := w.setRow bn L.toArray) hH p1 h0 L.toArray ⟨.c e, i.size, b.es.take l ++ ns⟩ (fun b' hb' => setRow_other w bn b' _ hb') (by simp) ⟨rfl, rfl, rfl⟩ (setRow_heap w bn arr _ e _ r1)
              (by simp; omega) (fun d hd => by
                rcases List.mem_append.1 hd with hd | hd
                · exact hek d hd
                · exact hns d hd) (by simp only [List.size_toArray]; rw [hLl]; exact r2) (fun v hv => by
                have hv : v ∈ L := by simpa using hv
                obtain ⟨j, hj⟩ := List.getElem?_of_mem hv
                rw [hget] at hj
                split at hj
                · exact hsrc.one v (List.mem_of_getElem? hj)
                · exact r3 v (Array.mem_of_getElem? hj)) (fun p j c hc => by
                have hc : nth2 (b.es.take l ++ ns) p j = some c := hc
                show ∃ v, L.toArray[p * i.size + j]? = some v ∧ _
                simp only [List.getElem?_toArray, hget]
                have hkk : ∀ d ∈ b.es.take l ++ ns, d.length = i.size := fun d hd => by
                  rcases List.mem_append.1 hd with hd | hd
                  · exact hek d hd
                  · exact hns d hd
                have hlt : p < (b.es.take l ++ ns).length ∧ j < i.size := nth2_lt hc hkk
                rcases nth2_append hc with ⟨hp, hc⟩ | ⟨hp, hc⟩
                · rw [hlen] at hp
                  have hlt2 := lt_mul hp hlt.2
                  rw [if_neg (by omega)]
                  obtain ⟨v, q1, q2⟩ := hold p j c hc
                  exact ⟨v, by rw [List.getElem?_take, if_pos hlt2] at q1; simpa using q1, q2⟩
                · rw [hlen] at hp hc
                  obtain ⟨v, q1, q2⟩ := hrel _ j c hc
                  have hq := (List.getElem?_eq_some_iff.1 q1).1
                  have e1 : p * i.size = l * i.size + (p - l) * i.size := by rw [← Nat.add_mul]; congr 1; omega
                  rw [if_pos (by omega)]
                  exact ⟨v, by rw [← q1]; congr 1; omega, q2⟩)
            -- the block is handed on under the new name
            obtain ⟨c1, c2, c3, c4, c5⟩ := g1.blk m _ (Hp.set_same _ _ _)
            obtain ⟨bq, capq, cq1, cq2⟩ : ∃ bq capq, ι m = some (bq, capq) ∧ (bq = bn ∧ capq = cap) := ⟨bn, cap, p1, rfl, rfl⟩
            have hmx : m ≠ st.nx := fun e => by rw [e, hnew] at p1; cases p1
            have hblk := g1.blk m _ (Hp.set_same _ _ _)
            have hd := g1.drop m
            have hRB : RB ⟨F, β.B⟩ (w.setRow bn L.toArray) (ι.set st.nx (bn, cap)) st.nx ⟨.c e, i.size, b.es.take l ++ ns⟩ := by
              obtain ⟨b1, c1, d1, d2, d3, d4⟩ := hblk
              rw [p1] at d1
              simp only [Option.some.injEq, Prod.mk.injEq] at d1
              obtain ⟨rfl, rfl⟩ := d1
              refine ⟨bn, cap, by simp [Nms.set], d2, d3, fun hc => ?_⟩
              obtain ⟨arr', f1, f2, f3, f4⟩ := d4 hc
              exact ⟨arr', f1, f2, f3, fun p j c hj => let ⟨v, s1, s2⟩ := f4 p j c hj; ⟨v, s1, s2.keep ⟨fun _ h => h, fun _ h => h, fun _ _ => rfl, fun _ _ => rfl⟩ (Nms.le_set hnew)⟩⟩
            obtain ⟨s1, s2⟩ := hd.adopt (b := bn) (cap := cap) hRB (fun _ => by
                have := g1.own m bn cap (by simp) p1 h0
                exact this) (fun n' c hn' hb' hc' _ => by
                by_cases e' : n' = m
                · subst e'; simp at hn'
                · rw [Hp.set_ne _ _ e', Hp.set_ne _ _ e'] at hn'
                  exact e' (h.heap.inj n' m bn c cap hn' (by rw [hH]; simp) hb' p1 hc' h0))
            have hHeq : ((st.H.set m (some ⟨.c e, i.size, b.es.take l ++ ns⟩)).set m none) = st.H.set m none := by
              funext q
              by_cases hq : q = m
              · subst hq; simp
              · simp [Hp.set_ne _ _ hq]
            rw [hHeq] at s1
            refine ⟨_, F, _, _, hrun _ _ hv rfl _ _ hr, ⟨h.good, h.defers, h.size, fun u => ((h.tm u).keep g2 (Nms.le_refl _)).keep ⟨fun _ h => h, fun _ h => h, fun _ _ => rfl, fun _ _ => rfl⟩ s2, s1⟩, ?_⟩
            rw [RV]
            exact ⟨bn, cap, by simp [Nms.set], by rw [hlen]; exact hroom, p3, .inr ⟨h0, by rw [hlen]⟩⟩
          · have hfc : (Builtin.firstCells i.size l (.slice (some ⟨bn, 0, none⟩) l cap)).run P w.drew = .ok (arr.toList.take (l * i.size)).toArray w.drew :=
              run_firstCells_some w.drew i.size l ⟨bn, 0, none⟩ l cap _ (by simp; omega) (fun j u hj => by
                rw [Addr.add_mid, Nat.zero_add]
                rw [List.getElem?_take] at hj
                split at hj
                · show w.cell? _ = _
                  simp only [World.cell?, r1]; simpa using hj
                · cases hj)
            exact grow _ l cap _ hv hlen.symm (by omega) (by simp; omega) (fun v hv => r3 v (by simpa using List.mem_of_mem_take hv)) hold hek hfc
      · cases hx
  · cases hx
end
def C.frz (n:Nat) (e:List Dt):C->C
 | .ptr m k i o=>if m=n∧i=0 then .d (.at_ true (e.drop o)) else .ptr m k i o
 | c=>c
def D.frz (n:Nat) (e:List Dt):D->D
 | .one c => .one (c.frz n e)
 | d=>d
def frzT (n:Nat) (e:List Dt):List (Nat×D)->List (Nat×D)
 | []=>[]
 | (t,d)::l=>(t,d.frz n e)::frzT n e l
theorem lk_frzT (n:Nat) (e:List Dt) (u:Nat) : ∀ l,lk (frzT n e l) u=(lk l u).frz n e
 | []=>rfl
 | (t,d)::l=>by
  simp only [frzT,lk]
  by_cases h:u=t
  ·simp [h]
  ·simp [h,lk_frzT n e u l]
def St.frz (st:St) (n:Nat):St:=match st.H n with
 | some x=>match x.es with
  | [e]=>if (e.all C.isD)=true then ⟨st.n,frzT n (e.map C.dt) st.tm,st.H.set n none,st.nx⟩ else st
  | _=>st
 | none=>st
theorem Wk.frz (st:St) (n:Nat):Wk st (st.frz n):=fun β F ι a w h=>by
 unfold St.frz
 split
 ·rename_i x hx
  split
  ·rename_i e he
   split
   ·rename_i hall
    obtain ⟨b,cap,p1,p2,p3,p4⟩:=h.heap.blk n x hx
    rw [he] at p2 p3 p4
    have hc:0<cap:=by simp at p2;omega
    obtain ⟨arr,r1,r2,r3,r4⟩:=p4 hc
    obtain ⟨o1,o2,o3⟩:=h.heap.own n b cap (by rw [hx];simp) p1 hc
    have hk:e.length=x.k:=p3 e (by simp)
    let F':Nat->Prop:=fun q=>F q∨q=b
    have hle:Env.le ⟨F,β.B⟩ ⟨F',β.B⟩ w w:=⟨fun _ h => .inl h,fun _ h=>h,fun _ _=>rfl,fun _ _=>rfl⟩
    have hd:=h.heap.drop n
    have hset : ∀ m,st.H.set n none m≠none->m≠n∧st.H m≠none:=fun m hm=>by
     by_cases e:m=n
     ·subst e;simp at hm
     ·exact ⟨e,by rwa [Hp.set_ne _ _ e] at hm⟩
    refine ⟨F',ι,h.good,h.defers,h.size,fun t => ?_,⟨h.heap.size,h.heap.keep,fun q hq => ?_,fun q hq => ?_,fun q hq => .inl (h.heap.F0 q hq),fun m y hm=>(hd.blk m y hm).keep hle (Nms.le_refl _) fun _ _ _ _=>rfl,
     fun m q c hm hq hc' => ?_,hd.inj,h.heap.nx,h.heap.nm,h.heap.io⟩⟩
    ·simp only [lk_frzT]
     have ht:=(h.tm t).keep hle (Nms.le_refl ι)
     cases hl:lk st.tm t with
     | one c =>
      rw [hl] at ht
      cases c with
      | ptr m k i o =>
       simp only [D.frz,C.frz]
       split
       ·rename_i hmi
        obtain ⟨rfl,rfl⟩:=hmi
        rw [RV] at ht ⊢
        obtain ⟨b',cap',q1,q2,q3⟩:=ht
        rw [p1] at q1
        simp only [Option.some.injEq,Prod.mk.injEq] at q1
        obtain ⟨rfl,rfl⟩:=q1
        rw [q3,Nat.zero_mul,Nat.zero_add]
        have hcell : ∀ (j:Nat) c,((e.map C.dt).drop o)[j]? = some c->arr[o+j]? = some (arr.getD (o+j) undef)∧RD ⟨F',noB⟩ w c (arr.getD (o+j) undef):=fun j c hj=>by
         rw [List.getElem?_drop,List.getElem?_map] at hj
         cases hq:e[o+j]? with
         | none=>simp [hq] at hj
         | some c' =>
          simp only [hq,Option.map_some,Option.some.injEq] at hj
          subst hj
          obtain ⟨v,g1,g2⟩:=r4 0 (o+j) c' (by simp [nth2,hq])
          rw [Nat.zero_mul,Nat.zero_add] at g1
          have e2:arr.getD (o+j) undef=v:=by simp [Array.getD_eq_getD_getElem?, g1]
          rw [e2]
          exact ⟨g1,(g2.keep hle (Nms.le_refl ι)).dtSolid (all_isD hall hq)⟩
        exact RD.at_ (fun j=>arr.getD (o+j) undef) (.inl (.inr rfl)) (fun j c hj=>r1.cell (hcell j c hj).1) (fun j c hj=>(hcell j c hj).2)
       ·exact ht
      | _=>exact ht
     | _=>rw [hl] at ht;exact ht
    ·rcases hq with hq | rfl
     ·exact h.heap.Flt q hq
     ·exact o1
    ·rcases hq with hq | rfl
     ·exact h.heap.Fof q hq
     ·exact .inr o3
    ·obtain ⟨g1,g2⟩:=hset m hm
     obtain ⟨s1,s2,s3⟩:=h.heap.own m q c g2 hq hc'
     refine ⟨s1,fun hF => ?_,s3⟩
     rcases hF with hF | rfl
     ·exact s2 hF
     ·exact g1 (h.heap.inj m n q c cap g2 (by rw [hx];simp) hq p1 hc' hc)
   ·exact ⟨F,ι,h⟩
  ·exact ⟨F,ι,h⟩
 ·exact ⟨F,ι,h⟩
def ptrOf:D->List Nat
 | .one (.ptr n _ _ _)=>[n]
 | _=>[]
def St.frzs (st:St):List Nat->St
 | []=>st
 | n::l=>(st.frz n).frzs l
theorem Wk.frzs : ∀ (l:List Nat) (st:St),Wk st (st.frzs l)
 | [],st=>Wk.refl st
 | n::l,st=>(Wk.frz st n).trans (Wk.frzs l _)
theorem frz_n (st:St) (n:Nat):(st.frz n).n=st.n:=by
 unfold St.frz
 repeat' split
 all_goals rfl
theorem frzs_n : ∀ (l:List Nat) (st:St),(st.frzs l).n=st.n
 | [],_=>rfl
 | n::l,st=>by rw [St.frzs,frzs_n l,frz_n]
def dsOf (st:St):List Operand->Option (List Dt)
 | []=>some []
 | x::xs=>match ev st x with
  | .one (.d y)=>(dsOf st xs).map fun l=>y::l
  | _=>none
theorem dsOf_ok {β:Base} {F:Nat->Prop} {ι:Nms} {st:St} {a:Act} {w:World} (h:Holds β F ι st a w) : ∀ {xs:List Operand} {ds:List Dt}, dsOf st xs=some ds->ds.length=xs.length ∧ ∀ (j:Nat) c x,ds[j]? = some c->(xs.map a.eval)[j]? = some x->RD ⟨F,β.B⟩ w c x
 | [],ds,hd=>by simp only [dsOf,Option.some.injEq] at hd;subst hd;exact ⟨rfl,fun j c x hc=>by simp at hc⟩
 | x::xs,ds,hd=>by
  unfold dsOf at hd
  split at hd
  ·rename_i y hy
   cases h2:dsOf st xs with
   | none=>simp [h2] at hd
   | some l =>
    simp only [h2,Option.map_some,Option.some.injEq] at hd
    subst hd
    obtain ⟨g1,g2⟩:=dsOf_ok h h2
    refine ⟨by simp [g1],fun j c x' hc hx => ?_⟩
    cases j with
    | zero =>
     simp only [List.getElem?_cons_zero,Option.some.injEq,List.map_cons] at hc hx
     subst hc hx
     have:=h.ev x
     rw [hy,RV] at this
     exact this
    | succ j=>exact g2 j c x' (by simpa using hc) (by simpa using hx)
  ·cases hd
section
variable {P:Program} {qt:Bool} {o:Oper} {st:St} {K:St->Prop} {t:Nat}
theorem EvO.weak {st':St} (h:EvO P qt o st' K) (hw:Wk st st'):EvO P qt o st K:=fun β F ι a w hh next Q hn=>by
 obtain ⟨F',ι',h'⟩:=hw β F ι a w hh
 exact h β F' ι' a w h' next Q hn
theorem ev_makeFunc {fn:Fn} {xs ys:Array Operand} {fs cs:List Dt} (ho:o.op = .makeFunc fn xs ys) (hx:dsOf st xs.toList=some fs) (hy:dsOf st ys.toList=some cs):EvS P o st (.one (.d (.fn fn fs cs))) true:=fun β F ι a w h=>by
  obtain ⟨l1,h1⟩:=dsOf_ok h hx
  obtain ⟨l2,h2⟩:=dsOf_ok h hy
  refine ⟨.func fn (xs.map a.eval) (ys.map a.eval),fun w' _=>by simp [execOp,ho,Instr.makeFunc],?_⟩
  rw [RV]
  exact .fn (by simpa using l1.symm) (by simpa using l2.symm) (fun j c x hc hx=>h1 j c x hc (by simpa using hx)) (fun j c x hc hx=>h2 j c x hc (by simpa using hx))
def subC:C->Nat->Nat->Option C
 | .d (.sl S es),lo,hi=>some (.d (.sl S ((es.take hi).drop lo)))
 | .d .emp,lo,hi=>if lo=0∧hi=0 then some (.d .emp) else none
 | .own n k _,lo,hi=>if lo=0 then some (.own n k hi) else none
 | _,_,_=>none
def optInt (st:St):Option Operand->Int->Option Int
 | none,n=>some n
 | some x,_=>intOf? (ev st x)
theorem RC.sub {E:Env} {w:World} {ι:Nms} {c c':C} {lo hi l z:Nat} {v:Value} (h:RC E w ι c v) (hl:lenOf? (.one c)=some l) (h1:lo≤hi) (h2:hi≤l) (hs:subC c lo hi=some c') (hz : ∀ S es,c = .d (.sl S es) -> ∀ e∈es,e.length=z) :
  ∃ A cap,v = .slice A l cap∧l≤cap∧RC E w ι c' (.slice (if cap=lo then A else A.map (·.add (lo*z))) (hi-lo) (cap-lo)):=by
 cases c with
 | d x =>
  cases x with
  | sl S es =>
   simp only [lenOf?, Option.some.injEq] at hl
   subst hl
   simp only [subC,Option.some.injEq] at hs
   subst hs
   cases h with
   | sl X g1 g2 hk g3 g4 g5 =>
    rename_i A cap k
    refine ⟨A,cap,rfl,g1,?_⟩
    have hlen:((es.take hi).drop lo).length=hi-lo:=by simp;omega
    have hn2 : ∀ i j c,nth2 ((es.take hi).drop lo) i j=some c->nth2 es (lo+i) j=some c:=fun i j c hc=>by
     unfold nth2 at hc ⊢
     rw [List.getElem?_drop,List.getElem?_take] at hc
     split at hc
     ·exact hc
     ·simp at hc
    show RD E w _ _
    rw [show hi-lo=((es.take hi).drop lo).length from hlen.symm]
    refine RD.sl (k:=k) (fun i j=>X (lo+i) j) (by rw [hlen];omega) (by omega) (fun e he=>hk e (List.mem_of_mem_take (List.mem_of_mem_drop he))) (fun hA => ?_) (fun h0 => ?_) (fun i j c hc=>g5 _ j c (hn2 i j c hc))
    ·split at hA
     ·rename_i he;omega
     ·cases A with
      | none=>have:=g3 rfl;omega
      | some a=>simp at hA
    ·rw [hlen] at h0
     obtain ⟨b,o,rfl,hok,hc⟩:=g4 (by omega)
     have hne : ¬ cap=lo:=by omega
     rw [if_neg hne]
     cases hes:es with
     | nil=>subst hes;simp at h2;omega
     | cons e0 es' =>
      have hzk:z=k:=by rw [← hz S es rfl e0 (by rw [hes];simp),hk e0 (by rw [hes];simp)]
      refine ⟨b,o+lo*z,by simp [Addr.add_mid],hok,fun i j c hj => ?_⟩
      have:=hc (lo+i) j c (by rw [← hes] at hj;exact hn2 i j c hj)
      rw [hzk, ← this]
      congr 2
      rw [Nat.add_mul];omega
  | emp =>
   simp only [lenOf?, Option.some.injEq] at hl
   subst hl
   obtain rfl:hi=0:=by omega
   obtain rfl:lo=0:=by omega
   simp only [subC,and_self,if_true,Option.some.injEq] at hs
   subst hs
   cases h with
   | emp=>exact ⟨_,0,rfl,Nat.le_refl _,.emp⟩
  | _=>cases hl
 | own n k m =>
  simp only [lenOf?, Option.some.injEq] at hl
  subst hl
  simp only [subC] at hs
  split at hs
  ·rename_i h0
   subst h0
   simp only [Option.some.injEq] at hs
   subst hs
   obtain ⟨b,cap,p1,p2,p3,p4⟩:=h
   rcases p4 with ⟨q1,A,rfl⟩ | ⟨q1,rfl⟩
   ·subst q1
    obtain rfl:m=0:=Nat.le_zero.1 p2
    obtain rfl:hi=0:=by omega
    exact ⟨A,0,rfl,Nat.le_refl _,b,0,p1,Nat.le_refl _,p3,.inl ⟨rfl,_,rfl⟩⟩
   ·refine ⟨_,cap,rfl,p2,b,cap,p1,by omega,p3,.inr ⟨q1,?_⟩⟩
    simp [Addr.add_mid]
  ·cases hs
 | _=>cases hl
theorem ev_slice {ty e:TypeId} {z:Nat} {x:Operand} {lo hi:Option Operand} {c c':C} {l:Nat} {i j:Int} (ho:o.op = .slice ty x lo hi none) (hx:ev st x = .one c) (he:elOf P ty=some (e,z)) (hl:lenOf? (.one c)=some l) (hlo:optInt st lo 0=some i) (hhi:optInt st hi l=some j)
  (h0:0≤i) (h1:i≤j) (h2:j≤l) (hz : ∀ S es,c = .d (.sl S es) -> ∀ e∈es,e.length=z) (hs:subC c i.toNat j.toNat=some c'):EvS P o st (.one c') true:=fun β F ι a w h=>by
  have hv:=h.ev x
  rw [hx,RV] at hv
  obtain ⟨A,cap,hv,hcap,hr⟩:=RC.sub hv hl (by omega) (by omega) hs hz
  obtain ⟨hu,hsz⟩:=elOf_run he
  refine ⟨_,fun w' _ => ?_,by rw [RV];exact hr⟩
  have hb : ∀ (y:Operand) (n:Int),intOf? (ev st y)=some n -> ∃ k,a.eval y = .int k n:=fun y n hy=>intOf_ok h hy
  have key:(Instr.slice ty (a.eval x) (lo.map a.eval) (hi.map a.eval) none).run P w' = .ok (.slice (if cap=i.toNat then A else A.map (·.add (i.toNat*z))) (j.toNat-i.toNat) (cap-i.toNat)) w':=by
   rw [hv]
   cases hi with
   | none =>
    simp only [optInt,Option.some.injEq] at hhi
    subst hhi
    cases lo with
    | none =>
     simp only [optInt,Option.some.injEq] at hlo
     subst hlo
     simp [Instr.slice,run_underlying hu,Instr.sliceBounds,szOf_run hsz]
    | some y =>
     obtain ⟨k,hk⟩:=hb y i hlo
     simp [Instr.slice,run_underlying hu,Instr.sliceBounds,Instr.sliceBound,asIntOf,szOf_run hsz,hk,h0,h1]
   | some u =>
    obtain ⟨k,hk⟩:=hb u j hhi
    have hj0:0≤j:=by omega
    have hjc:j≤cap:=by omega
    cases lo with
    | none =>
     simp only [optInt,Option.some.injEq] at hlo
     subst hlo
     simp [Instr.slice,run_underlying hu,Instr.sliceBounds,Instr.sliceBound,asIntOf,szOf_run hsz,hk,hj0,hjc]
    | some y =>
     obtain ⟨k',hk'⟩:=hb y i hlo
     have:i≤(j.toNat:Int):=by omega
     have hmx : ¬ max j 0<i:=by omega
     simp [hmx,Instr.slice,run_underlying hu,Instr.sliceBounds,Instr.sliceBound,asIntOf,szOf_run hsz,hk,hk',hj0,hjc,h0,this]
  have hsa:(Instr.sliceAt ty (a.eval x) (lo.map a.eval) (hi.map a.eval) none).run P w' = .ok (.slice (if cap=i.toNat then A else A.map (·.add (i.toNat*z))) (j.toNat-i.toNat) (cap-i.toNat)) w':=by
   simp only [Instr.sliceAt,Sem.run_bind,run_underlying hu,Result.andThen]
   exact key
  simp [execOp,ho,hsa]
end
theorem RCs.drop {E:Env} {w:World} {ι:Nms} : ∀ {cs:List C} {vs:List Value} (m:Nat),RCs E w ι cs vs->RCs E w ι (cs.drop m) (vs.drop m)
 | _,_,0,h=>h
 | [],[],m+1,_=>trivial
 | _::_,_::_,m+1,h=>RCs.drop m h.2
theorem RCs.append {E:Env} {w:World} {ι:Nms} : ∀ {cs ds:List C} {vs us:List Value}, RCs E w ι cs vs->RCs E w ι ds us->RCs E w ι (cs++ds) (vs++us)
 | [],_,[],_,_,h=>h
 | _::_,_,_::_,_,h1,h2=>⟨h1.1,h1.2.append h2⟩
def partD (cs:List C) (off k:Nat) (row:Bool):Option D:=if row then (if off+k≤cs.length then some (.agg ((cs.drop off).take k)) else none) else (cs[off]?).map .one
theorem part_run {P:Program} {ty:TypeId} {k:Nat} {row:Bool} (hk:szOf P ty=some k) (hr:rowT P ty=some row) {E:Env} {w:World} {ι:Nms} {cs:List C} {xs:Array Value} (h:RCs E w ι cs xs.toList) {off:Nat} {d:D} (hd:partD cs off k row=some d) :
  ∃ v,(∀ w',(part ty xs off).run P w' = .ok v w')∧RV E w ι d v:=by
 unfold partD at hd
 cases row with
 | true =>
  simp only [if_true] at hd
  split at hd
  ·rename_i hl
   simp only [Option.some.injEq] at hd
   subst hd
   refine ⟨.agg (xs.extract off (off+k)),fun w'=>by simp [part,rowT_run hr,szOf_run hk],?_⟩
   rw [RV]
   refine ⟨_,rfl,?_⟩
   have:=(h.drop off).take k
   simpa [Array.toList_extract,List.extract] using this
  ·cases hd
 | false =>
  simp only [Bool.false_eq_true,if_false] at hd
  cases hc:cs[off]? with
  | none=>simp [hc] at hd
  | some c =>
   simp only [hc,Option.map_some,Option.some.injEq] at hd
   subst hd
   obtain ⟨v,g1,g2⟩:=h.get hc
   have:xs[off]? = some v:=by simpa using g1
   exact ⟨v,fun w'=>by simp [part,rowT_run hr,this],by rw [RV];exact g2⟩
def arrOf (P:Program) (t:TypeId):Option (Nat×TypeId×Nat×Bool):=match P.underlying t with
 | some (.array n e)=>(szOf P e).bind fun k=>(rowT P e).map fun b=>(n,e,k,b)
 | _=>none
def isStr (P:Program) (t:TypeId):Bool:=match P.underlying t with
 | some .string=>true
 | _=>false
section
variable {P:Program} {qt:Bool} {o:Oper} {st:St} {K:St->Prop} {t:Nat}
theorem ev_field {s f:Nat} {x:Operand} {cs:List C} {off k:Nat} {row:Bool} {d:D} (ho:o.op = .field s x f) (hx:ev st x = .agg cs) (hf:ftyOf P s f=some (off,k,row)) (hd:partD cs off k row=some d):EvS P o st d true:=fun β F ι a w h=>by
  have he:=h.ev x
  rw [hx,RV] at he
  obtain ⟨xs,hv,hr⟩:=he
  unfold ftyOf at hf
  split at hf
  ·rename_i fs hu
   cases hfs:fs[f]? with
   | none=>simp [hfs] at hf
   | some g =>
    cases hz:szOf P g.type with
    | none=>simp [hfs,hz] at hf
    | some k' =>
     cases hrow:rowT P g.type with
     | none=>simp [hfs,hz,hrow] at hf
     | some b =>
      simp only [hfs,hz,hrow,Option.bind_some,Option.map_some,Option.some.injEq,Prod.mk.injEq] at hf
      obtain ⟨rfl,rfl,rfl⟩:=hf
      obtain ⟨v,g1,g2⟩:=part_run hz hrow hr hd
      refine ⟨v,fun w' _ => ?_,g2⟩
      simp [execOp,ho,Instr.field,run_underlying hu,hfs,hv,asAgg,g1]
  ·simp at hf
theorem arrOf_run {ty e:TypeId} {n k:Nat} {b:Bool} (h:arrOf P ty=some (n,e,k,b)):P.underlying ty=some (.array n e)∧szOf P e=some k∧rowT P e=some b:=by
 unfold arrOf at h
 split at h
 ·rename_i n' e' hu
  cases hz:szOf P e' with
  | none=>simp [hz] at h
  | some k' =>
   cases hr:rowT P e' with
   | none=>simp [hz,hr] at h
   | some b' =>
    simp only [hz,hr,Option.bind_some,Option.map_some,Option.some.injEq,Prod.mk.injEq] at h
    obtain ⟨rfl,rfl,rfl,rfl⟩:=h
    exact ⟨hu,hz,hr⟩
 ·cases h
theorem ev_indexArr {ty e:TypeId} {x y:Operand} {c c':C} {n k:Nat} {b:Bool} {i:Int} (ho:o.op = .indexAddr ty x y) (hx:ev st x = .one c) (hy:intOf? (ev st y)=some i) (ha:arrOf P ty=some (n,e,k,b)) (h0:0≤i) (h1:i<n) (hc:fieldA c (i.toNat*k)=some c'):EvS P o st (.one c') true:=fun β F ι a w h=>by
  have he:=h.ev x
  rw [hx,RV] at he
  obtain ⟨bb,of,hv,hr⟩:=RC.field he hc
  obtain ⟨hu,hz, -⟩:=arrOf_run ha
  obtain ⟨kk,hk⟩:=intOf_ok h hy
  refine ⟨_,fun w' _ => ?_,by rw [RV];exact hr⟩
  simp [execOp,ho,hv,hk,Instr.indexAt,asIntOf,run_underlying hu,szOf_run hz,h0,h1,Instr.sureAddr,add_zero_or]
theorem ev_index {ty e:TypeId} {x y:Operand} {cs:List C} {n k:Nat} {b:Bool} {i:Int} {d:D} (ho:o.op = .index ty x y) (hx:ev st x = .agg cs) (hy:intOf? (ev st y)=some i) (ha:arrOf P ty=some (n,e,k,b)) (h0:0≤i) (h1:i<n) (hd:partD cs (i.toNat*k) k b=some d):EvS P o st d true:=fun β F ι a w h=>by
  have he:=h.ev x
  rw [hx,RV] at he
  obtain ⟨xs,hv,hr⟩:=he
  obtain ⟨hu,hz,hrow⟩:=arrOf_run ha
  obtain ⟨kk,hk⟩:=intOf_ok h hy
  obtain ⟨v,g1,g2⟩:=part_run hz hrow hr hd
  exact ⟨v,fun w' _=>by simp [execOp,ho,Instr.index,hk,asIntOf,run_underlying hu,hv,h0,h1,szOf_run hz,g1],g2⟩
theorem ev_indexS {ty:TypeId} {x y:Operand} {s:ByteArray} {i:Int} {c:UInt8} (ho:o.op = .index ty x y) (hx:litOf (ev st x)=some (.string s)) (hy:intOf? (ev st y)=some i) (hs:isStr P ty=true) (h0:0≤i) (hc:s.data.toList[i.toNat]? = some c):EvS P o st (.one (.d (.lit (.int .u8 c.toNat)))) true:=fun β F ι a w h=>by
  obtain ⟨kk,hk⟩:=intOf_ok h hy
  have hu:P.underlying ty=some .string:=by
   unfold isStr at hs
   split at hs
   ·rename_i e;exact e
   ·cases hs
  have hc':s[i.toNat]? = some c:=by
   have hl:=(List.getElem?_eq_some_iff.1 hc).1
   have hl':i.toNat<s.size:=by simpa using hl
   rw [getElem?_pos s i.toNat hl']
   have:=(List.getElem?_eq_some_iff.1 hc).2
   exact congrArg some (by simpa using this:s.data[i.toNat]=c)
  refine ⟨.int .u8 c.toNat,fun w' _ => ?_,by rw [RV];exact .lit rfl⟩
  simp [execOp,ho,Instr.index,hk,asIntOf,run_underlying hu,litOf_ok (h.ev x) hx,h0,hc']
theorem ev_lenS {x:Operand} {ty:TypeId} {s:ByteArray} (ho:o.op = .call { callee := .builtin .len,args := #[x],argTypes := #[ty] }) (hs:isStr P ty=true) (hx:litOf (ev st x)=some (.string s)):EvS P o st (.one (.d (.lit (.int .i64 s.size)))) true:=fun β F ι a w h=>by
  have hu:P.underlying ty=some .string:=by
   unfold isStr at hs
   split at hs
   ·rename_i e;exact e
   ·cases hs
  exact ⟨.int .i64 s.size,fun w' _=>by simp [execOp,ho,resolve,litOf_ok (h.ev x) hx,invoke,builtin,Builtin.len_,goInt,run_underlying hu],by rw [RV];exact .lit rfl⟩
theorem ev_min {x y:Operand} {tys:Array TypeId} {k k':IntKind} {p q:Int} (ho:o.op = .call { callee := .builtin .min,args := #[x,y],argTypes:=tys }) (hx:litOf (ev st x)=some (.int k p)) (hy:litOf (ev st y)=some (.int k' q)):EvS P o st (.one (.d (.lit (.int k (if q<p then q else p))))) true:=fun β F ι a w h =>
 ⟨.int k (if q<p then q else p),fun w' _=>by simp [execOp,ho,resolve,litOf_ok (h.ev x) hx,litOf_ok (h.ev y) hy,invoke,builtin,Builtin.min_,Builtin.min2],by rw [RV];exact .lit rfl⟩
theorem ev_max {x y:Operand} {tys:Array TypeId} {k k':IntKind} {p q:Int} (ho:o.op = .call { callee := .builtin .max,args := #[x,y],argTypes:=tys }) (hx:litOf (ev st x)=some (.int k p)) (hy:litOf (ev st y)=some (.int k' q)):EvS P o st (.one (.d (.lit (.int k (if p<q then q else p))))) true:=fun β F ι a w h =>
 ⟨.int k (if p<q then q else p),fun w' _=>by simp [execOp,ho,resolve,litOf_ok (h.ev x) hx,litOf_ok (h.ev y) hy,invoke,builtin,Builtin.max_,Builtin.max2],by rw [RV];exact .lit rfl⟩
end
def fldsOf (P:Program) (t:TypeId):Option (List (Nat×Nat)):=match P.underlying t with
 | some (.struct fs)=>fs.toList.mapM fun f=>(szOf P f.type).map fun k=>(f.offset,k)
 | _=>none
def layC (pl:Nat->Option (Nat×Nat)) (st:St):List (Nat×Operand)->List C->Option (List C)
 | [],cs=>some cs
 | (i,x)::l,cs=>match pl i,Dcells (ev st x) with
  | some (off,k),some ds=>if ds.length=k∧off+k≤cs.length then layC pl st l (splice cs off ds) else none
  | _,_=>none
theorem foldl_set (vs:List Value) (off:Nat) : ∀ (i:Nat) (cs:Array Value),off+i+vs.length≤cs.size ->
  ((vs.zipIdx i).foldl (fun cs (p:Value×Nat)=>cs.setIfInBounds (off+p.2) p.1) cs).toList=cs.toList.take (off+i)++vs++cs.toList.drop (off+i+vs.length):=by
 induction vs with
 | nil=>intro i cs h;simp
 | cons v vs ih =>
  intro i cs h
  simp only [List.length_cons] at h
  simp only [List.zipIdx_cons,List.foldl_cons]
  rw [ih (i+1) _ (by simp;omega)]
  apply List.ext_getElem?
  intro j
  have e1:((cs.setIfInBounds (off+i) v).toList.take (off+(i+1))++vs++(cs.setIfInBounds (off+i) v).toList.drop (off+(i+1)+vs.length))=((cs.setIfInBounds (off+i) v).toList.take (off+(i+1))++vs++(cs.setIfInBounds (off+i) v).toList.drop (off+(i+1)+vs.length)):=rfl
  rw [splice_get (by simp;omega),show off+i+(v::vs).length=off+i+(v::vs).length from rfl,splice_get (e:=cs.toList) (cs:=v::vs) (by simp;omega)]
  simp only [List.length_cons]
  by_cases h1:off+(i+1)≤j∧j<off+(i+1)+vs.length
  ·rw [if_pos h1,if_pos (by omega),show j-(off+i)=(j-(off+(i+1)))+1 by omega];simp
  ·rw [if_neg h1]
   by_cases h2:j=off+i
   ·subst h2
    rw [if_pos (by omega)]
    have:off+i<cs.size:=by omega
    simp [this]
   ·rw [if_neg (by omega)]
    have:off+i≠j:=fun e=>h2 e.symm
    simp only [Array.toList_setIfInBounds]
    rw [List.getElem?_set_ne this]
theorem lay_ok {pl:Nat->Option (Nat×Nat)} {β:Base} {F:Nat->Prop} {ι:Nms} {st:St} {a:Act} {w:World} (h:Holds β F ι st a w) : ∀ {l:List (Nat×Operand)} {cs r:List C} {xs:Array Value}, RCs ⟨F,β.B⟩ w ι cs xs.toList->layC pl st l cs=some r ->
  ∃ ys,Instr.fill pl xs (l.map fun p=>(p.1,a.eval p.2))=some ys∧RCs ⟨F,β.B⟩ w ι r ys.toList
 | [],cs,r,xs,hr,hl=>by simp only [layC,Option.some.injEq] at hl;subst hl;exact ⟨xs,rfl,hr⟩
 | (i,x)::l,cs,r,xs,hr,hl=>by
  unfold layC at hl
  split at hl
  ·rename_i off k ds hp hd
   split at hl
   ·rename_i hc
    obtain ⟨rfl,hfit⟩:=hc
    obtain ⟨h1,h2⟩:=Dcells_ok (h.ev x) hd
    have hvl:(a.eval x).cells.size=ds.length:=by simpa using h1.len
    have hxl:xs.size=cs.length:=by simpa using hr.len
    have hz:(a.eval x).cells.zipIdx.foldl (fun cs (p:Value×Nat)=>cs.setIfInBounds (off+p.2) p.1) xs=(xs.toList.take off++(a.eval x).cells.toList++xs.toList.drop (off+(a.eval x).cells.toList.length)).toArray:=by
     apply Array.ext'
     have:=foldl_set (a.eval x).cells.toList off 0 xs (by simp;omega)
     simp only [Nat.add_zero] at this
     rw [← this, ← Array.foldl_toList,Array.toList_zipIdx]
    have hr':RCs ⟨F,β.B⟩ w ι (splice cs off ds) (xs.toList.take off++(a.eval x).cells.toList++xs.toList.drop (off+(a.eval x).cells.toList.length)).toArray.toList:=by
     unfold splice
     have e:(a.eval x).cells.toList.length=ds.length:=by simpa using hvl
     rw [e]
     exact ((hr.take off).append h1).append (hr.drop _)
    obtain ⟨ys,g1,g2⟩:=lay_ok h hr' hl
    refine ⟨ys,?_,g2⟩
    have hcond : ¬ ((decide ((a.eval x).cells.size≠ds.length)||decide (off+(a.eval x).cells.size > xs.size))=true):=by simp;omega
    simp only [List.map_cons,Instr.fill,hp]
    rw [if_neg hcond]
    exact Eq.trans (congrArg (fun z=>Instr.fill pl z (l.map fun p=>(p.1,a.eval p.2))) hz) g1
   ·cases hl
  ·cases hl
theorem flds_run {P:Program} (w:World) : ∀ {fs:List Field} {pl:List (Nat×Nat)}, (fs.mapM fun f=>(szOf P f.type).map fun k=>(f.offset,k))=some pl ->
  (fs.mapM fun f=>(do pure (f.offset, ← sizeOf f.type):Sem (Nat×Nat))).run P w = .ok pl w
 | [],pl,h=>by simp at h;subst h;rfl
 | f::fs,pl,h=>by
  simp only [List.mapM_cons] at h
  cases hz:szOf P f.type with
  | none=>simp [hz] at h
  | some k =>
   cases hr:(fs.mapM fun f=>(szOf P f.type).map fun k=>(f.offset,k)) with
   | none=>simp [hz,hr] at h
   | some l =>
    simp [hz,hr] at h
    subst h
    have:=flds_run w hr
    simp only [bind_pure_comp] at this
    simp [List.mapM_cons,szOf_run hz,this]
theorem nth2_flatten {α:Type} {k:Nat} : ∀ {es:List (List α)} {i j:Nat} {c:α}, (∀ e∈es,e.length=k)->nth2 es i j=some c->es.flatten[i*k+j]? = some c
 | [],i,j,c,_,h=>by simp [nth2] at h
 | e::es,0,j,c,hk,h=>by
  have h':e[j]? = some c:=by simpa [nth2] using h
  have hj:=(List.getElem?_eq_some_iff.1 h').1
  simp only [List.flatten_cons,Nat.zero_mul,Nat.zero_add]
  rw [List.getElem?_append_left hj];exact h'
 | e::es,i+1,j,c,hk,h=>by
  have h':nth2 es i j=some c:=by simpa [nth2] using h
  have he:=hk e (List.mem_cons_self ..)
  rw [List.flatten_cons,List.getElem?_append_right (by rw [he,Nat.succ_mul];omega), ← nth2_flatten (fun e he=>hk e (List.mem_cons_of_mem _ he)) h']
  congr 1
  rw [he,Nat.succ_mul];omega
theorem flatten_len {α:Type} {k:Nat} : ∀ {es:List (List α)}, (∀ e∈es,e.length=k)->es.flatten.length=es.length*k
 | [],_=>by simp
 | e::es,hk=>by
  rw [List.flatten_cons,List.length_append,hk e (List.mem_cons_self ..),flatten_len fun e he=>hk e (List.mem_cons_of_mem _ he),List.length_cons,Nat.succ_mul];omega
theorem flatten_set {k:Nat} : ∀ {es:List (List C)} {i:Nat} {cs:List C}, (∀ e∈es,e.length=k)->i<es.length->cs.length=k->(es.set i cs).flatten=splice es.flatten (i*k) cs
 | [],i,cs,_,h,_=>by simp at h
 | e::es,0,cs,hk,_,hc=>by
  have he:=hk e (List.mem_cons_self ..)
  simp [splice,hc, ← he]
 | e::es,i+1,cs,hk,h,hc=>by
  have he:=hk e (List.mem_cons_self ..)
  have ih:=flatten_set (es:=es) (i:=i) (fun e he=>hk e (List.mem_cons_of_mem _ he)) (by simpa using h) hc
  simp only [List.set_cons_succ,List.flatten_cons,ih,splice,Nat.succ_mul]
  have e1:(e++es.flatten).take (i*k+k)=e++es.flatten.take (i*k):=by
   rw [List.take_append,List.take_of_length_le (by omega)]
   congr 2;omega
  have e2:(e++es.flatten).drop (i*k+k+cs.length)=es.flatten.drop (i*k+cs.length):=by
   rw [List.drop_append,List.drop_of_length_le (by omega),List.nil_append]
   congr 1;omega
  rw [e1,e2]
  simp
def layE (st:St) (k:Nat):List (Nat×Operand)->List (List C)->Option (List (List C))
 | [],es=>some es
 | (i,x)::l,es=>match Dcells (ev st x) with
  | some cs=>if cs.length=k∧i<es.length then layE st k l (es.set i cs) else none
  | none=>none
theorem layE_lay {st:St} {k:Nat} : ∀ {l:List (Nat×Operand)} {es r:List (List C)}, (∀ e∈es,e.length=k)->layE st k l es=some r->layC (fun i=>some (i*k,k)) st l es.flatten=some r.flatten∧r.length=es.length ∧ ∀ e∈r,e.length=k
 | [],es,r,hk,h=>by simp only [layE,Option.some.injEq] at h;subst h;exact ⟨rfl,rfl,hk⟩
 | (i,x)::l,es,r,hk,h=>by
  unfold layE at h
  split at h
  ·rename_i cs hd
   split at h
   ·rename_i hc
    obtain ⟨rfl,hi⟩:=hc
    obtain ⟨g1,g2,g3⟩:=layE_lay (es:=es.set i cs) (fun e he=>by
     rcases List.mem_or_eq_of_mem_set he with he | rfl
     ·exact hk e he
     ·rfl) h
    refine ⟨?_,by simpa using g2,g3⟩
    unfold layC
    simp only [hd]
    have hfit:i*cs.length+cs.length≤es.flatten.length:=by
     rw [flatten_len hk, ← Nat.succ_mul];exact Nat.mul_le_mul_right _ hi
    rw [if_pos ⟨trivial,hfit⟩, ← flatten_set hk hi rfl]
    exact g1
   ·cases h
  ·cases h
theorem RCs.flat {E:Env} {w:World} {ι:Nms} {cs:List C} {vs:List Value} (h:RCs E w ι cs vs) : ∀ n:Nat,RCs E w ι (List.replicate n cs).flatten (List.replicate n vs).flatten
 | 0=>trivial
 | n+1=>by simp only [List.replicate_succ,List.flatten_cons];exact h.append (RCs.flat h n)
theorem zeros_flat (zs:List Value) (hz:0<zs.length) (n:Nat):((Array.range (n*zs.length)).map (zs.toArray[· % zs.toArray.size]!)).toList=(List.replicate n zs).flatten:=by
 apply List.ext_getElem?
 intro q
 have hl:(List.replicate n zs).flatten.length=n*zs.length:=by rw [flatten_len (k:=zs.length) (by intro e he;rw [List.eq_of_mem_replicate he])];simp
 by_cases hq:q<n*zs.length
 ·have hm:q%zs.length<zs.length:=Nat.mod_lt _ hz
  have hd:q/zs.length<n:=(Nat.div_lt_iff_lt_mul hz).2 hq
  have h2:=nth2_flatten (es:=List.replicate n zs) (k:=zs.length) (i:=q/zs.length) (j:=q%zs.length) (c:=zs[q%zs.length]) (by intro e he;rw [List.eq_of_mem_replicate he]) (by simp [nth2,hd,hm])
  rw [show q/zs.length*zs.length+q%zs.length=q by rw [Nat.mul_comm];exact Nat.div_add_mod q _] at h2
  rw [h2]
  simp [hq,hm]
 ·rw [List.getElem?_eq_none (by simp;omega),List.getElem?_eq_none (by omega)]
section
variable {P:Program} {qt:Bool} {o:Oper} {st:St} {K:St->Prop} {t:Nat}
theorem ev_build {ty:TypeId} {parts:Array (Nat×Operand)} {pl:List (Nat×Nat)} {zs:List Value} {r:List C} (ho:o.op = .build ty parts) (hf:fldsOf P ty=some pl) (hz:zeroOf P ty=some zs) (h1:zs.all Value.oneCell'=true)
  (hl:layC (fun i=>pl[i]?) st parts.toList (zs.map fun v => .d (cellOf v))=some r):EvS P o st (.agg r) true:=fun β F ι a w h=>by
  obtain ⟨ys,g1,g2⟩:=lay_ok (xs:=zs.toArray) h (by simpa using RCs.ofList h1) hl
  refine ⟨.agg ys,fun w' _ => ?_,by rw [RV];exact ⟨_,rfl,g2⟩⟩
  obtain ⟨z,hr,hc⟩:=zeroOf_run hz w'
  unfold fldsOf at hf
  split at hf
  ·rename_i fs hu
   have hpl:(fs.mapM fun f=>(do pure (f.offset, ← sizeOf f.type):Sem (Nat×Nat))).run P w' = .ok pl.toArray w':=by
    rw [Array.mapM_eq_mapM_toList,Sem.run_map,flds_run w' hf];rfl
   have hfill:Instr.fill (pl.toArray[·]?) z.cells (parts.map fun p=>(p.1,a.eval p.2)).toList=some ys:=by
    rw [hc, ← g1]
    congr 1
    ·funext i;simp
    ·simp
   have hb:(Instr.build ty (parts.map fun p=>(p.1,a.eval p.2))).run P w' = .ok (.agg ys) w':=by
    unfold Instr.build
    simp only [Sem.run_bind,hr,Result.andThen_ok,run_underlying hu,hpl,hfill]
    rfl
   simp only [execOp,ho,Sem.run_bind]
   rw [show (parts.map fun x=>match x with | (i,x)=>(i,a.eval x))=parts.map fun p=>(p.1,a.eval p.2) from rfl,hb]
   rfl
  ·cases hf
theorem ev_buildA {ty e:TypeId} {n k:Nat} {b:Bool} {parts:Array (Nat×Operand)} {zs:List Value} {r:List C} (ho:o.op = .build ty parts) (hf:arrOf P ty=some (n,e,k,b)) (hz:zeroOf P ty=some zs) (h1:zs.all Value.oneCell'=true)
  (hl:layC (fun i=>some (i*k,k)) st parts.toList (zs.map fun v => .d (cellOf v))=some r):EvS P o st (.agg r) true:=fun β F ι a w h=>by
  obtain ⟨ys,g1,g2⟩:=lay_ok (xs:=zs.toArray) h (by simpa using RCs.ofList h1) hl
  refine ⟨.agg ys,fun w' _ => ?_,by rw [RV];exact ⟨_,rfl,g2⟩⟩
  obtain ⟨z,hr,hc⟩:=zeroOf_run hz w'
  obtain ⟨hu,hsz, -⟩:=arrOf_run hf
  have hfill:Instr.fill (fun i=>some (i*k,k)) z.cells (parts.map fun p=>(p.1,a.eval p.2)).toList=some ys:=by
   rw [hc, ← g1];congr 1;simp
  have hb:(Instr.build ty (parts.map fun p=>(p.1,a.eval p.2))).run P w' = .ok (.agg ys) w':=by
   unfold Instr.build
   simp only [Sem.run_bind,hr,Result.andThen_ok,run_underlying hu,szOf_run hsz,hfill]
   rfl
  simp only [execOp,ho,Sem.run_bind]
  rw [show (parts.map fun x=>match x with | (i,x)=>(i,a.eval x))=parts.map fun p=>(p.1,a.eval p.2) from rfl,hb]
  rfl
theorem Holds.newRow {β:Base} {F:Nat->Prop} {ι:Nms} {a:Act} {w:World} (h:Holds β F ι st a w) (e:TypeId) {k c:Nat} (hc:0<c) {es:List (List C)} {arr:Array Value} (hl:es.length=c) (hk : ∀ e∈es,e.length=k) (hr:RCs ⟨F,β.B⟩ w ι es.flatten arr.toList) :
  Holds β F (ι.set st.nx (w.heap.size,c)) (st.row none ⟨.c e,k,es⟩) a (w.alloc (.cells arr e))∧(c≤maxLen->RV ⟨F,β.B⟩ (w.alloc (.cells arr e)) (ι.set st.nx (w.heap.size,c)) (.one (.own st.nx k c)) (.slice (some ⟨w.heap.size,0,none⟩) c c)):=by
 obtain ⟨k1,k2,k3⟩:=h.heap.alloc (w':=w.alloc (.cells arr e)) arr e k es c hc rfl ⟨rfl,rfl,rfl⟩ (by omega) hk (by have:=hr.len;rw [flatten_len hk,hl] at this;simpa using this) (fun v hv=>RCs.one hr v (by simpa using hv)) (fun i j y hy=>by
  obtain ⟨v,g1,g2⟩:=hr.get (nth2_flatten hk hy)
  exact ⟨v,by simpa using g1,g2⟩)
 refine ⟨⟨h.good,h.defers,h.size,fun u=>(h.tm u).keep k2 k3,k1⟩,fun hm => ?_⟩
 rw [RV]
 exact ⟨w.heap.size,c,by simp [Nms.set],Nat.le_refl _,hm,.inr ⟨hc,rfl⟩⟩
theorem ev_buildSlice {ty e:TypeId} {k len:Nat} {parts:Array (Nat×Operand)} {zs:List Value} {r:List (List C)} (ho:o.op = .buildSlice ty len parts) (he:elOf P ty=some (e,k)) (hz:zeroOf P e=some zs) (hzk:zs.length=k) (hk:0<k) (h1:zs.all Value.oneCell'=true) (hlen:0<len) (hbig:len*k≤16777216)
  (hl:layE st k parts.toList (List.replicate len (zs.map fun v => .d (cellOf v)))=some r) (ht:o.dst=some t) (hn:t<st.n) (hK:K ((st.row none ⟨.c e,k,r⟩).put t (.one (.own st.nx k len)))):EvO P qt o st K :=
 EvO.val ht hn (st.row none ⟨.c e,k,r⟩) rfl _ hK fun β F ι a w h=>by
  obtain ⟨z,hr,hc⟩:=zeroOf_run hz w
  obtain ⟨hu,hsz⟩:=elOf_run he
  subst hzk
  have hk0 : ∀ e∈List.replicate len (zs.map fun v=>C.d (cellOf v)),e.length=zs.length:=fun e he=>by rw [List.eq_of_mem_replicate he];simp
  obtain ⟨l1,l2,l3⟩:=layE_lay hk0 hl
  have h0:RCs ⟨F,β.B⟩ w ι (List.replicate len (zs.map fun v=>C.d (cellOf v))).flatten ((Array.range (len*zs.length)).map (zs.toArray[· % zs.toArray.size]!)).toList:=by
   rw [zeros_flat zs hk len]
   exact RCs.flat (RCs.ofList h1) len
  obtain ⟨ys,g1,g2⟩:=lay_ok h h0 l1
  rw [List.length_replicate] at l2
  obtain ⟨q1,q2⟩:=h.newRow e hlen l2 l3 g2
  refine ⟨_,F,_,_,?_,q1,q2 (by simp only [maxLen];have:len≤len*zs.length:=Nat.le_mul_of_pos_right _ hk;omega),fun _=>old_alloc w _⟩
  have hfill:Instr.fill (fun i=>some (i*zs.length,zs.length)) ((Array.range (len*zs.length)).map (z.cells[· % z.cells.size]!)) (parts.map fun p=>(p.1,a.eval p.2)).toList=some ys:=by
   rw [hc, ← g1];congr 1;simp
  have hb:(Instr.buildSlice ty len (parts.map fun p=>(p.1,a.eval p.2))).run P w = .ok (.slice (some ⟨w.heap.size,0,none⟩) len len) (w.alloc (.cells ys e)):=by
   have hne : ¬ len*zs.length > 2 ^ 24:=by omega
   have hne0 : ¬ len*zs.length=0:=Nat.ne_of_gt (Nat.mul_pos hlen hk)
   unfold Instr.buildSlice
   simp only [Sem.run_bind,run_underlying hu,Result.andThen_ok,szOf_run hsz,if_neg hne,if_neg hne0,hr]
   simp only [Array.toList_map] at hfill
   simp [hr,hfill,newRow]
  simp only [execOp,ho,Sem.run_bind]
  rw [show (parts.map fun x=>match x with | (i,x)=>(i,a.eval x))=parts.map fun p=>(p.1,a.eval p.2) from rfl,hb]
  rfl
theorem ev_makeSlice {ty e:TypeId} {k by':Nat} {x y:Operand} {zs:List Value} {m:Int} (ho:o.op = .makeSlice ty x y) (he:elOf P ty=some (e,k)) (hz:zeroOf P e=some zs) (hzk:zs.length=k) (hk:0<k) (h1:zs.all Value.oneCell'=true) (hby:byOf P e=some by') (hb1:by'≤1024)
  (hx:intOf? (ev st x)=some m) (hy:intOf? (ev st y)=some m) (h0:0≤m) (hbig:m≤100000000000) (ht:o.dst=some t) (hn:t<st.n)
  (hK:K ((st.row none ⟨.c e,k,List.replicate m.toNat (zs.map fun v => .d (cellOf v))⟩).put t (.one (.own st.nx k m.toNat)))):EvO P qt o st K :=
 EvO.val ht hn (st.row none ⟨.c e,k,List.replicate m.toNat (zs.map fun v => .d (cellOf v))⟩) rfl _ hK fun β F ι a w h=>by
  obtain ⟨z,hr,hc⟩:=zeroOf_run hz w
  obtain ⟨hu,hsz⟩:=elOf_run he
  obtain ⟨n,rfl⟩ : ∃ n:Nat,m=n:=⟨m.toNat,by omega⟩
  rw [Int.toNat_natCast]
  obtain ⟨k1,hk1⟩:=intOf_ok h hx
  obtain ⟨k2,hk2⟩:=intOf_ok h hy
  subst hzk
  obtain ⟨i,hi,hiby⟩ : ∃ i,P.info? e=some i∧i.bytes=by':=by
   unfold byOf at hby
   cases hq:P.info? e with
   | none=>simp [hq] at hby
   | some i=>exact ⟨i,rfl,by simpa [hq] using hby⟩
  have hkz : ∀ e∈List.replicate n (zs.map fun v=>C.d (cellOf v)),e.length=zs.length:=fun e he=>by rw [List.eq_of_mem_replicate he];simp
  have hwr:IntKind.i64.wrap (n:Int)=n:=IntWalk.i64_in _ ⟨by omega,by omega⟩
  have hmul:by'*n≤1024*100000000000:=Nat.mul_le_mul hb1 (by omega)
  have hroom : ¬ n*by' > 2 ^ 47:=by rw [Nat.mul_comm];omega
  have hbi : ¬ ((by':Int)*(n:Int) > 2 ^ 48):=by
   have:(by':Int)*(n:Int)=((by'*n:Nat):Int):=by simp
   rw [this];omega
  have hbi2 : ¬ (281474976710656<(by':Int)*(n:Int)):=by omega
  have hroom2 : ¬ (140737488355328<n*by'):=by omega
  by_cases hn0:n=0
  ·subst hn0
   have hw0:IntKind.i64.wrap 0=0:=by decide
   have hb:(Instr.makeSlice ty (a.eval x) (a.eval y)).run P w = .ok (.slice (some ⟨w.heap.size,0,none⟩) 0 0) (w.alloc (.cells #[] e)):=by
    simp [Instr.makeSlice,run_underlying hu,hk1,hk2,asInt,asIntOf,typeInfo,hi,hiby,hw0,askRoom,roomBytes,szOf_run hsz,newRow]
    congr 2
    apply Array.ext'
    simp
   have hle:Env.le ⟨F,β.B⟩ ⟨F,β.B⟩ w (w.alloc (.cells #[] e)):=h.heap.env fun b hb _=>by show (w.heap.push _)[b]? = _;rw [Array.getElem?_push_lt hb,Array.getElem?_eq_getElem hb]
   have hold:HpOk β F (w.alloc (.cells #[] e)) ι st.H st.nx:=by
    have hh:=h.heap
    have hs:(w.alloc (.cells #[] e)).heap.size=w.heap.size+1:=by show (w.heap.push _).size=_;rw [Array.size_push]
    have ho : ∀ b,b<w.heap.size->(w.alloc (.cells #[] e)).heap[b]? = w.heap[b]? := fun b hb=>by show (w.heap.push _)[b]? = _;rw [Array.getElem?_push_lt hb,Array.getElem?_eq_getElem hb]
    exact ⟨by rw [hs];have:=hh.size;omega,fun b hb hN=>by rw [ho b (Nat.lt_of_lt_of_le hb hh.size)];exact hh.keep b hb hN,fun b hb=>by rw [hs];have:=hh.Flt b hb;omega,hh.Fof,hh.F0,
     fun m y hm=>(hh.blk m y hm).keep hle (Nms.le_refl _) fun b cap h1 h2=>ho b (hh.own m b cap (by rw [hm];simp) h1 h2).1,fun m b cap h1 h2 h3=>by obtain ⟨a1,a2⟩:=hh.own m b cap h1 h2 h3;exact ⟨by rw [hs];omega,a2⟩,hh.inj,hh.nx,hh.nm,hh.io.trans ⟨rfl,rfl,rfl⟩⟩
   obtain ⟨g1,g2⟩:=hold.adopt (x:=⟨.c e,zs.length,[]⟩) (b:=0) (cap:=0) ⟨0,0,by simp [Nms.set],Nat.le_refl _,by simp,fun h=>absurd h (by omega)⟩ (fun h=>absurd h (by omega)) (fun _ _ _ _ _ h=>absurd h (by omega))
   refine ⟨.slice (some ⟨w.heap.size,0,none⟩) 0 0,F,_,w.alloc (.cells #[] e),by simp [execOp,ho,hb],⟨h.good,h.defers,h.size,fun u=>((h.tm u).keep hle (Nms.le_refl _)).keep ⟨fun _ h=>h,fun _ h=>h,fun _ _=>rfl,fun _ _=>rfl⟩ g2,g1⟩,?_⟩
   refine ⟨?_,fun _=>old_alloc w _⟩
   rw [RV]
   exact ⟨0,0,by simp [Nms.set],Nat.le_refl _,by simp [maxLen],.inl ⟨rfl,_,rfl⟩⟩
  ·have hpos:0<n:=by omega
   obtain ⟨q1,q2⟩:=h.newRow e (c:=n) hpos (es:=List.replicate n (zs.map fun v=>C.d (cellOf v))) (by simp) hkz (arr:=(Array.range (n*zs.length)).map (zs.toArray[· % zs.toArray.size]!)) (by rw [zeros_flat zs hk n];exact RCs.flat (RCs.ofList h1) n)
   refine ⟨_,F,_,_,?_,q1,q2 (by simp only [maxLen];omega),fun _=>old_alloc w _⟩
   have hne0 : ¬ n*zs.length=0:=Nat.ne_of_gt (Nat.mul_pos hpos hk)
   have hne1 : ¬ (n=0∨zs=[]):=fun h=>by rcases h with h | h;exact hn0 h;rw [h] at hk;simp at hk
   have hneg : ¬ ((n:Int)<0):=by omega
   have hb:(Instr.makeSlice ty (a.eval x) (a.eval y)).run P w = .ok (.slice (some ⟨w.heap.size,0,none⟩) n n) (w.alloc (.cells ((Array.range (n*zs.length)).map (zs.toArray[· % zs.toArray.size]!)) e)):=by
    simp [Instr.makeSlice,run_underlying hu,hk1,hk2,asInt,asIntOf,typeInfo,hi,hiby,hwr,askRoom,roomBytes,szOf_run hsz,newRow,hbi2,hroom2,hneg,hne0,hne1,hr,hc]
   simp [execOp,ho,hb]
theorem ev_eqNil {op:BinOp} {ty yt:TypeId} {x:Operand} {c:C} {n:Nat} {ez:TypeId×Nat} (ho:o.op = .binOp op ty x (.const (.slice none 0 0)) yt) (hop:op = .eql∨op = .neq) (he:elOf P ty=some ez) (hx:ev st x = .one c) (hl:lenOf? (.one c)=some n) (ht:o.dst=some t) (hn:t<st.n)
  (h1:n=0->K (st.put t (.one (.d (.lit (.bool (decide (op = .eql)))))))) (h2:K (st.put t (.one (.d (.lit (.bool (decide (op = .neq)))))))):EvO P qt o st K:=by
 obtain ⟨hu, -⟩:=elOf_run (e:=ez.1) (k:=ez.2) he
 have hval : ∀ β F ι a w,Holds β F ι st a w -> ∃ A cap,a.eval x = .slice A n cap∧(A=none->n=0):=fun β F ι a w h=>by
  have hv:=h.ev x
  rw [hx,RV] at hv
  unfold lenOf? at hl
  split at hl
  ·rename_i hq
   simp only [D.one.injEq] at hq
   subst hq
   simp only [Option.some.injEq] at hl
   subst hl
   generalize a.eval x=v at hv
   cases hv with
   | sl X g1 g2 hk g3=>exact ⟨_,_,rfl,fun e=>by have:=g3 e;omega⟩
  ·rename_i hq
   simp only [D.one.injEq] at hq
   subst hq
   simp only [Option.some.injEq] at hl
   subst hl
   generalize a.eval x=v at hv
   cases hv with
   | emp=>exact ⟨_,_,rfl,fun _=>rfl⟩
  ·rename_i hq
   simp only [D.one.injEq] at hq
   subst hq
   simp only [Option.some.injEq] at hl
   subst hl
   obtain ⟨b,cap,p1,p2,p3,p4⟩:=hv
   rcases p4 with ⟨q1,A,hv⟩ | ⟨q1,hv⟩
   ·exact ⟨A,0,by rw [hv];congr 1;omega,fun _=>by omega⟩
   ·exact ⟨_,_,hv,fun e=>by cases e⟩
  ·cases hl
 have hrun : ∀ (A:Option Addr) (m cap:Nat) (w:World),(Op.equal ty (.slice A m cap) (.slice none 0 0)).run P w = .ok A.isNone w:=fun A m cap w=>by
  show (Op.equalIn (9999+1) ty (.slice A m cap) (.slice none 0 0)).run P w=_
  rw [Op.equalIn]
  cases A <;> simp [run_underlying hu]
 have hex : ∀ (a:Act) (A:Option Addr) (m cap:Nat) (w:World),a.eval x = .slice A m cap->(execOp a.eval o).run P w = .ok (.value (.bool (if op = .eql then A.isNone else !A.isNone))) w:=fun a A m cap w hv=>by
  have hc:a.eval (.const (.slice none 0 0)) = .slice none 0 0:=rfl
  rcases hop with rfl | rfl <;> simp [execOp,ho,hv,hc,eqGuard,binOp,hrun]
 intro β F ι a w h next Q hnext
 obtain ⟨A,cap,hv,hA⟩:=hval β F ι a w h
 have hr:=hex a A n cap w hv
 unfold Oper.wp
 rw [hr,Oper.upon_value]
 cases A with
 | none =>
  have hb:(if op = .eql then (none:Option Addr).isNone else !(none:Option Addr).isNone)=decide (op = .eql):=by rcases hop with rfl | rfl <;> rfl
  rw [hb]
  refine hnext F ι _ _ w (Chg.same (by rw [← hb];exact hr)) ?_ (h1 (hA rfl))
  rw [ht]
  exact h.put (by rw [RV];exact .lit rfl) hn
 | some ad =>
  have hb:(if op = .eql then (some ad).isNone else !(some ad).isNone)=decide (op = .neq):=by rcases hop with rfl | rfl <;> rfl
  rw [hb]
  refine hnext F ι _ _ w (Chg.same (by rw [← hb];exact hr)) ?_ h2
  rw [ht]
  exact h.put (by rw [RV];exact .lit rfl) hn
theorem Holds.junk {β:Base} {F:Nat->Prop} {ι:Nms} {a:Act} {w:World} (h:Holds β F ι st a w) (x:Obj):Holds β F ι st a (w.alloc x):=by
 have hle:Env.le ⟨F,β.B⟩ ⟨F,β.B⟩ w (w.alloc x):=h.heap.env fun b hb _=>old_alloc w x b hb
 have hh:=h.heap
 have hs:(w.alloc x).heap.size=w.heap.size+1:=by show (w.heap.push _).size=_;rw [Array.size_push]
 have ho:=old_alloc w x
 exact ⟨h.good,h.defers,h.size,fun u=>(h.tm u).keep hle (Nms.le_refl _),⟨by rw [hs];have:=hh.size;omega,fun b hb hN=>by rw [ho b (Nat.lt_of_lt_of_le hb hh.size)];exact hh.keep b hb hN,fun b hb=>by rw [hs];have:=hh.Flt b hb;omega,hh.Fof,hh.F0,
  fun m y hm=>(hh.blk m y hm).keep hle (Nms.le_refl _) fun b cap h1 h2=>ho b (hh.own m b cap (by rw [hm];simp) h1 h2).1,fun m b cap h1 h2 h3=>by obtain ⟨a1,a2⟩:=hh.own m b cap h1 h2 h3;exact ⟨by rw [hs];omega,a2⟩,hh.inj,hh.nx,hh.nm,hh.io.trans ⟨rfl,rfl,rfl⟩⟩⟩
theorem ev_buildSlice0 {ty e:TypeId} {k:Nat} {parts:Array (Nat×Operand)} (ho:o.op = .buildSlice ty 0 parts) (hp:parts.toList=[]) (he:elOf P ty=some (e,k)) (ht:o.dst=some t) (hn:t<st.n) (hK:K (st.put t (.one (.d .emp)))):EvO P qt o st K :=
 EvO.val ht hn st rfl _ hK fun β F ι a w h=>by
  obtain ⟨hu,hsz⟩:=elOf_run he
  obtain rfl:parts = #[]:=by apply Array.ext';simpa using hp
  refine ⟨.slice (some ⟨w.heap.size,0,none⟩) 0 0,F,ι,w.alloc (.cells #[] e),?_,h.junk _,by rw [RV];exact .emp,fun _=>old_alloc w _⟩
  have:(Array.map (fun x=>(default:Value)) (Array.range 0)) = #[]:=by apply Array.ext';simp
  simp [execOp,ho,Instr.buildSlice,run_underlying hu,szOf_run hsz,Instr.fill,newRow,this]
end
end Go.Proofs.YtbphdcffpobcbaaGreatDoor
