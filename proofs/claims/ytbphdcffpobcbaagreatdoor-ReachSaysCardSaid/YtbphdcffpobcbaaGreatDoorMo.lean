/- Several texts in one. -/
import Derived.Test.YtbphdcffpobcbaaGreatDoorMd
import Derived.Test.YtbphdcffpobcbaaGreatDoorMf
import Derived.Test.YtbphdcffpobcbaaGreatDoorMg
set_option linter.unusedSimpArgs false
set_option linter.unusedVariables false
set_option maxRecDepth 100000
set_option maxHeartbeats 16000000
namespace Go.Proofs.YtbphdcffpobcbaaGreatDoor
open Go.RowKit Go

section
variable {E E':Env} {w w':World} {ι:Nms}
end
theorem ICall.lend {P:Program} {f:FuncId} {ds es:List D} {H:Hp} {nx:Nat} {K:D->Hp->Nat->Prop} (hd:DsShw H (fun _=>True) ds es)
  (h:ICall P f es (fun _=>none) nx fun d H' nx'=>(∀ i x,H' i=some x->nx≤i ∧ ∀ e∈x.es, ∀ c∈e,c.newC=true)∧d.newD∧K d (fun i=>if i<nx then H i else H' i) nx')
  (hf : ∀ i,nx≤i->H i=none):ICall P f ds H nx K :=
 ⟨h.1,fun β F ι w vs hg hH hvs=>by
  have hF1 : ∀ b,giv F ι H (fun _=>True) b->b<w.heap.size:=fun b hb=>by
   rcases hb with hb | ⟨n,cap, -, g1,g2,g3⟩
   ·exact hH.Flt b hb
   ·exact (hH.own n b cap g1 g2 g3).1
  have hF2 : ∀ b,giv F ι H (fun _=>True) b->β.F0 b∨β.N0 b∨β.w0.heap.size≤b:=fun b hb=>by
   rcases hb with hb | ⟨n,cap, -, g1,g2,g3⟩
   ·exact hH.Fof b hb
   ·exact .inr (hH.own n b cap g1 g2 g3).2.2
  have hle0:Env.le ⟨giv F ι H (fun _=>True),Go.Proofs.YtbphdcffpobcbaaGreatDoor.noB⟩ ⟨giv F ι H (fun _=>True),β.B⟩ w w:=⟨fun _ h=>h,fun _ h=>h.elim,fun _ _=>rfl,fun _ _=>rfl⟩
  have hh0:HpOk β (giv F ι H (fun _=>True)) w ι (fun _=>none) nx:=⟨hH.size,hH.keep,hF1,hF2,fun b hb => .inl (hH.F0 b hb),(fun n x hx=>by cases hx),fun n b cap hn=>absurd rfl hn,fun n m b c c' hn=>absurd rfl hn,hH.nx,hH.nm,hH.io⟩
  refine (h.2 β (giv F ι H (fun _=>True)) ι w vs hg hh0 (RVs.keep hle0 (Nms.le_refl _) (DsShw.rvs (ι':=ι) hH.blk hd hvs))).mono fun _ w' ⟨F',ι',H',nx',d,v,e1,e2,e3,e4,e5,e6,e7,e8⟩ => ?_
  have hsz : ∀ b,b<w.heap.size->True:=fun _ _=>trivial
  have hN : ∀ n b cap,H n≠none->ι' n=some (b,cap)->ι n=some (b,cap):=fun n b cap hn hb=>by
   cases hx:H n with
   | none=>exact absurd hx hn
   | some x =>
    obtain ⟨b',cap',g1, -⟩:=hH.blk n x hx
    have:=e4 _ _ g1
    rw [hb] at this
    rw [this];exact g1
  have hlt : ∀ n,H n≠none->n<nx:=fun n hn=>by
   rcases Nat.lt_or_ge n nx with h | h
   ·exact h
   ·exact absurd (hf n h) hn
  have hgv : ∀ n b cap,H n≠none->ι n=some (b,cap)->0<cap->giv F ι H (fun _=>True) b:=fun n b cap hn hb hc => .inr ⟨n,cap,trivial,hn,hb,hc⟩
  have hle:Env.le ⟨F,β.B⟩ ⟨F,β.B⟩ w w':=⟨fun _ h=>h,fun _ h=>h,fun b hb=>e3.f b (.inl hb),fun b hb=>e3.b b hb⟩
  have hsize : ∀ b,F b->b<w'.heap.size:=fun b hb=>e2.Flt b (e3.F b (.inl hb))
  refine ⟨F,ι',_,nx',d,v,e1,⟨e2.size,e2.keep,hsize,hH.Fof,hH.F0,fun n x hx => ?_,fun n b cap hn hb hc => ?_,fun n m b c c' hn hm hb1 hb2 p1 p2 => ?_,e2.nx,e2.nm,e2.io⟩,hle,e4,e5.newD e7,e8⟩
  ·by_cases hl:n<nx
   ·simp only [hl,if_true] at hx
    exact (hH.blk n x hx).keep hle e4 fun b cap hb hc=>e3.f b (hgv n b cap (by rw [hx];simp) hb hc)
   ·simp only [hl,if_false] at hx
    obtain ⟨b,cap,a1,a2,a3,a4⟩:=e2.blk n x hx
    refine ⟨b,cap,a1,a2,a3,fun hc => ?_⟩
    obtain ⟨arr,b1,b2,b3,b4⟩:=a4 hc
    refine ⟨arr,b1,b2,b3,fun i j c hj => ?_⟩
    obtain ⟨u,k1,k2⟩:=b4 i j c hj
    refine ⟨u,k1,k2.newC ?_⟩
    unfold nth2 at hj
    cases he:x.es[i]? with
    | none=>simp [he] at hj
    | some e=>exact (e6 n x hx).2 e (List.mem_of_getElem? he) c (List.mem_of_getElem? (by simpa [he] using hj))
  ·by_cases hl:n<nx
   ·simp only [hl,if_true] at hn
    have hb':=hN n b cap hn hb
    obtain ⟨s1,s2,s3⟩:=hH.own n b cap hn hb' hc
    exact ⟨e2.Flt b (e3.F b (hgv n b cap hn hb' hc)),s2,s3⟩
   ·simp only [hl,if_false] at hn
    obtain ⟨s1,s2,s3⟩:=e2.own n b cap hn hb hc
    exact ⟨s1,fun hF=>s2 (e3.F b (.inl hF)),s3⟩
  ·by_cases hl:n<nx <;> by_cases hl2:m<nx
   ·simp only [hl,hl2,if_true] at hn hm
    exact hH.inj n m b c c' hn hm (hN _ _ _ hn hb1) (hN _ _ _ hm hb2) p1 p2
   ·simp only [hl,hl2,if_true,if_false] at hn hm
    exact ((e2.own m b c' hm hb2 p2).2.1 (e3.F b (hgv n b c hn (hN _ _ _ hn hb1) p1))).elim
   ·simp only [hl,hl2,if_true,if_false] at hn hm
    exact ((e2.own n b c hn hb1 p1).2.1 (e3.F b (hgv m b c' hm (hN _ _ _ hm hb2) p2))).elim
   ·simp only [hl,hl2,if_false] at hn hm
    exact e2.inj n m b c c' hn hm hb1 hb2 p1 p2⟩
def cutK (K:D->Hp->Nat->Prop) (d:D) (H':Hp) (nx':Nat):Prop := ∃ H'',(∀ i y,H'' i=some y->H' i=some y)∧K d H'' nx'
theorem ICall.cut {P:Program} {f:FuncId} {ds:List D} {H:Hp} {nx:Nat} {K:D->Hp->Nat->Prop} (h:ICall P f ds H nx (cutK K)):ICall P f ds H nx K :=
 ⟨h.1,fun β F ι w vs h1 h2 h3=>(h.2 β F ι w vs h1 h2 h3).mono fun _ _ ⟨F',ι',H',nx',d,v,e1,e2,e3,e4,e5,H'',e6,e7⟩=>⟨F',ι',H'',nx',d,v,e1,e2.heap e6,e3,e4,e5,e7⟩⟩
theorem DPure.ofI {P:Program} {f:FuncId} {ds:List D} {K:D->List Blk->Prop} (h:ICall P f ds Hp.none 0 fun d H' _ => ∃ d',DShw H' (fun _=>True) d d'∧K d' []):DPure P f ds K :=
 ⟨h.1,fun F w vs hF hgl hvs=>by
  have hg:Base.good ⟨w,fun _=>False,F,fun _=>none⟩:=⟨hgl,hF,fun _ _ h=>h⟩
  have hH:HpOk ⟨w,fun _=>False,F,fun _=>none⟩ F w (fun _=>none) Hp.none 0:=⟨Nat.le_refl _,fun _ _ _=>rfl,hF,fun _ hb => .inl hb,fun _ hb=>hb,(fun n x hx=>by cases hx),fun n b cap hn=>absurd rfl hn,fun n m b c c' hn=>absurd rfl hn,fun _ _=>rfl,(fun n x hx=>by cases hx),SameIo.refl w⟩
  have hv:RVs ⟨F,Base.B ⟨w,fun _=>False,F,fun _=>none⟩⟩ w (fun _=>none) ds vs:=RVs.keep (show Env.le ⟨F,fun b=>b<w.heap.size⟩ ⟨F,Base.B ⟨w,fun _=>False,F,fun _=>none⟩⟩ w w from ⟨fun _ h=>h,fun _ hb=>⟨hb,fun h=>h⟩,fun _ _=>rfl,fun _ _=>rfl⟩) (Nms.le_refl _) hvs
  refine (h.2 _ F _ w vs hg hH hv).mono fun _ w' ⟨F',ι',H',nx',d,v,e1,e2,e3,e4,e5,d',e6,e7⟩ => ?_
  refine ⟨giv F' ι' H' (fun _=>True),fun _=>none,d',[],v,e1,⟨e2.size,fun b hb=>e2.keep b hb (fun h=>h),fun b hb => .inl (e3.F b hb),fun b hb => ?_,(fun i x hx=>by simp at hx),fun i b cap hi=>by simp at hi,fun i j b c c' hi=>by simp at hi,fun _ _=>rfl,DShw.rv e2.blk e6 e5,e2.io⟩,e7⟩
  rcases hb with hb | ⟨n,cap, -, g1,g2,g3⟩
  ·exact ⟨(e2.Fof b hb).imp id fun h=>h.resolve_left fun h=>h,e2.Flt b hb⟩
  ·obtain ⟨s1,s2,s3⟩:=e2.own n b cap g1 g2 g3
   exact ⟨.inr (s3.resolve_left fun h=>h),s1⟩⟩
theorem HSol.nil:HSol (fun _=>Option.none):=fun n x hx=>by cases hx
theorem CsS.csShw {H:Hp} {N:Nat->Prop} : ∀ {cs:List C} {ds:List Dt}, CsS H N cs ds->CsShw H N cs (ds.map .d)
 | [],[],_=>trivial
 | _::_,_::_,h=>⟨⟨_,rfl,h.1⟩,CsS.csShw h.2⟩
 | [],_::_,h=>h.elim
 | _::_,[],h=>h.elim

def frRow (m n:Nat) (f:GFrame):List C := [.d (eI f.fn),.d (eI f.at_),.d (eI f.to),.d (eI f.gen),.d (eI f.self.kind),.d (eI f.self.n),.own m 2 f.regs.length,.own n 2 f.tries.length]
def frData (f:GFrame):List C := [.d (eI f.fn),.d (eI f.at_),.d (eI f.to),.d (eI f.gen),.d (eI f.self.kind),.d (eI f.self.n),.d (.sl true (f.regs.map eVal)),.d (.sl true (f.tries.map eTry))]
def ceRow (m:Nat) (c:GCell):List C := [.d (eI c.kind),.d (eI c.num),.own m 2 c.vals.length,.own (m+1) 8 c.frames.length]
def ceData (c:GCell):List C := [.d (eI c.kind),.d (eI c.num),.d (.sl true (c.vals.map eVal)),.d (.sl true (c.frames.map eFrame))]
def thRow (m:Nat) (t:GThread):List C := [.own m 8 t.frames.length,.d (eI t.state),.d (eI t.on),.d (eI t.val.kind),.d (eI t.val.n)]
def thData (t:GThread):List C := [.d (.sl true (t.frames.map eFrame)),.d (eI t.state),.d (eI t.on),.d (eI t.val.kind),.d (eI t.val.n)]
def valBlk (l:List GVal):Blk:=⟨.c 31,2,l.map fun v=>(eVal v).map .d⟩
def tryBlk (l:List GTry):Blk:=⟨.c 147,2,l.map fun v=>(eTry v).map .d⟩
def mixR {α:Type} (own:Nat->α->List C) (dat:α->List C) (k:Nat) (l:List α):List (List C):=l.mapIdx fun i f=>if i<k then own i f else dat f
section
variable {α:Type} {own:Nat->α->List C} {dat:α->List C} {k:Nat} {l:List α}
@[simp] theorem mixR_len:(mixR own dat k l).length=l.length:=by simp [mixR]
theorem mixR_get (i:Nat):(mixR own dat k l)[i]? = (l[i]?).map fun f=>if i<k then own i f else dat f:=by simp [mixR]
theorem mixR_at (h:k<l.length):(mixR own dat k l)[k]? = some (dat l[k]):=by rw [mixR_get,List.getElem?_eq_getElem h];simp
@[simp] theorem mixR_getE {i:Nat} (h:i<(mixR own dat k l).length):(mixR own dat k l)[i]=if i<k then own i (l[i]'(by simpa using h)) else dat (l[i]'(by simpa using h)):=by simp [mixR]
theorem mixR_zero:mixR own dat 0 l=l.map dat:=by
 apply List.ext_getElem?
 intro i
 simp [mixR_get]
theorem mixR_set (h:k<l.length):(mixR own dat k l).set k (own k l[k])=mixR own dat (k+1) l:=by
 apply List.ext_getElem?
 intro i
 rw [List.getElem?_set,mixR_get,mixR_get]
 by_cases e:k=i
 ·subst e;simp [h]
 ·rw [if_neg e]
  have:i<k↔i<k+1:=by omega
  simp [this]
end
def off {α:Type} (g:α->Nat) (l:List α) (i:Nat):Nat:=((l.take i).map g).sum
section
variable {α:Type} {g:α->Nat} {l:List α}
@[simp] theorem off_zero:off g l 0=0:=by simp [off]
theorem off_succ {i:Nat} (h:i<l.length):off g l (i+1)=off g l i+g l[i]:=by
 unfold off
 rw [List.take_add_one,List.getElem?_eq_getElem h,List.map_append,List.sum_append]
 simp
theorem off_mono {i j:Nat} (h:i≤j):off g l i≤off g l j:=by
 obtain ⟨d,rfl⟩ : ∃ d,j=i+d:=⟨j-i,by omega⟩
 unfold off
 rw [List.take_add,List.map_append,List.sum_append]
 omega
theorem off_lt {i j:Nat} (h:i<j) (hi:i<l.length):off g l i+g l[i]≤off g l j:=by
 rw [← off_succ hi]
 exact off_mono h
end
abbrev ceW (c:GCell):Nat:=2+2*c.frames.length
abbrev thW (t:GThread):Nat:=1+2*t.frames.length
structure FrIn (H:Hp) (b k:Nat) (l:List GFrame):Prop where
 regs : ∀ (i:Nat) (h:i<l.length),i<k->H (b+1+2*i)=some (valBlk l[i].regs)
 tries : ∀ (i:Nat) (h:i<l.length),i<k->H (b+2+2*i)=some (tryBlk l[i].tries)
def frMix (b k:Nat) (l:List GFrame):Blk:=⟨.c 100,8,mixR (fun i f=>frRow (b+1+2*i) (b+2+2*i) f) frData k l⟩
structure FrAt (H:Hp) (b:Nat) (l:List GFrame):Prop where
 blk:H b=some (frMix b l.length l)
 sub:FrIn H b l.length l
theorem FrAt.low {H H':Hp} {b:Nat} {l:List GFrame} (h:FrAt H b l) (hl : ∀ i,b≤i->i<b+1+2*l.length->H' i=H i):FrAt H' b l :=
 ⟨by rw [hl _ (by omega) (by omega)];exact h.blk,fun i hi hk=>by rw [hl _ (by omega) (by omega)];exact h.sub.regs i hi hk,fun i hi hk=>by rw [hl _ (by omega) (by omega)];exact h.sub.tries i hi hk⟩
def CeIn (H:Hp) (b k:Nat) (l:List GCell):Prop := ∀ (i:Nat) (h:i<l.length),i<k->H (b+off ceW l i)=some (valBlk l[i].vals)∧FrAt H (b+off ceW l i+1) l[i].frames
def ThIn (H:Hp) (b k:Nat) (l:List GThread):Prop := ∀ (i:Nat) (h:i<l.length),i<k->FrAt H (b+off thW l i) l[i].frames
def ceMix (b k:Nat) (l:List GCell):Blk:=⟨.c 75,4,mixR (fun i c=>ceRow (b+off ceW l i) c) ceData k l⟩
def thMix (b k:Nat) (l:List GThread):Blk:=⟨.c 90,5,mixR (fun i t=>thRow (b+off thW l i) t) thData k l⟩
theorem CeIn.low {H H':Hp} {b k:Nat} {l:List GCell} (h:CeIn H b k l) (hk:k≤l.length) (hl : ∀ i,b≤i->i<b+off ceW l k->H' i=H i):CeIn H' b k l:=fun i hi hik=>by
 obtain ⟨h1,h2⟩:=h i hi hik
 have h3:off ceW l i+(2+2*l[i].frames.length)≤off ceW l k:=off_lt (g:=ceW) hik hi
 exact ⟨by rw [hl _ (by omega) (by omega)];exact h1,h2.low fun j hj1 hj2=>hl j (by omega) (by omega)⟩
theorem ThIn.low {H H':Hp} {b k:Nat} {l:List GThread} (h:ThIn H b k l) (hk:k≤l.length) (hl : ∀ i,b≤i->i<b+off thW l k->H' i=H i):ThIn H' b k l:=fun i hi hik=>by
 have h2:=h i hi hik
 have h3:off thW l i+(1+2*l[i].frames.length)≤off thW l k:=off_lt (g:=thW) hik hi
 exact h2.low fun j hj1 hj2=>hl j (by omega) (by omega)
abbrev ceB (n:Nat):Nat:=n+6
abbrev thB (n:Nat) (s:GState):Nat:=n+6+off ceW s.cells s.cells.length
abbrev enB (n:Nat) (s:GState):Nat:=thB n s+off thW s.threads s.threads.length
structure Oth (H:Hp) (n:Nat) (s:GState):Prop where
 shapes:H (n+1)=some ⟨.c 118,2,s.shapes.map fun x=>(eShape x).map .d⟩
 texts:H (n+2)=some ⟨.c 9,1,s.texts.map fun x=>(eStr x).map .d⟩
 ends:H (n+4)=some ⟨.c 88,3,s.ends.map fun x=>(eEnd x).map .d⟩
 said:H (n+5)=some (valBlk s.said)
structure StAt (H:Hp) (n:Nat) (s:GState):Prop where
 oth:Oth H n s
 cells:H n=some (ceMix (ceB n) s.cells.length s.cells)
 threads:H (n+3)=some (thMix (thB n s) s.threads.length s.threads)
 ce:CeIn H (ceB n) s.cells.length s.cells
 th:ThIn H (thB n s) s.threads.length s.threads
def stRow (n:Nat) (s:GState):List C := [.own n 4 s.cells.length,.own (n+1) 2 s.shapes.length,.own (n+2) 1 s.texts.length,.own (n+3) 5 s.threads.length,.own (n+4) 3 s.ends.length,.own (n+5) 2 s.said.length,.d (eI s.asked),.d (eI s.steps)]
theorem Shw.rowL {H:Hp} {N:Nat->Prop} {n k l:Nat} {x:Blk} {es:List (List Dt)} (hn:N n) (hx:H n=some x) (hk:x.k=k) (h1:es.length=l) (h2:l≤x.es.length) (h3 : ∀ e∈es,e.length=k)
  (h4 : ∀ (i:Nat) (hi:i<es.length), ∃ r,x.es[i]? = some r∧CsS H N r es[i]):Shw H N (.own n k l) (.sl true es):=by
 have hg : ∀ i j d,nth2 es i j=some d -> ∃ c,nth2 x.es i j=some c∧Shw H N c d:=fun i j d hd=>by
  unfold nth2 at hd ⊢
  cases he:es[i]? with
  | none=>simp [he] at hd
  | some e =>
   obtain ⟨hi,rfl⟩:=List.getElem?_eq_some_iff.1 he
   obtain ⟨r,hr,hs⟩:=h4 i hi
   simp only [he,Option.bind_some] at hd
   obtain ⟨c,h5,h6⟩:=(CsS.get hs).2 j d hd
   exact ⟨c,by simpa [hr] using h5,h6⟩
 refine .own (fun i j=>(nth2 x.es i j).getD .any) hn hx hk h1 h2 h3 (fun i j d hd => ?_) (fun i j d hd => ?_)
 ·obtain ⟨c,h5, -⟩:=hg i j d hd
  rw [h5];rfl
 ·obtain ⟨c,h5,h6⟩:=hg i j d hd
  rw [h5];exact h6
theorem Shw.tries {H:Hp} {N:Nat->Prop} {n:Nat} {l:List GTry} {k:Nat} (hn:N n) (hx:H n=some (tryBlk l)):Shw H N (.own n 2 (l.take k).length) (.sl true ((l.take k).map eTry)):=Shw.row hn hx rfl (by simp) (by
 simp only [tryBlk,List.map_map, ← List.map_take,List.length_take]
 rw [List.take_eq_take_iff.2 (show min (min k l.length) l.length=min k l.length by omega)]
 rfl) (fun e he=>by obtain ⟨v, -, rfl⟩:=List.mem_map.1 he;rfl) (fun e he d hd=>by
 obtain ⟨v, -, rfl⟩:=List.mem_map.1 he
 simp [eTry] at hd
 rcases hd with rfl | rfl <;> rfl)
theorem frRow_shw {H:Hp} {N:Nat->Prop} {m n:Nat} {f:GFrame} (h1:Shw H N (.own m 2 f.regs.length) (.sl true (f.regs.map eVal))) (h2:Shw H N (.own n 2 f.tries.length) (.sl true (f.tries.map eTry))):CsS H N (frRow m n f) (eFrame f) :=
 ⟨.d rfl,.d rfl,.d rfl,.d rfl,.d rfl,.d rfl,h1,h2,trivial⟩
def newRs (rs:List (List C)):Prop := ∀ e∈rs, ∀ c∈e,c.newC=true
def newAt (H:Hp) (q:Nat):Prop := ∀ x,H q=some x->newRs x.es
theorem newRs.set {rs:List (List C)} (h:newRs rs) {i:Nat} {e:List C} (he : ∀ c∈e,c.newC=true):newRs (rs.set i e):=fun e' h' c hc=>by
 rcases List.mem_or_eq_of_mem_set h' with h1 | rfl
 ·exact h e' h1 c hc
 ·exact he c hc
theorem valBlk_new (l:List GVal):newRs (valBlk l).es:=fun e he c hc=>by
 simp [valBlk] at he
 obtain ⟨v, -, rfl⟩:=he
 simp at hc
 rcases hc with rfl | rfl <;> rfl
theorem tryBlk_new (l:List GTry):newRs (tryBlk l).es:=fun e he c hc=>by
 simp [tryBlk] at he
 obtain ⟨v, -, rfl⟩:=he
 simp at hc
 rcases hc with rfl | rfl <;> rfl
theorem mixR_new {α:Type} {own:Nat->α->List C} {dat:α->List C} {l:List α} (h1 : ∀ i x, ∀ c∈own i x,c.newC=true):newRs (mixR own dat l.length l):=fun e he c hc=>by
 simp only [mixR,List.mem_mapIdx] at he
 obtain ⟨i,hi,rfl⟩:=he
 rw [if_pos hi] at hc
 exact h1 _ _ c hc
theorem frRow_new (m n:Nat) (f:GFrame) : ∀ c∈frRow m n f,c.newC=true:=fun c hc=>by simp [frRow] at hc;rcases hc with rfl | rfl | rfl | rfl | rfl | rfl | rfl | rfl <;> rfl
theorem ceRow_new (m:Nat) (f:GCell) : ∀ c∈ceRow m f,c.newC=true:=fun c hc=>by simp [ceRow] at hc;rcases hc with rfl | rfl | rfl | rfl <;> rfl
theorem thRow_new (m:Nat) (f:GThread) : ∀ c∈thRow m f,c.newC=true:=fun c hc=>by simp [thRow] at hc;rcases hc with rfl | rfl | rfl | rfl | rfl <;> rfl
theorem newAt.of {H:Hp} {q:Nat} {x:Blk} (h:H q=some x) (hx:newRs x.es):newAt H q:=fun y hy=>by rw [h] at hy;cases hy;exact hx
theorem FrAt.blks {H:Hp} {b:Nat} {l:List GFrame} (h:FrAt H b l) {i:Nat} (h1:b≤i) (h2:i<b+1+2*l.length):newAt H i:=by
 by_cases e:i=b
 ·subst e
  exact .of h.blk (mixR_new fun _ _=>frRow_new _ _ _)
 ·obtain ⟨k,hk⟩ : ∃ k,i=b+1+2*k∨i=b+2+2*k:=⟨(i-b-1)/2,by omega⟩
  rcases hk with rfl | rfl
  ·exact .of (h.sub.regs k (by omega) (by omega)) (valBlk_new _)
  ·exact .of (h.sub.tries k (by omega) (by omega)) (tryBlk_new _)
theorem FrAt.newAll {H:Hp} {b:Nat} {l:List GFrame} (h:FrAt H b l) (hlow : ∀ i,i<b->H i=none) (hhigh : ∀ i,b+1+2*l.length≤i->H i=none) : ∀ i x,H i=some x->b≤i ∧ ∀ e∈x.es, ∀ c∈e,c.newC=true:=fun i x hx=>by
 rcases Nat.lt_or_ge i b with h1 | h1
 ·rw [hlow i h1] at hx;cases hx
 rcases Nat.lt_or_ge i (b+1+2*l.length) with h2 | h2
 ·exact ⟨h1,h.blks h1 h2 x hx⟩
 ·rw [hhigh i h2] at hx;cases hx
theorem valBlk_sol (l:List GVal) : ∀ e∈(valBlk l).es, ∀ c∈e,C.solidC c=true:=fun e he c hc=>by
 simp [valBlk] at he
 obtain ⟨v, -, rfl⟩:=he
 simp at hc
 rcases hc with rfl | rfl <;> rfl
theorem tryBlk_sol (l:List GTry) : ∀ e∈(tryBlk l).es, ∀ c∈e,C.solidC c=true:=fun e he c hc=>by
 simp [tryBlk] at he
 obtain ⟨v, -, rfl⟩:=he
 simp at hc
 rcases hc with rfl | rfl <;> rfl
theorem mixR_sol {α:Type} {own:Nat->α->List C} {dat:α->List C} {k:Nat} {l:List α} (h1 : ∀ i x, ∀ c∈own i x,C.solidC c=true) (h2 : ∀ x, ∀ c∈dat x,C.solidC c=true) : ∀ e∈mixR own dat k l, ∀ c∈e,C.solidC c=true:=fun e he c hc=>by
 simp only [mixR,List.mem_mapIdx] at he
 obtain ⟨i,hi,rfl⟩:=he
 split at hc
 ·exact h1 _ _ c hc
 ·exact h2 _ c hc
theorem frRow_sol (m n:Nat) (f:GFrame) : ∀ c∈frRow m n f,C.solidC c=true:=fun c hc=>by simp [frRow] at hc;rcases hc with rfl | rfl | rfl | rfl | rfl | rfl | rfl | rfl <;> rfl
theorem frData_sol (f:GFrame) : ∀ c∈frData f,C.solidC c=true:=fun c hc=>by simp [frData] at hc;rcases hc with rfl | rfl | rfl | rfl | rfl | rfl | rfl | rfl <;> rfl
theorem frMix_sol (b k:Nat) (l:List GFrame) : ∀ e∈(frMix b k l).es, ∀ c∈e,C.solidC c=true:=mixR_sol (fun _ _=>frRow_sol _ _ _) fun _=>frData_sol _
structure FrI (H0:Hp) (b:Nat) (l:List GFrame) (x:HN):Prop where
 hk:x.k≤l.length
 hn:x.nx=b+1+2*x.k
 blk:x.H b=some (frMix b x.k l)
 sub:FrIn x.H b x.k l
 low : ∀ i,i<b->x.H i=H0 i
 high : ∀ i,x.nx≤i->x.H i=none
 sol:HSol x.H
theorem frames_ic (S:Bool) (l:List GFrame) (hn:l.length≤30) (hl : ∀ f∈l,f.regs.length≤100000000000∧f.tries.length≤100000000000) {H:Hp} {nx:Nat} (hS:HSol H) {K:D->Hp->Nat->Prop}
  (h : ∀ H',(∀ i,i<nx->H' i=H i)->(∀ i,nx+1+2*l.length≤i->H' i=none)->HSol H'->FrAt H' nx l->K (.one (.own nx 8 l.length)) H' (nx+1+2*l.length)):ICall Tryz.prog 69 [dL S (l.map eFrame)] H nx K:=by
 refine ICall.fresh (by kernel_rfl) fun hfr => ?_
 refine fni_ok [0,2,3,7,8,9] [(5,[0,0,0,0,0,0,48,112,240,496,0,0,3072,7168,15360,32752,65523,131059,262131,524287,1048575,2097151],(.seg 0 (.seg 1 (.seg 2 (.seg 3 (.seg 4 (.seg 5 (.seg 6 (.seg 7 (.seg 8 (.seg 10 (.seg 11 (.seg 12 (.seg 13 (.seg 14 (.eff 9 [12,13,14] (.eff 15 [8,14] (.seg 16 (.seg 17 (.eff 18 [] (.seg 19 (.seg 20 (.eff 21 [] .last)))))))))))))))))))))))] Tryz.func69 rfl (by kernel_rfl) rfl rfl rfl rfl (by kernel_rfl) ?_
 simp
 refine cloneFr_ok S (l.map eFrame) (by simp) (by simp) (by simp;omega) ?_
 simp
 intro _
 refine loopH_ok (ks := [0,2,3,7,8,9]) (pl := [(5,[0,0,0,0,0,0,48,112,240,496,0,0,3072,7168,15360,32752,65523,131059,262131,524287,1048575,2097151],(.seg 0 (.seg 1 (.seg 2 (.seg 3 (.seg 4 (.seg 5 (.seg 6 (.seg 7 (.seg 8 (.seg 10 (.seg 11 (.seg 12 (.seg 13 (.seg 14 (.eff 9 [12,13,14] (.eff 15 [8,14] (.seg 16 (.seg 17 (.eff 18 [] (.seg 19 (.seg 20 (.eff 21 [] .last)))))))))))))))))))))))]) (n0:=33) (α := {x:HN//FrI H nx l x}) (fun x=>[(8,dI x.1.k)]) (fun _ x=>x.1.H) (fun x=>x.1.nx) (fun x=>l.length-x.1.k) ⟨⟨0,H.set nx (some (frMix nx 0 l)),nx+1⟩,?_⟩ rfl (by kernel_rfl) ?_ ?_
 ·exact ⟨by simp,by simp,by simp,⟨fun _ _ h=>absurd h (Nat.not_lt_zero _),fun _ _ h=>absurd h (Nat.not_lt_zero _)⟩,fun i hi=>Hp.set_ne _ _ (by omega),fun i hi=>by
   simp only at hi
   show H.set nx _ i=none
   rw [Hp.set_ne _ _ (by omega)];exact hfr i (by omega),hS.set (frMix_sol _ _ _)⟩
 ·refine Wk.subH (by simp) ?_
  simp only [frMix,mixR_zero]
  rfl
 rintro ⟨⟨k,H1,n1⟩,hk,hn1,hb,hsub,hlow,hhigh,hsol⟩
 simp only at hk hn1 hb hsub hlow hhigh hsol
 by_cases h1:k<l.length
 ·obtain ⟨g1,g2⟩:=hl _ (List.getElem_mem h1)
  have e0 : ¬ nx=n1:=by omega
  have e1 : ¬ nx=n1+1:=by omega
  have hr:=mixR_at (own:=fun i f=>frRow (nx+1+2*i) (nx+2+2*i) f) (dat:=frData) h1
  rw [frData] at hr
  rw [frMix] at hb
  simp [h1,hb,frData,e0,e1]
  refine cloneV_ok true (l[k].regs.map eVal) (by simp) (by simp) (by simp;omega) ?_
  simp [h1,hb,frData,e0,e1]
  refine cloneT_ok true (l[k].tries.map eTry) (by simp) (by simp) (by simp;omega) ?_
  simp [h1,hb,frData,e0,e1]
  have n2:n1+1=nx+2+2*k:=by omega
  refine ⟨⟨k+1,((H1.set n1 (some (valBlk l[k].regs))).set (n1+1) (some (tryBlk l[k].tries))).set nx (some (frMix nx (k+1) l)),n1+2⟩,by simp;omega,⟨by simp;omega,by simp;omega,by simp,⟨fun i hi hik => ?_,fun i hi hik => ?_⟩,fun i hi => ?_,fun i hi => ?_,((hsol.set (valBlk_sol _)).set (tryBlk_sol _)).set (frMix_sol _ _ _)⟩,Wk.subH (by simp [wrap_add (show k<9223372036854775807 by omega)]) ?_⟩
  ·simp only at hik
   show Hp.set _ _ _ _=_
   rw [Hp.set_ne _ _ (by omega),Hp.set_ne _ _ (by omega)]
   by_cases e:i=k
   ·subst e;rw [hn1,Hp.set_same]
   ·rw [Hp.set_ne _ _ (by omega)];exact hsub.regs i hi (by omega)
  ·simp only at hik
   show Hp.set _ _ _ _=_
   rw [Hp.set_ne _ _ (by omega)]
   by_cases e:i=k
   ·subst e;rw [n2,Hp.set_same]
   ·rw [Hp.set_ne _ _ (by omega),Hp.set_ne _ _ (by omega)];exact hsub.tries i hi (by omega)
  ·show Hp.set _ _ _ _=_
   rw [Hp.set_ne _ _ (by omega),Hp.set_ne _ _ (by omega),Hp.set_ne _ _ (by omega)];exact hlow i hi
  ·simp only at hi
   show Hp.set _ _ _ _=_
   rw [Hp.set_ne _ _ (by omega),Hp.set_ne _ _ (by omega),Hp.set_ne _ _ (by omega)];exact hhigh i (by omega)
  ·rw [frMix, ← mixR_set h1,n2,hn1]
   rfl
 ·obtain rfl:k=l.length:=by omega
  simp [hsol]
  subst hn1
  exact h H1 hlow hhigh hsol ⟨hb,hsub⟩
structure Sized (s:GState):Prop where
 cells:s.cells.length≤300
 shapes:s.shapes.length≤100
 texts:s.texts.length≤300
 threads:s.threads.length≤5
 ends:s.ends.length≤100
 said:s.said.length≤200
 cell : ∀ c∈s.cells,c.vals.length≤100000000000∧c.frames.length≤30 ∧ ∀ f∈c.frames,f.regs.length≤100000000000∧f.tries.length≤100000000000
 thread : ∀ t∈s.threads,t.frames.length≤30 ∧ ∀ f∈t.frames,f.regs.length≤100000000000∧f.tries.length≤100000000000
theorem ceData_sol (f:GCell) : ∀ c∈ceData f,C.solidC c=true:=fun c hc=>by simp [ceData] at hc;rcases hc with rfl | rfl | rfl | rfl <;> rfl
theorem ceRow_sol (m:Nat) (f:GCell) : ∀ c∈ceRow m f,C.solidC c=true:=fun c hc=>by simp [ceRow] at hc;rcases hc with rfl | rfl | rfl | rfl <;> rfl
theorem thData_sol (f:GThread) : ∀ c∈thData f,C.solidC c=true:=fun c hc=>by simp [thData] at hc;rcases hc with rfl | rfl | rfl | rfl | rfl <;> rfl
theorem thRow_sol (m:Nat) (f:GThread) : ∀ c∈thRow m f,C.solidC c=true:=fun c hc=>by simp [thRow] at hc;rcases hc with rfl | rfl | rfl | rfl | rfl <;> rfl
theorem ceMix_sol (b k:Nat) (l:List GCell) : ∀ e∈(ceMix b k l).es, ∀ c∈e,C.solidC c=true:=mixR_sol (fun _ _=>ceRow_sol _ _) fun _=>ceData_sol _
theorem thMix_sol (b k:Nat) (l:List GThread) : ∀ e∈(thMix b k l).es, ∀ c∈e,C.solidC c=true:=mixR_sol (fun _ _=>thRow_sol _ _) fun _=>thData_sol _
def nilS:List C := [.d .emp,.d .emp,.d .emp,.d .emp,.d .emp,.d .emp,.d (eI 0),.d (eI 0)]
structure CeI (H0:Hp) (m n:Nat) (s:GState) (x:HN):Prop where
 hm:n=m+2
 hk:x.k≤s.cells.length
 hn:x.nx=ceB n+off ceW s.cells x.k
 box:x.H m=some ⟨.c 29,8,[stRow n s]⟩
 res:x.H (m+1)=some ⟨.c 29,8,[nilS]⟩
 oth:Oth x.H n s
 cells:x.H n=some (ceMix (ceB n) x.k s.cells)
 threads:x.H (n+3)=some (thMix (thB n s) 0 s.threads)
 ce:CeIn x.H (ceB n) x.k s.cells
 low : ∀ i,i<m->x.H i=H0 i
 high : ∀ i,x.nx≤i->x.H i=none
 sol:HSol x.H
structure ThI (H0:Hp) (m n:Nat) (s:GState) (x:HN):Prop where
 hm:n=m+2
 hk:x.k≤s.threads.length
 hn:x.nx=thB n s+off thW s.threads x.k
 box:x.H m=some ⟨.c 29,8,[stRow n s]⟩
 res:x.H (m+1)=some ⟨.c 29,8,[nilS]⟩
 oth:Oth x.H n s
 cells:x.H n=some (ceMix (ceB n) s.cells.length s.cells)
 threads:x.H (n+3)=some (thMix (thB n s) x.k s.threads)
 ce:CeIn x.H (ceB n) s.cells.length s.cells
 th:ThIn x.H (thB n s) x.k s.threads
 low : ∀ i,i<m->x.H i=H0 i
 high : ∀ i,x.nx≤i->x.H i=none
 sol:HSol x.H
theorem Oth.low {H H':Hp} {n:Nat} {s:GState} (h:Oth H n s) (hl : ∀ i,n≤i->i<n+6->i≠n->i≠n+3->H' i=H i):Oth H' n s :=
 ⟨by rw [hl _ (by omega) (by omega) (by omega) (by omega)];exact h.shapes,by rw [hl _ (by omega) (by omega) (by omega) (by omega)];exact h.texts,by rw [hl _ (by omega) (by omega) (by omega) (by omega)];exact h.ends,by rw [hl _ (by omega) (by omega) (by omega) (by omega)];exact h.said⟩
theorem CeI.next {H0 H1 M:Hp} {m n k n1:Nat} {s:GState} (h:CeI H0 m n s ⟨k,H1,n1⟩) (h1:k<s.cells.length) (at':FrAt M (n1+1) s.cells[k].frames) (d3 : ∀ i,i<n1->M i=H1 i) (d4:M n1=some (valBlk s.cells[k].vals))
  (d5 : ∀ i,n1+1+1+2*s.cells[k].frames.length≤i->M i=none) (d6:HSol M) {R:List (List C)} (hR:R=(mixR (fun i c=>ceRow (ceB n+off ceW s.cells i) c) ceData k s.cells).set k (ceRow n1 s.cells[k])) :
  CeI H0 m n s ⟨k+1,M.set n (some ⟨.c 75,4,R⟩),n1+1+1+2*s.cells[k].frames.length⟩:=by
 obtain ⟨hm,hk,hn1,hbox,hres,hoth,hce,hthr,hin,hlow,hhigh,hsol⟩:=h
 simp only at hk hn1 hbox hres hoth hce hthr hin hlow hhigh hsol
 have hn:n1=n+6+off ceW s.cells k:=hn1
 have hs:off ceW s.cells (k+1)=off ceW s.cells k+(2+2*s.cells[k].frames.length):=off_succ h1
 have hb:(⟨.c 75,4,R⟩:Blk)=ceMix (ceB n) (k+1) s.cells:=by
  rw [hR,ceMix, ← mixR_set h1]
  simp only [ceB,hn]
 have ne : ∀ i,i≠n->M.set n (some ⟨.c 75,4,R⟩) i=M i:=fun i hi=>Hp.set_ne _ _ hi
 refine ⟨hm,h1,by simp only [ceB];omega,?_,?_,?_,?_,?_,?_,fun i hi => ?_,fun i hi => ?_,?_⟩
 ·simp only;rw [ne _ (by omega),d3 _ (by omega)];exact hbox
 ·simp only;rw [ne _ (by omega),d3 _ (by omega)];exact hres
 ·exact hoth.low fun i h1 h2 h3 h4=>by show Hp.set _ _ _ _=_;rw [ne _ h3,d3 _ (by omega)]
 ·simp only;rw [Hp.set_same,hb]
 ·simp only;rw [ne _ (by omega),d3 _ (by omega)];exact hthr
 ·intro i hi hik
  simp only at hik ⊢
  by_cases e:i=k
  ·subst e
   simp only [ceB]
   rw [← hn]
   refine ⟨by rw [ne _ (by omega)];exact d4,at'.low fun j h1 h2=>ne _ (by omega)⟩
  ·obtain ⟨g1,g2⟩:=hin i hi (by omega)
   have h3:off ceW s.cells i+(2+2*s.cells[i].frames.length)≤off ceW s.cells k:=off_lt (g:=ceW) (by omega) hi
   simp only [ceB] at g1 g2 ⊢
   exact ⟨by rw [ne _ (by omega),d3 _ (by omega)];exact g1,g2.low fun j h1 h2=>by rw [ne _ (by omega),d3 _ (by omega)]⟩
 ·simp only;rw [ne _ (by omega),d3 _ (by omega)];exact hlow i hi
 ·simp only at hi ⊢; rw [ne _ (by omega)];exact d5 i (by omega)
 ·simp only;rw [hb];exact d6.set (ceMix_sol _ _ _)
theorem ThI.next {H0 H1 M:Hp} {m n k n1:Nat} {s:GState} (h:ThI H0 m n s ⟨k,H1,n1⟩) (h1:k<s.threads.length) (at':FrAt M n1 s.threads[k].frames) (d3 : ∀ i,i<n1->M i=H1 i)
  (d5 : ∀ i,n1+1+2*s.threads[k].frames.length≤i->M i=none) (d6:HSol M) {R:List (List C)} (hR:R=(mixR (fun i c=>thRow (thB n s+off thW s.threads i) c) thData k s.threads).set k (thRow n1 s.threads[k])) :
  ThI H0 m n s ⟨k+1,M.set (n+3) (some ⟨.c 90,5,R⟩),n1+1+2*s.threads[k].frames.length⟩:=by
 obtain ⟨hm,hk,hn1,hbox,hres,hoth,hce,hthr,hin,hth,hlow,hhigh,hsol⟩:=h
 simp only at hk hn1 hbox hres hoth hce hthr hin hth hlow hhigh hsol
 have hn:n1=n+6+off ceW s.cells s.cells.length+off thW s.threads k:=hn1
 have hs:off thW s.threads (k+1)=off thW s.threads k+(1+2*s.threads[k].frames.length):=off_succ h1
 have hb:(⟨.c 90,5,R⟩:Blk)=thMix (thB n s) (k+1) s.threads:=by
  rw [hR,thMix, ← mixR_set h1]
  simp only [thB,hn]
 have ne : ∀ i,i≠n+3->M.set (n+3) (some ⟨.c 90,5,R⟩) i=M i:=fun i hi=>Hp.set_ne _ _ hi
 refine ⟨hm,h1,by simp only [thB];omega,?_,?_,?_,?_,?_,?_,?_,fun i hi => ?_,fun i hi => ?_,?_⟩
 ·simp only;rw [ne _ (by omega),d3 _ (by omega)];exact hbox
 ·simp only;rw [ne _ (by omega),d3 _ (by omega)];exact hres
 ·exact hoth.low fun i h1 h2 h3 h4=>by show Hp.set _ _ _ _=_;rw [ne _ h4,d3 _ (by omega)]
 ·simp only;rw [ne _ (by omega),d3 _ (by omega)];exact hce
 ·simp only;rw [Hp.set_same,hb]
 ·exact hin.low (Nat.le_refl _) fun i h1 h2=>by simp only [ceB] at h1 h2;show Hp.set _ _ _ _=_;rw [ne _ (by omega),d3 _ (by omega)]
 ·intro i hi hik
  simp only at hik ⊢
  by_cases e:i=k
  ·subst e
   simp only [thB]
   rw [← hn]
   exact at'.low fun j h1 h2=>ne _ (by omega)
  ·have g2:=hth i hi (by omega)
   have h3:off thW s.threads i+(1+2*s.threads[i].frames.length)≤off thW s.threads k:=off_lt (g:=thW) (by omega) hi
   simp only [thB] at g2 ⊢
   exact g2.low fun j h1 h2=>by rw [ne _ (by omega),d3 _ (by omega)]
 ·simp only;rw [ne _ (by omega),d3 _ (by omega)];exact hlow i hi
 ·simp only at hi ⊢; rw [ne _ (by omega)];exact d5 i (by omega)
 ·simp only;rw [hb];exact d6.set (thMix_sol _ _ _)
def cp0 (H:Hp) (m:Nat) (s:GState):Hp:=((((((((H.set m (some ⟨.c 29,8,[(eState s).map .d]⟩)).set (m+1) (some ⟨.c 29,8,[nilS]⟩)).set (m+2) (some (ceMix (ceB (m+2)) 0 s.cells))).set (m+3) (some ⟨.c 118,2,s.shapes.map fun x=>(eShape x).map .d⟩)).set (m+4) (some ⟨.c 9,1,s.texts.map fun x=>(eStr x).map .d⟩)).set (m+5) (some (thMix (thB (m+2) s) 0 s.threads))).set (m+6) (some ⟨.c 88,3,s.ends.map fun x=>(eEnd x).map .d⟩)).set (m+7) (some (valBlk s.said))).set m (some ⟨.c 29,8,[stRow (m+2) s]⟩)
theorem cp0_ok {H:Hp} {m:Nat} {s:GState} (hS:HSol H) (hfr : ∀ i,m≤i->H i=none):CeI H m (m+2) s ⟨0,cp0 H m s,m+8⟩:=by
 refine ⟨rfl,by simp,by simp,Hp.set_same _ _ _,?_,⟨?_,?_,?_,?_⟩,?_,?_,fun _ _ h=>absurd h (Nat.not_lt_zero _),fun i hi => ?_,fun i hi => ?_,?_⟩
 ·simp [cp0,Hp.set]
 ·simp [cp0,Hp.set];omega
 ·simp [cp0,Hp.set];omega
 ·simp [cp0,Hp.set];omega
 ·simp [cp0,Hp.set];omega
 ·simp [cp0,Hp.set]
 ·simp [cp0,Hp.set];omega
 ·simp only [cp0];repeat rw [Hp.set_ne _ _ (by omega)]
 ·simp only [cp0] at hi ⊢; repeat rw [Hp.set_ne _ _ (by omega)]
  exact hfr i (by omega)
 ·refine HSol.set (HSol.set (HSol.set (HSol.set (HSol.set (HSol.set (HSol.set (HSol.set (HSol.set hS ?_) ?_) (ceMix_sol _ _ _)) ?_) ?_) (thMix_sol _ _ _)) ?_) (valBlk_sol _)) (by simp [stRow])
  ·simp
  ·simp [nilS]
  ·intro e he c hc
   obtain ⟨v, -, rfl⟩:=List.mem_map.1 he
   simp at hc
   rcases hc with rfl | rfl <;> rfl
  ·simp
  ·simp
theorem HSol.mer {H H':Hp} {n:Nat} (h1:HSol H) (h2:HSol H'):HSol (Hp.mer H n H'):=fun i x hx=>by
 by_cases h:i<n
 ·rw [Hp.mer_lt h] at hx;exact h1 i x hx
 ·rw [Hp.mer_ge (by omega)] at hx;exact h2 i x hx
theorem copy_ic (s:GState) (hz:Sized s) {H:Hp} {nx:Nat} (hS:HSol H) {K:D->Hp->Nat->Prop}
  (h : ∀ H',(∀ i,i<nx->H' i=H i)->(∀ i,enB (nx+2) s≤i->H' i=none)->HSol H'->StAt H' (nx+2) s->K (.agg (stRow (nx+2) s)) H' (enB (nx+2) s)):ICall Tryz.prog 24 [aD (eState s)] H nx K:=by
 obtain ⟨z1,z2,z3,z4,z5,z6,z7,z8⟩:=hz
 refine ICall.fresh (by kernel_rfl) fun hfr => ?_
 refine fni_ok [0,1,2,3,4,31,32,33,62,63,64] [(1,[0,1,3,0,8,31,0,64,255,0,512,2047,0,4096,16383,0,32768,131071,112351,524287,1048575,2097151,4194303,8388607,16777215,33554431,67108863,134217727,268435455,536870911],(.seg 0 (.seg 1 (.seg 3 (.seg 4 (.seg 6 (.seg 7 (.seg 9 (.seg 10 (.seg 12 (.seg 13 (.seg 15 (.seg 16 (.eff 2 [3,4,6,7,9,10,12,13,15,16] (.seg 18 (.eff 5 [6,7,9,10,12,13,15,16,18] (.eff 8 [9,10,12,13,15,16,18] (.eff 11 [12,13,15,16,18] (.eff 14 [15,16,18] (.eff 17 [18] (.eff 19 [] (.seg 20 (.eff 21 [] (.seg 22 (.eff 23 [] (.seg 24 (.eff 25 [] (.seg 26 (.eff 27 [] (.seg 28 (.eff 29 [] .last))))))))))))))))))))))))))))))),(5,[0,1,0,0,8,0,0,64,0,448,960,1984,4032,0,8192,0,57344,122880,253952,524224,1048519,2097095,4194247,8388607,16777215,33554431],(.seg 0 (.seg 1 (.seg 2 (.seg 3 (.seg 4 (.seg 5 (.seg 6 (.seg 7 (.seg 8 (.seg 9 (.seg 10 (.seg 11 (.seg 13 (.seg 14 (.seg 15 (.seg 16 (.seg 17 (.seg 18 (.eff 12 [0,1,3,4,13,14,16,17,18] (.eff 19 [0,1,3,4] (.seg 20 (.seg 21 (.eff 22 [3,4] (.seg 23 (.seg 24 (.eff 25 [] .last))))))))))))))))))))))))))),(10,[0,1,0,0,8,0,56,120,248,504,1023,2047,4095],(.seg 0 (.seg 1 (.seg 2 (.seg 3 (.seg 4 (.seg 5 (.seg 6 (.seg 7 (.seg 8 (.eff 9 [0,1] (.seg 10 (.seg 11 (.eff 12 [] .last))))))))))))))] Tryz.func24 rfl (by kernel_rfl) rfl rfl rfl rfl (by kernel_rfl) ?_
 simp
 refine cloneCe_ok true (s.cells.map eCell) (by simp) (by simp) (by simp;omega) ?_
 simp
 refine cloneSh_ok true (s.shapes.map eShape) (fun e he=>by obtain ⟨v, -, rfl⟩:=List.mem_map.1 he;rfl) (fun e he d hd=>by obtain ⟨v, -, rfl⟩:=List.mem_map.1 he;simp at hd;rcases hd with rfl | rfl <;> rfl) (by simp;omega) ?_
 simp
 refine cloneS_ok true (s.texts.map eStr) (by simp) (by simp) (by simp;omega) ?_
 simp
 refine cloneTh_ok true (s.threads.map eThread) (by simp) (by simp) (by simp;omega) ?_
 simp
 refine cloneEn_ok true (s.ends.map eEnd) (by simp) (by simp) (by simp;omega) ?_
 simp
 refine cloneV_ok true (s.said.map eVal) (by simp) (by simp) (by simp;omega) ?_
 simp [Nat.add_assoc]
 intro _
 refine loopH_ok (ks := [0,1,2,3,4,31,32,33,62,63,64]) (pl := [(1,[0,1,3,0,8,31,0,64,255,0,512,2047,0,4096,16383,0,32768,131071,112351,524287,1048575,2097151,4194303,8388607,16777215,33554431,67108863,134217727,268435455,536870911],(.seg 0 (.seg 1 (.seg 3 (.seg 4 (.seg 6 (.seg 7 (.seg 9 (.seg 10 (.seg 12 (.seg 13 (.seg 15 (.seg 16 (.eff 2 [3,4,6,7,9,10,12,13,15,16] (.seg 18 (.eff 5 [6,7,9,10,12,13,15,16,18] (.eff 8 [9,10,12,13,15,16,18] (.eff 11 [12,13,15,16,18] (.eff 14 [15,16,18] (.eff 17 [18] (.eff 19 [] (.seg 20 (.eff 21 [] (.seg 22 (.eff 23 [] (.seg 24 (.eff 25 [] (.seg 26 (.eff 27 [] (.seg 28 (.eff 29 [] .last))))))))))))))))))))))))))))))),(5,[0,1,0,0,8,0,0,64,0,448,960,1984,4032,0,8192,0,57344,122880,253952,524224,1048519,2097095,4194247,8388607,16777215,33554431],(.seg 0 (.seg 1 (.seg 2 (.seg 3 (.seg 4 (.seg 5 (.seg 6 (.seg 7 (.seg 8 (.seg 9 (.seg 10 (.seg 11 (.seg 13 (.seg 14 (.seg 15 (.seg 16 (.seg 17 (.seg 18 (.eff 12 [0,1,3,4,13,14,16,17,18] (.eff 19 [0,1,3,4] (.seg 20 (.seg 21 (.eff 22 [3,4] (.seg 23 (.seg 24 (.eff 25 [] .last))))))))))))))))))))))))))),(10,[0,1,0,0,8,0,56,120,248,504,1023,2047,4095],(.seg 0 (.seg 1 (.seg 2 (.seg 3 (.seg 4 (.seg 5 (.seg 6 (.seg 7 (.seg 8 (.eff 9 [0,1] (.seg 10 (.seg 11 (.eff 12 [] .last))))))))))))))]) (n0:=80) (α := {x:HN//CeI H nx (nx+2) s x}) (fun x=>[(32,dI x.1.k)]) (fun _ x=>x.1.H) (fun x=>x.1.nx) (fun x=>s.cells.length-x.1.k) ⟨⟨0,cp0 H nx s,nx+8⟩,cp0_ok hS hfr⟩ rfl (by kernel_rfl) (Wk.subH (by simp) (by simp only [cp0,ceMix,thMix,mixR_zero];rfl)) ?_
 rintro ⟨⟨k,H1,n1⟩,hI⟩
 have hI2:=hI
 obtain ⟨hm,hk,hn1,hbox,hres,hoth,hce,hthr,hin,hlow,hhigh,hsol⟩:=hI2
 simp only at hk hn1 hbox hres hoth hce hthr hin hlow hhigh hsol
 have hn2:nx+8≤n1:=by rw [hn1];simp only [ceB];omega
 have e0 : ¬ nx=n1:=by omega
 have e1 : ¬ nx+2=n1:=by omega
 by_cases h1:k<s.cells.length
 ·obtain ⟨g1,g2,g3⟩:=z7 _ (List.getElem_mem h1)
  have hce2:=hce
  rw [ceMix] at hce
  rw [stRow] at hbox
  simp [h1,hbox,hce,ceData,e0,e1]
  refine cloneV_ok true (s.cells[k].vals.map eVal) (by simp) (by simp) (by simp;omega) ?_
  simp [h1,hbox,hce,ceData,e0,e1]
  refine frames_ic true s.cells[k].frames g2 g3 (fun _ _ h=>by cases h) (fun H' low' high' sol' at' => ?_)
  simp
  refine ⟨at'.newAll low' high',?_⟩
  have d1:Hp.mer (H1.set n1 (some (valBlk s.cells[k].vals))) (n1+1) H' nx=some ⟨.c 29,8,[stRow (nx+2) s]⟩:=by
   rw [Hp.mer_lt (by omega),Hp.set_ne _ _ (by omega)];exact hbox
  have d2:Hp.mer (H1.set n1 (some (valBlk s.cells[k].vals))) (n1+1) H' (nx+2)=some (ceMix (ceB (nx+2)) k s.cells):=by
   rw [Hp.mer_lt (by omega),Hp.set_ne _ _ (by omega)];exact hce2
  have d3 : ∀ i,i<n1->Hp.mer (H1.set n1 (some (valBlk s.cells[k].vals))) (n1+1) H' i=H1 i:=fun i hi=>by rw [Hp.mer_lt (by omega),Hp.set_ne _ _ (by omega)]
  have d4:Hp.mer (H1.set n1 (some (valBlk s.cells[k].vals))) (n1+1) H' n1=some (valBlk s.cells[k].vals):=by rw [Hp.mer_lt (by omega),Hp.set_same]
  have d5 : ∀ i,n1+1≤i->Hp.mer (H1.set n1 (some (valBlk s.cells[k].vals))) (n1+1) H' i=H' i:=fun i hi=>Hp.mer_ge hi
  have d6:HSol (Hp.mer (H1.set n1 (some (valBlk s.cells[k].vals))) (n1+1) H'):=(hsol.set (valBlk_sol _)).mer sol'
  have at':FrAt (Hp.mer (H1.set n1 (some (valBlk s.cells[k].vals))) (n1+1) H') (n1+1) s.cells[k].frames:=at'.low fun i h1 _=>d5 i h1
  rw [stRow] at d1
  rw [ceMix] at d2
  rw [show (⟨.c 31,2,s.cells[k].vals.map ((fun e=>e.map C.d)∘eVal)⟩:Blk)=valBlk s.cells[k].vals from rfl]
  generalize Hp.mer (H1.set n1 (some (valBlk s.cells[k].vals))) (n1+1) H'=M at *
  simp [h1,d1,d2,ceData,stRow]
  refine ⟨⟨k+1,_,_⟩,?_,CeI.next hI h1 at' d3 d4 (fun i hi => ?_) ?_ rfl,Wk.sub (by simp [wrap_add (show k<9223372036854775807 by omega)])⟩
  ·simp;omega
  ·rw [d5 i (by omega)];exact high' i (by omega)
  ·exact d6
 ·obtain rfl:k=s.cells.length:=by omega
  rw [stRow] at hbox
  simp [hbox]
  intro _
  refine loopH_ok (ks := [0,1,2,3,4,31,32,33,62,63,64]) (pl := [(1,[0,1,3,0,8,31,0,64,255,0,512,2047,0,4096,16383,0,32768,131071,112351,524287,1048575,2097151,4194303,8388607,16777215,33554431,67108863,134217727,268435455,536870911],(.seg 0 (.seg 1 (.seg 3 (.seg 4 (.seg 6 (.seg 7 (.seg 9 (.seg 10 (.seg 12 (.seg 13 (.seg 15 (.seg 16 (.eff 2 [3,4,6,7,9,10,12,13,15,16] (.seg 18 (.eff 5 [6,7,9,10,12,13,15,16,18] (.eff 8 [9,10,12,13,15,16,18] (.eff 11 [12,13,15,16,18] (.eff 14 [15,16,18] (.eff 17 [18] (.eff 19 [] (.seg 20 (.eff 21 [] (.seg 22 (.eff 23 [] (.seg 24 (.eff 25 [] (.seg 26 (.eff 27 [] (.seg 28 (.eff 29 [] .last))))))))))))))))))))))))))))))),(5,[0,1,0,0,8,0,0,64,0,448,960,1984,4032,0,8192,0,57344,122880,253952,524224,1048519,2097095,4194247,8388607,16777215,33554431],(.seg 0 (.seg 1 (.seg 2 (.seg 3 (.seg 4 (.seg 5 (.seg 6 (.seg 7 (.seg 8 (.seg 9 (.seg 10 (.seg 11 (.seg 13 (.seg 14 (.seg 15 (.seg 16 (.seg 17 (.seg 18 (.eff 12 [0,1,3,4,13,14,16,17,18] (.eff 19 [0,1,3,4] (.seg 20 (.seg 21 (.eff 22 [3,4] (.seg 23 (.seg 24 (.eff 25 [] .last))))))))))))))))))))))))))),(10,[0,1,0,0,8,0,56,120,248,504,1023,2047,4095],(.seg 0 (.seg 1 (.seg 2 (.seg 3 (.seg 4 (.seg 5 (.seg 6 (.seg 7 (.seg 8 (.eff 9 [0,1] (.seg 10 (.seg 11 (.eff 12 [] .last))))))))))))))]) (n0:=80) (α := {x:HN//ThI H nx (nx+2) s x}) (fun x=>[(63,dI x.1.k)]) (fun _ x=>x.1.H) (fun x=>x.1.nx) (fun x=>s.threads.length-x.1.k) ⟨⟨0,H1,n1⟩,?_⟩ rfl (by kernel_rfl) (Wk.sub (by simp)) ?_
  ·exact ⟨rfl,Nat.zero_le _,by rw [hn1];simp [ceB,thB],hI.box,hres,hoth,hce,hthr,hin,fun _ _ h=>absurd h (Nat.not_lt_zero _),hlow,hhigh,hsol⟩
  clear hI hn1 hbox hres hoth hce hthr hin hlow hhigh hsol hn2 e0 e1
  rintro ⟨⟨k,H2,n2⟩,hJ⟩
  have hJ2:=hJ
  obtain ⟨-, hk2,hn1,hbox,hres,hoth,hce,hthr,hin,hth,hlow,hhigh,hsol⟩:=hJ2
  simp only at hk2 hn1 hbox hres hoth hce hthr hin hth hlow hhigh hsol
  have hn2:nx+8≤n2:=by rw [hn1];simp only [thB];omega
  by_cases h2:k<s.threads.length
  ·obtain ⟨g1,g2⟩:=z8 _ (List.getElem_mem h2)
   have hbox2:=hbox
   have hthr2:=hthr
   rw [thMix] at hthr
   rw [stRow] at hbox
   simp [h2,hbox,hthr,thData]
   refine frames_ic true s.threads[k].frames g1 g2 (fun _ _ h=>by cases h) (fun H' low' high' sol' at' => ?_)
   simp
   refine ⟨at'.newAll low' high',?_⟩
   have d3 : ∀ i,i<n2->Hp.mer H2 n2 H' i=H2 i:=fun i hi=>Hp.mer_lt hi
   have d5 : ∀ i,n2≤i->Hp.mer H2 n2 H' i=H' i:=fun i hi=>Hp.mer_ge hi
   have d1:Hp.mer H2 n2 H' nx=some ⟨.c 29,8,[stRow (nx+2) s]⟩:=by rw [d3 _ (by omega)];exact hbox2
   have d2:Hp.mer H2 n2 H' (nx+5)=some (thMix (thB (nx+2) s) k s.threads):=by rw [d3 _ (by omega)];exact hthr2
   have d6:HSol (Hp.mer H2 n2 H'):=hsol.mer sol'
   have at2:FrAt (Hp.mer H2 n2 H') n2 s.threads[k].frames:=at'.low fun i h1 _=>d5 i h1
   rw [stRow] at d1
   rw [thMix] at d2
   generalize Hp.mer H2 n2 H'=M at *
   simp [h2,d1,d2,thData,stRow]
   refine ⟨⟨k+1,_,_⟩,?_,ThI.next hJ h2 at2 d3 (fun i hi => ?_) d6 rfl,Wk.sub (by simp [wrap_add (show k<9223372036854775807 by omega)])⟩
   ·simp;omega
   ·rw [d5 i (by omega)];exact high' i hi
  ·obtain rfl:k=s.threads.length:=by omega
   rw [stRow] at hbox
   rw [nilS] at hres
   simp [hbox,hres]
   have sol2:HSol (H2.set (nx+1) (some ⟨.c 29,8,[stRow (nx+2) s]⟩)):=hsol.set (by simp [stRow])
   have ne : ∀ i,i≠nx+1->H2.set (nx+1) (some ⟨.c 29,8,[stRow (nx+2) s]⟩) i=H2 i:=fun i hi=>Hp.set_ne _ _ hi
   refine ⟨sol2,?_⟩
   have hn3:n2=enB (nx+2) s:=hn1
   subst hn3
   rw [stRow] at ne sol2
   refine h _ (fun i hi => ?_) (fun i hi => ?_) sol2 ⟨?_,?_,?_,?_,?_⟩
   ·rw [ne _ (by omega)];exact hlow i hi
   ·rw [ne _ (by omega)];exact hhigh i hi
   ·exact hoth.low fun i h1 h2 h3 h4=>ne _ (by omega)
   ·rw [ne _ (by omega)];exact hce
   ·rw [ne _ (by omega)];exact hthr
   ·exact hin.low (Nat.le_refl _) fun i h1 h2=>ne _ (by simp only [ceB] at h1;omega)
   ·exact hth.low (Nat.le_refl _) fun i h1 h2=>ne _ (by simp only [thB] at h1;omega)
theorem fnAt_in {p:GProg} {n:Int} (h0:0≤n) (h:n<p.fns.length):fnAt p n∈p.fns:=by
 unfold fnAt
 rw [List.getD_eq_getElem?_getD,List.getElem?_eq_getElem (by omega)]
 exact List.getElem_mem _
section
variable {p:GProg} {s:GState} {G:List Int} {ts:List GThread}
theorem at_nat {k:Nat} (hk:k<s.cells.length):cellAt s (k:Int)=s.cells[k]:=by
 unfold cellAt;rw [Int.toNat_natCast,List.getD_eq_getElem?_getD,List.getElem?_eq_getElem hk];rfl
end
section
variable {p:GProg} {s:GState}
theorem stack_gen {fs:List GFrame} {k:Nat} (h:stackB p s fs k=true) (h0:0≤(fs.getD k dFrame).gen):(fnAt p (fs.getD k dFrame).fn).gen=true∧0<k∧namesB s ⟨5,(fs.getD k dFrame).gen⟩ 5=true∧(cellAt s (fs.getD k dFrame).gen).num=1:=by
 unfold stackB at h
 simp only [Bool.and_eq_true] at h
 obtain ⟨-, h4⟩:=h
 by_cases hg:(fnAt p (fs.getD k dFrame).fn).gen=true
 ·rw [if_pos hg] at h4
  simp only [Bool.and_eq_true,decide_eq_true_eq] at h4
  exact ⟨hg,h4.1.1.2,h4.1.2,h4.2⟩
 ·rw [if_neg hg,decide_eq_true_eq] at h4
  omega
end

def ceR (a b:C) (c:GCell):List C := [.d (eI c.kind),.d (eI c.num),a,b]
def thR (a:C) (t:GThread):List C := [a,.d (eI t.state),.d (eI t.on),.d (eI t.val.kind),.d (eI t.val.n)]
structure CeAt (H:Hp) (N:Nat->Prop) (nC:Nat) (cs:List GCell) (CR:List (List C)):Prop where
 blk:H nC=some ⟨.c 75,4,CR⟩
 len:CR.length=cs.length
 new:newRs CR
 row : ∀ (i:Nat) (h:i<cs.length), ∃ a b,CR[i]? = some (ceR a b cs[i])∧Shw H N a (.sl true (cs[i].vals.map eVal))∧Shw H N b (.sl true (cs[i].frames.map eFrame))∧a.newC=true∧b.newC=true
structure ThAt (H:Hp) (N:Nat->Prop) (th nT nF:Nat) (ts:List GThread) (T:GThread) (TR:List (List C)):Prop where
 blk:H nT=some ⟨.c 90,5,TR⟩
 len:TR.length=ts.length
 new:newRs TR
 row : ∀ (i:Nat) (h:i<ts.length),i≠th -> ∃ a,TR[i]? = some (thR a ts[i])∧Shw H N a (.sl true (ts[i].frames.map eFrame))
 own:TR[th]? = some (thR (.own nF 8 T.frames.length) T)
structure FsAt (H:Hp) (N:Nat->Prop) (nF:Nat) (r t:Nat->Nat) (fs:List GFrame) (FR:List (List C)):Prop where
 blk:H nF=some ⟨.c 100,8,FR⟩
 len:fs.length≤FR.length
 new:newRs FR
 row : ∀ (i:Nat) (h:i<fs.length),FR[i]? = some (frRow (r i) (t i) fs[i])
 regs : ∀ (i:Nat) (h:i<fs.length),H (r i)=some (valBlk fs[i].regs)
 tries : ∀ (i:Nat) (h:i<fs.length),N (t i) ∧ ∃ ys,H (t i)=some (tryBlk (fs[i].tries++ys))
structure Apt (N:Nat->Prop) (nC nT nF:Nat) (r:Nat->Nat) (l:Nat):Prop where
 c : ¬ N nC
 tn : ¬ N nT
 f : ¬ N nF
 rs : ∀ i,i<l -> ¬ N (r i)∧r i≠nC∧r i≠nT∧r i≠nF
 ct:nC≠nT
 cf:nC≠nF
 tf:nT≠nF
 inj : ∀ i j,i<l->j<l->r i=r j->i=j
section
variable {H H':Hp} {N:Nat->Prop} {th nC nT nF:Nat} {r t:Nat->Nat}
theorem FsAt.low {fs:List GFrame} {FR:List (List C)} (h:FsAt H N nF r t fs FR) (hl : ∀ q,N q->H' q=H q) (hf:H' nF=H nF) (hr : ∀ i,i<fs.length->H' (r i)=H (r i)):FsAt H' N nF r t fs FR :=
 ⟨by rw [hf];exact h.blk,h.len,h.new,h.row,fun i hi=>by rw [hr i hi];exact h.regs i hi,fun i hi=>by obtain ⟨h1,ys,h2⟩:=h.tries i hi;exact ⟨h1,ys,by rw [hl _ h1];exact h2⟩⟩
end
section
variable {H:Hp} {n:Nat} {s:GState} {th:Nat}
end
theorem newRs.sol {rs:List (List C)} (h:newRs rs) : ∀ e∈rs, ∀ c∈e,C.solidC c=true:=fun e he c hc=>by
 have:=h e he c hc
 cases c with
 | d x=>cases x <;> first | rfl | cases this
 | own n k l=>rfl
 | ptr n k i o=>rfl
 | map n=>rfl
 | fnp f cs=>cases this
 | ifo t n k l=>cases this
 | any=>cases this

section
variable {p:GProg} {s:GState}
theorem frame_bnd (hp:checkQ wordsT p=0) {f:GFrame} (h:frameB p s f=true):f.regs.length≤60∧f.tries.length≤20∧0≤f.fn∧f.fn<p.fns.length∧0≤f.at_∧f.at_<(fnAt p f.fn).code.length:=by
 simp only [frameB,Bool.and_eq_true,decide_eq_true_eq] at h
 obtain ⟨⟨⟨⟨⟨⟨⟨⟨⟨h1,h2⟩,h3⟩,h4⟩,h5⟩,h6⟩,h7⟩,h8⟩,h9⟩,h10⟩:=h
 have hr:=((large_lt (check_zero hp).1).2.2.2 _ (fnAt_in h1 h2)).2
 refine ⟨by omega,?_,h1,h2,h6,h7⟩
 rw [h9,List.getD_eq_getElem?_getD]
 cases ho:(triesQ (fnAt p f.fn)).out[f.at_.toNat]? with
 | none=>simp
 | some x=>simpa using triesQ_short _ _ (List.mem_of_getElem? ho)
theorem stack_frame {fs:List GFrame} {k:Nat} (h:stackB p s fs k=true):frameB p s (fs.getD k dFrame)=true:=by
 unfold stackB at h
 simp only [Bool.and_eq_true] at h
 exact h.1.1.1
theorem thread_stack {t:GThread} (h:threadB p s t=true) {k:Nat} (hk:k<t.frames.length):stackB p s t.frames k=true:=by
 simp only [threadB,Bool.and_eq_true] at h
 exact List.all_eq_true.1 h.2 k (List.mem_range.2 hk)
theorem state_thread (h:stateQ wordsT p s=0) {t:GThread} (ht:t∈s.threads):threadB p s t=true∧t.frames.length≤30:=by
 obtain ⟨-, -, h3,h4⟩:=stateQ_iff.1 h
 simp only [stateB,Bool.and_eq_true] at h4
 refine ⟨List.all_eq_true.1 h4.1.1.2 t ht,?_⟩
 simp only [stateLarge,Bool.or_eq_false_iff,List.any_eq_false,decide_eq_true_eq] at h3
 have:=h3.2 t ht
 omega
theorem thread_frames (h:stateQ wordsT p s=0) {t:GThread} (ht:t∈s.threads) {f:GFrame} (hf:f∈t.frames):frameB p s f=true:=by
 obtain ⟨k,hk,rfl⟩:=List.getElem_of_mem hf
 have:=stack_frame (thread_stack (state_thread h ht).1 hk)
 rwa [List.getD_eq_getElem?_getD,List.getElem?_eq_getElem hk] at this
theorem cell_frames (h:stateQ wordsT p s=0) {c:GCell} (hc:c∈s.cells):c.vals.length≤600∧c.frames.length≤1 ∧ ∀ f∈c.frames,frameB p s f=true:=by
 obtain ⟨-, h2, -, h4⟩:=stateQ_iff.1 h
 obtain ⟨g1, -, -, -, g5, -⟩:=cellsQ_iff.1 h2
 have hb:=List.all_eq_true.1 g5 c hc
 simp only [cellB,Bool.and_eq_true,decide_eq_true_eq] at hb
 obtain ⟨⟨⟨-, hl⟩, -⟩, -⟩:=hb
 have hm:manyB c=false:=by
  simp only [heapLarge,Bool.or_eq_false_iff,List.any_eq_false] at g1
  simpa using g1.2 c hc
 have hv:c.vals.length≤600:=by
  simp only [manyB,Bool.and_eq_false_iff,Bool.or_eq_false_iff,decide_eq_false_iff_not] at hm
  omega
 simp only [stateB,Bool.and_eq_true] at h4
 have hh:=List.all_eq_true.1 h4.1.1.1.2 c hc
 unfold framesOf at hl
 split at hl
 ·rename_i hk
  refine ⟨hv,by omega,fun f hf => ?_⟩
  unfold heapB at hh
  rw [if_neg (by omega),if_pos hk.1] at hh
  simp only [hk.2,decide_true,Bool.not_true,Bool.false_or,savedB,Bool.and_eq_true] at hh
  obtain ⟨k,hk2,rfl⟩:=List.getElem_of_mem hf
  obtain rfl:k=0:=by omega
  have:=hh.1.1.1.1
  rwa [List.getD_eq_getElem?_getD,List.getElem?_eq_getElem hk2] at this
 ·have:c.frames=[]:=List.eq_nil_of_length_eq_zero hl
  rw [this]
  exact ⟨hv,by simp,fun f hf=>by cases hf⟩
theorem sized_of (h:stateQ wordsT p s=0):Sized s:=by
 obtain ⟨h1,h2,h3,h4⟩:=stateQ_iff.1 h
 obtain ⟨g1,g2, -⟩:=cellsQ_iff.1 h2
 simp only [heapLarge,Bool.or_eq_false_iff,decide_eq_false_iff_not] at g1
 have h5:=h3
 simp only [stateLarge,Bool.or_eq_false_iff,decide_eq_false_iff_not] at h5
 have h6:s.shapes.length≤100:=by
  unfold faultP at g2
  split at g2
  ·cases g2
  ·omega
 refine ⟨by omega,h6,by omega,by omega,by omega,by omega,fun c hc => ?_,fun t ht => ?_⟩
 ·obtain ⟨k1,k2,k3⟩:=cell_frames h hc
  exact ⟨by omega,by omega,fun f hf=>by have:=frame_bnd h1 (k3 f hf);omega⟩
 ·exact ⟨(state_thread h ht).2,fun f hf=>by have:=frame_bnd h1 (thread_frames h ht hf);omega⟩
theorem thread_gens (h:stateQ wordsT p s=0) {t:GThread} (ht:t∈s.threads) {f:GFrame} (hf:f∈t.frames) (hg:0≤f.gen):f.gen<s.cells.length:=by
 obtain ⟨k,hk,rfl⟩:=List.getElem_of_mem hf
 have e:t.frames.getD k dFrame=t.frames[k]:=by rw [List.getD_eq_getElem?_getD,List.getElem?_eq_getElem hk];rfl
 have:=(stack_gen (thread_stack (state_thread h ht).1 hk) (by rw [e];exact hg)).2.2.1
 rw [e] at this
 simp only [namesB,Bool.and_eq_true,decide_eq_true_eq] at this
 exact this.1.2
end
end Go.Proofs.YtbphdcffpobcbaaGreatDoor
