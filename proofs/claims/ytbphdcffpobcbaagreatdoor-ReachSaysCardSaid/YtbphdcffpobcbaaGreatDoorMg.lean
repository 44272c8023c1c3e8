/- Several texts in one. -/
import Derived.Deep.Slices
import Derived.ChangeArms
import Derived.DataReads
import Derived.SizedLaws
import Derived.WideShapes
import Derived.Test.YtbphdcffpobcbaaGreatDoorRows
import Derived.Handy
import Derived.Lay
import Derived.OpenShut
import Derived.MakeChecks
import Derived.Carry
import Derived.Test.YtbphdcffpobcbaaGreatDoorMd
import Derived.Test.YtbphdcffpobcbaaGreatDoorMe
import Derived.Test.YtbphdcffpobcbaaGreatDoorMf
set_option linter.unusedSimpArgs false
set_option linter.unusedVariables false
set_option maxRecDepth 100000
set_option maxHeartbeats 16000000
namespace Go.Proofs.YtbphdcffpobcbaaGreatDoor
section
open Go.RowKit Go Go.Deep
def Opn (P:Program) (t:TypeId) (α:Type) (f:α->List Dt) (ok:α->Prop):Prop :=
 ∀ {H:Type} (enc:TypeId×Value->H) (W:World) (held:Bool) (cs:List Value),(∃ n x,DataW.trod enc P W 0 (fun _=>true) held n t cs=some x ∧ ∀ y∈x.1.weights P t,y≤reachBytes) ->
  ∃ a,ok a ∧ ∀ E:Env,(∀ b,b<W.heap.size->E.F b) -> ∀ (j:Nat) c v,(f a)[j]? = some c->cs[j]? = some v->RD E W c v
def OpnF (P:Program) (fs:List Field) (off:Nat) (α:Type) (f:α->List Dt) (ok:α->Prop):Prop :=
 ∀ {H:Type} (enc:TypeId×Value->H) (W:World) (held:Bool) (cs:List Value),(∀ fl∈fs, ∃ n x,DataW.trod enc P W 0 (fun _=>true) held n fl.type ((cs.drop fl.offset).take (P.cellsOf fl.type))=some x ∧ ∀ y∈x.1.weights P fl.type,y≤reachBytes) ->
  ∃ a,ok a ∧ ∀ E:Env,(∀ b,b<W.heap.size->E.F b) -> ∀ (j:Nat) c v,(f a)[j]? = some c->cs[off+j]? = some v->RD E W c v
theorem opn_one {E:Env} {W:World} {d:Dt} {u:Value} (h:RD E W d u) (j:Nat) (c:Dt) (v:Value) (h1 : [d][j]? = some c) (h2 : [u][j]? = some v):RD E W c v:=by
 cases j with
 | zero=>simp at h1 h2;subst h1 h2;exact h
 | succ j=>simp at h1
variable {P:Program}
theorem wAll_mem {H:Type} {e:TypeId} : ∀ {l:List (DataW H)} {d:DataW H}, d∈l -> ∀ n∈d.weights P e,n∈DataW.weightsAll P e l
 | a::l,d,hd,n,hn=>by
  simp only [DataW.weightsAll,List.mem_append]
  rcases List.mem_cons.1 hd with rfl | hd
  ·exact .inl hn
  ·exact .inr (wAll_mem hd n hn)
 | [],_,hd,_,_=>by cases hd
theorem opn_int {t:TypeId} (ht:P.underlying t=some (.int .i64)):Opn P t Int (fun n=>[.lit (.int .i64 n)]) (fun n=>(Lit.int .i64 n).wf=true):=fun enc W held cs ⟨n,x,h,hw0⟩=>by
 obtain ⟨z,rfl, -, hw⟩:=DataW.trod_int ht h
 exact ⟨z,hw,fun E _=>opn_one (.lit rfl)⟩
theorem opn_bool {t:TypeId} (ht:P.underlying t=some .bool):Opn P t Bool (fun n=>[.lit (.bool n)]) (fun _=>True):=fun enc W held cs ⟨n,x,h,hw0⟩=>by
 obtain ⟨z,rfl, -⟩:=DataW.trod_bool ht h
 exact ⟨z,trivial,fun E _=>opn_one (.lit rfl)⟩
theorem opn_string {t:TypeId} (ht:P.underlying t=some .string):Opn P t ByteArray (fun n=>[.lit (.string n)]) (fun s=>s.size≤maxLen):=fun enc W held cs ⟨n,x,h,hw0⟩=>by
 obtain ⟨z,rfl, -, hw⟩:=DataW.trod_string ht h
 exact ⟨z,hw,fun E _=>opn_one (.lit rfl)⟩
theorem opn_sliceW {t e:TypeId} {k:Nat} {α:Type} [Inhabited α] {f:α->List Dt} {ok:α->Prop} (ht:P.underlying t=some (.slice e)) (hc:P.cellsOf e=k) (h0:0<k) (hk : ∀ a,(f a).length=k) (he:Opn P e α f ok) :
  Opn P t (List α) (fun l=>[.sl true (l.map f)]) (fun l=>(∀ a∈l,ok a)∧l.length*P.bytesOf e≤reachBytes):=fun enc W held cs ⟨n,x,h,hw0⟩=>by
 rcases open_slice ht h with ⟨rfl, -⟩ | ⟨a,len,cap,m,n',D,Pl,rfl, -, hl,hm,hmm,rfl,hall⟩
 ·refine ⟨[],⟨by simp,by simp⟩,fun E _=>opn_one ?_⟩
  exact RD.sl (S:=true) (es := []) (k:=0) (cap:=0) (fun _ _=>default) (Nat.le_refl _) (Nat.zero_le _) (by simp) (fun _=>rfl) (fun h=>by simp at h) (fun i j c h=>by simp [nth2] at h)
 ·have hlm:len≤m:=by rw [hmm];simp;omega
  have hw1:(len+(m-len))*P.bytesOf e≤reachBytes:=hw0 _ (by simp [DataW.weights,ht])
  have hw2 : ∀ i,i<len -> ∀ y∈(D i).weights P e,y≤reachBytes:=fun i hi y hy=>hw0 y (by
   simp only [DataW.weights,ht,List.mem_cons,List.mem_append]
   exact .inr (.inl (wAll_mem (List.mem_map.2 ⟨i,List.mem_range.2 hi,rfl⟩) y hy)))
  have hw3:len*P.bytesOf e≤reachBytes:=Nat.le_trans (Nat.mul_le_mul_right _ (by omega)) hw1
  have hv : ∀ i,i<len -> ∃ y:α,ok y ∧ ∀ E:Env,(∀ b,b<W.heap.size->E.F b) -> ∀ (j:Nat) c,(f y)[j]? = some c -> ∃ v,W.cell? ((a.add (i*k)).add j)=some v∧RD E W c v:=fun i hi=>by
   obtain ⟨cs',h1,h2⟩:=hall i (by omega)
   rw [hc] at h1
   obtain ⟨-, g1,g2⟩:=World.cells?_some h1
   obtain ⟨y,y1,y2⟩:=he enc W held cs' ⟨_,_,h2,hw2 i hi⟩
   refine ⟨y,y1,fun E hE j c hj => ?_⟩
   have hjk:j<k:=by rw [← hk y];exact (List.getElem?_eq_some_iff.1 hj).1
   have hv:cs'[j]? = some cs'[j]:=List.getElem?_eq_getElem _
   exact ⟨cs'[j],by rw [g2 j hjk,hv],y2 E hE j c _ hj hv⟩
  obtain ⟨g,hg⟩:=choose_lt hv
  have hlen:((List.range len).map g).length=len:=by simp
  refine ⟨(List.range len).map g,⟨?_,by rw [hlen];exact hw3⟩,fun E hE=>opn_one ?_⟩
  ·intro y hy
   obtain ⟨i,hi,rfl⟩:=List.mem_map.1 hy
   exact (hg i (List.mem_range.1 hi)).1
  have hn2 : ∀ i j c,nth2 (((List.range len).map g).map f) i j=some c->i<len∧(f (g i))[j]? = some c:=fun i j c h=>by
   by_cases hi:i<len
   ·simp [nth2,hi] at h
    exact ⟨hi,h⟩
   ·simp [nth2,hi] at h
  have hsp:0<len->a.spot=none∧a.block<W.heap.size:=fun hp=>by
   obtain ⟨cs',h1, -⟩:=hall 0 (by omega)
   rw [hc] at h1
   obtain ⟨-, g1,g2⟩:=World.cells?_some h1
   have q0:=g2 0 h0
   rw [List.getElem?_eq_getElem (by omega)] at q0
   obtain ⟨ab,ao,sp⟩:=a
   have hs:=World.cell?_spot q0
   have hb:=World.block_lt_of_cell? W _ q0
   cases sp with
   | none=>exact ⟨rfl,by simpa [Addr.add] using hb⟩
   | some s=>simp [Addr.add] at hs
  have key : ∀ i j c,nth2 (((List.range len).map g).map f) i j=some c -> ∃ v,W.cell? ⟨a.block,a.off+i*k+j,none⟩=some v ∧ ∀ E:Env,(∀ b,b<W.heap.size->E.F b) -> ∃ v',W.cell? ⟨a.block,a.off+i*k+j,none⟩=some v'∧RD E W c v':=fun i j c h=>by
   obtain ⟨hi,hj⟩:=hn2 i j c h
   obtain ⟨s1, -⟩:=hsp (by omega)
   have e:(a.add (i*k)).add j=⟨a.block,a.off+i*k+j,none⟩:=by
    obtain ⟨ab,ao,sp⟩:=a
    simp at s1
    subst s1
    by_cases z1:j=0
    ·by_cases z2:i*k=0
     ·simp [Addr.add,z1,z2]
     ·simp [Addr.add,z1,z2]
    ·by_cases z2:i*k=0
     ·simp [Addr.add,z1,z2]
     ·simp [Addr.add,z1,z2]
   have hq:=(hg i hi).2
   obtain ⟨v,q1, -⟩:=hq ⟨fun _=>True,fun _=>True⟩ (fun _ _=>trivial) j c hj
   rw [e] at q1
   exact ⟨v,q1,fun E hE=>by
    obtain ⟨v',q2,q3⟩:=hq E hE j c hj
    rw [e] at q2
    exact ⟨v',q2,q3⟩⟩
  have hX : ∀ i j c,nth2 (((List.range len).map g).map f) i j=some c->W.cell? ⟨a.block,a.off+i*k+j,none⟩=some ((W.cell? ⟨a.block,a.off+i*k+j,none⟩).getD default):=fun i j c h=>by
   obtain ⟨v,q, -⟩:=key i j c h
   rw [q];rfl
  have hrd:=RD.sl (E:=E) (w:=W) (S:=true) (es:=((List.range len).map g).map f) (A:=some a) (cap:=cap) (k:=k) (fun i j=>(W.cell? ⟨a.block,a.off+i*k+j,none⟩).getD default)
   (by rw [List.length_map,hlen];exact hl) hm (fun e he=>by obtain ⟨y, -, rfl⟩:=List.mem_map.1 he;exact hk y) (fun h=>by cases h)
   (fun hp=>by
    rw [List.length_map,hlen] at hp
    obtain ⟨s1,s2⟩:=hsp hp
    exact ⟨a.block,a.off,by obtain ⟨ab,ao,sp⟩:=a;simp at s1;subst s1;rfl,.inl (hE _ s2),hX⟩)
   (fun i j c h=>by
    obtain ⟨v, -, hq⟩:=key i j c h
    obtain ⟨v',q1,q2⟩:=hq E.solid hE
    rw [q1]
    exact q2)
  rw [List.length_map,hlen] at hrd
  exact hrd
theorem opnF_nil {off:Nat} : OpnF P [] off Unit (fun _=>[]) (fun _=>True):=fun _ _ _ _ _=>⟨(),trivial,fun _ _ j c v h=>by simp at h⟩
theorem opnF_cons {fl:Field} {fs:List Field} {off k:Nat} {α β:Type} {f:α->List Dt} {ok:α->Prop} {g:β->List Dt} {ok':β->Prop} (ho:fl.offset=off) (hc:P.cellsOf fl.type=k) (hk : ∀ a,(f a).length=k)
  (h1:Opn P fl.type α f ok) (h2:OpnF P fs (off+k) β g ok'):OpnF P (fl::fs) off (α×β) (fun x=>f x.1++g x.2) (fun x=>ok x.1∧ok' x.2):=fun enc W held cs h=>by
 obtain ⟨a,a1,a2⟩:=h1 enc W held _ (h fl (List.mem_cons_self ..))
 obtain ⟨b,b1,b2⟩:=h2 enc W held cs fun x hx=>h x (List.mem_cons_of_mem _ hx)
 refine ⟨(a,b),⟨a1,b1⟩,fun E hE j c v hj hv => ?_⟩
 simp only at hj
 by_cases hjk:j<k
 ·rw [List.getElem?_append_left (by rw [hk];exact hjk)] at hj
  refine a2 E hE j c v hj ?_
  rw [ho,hc,List.getElem?_take_of_lt hjk,List.getElem?_drop]
  exact hv
 ·rw [List.getElem?_append_right (by rw [hk];omega),hk] at hj
  refine b2 E hE (j-k) c v hj ?_
  rw [show off+k+(j-k)=off+j by omega]
  exact hv
theorem opn_struct {t:TypeId} {fs:Array Field} {α:Type} {f:α->List Dt} {ok:α->Prop} (ht:P.underlying t=some (.struct fs)) (hf:OpnF P fs.toList 0 α f ok):Opn P t α f ok:=fun enc W held cs ⟨n,x,h,hw0⟩=>by
 obtain ⟨xs,n', -, rfl, -, hl,hx⟩:=DataW.trod_struct ht h
 obtain ⟨a,a1,a2⟩:=hf enc W held cs fun fl hfl=>by
  obtain ⟨i,hi,rfl⟩:=List.getElem_of_mem hfl
  have hi':i<fs.size:=by simpa using hi
  have:=hx i fs[i] (by simp [hi'])
  rw [List.getElem?_eq_getElem (by omega)] at this
  have hfi:fs.toList[i]=fs[i]:=by simp
  refine ⟨n',xs[i]'(by omega),by simpa using this,fun y hy=>hw0 y ?_⟩
  simp only [DataW.weights,ht]
  exact DataW.weights_mem_each (j:=i) (t:=fs.toList[i].type) (d:=(xs[i]'(by omega)).1) (by rw [List.getElem?_map,List.getElem?_eq_getElem hi];rfl) (by rw [List.getElem?_map,List.getElem?_eq_getElem (by omega)];rfl) y hy
 exact ⟨a,a1,fun E hE j c v hj hv=>a2 E hE j c v hj (by rw [Nat.zero_add];exact hv)⟩
theorem Opn.map {t:TypeId} {α β:Type} {f:α->List Dt} {ok:α->Prop} {g:β->List Dt} {ok':β->Prop} (h:Opn P t α f ok) (e:α->β) (h1 : ∀ a,g (e a)=f a) (h2 : ∀ a,ok a->ok' (e a)):Opn P t β g ok':=fun enc W held cs hc=>by
 obtain ⟨a,a1,a2⟩:=h enc W held cs hc
 exact ⟨e a,h2 a a1,by rw [h1];exact a2⟩
theorem opn_slice {t e:TypeId} {k:Nat} {α:Type} [Inhabited α] {f:α->List Dt} {ok:α->Prop} (ht:P.underlying t=some (.slice e)) (hc:P.cellsOf e=k) (h0:0<k) (hk : ∀ a,(f a).length=k) (he:Opn P e α f ok) :
  Opn P t (List α) (fun l=>[.sl true (l.map f)]) (fun l => ∀ a∈l,ok a):=Opn.map (opn_sliceW ht hc h0 hk he) id (fun _=>rfl) (fun _ h=>h.1)
end
section
open Go.RowKit Go
instance:Inhabited GIns:=⟨⟨0,0,0,0,0⟩⟩
instance:Inhabited GFn:=⟨⟨0,0,false,[],[]⟩⟩
instance:Inhabited GVal:=⟨⟨0,0⟩⟩
instance:Inhabited ByteArray:=⟨⟨#[]⟩⟩
theorem opn_op {t:TypeId} (ht:Tryz.prog.underlying t=some (.int .i64)):Opn Tryz.prog t Int (fun n=>[eI n]) (fun _=>True):=Opn.map (opn_int ht) id (fun _=>rfl) (fun _ _=>trivial)
theorem opn_ins:Opn Tryz.prog 103 GIns eIns (fun _=>True) :=
 Opn.map (opn_struct Tryz.underlying103 (opnF_cons (k:=1) rfl (by kernel_rfl) (fun _=>rfl) (opn_op (by kernel_rfl)) (opnF_cons (k:=1) rfl (by kernel_rfl) (fun _=>rfl) (opn_op (by kernel_rfl)) (opnF_cons (k:=1) rfl (by kernel_rfl) (fun _=>rfl) (opn_op (by kernel_rfl)) (opnF_cons (k:=1) rfl (by kernel_rfl) (fun _=>rfl) (opn_op (by kernel_rfl)) (opnF_cons (k:=1) rfl (by kernel_rfl) (fun _=>rfl) (opn_op (by kernel_rfl)) opnF_nil))))))
  (fun x=>⟨x.1,x.2.1,x.2.2.1,x.2.2.2.1,x.2.2.2.2.1⟩) (fun _=>rfl) (fun _ _=>trivial)
theorem opn_val:Opn Tryz.prog 31 GVal eVal (fun _=>True) :=
 Opn.map (opn_struct Tryz.underlying31 (opnF_cons (k:=1) rfl (by kernel_rfl) (fun _=>rfl) (opn_op (by kernel_rfl)) (opnF_cons (k:=1) rfl (by kernel_rfl) (fun _=>rfl) (opn_op (by kernel_rfl)) opnF_nil)))
  (fun x=>⟨x.1,x.2.1⟩) (fun _=>rfl) (fun _ _=>trivial)
theorem opn_ints:Opn Tryz.prog 40 (List Int) (fun l=>[.sl true (l.map eInt)]) (fun _=>True):=Opn.map (opn_slice (e:=3) (k:=1) (f:=eInt) (by kernel_rfl) (by kernel_rfl) (by decide) (fun _=>rfl) (Opn.map (opn_int (by kernel_rfl)) id (fun _=>rfl) (fun _ _=>trivial):Opn _ _ Int eInt (fun _=>True))) id (fun _=>rfl) (fun _ _=>trivial)
theorem opn_code:Opn Tryz.prog 95 (List GIns) (fun l=>[.sl true (l.map eIns)]) (fun _=>True):=Opn.map (opn_slice (e:=103) (k:=5) (f:=eIns) (by kernel_rfl) (by kernel_rfl) (by decide) (fun _=>rfl) opn_ins) id (fun _=>rfl) (fun _ _=>trivial)
theorem opn_fn:Opn Tryz.prog 97 GFn eFn (fun _=>True) :=
 Opn.map (opn_struct Tryz.underlying97 (opnF_cons (k:=1) rfl (by kernel_rfl) (fun _=>rfl) (opn_op (by kernel_rfl)) (opnF_cons (k:=1) rfl (by kernel_rfl) (fun _=>rfl) (opn_op (by kernel_rfl)) (opnF_cons (k:=1) rfl (by kernel_rfl) (fun _=>rfl) (opn_bool (by kernel_rfl)) (opnF_cons (k:=1) rfl (by kernel_rfl) (fun _=>rfl) opn_ints (opnF_cons (k:=1) rfl (by kernel_rfl) (fun _=>rfl) opn_code opnF_nil))))))
  (fun x=>⟨x.1,x.2.1,x.2.2.1,x.2.2.2.1,x.2.2.2.2.1⟩) (fun _=>rfl) (fun _ _=>trivial)
theorem opn_fns:Opn Tryz.prog 37 (List GFn) (fun l=>[.sl true (l.map eFn)]) (fun _=>True):=Opn.map (opn_slice (e:=97) (k:=5) (f:=eFn) (by kernel_rfl) (by kernel_rfl) (by decide) (fun _=>rfl) opn_fn) id (fun _=>rfl) (fun _ _=>trivial)
theorem opn_vals:Opn Tryz.prog 27 (List GVal) (fun l=>[.sl true (l.map eVal)]) (fun _=>True):=Opn.map (opn_slice (e:=31) (k:=2) (f:=eVal) (by kernel_rfl) (by kernel_rfl) (by decide) (fun _=>rfl) opn_val) id (fun _=>rfl) (fun _ _=>trivial)
theorem opn_texts:Opn Tryz.prog 24 (List ByteArray) (fun l=>[.sl true (l.map eStr)]) (fun l => ∀ s∈l,s.size≤maxLen):=Opn.map (opn_slice (e:=9) (k:=1) (f:=eStr) (by kernel_rfl) (by kernel_rfl) (by decide) (fun _=>rfl) (Opn.map (opn_string (by kernel_rfl)) id (fun _=>rfl) (fun _ h=>h):Opn _ _ ByteArray eStr (fun s=>s.size≤maxLen))) id (fun _=>rfl) (fun _ h=>h)
theorem opn_prog:Opn Tryz.prog 39 GProg eProg okP :=
 Opn.map (opn_struct Tryz.underlying39 (opnF_cons (k:=1) rfl (by kernel_rfl) (fun _=>rfl) opn_fns (opnF_cons (k:=1) rfl (by kernel_rfl) (fun _=>rfl) opn_vals (opnF_cons (k:=1) rfl (by kernel_rfl) (fun _=>rfl) opn_texts opnF_nil))))
  (fun x=>⟨x.1,x.2.1,x.2.2.1⟩) (fun _=>rfl) (fun x h=>h.2.2.1)
theorem rcs_of {E:Env} {w:World} {ι:Nms} (l:List Dt) : ∀ {xs:List Value}, l.length=xs.length->(∀ (j:Nat) c v,l[j]? = some c->xs[j]? = some v->RD E w c v)->RCs E w ι (l.map .d) xs:=by
 induction l with
 | nil =>
  intro xs hl _
  cases xs with
  | nil=>rw [List.map_nil,RCs];trivial
  | cons x xs=>cases hl
 | cons d l ih =>
  intro xs hl h
  cases xs with
  | nil=>cases hl
  | cons x xs =>
   rw [List.map_cons,RCs,RC]
   exact ⟨h 0 d x (by simp) (by simp),ih (by simpa using hl) fun j c v h1 h2=>h (j+1) c v (by simpa using h1) (by simpa using h2)⟩
theorem prog_arg {H:Type} {enc:TypeId×Value->H} {W:World} {held:Bool} {r:Reach} {b0:Nat} {v:Value} {d:DataW H} {ps:List MemPlace} (hval:Value.okWide Tryz.prog W r b0 39 v) (h:DataW.Trod enc Tryz.prog W 0 (fun _=>true) held 39 v d ps) (hz : ∀ y∈d.weights Tryz.prog 39,y≤reachBytes) :
  ∃ p:GProg,okP p ∧ ∀ (B:Nat->Prop) (ι:Nms),RV (Env.mk (fun b=>b<W.heap.size) B) W ι (aD (eProg p)) v:=by
 obtain ⟨cs,rfl,hsz⟩:=WideShapes.okWide_struct Tryz.underlying39 hval
 rw [show Tryz.prog.cellsOf 39=3 by kernel_rfl] at hsz
 obtain ⟨m,hm⟩:=h
 rw [show (Value.agg cs).cells=cs from rfl] at hm
 obtain ⟨p,p1,p2⟩:=opn_prog enc W held cs.toList ⟨m,_,hm,hz⟩
 refine ⟨p,p1,fun B ι => ?_⟩
 rw [RV]
 exact ⟨cs,rfl,rcs_of _ (by simp [hsz]) (p2 _ fun b hb=>hb)⟩
def okFrame (f:GFrame):Prop:=f.regs.length≤8796093022207
def okCell (c:GCell):Prop:=(∀ v∈c.vals,InI v.n) ∧ ∀ f∈c.frames,okFrame f
def okSt (s:GState):Prop:=(∀ t∈s.texts,t.size≤maxLen)∧(∀ x∈s.shapes,InS x) ∧ ∀ c∈s.cells,okCell c
theorem InI_of {n:Int} (h:(Lit.int .i64 n).wf=true):InI n:=by
 have h1:IntKind.i64.min = -9223372036854775808:=by kernel_rfl
 have h2:IntKind.i64.max=9223372036854775807:=by kernel_rfl
 simp [Lit.wf,h1,h2] at h
 unfold InI
 omega
theorem opn_in {t:TypeId} (ht:Tryz.prog.underlying t=some (.int .i64)):Opn Tryz.prog t Int (fun n=>[eI n]) InI:=Opn.map (opn_int ht) id (fun _=>rfl) (fun _ h=>InI_of h)
theorem opn_valW:Opn Tryz.prog 31 GVal eVal (fun v=>InI v.n) :=
 Opn.map (opn_struct Tryz.underlying31 (opnF_cons (k:=1) rfl (by kernel_rfl) (fun _=>rfl) (opn_op (by kernel_rfl)) (opnF_cons (k:=1) rfl (by kernel_rfl) (fun _=>rfl) (opn_in (by kernel_rfl)) opnF_nil)))
  (fun x=>⟨x.1,x.2.1⟩) (fun _=>rfl) (fun _ h=>h.2.1)
theorem opn_valsW:Opn Tryz.prog 27 (List GVal) (fun l=>[.sl true (l.map eVal)]) (fun l => ∀ v∈l,InI v.n):=Opn.map (opn_slice (e:=31) (k:=2) (f:=eVal) (by kernel_rfl) (by kernel_rfl) (by decide) (fun _=>rfl) opn_valW) id (fun _=>rfl) (fun _ h=>h)
theorem opn_try:Opn Tryz.prog 147 GTry eTry (fun _=>True) :=
 Opn.map (opn_struct Tryz.underlying147 (opnF_cons (k:=1) rfl (by kernel_rfl) (fun _=>rfl) (opn_op (by kernel_rfl)) (opnF_cons (k:=1) rfl (by kernel_rfl) (fun _=>rfl) (opn_op (by kernel_rfl)) opnF_nil)))
  (fun x=>⟨x.1,x.2.1⟩) (fun _=>rfl) (fun _ _=>trivial)
theorem opn_tries:Opn Tryz.prog 98 (List GTry) (fun l=>[.sl true (l.map eTry)]) (fun _=>True):=Opn.map (opn_slice (e:=147) (k:=2) (f:=eTry) (by kernel_rfl) (by kernel_rfl) (by decide) (fun _=>rfl) opn_try) id (fun _=>rfl) (fun _ _=>trivial)
theorem opn_regs:Opn Tryz.prog 27 (List GVal) (fun l=>[.sl true (l.map eVal)]) (fun l=>l.length≤8796093022207):=Opn.map (opn_sliceW (e:=31) (k:=2) (f:=eVal) (by kernel_rfl) (by kernel_rfl) (by decide) (fun _=>rfl) opn_val) id (fun _=>rfl) (fun l h=>by
 have h1:=h.2
 rw [show Tryz.prog.bytesOf 31=16 by kernel_rfl] at h1
 unfold reachBytes at h1
 show l.length≤_
 omega)
theorem opn_frame:Opn Tryz.prog 100 GFrame eFrame okFrame :=
 Opn.map (opn_struct Tryz.underlying100 (opnF_cons (k:=1) rfl (by kernel_rfl) (fun _=>rfl) (opn_op (by kernel_rfl)) (opnF_cons (k:=1) rfl (by kernel_rfl) (fun _=>rfl) (opn_op (by kernel_rfl)) (opnF_cons (k:=1) rfl (by kernel_rfl) (fun _=>rfl) (opn_op (by kernel_rfl)) (opnF_cons (k:=1) rfl (by kernel_rfl) (fun _=>rfl) (opn_op (by kernel_rfl))
  (opnF_cons (k:=2) rfl (by kernel_rfl) (fun _=>rfl) opn_val (opnF_cons (k:=1) rfl (by kernel_rfl) (fun _=>rfl) opn_regs (opnF_cons (k:=1) rfl (by kernel_rfl) (fun _=>rfl) opn_tries opnF_nil))))))))
  (fun x=>⟨x.1,x.2.1,x.2.2.1,x.2.2.2.1,x.2.2.2.2.1,x.2.2.2.2.2.1,x.2.2.2.2.2.2.1⟩) (fun _=>rfl) (fun _ h=>h.2.2.2.2.2.1)
theorem opn_frames:Opn Tryz.prog 73 (List GFrame) (fun l=>[.sl true (l.map eFrame)]) (fun l => ∀ f∈l,okFrame f):=Opn.map (opn_slice (e:=100) (k:=8) (f:=eFrame) (by kernel_rfl) (by kernel_rfl) (by decide) (fun _=>rfl) opn_frame) id (fun _=>rfl) (fun _ h=>h)
theorem opn_cell:Opn Tryz.prog 75 GCell eCell okCell :=
 Opn.map (opn_struct Tryz.underlying75 (opnF_cons (k:=1) rfl (by kernel_rfl) (fun _=>rfl) (opn_op (by kernel_rfl)) (opnF_cons (k:=1) rfl (by kernel_rfl) (fun _=>rfl) (opn_op (by kernel_rfl)) (opnF_cons (k:=1) rfl (by kernel_rfl) (fun _=>rfl) opn_valsW (opnF_cons (k:=1) rfl (by kernel_rfl) (fun _=>rfl) opn_frames opnF_nil)))))
  (fun x=>⟨x.1,x.2.1,x.2.2.1,x.2.2.2.1⟩) (fun _=>rfl) (fun _ h=>⟨h.2.2.1,h.2.2.2.1⟩)
theorem opn_shape:Opn Tryz.prog 118 Shp eShape InS :=
 Opn.map (opn_struct Tryz.underlying118 (opnF_cons (k:=1) rfl (by kernel_rfl) (fun _=>rfl) (opn_in (by kernel_rfl)) (opnF_cons (k:=1) rfl (by kernel_rfl) (fun _=>rfl) (opn_in (by kernel_rfl)) opnF_nil)))
  (fun x=>(x.1,x.2.1)) (fun _=>rfl) (fun _ h=>⟨h.1,h.2.1⟩)
theorem opn_thread:Opn Tryz.prog 90 GThread eThread (fun _=>True) :=
 Opn.map (opn_struct Tryz.underlying90 (opnF_cons (k:=1) rfl (by kernel_rfl) (fun _=>rfl) opn_frames (opnF_cons (k:=1) rfl (by kernel_rfl) (fun _=>rfl) (opn_op (by kernel_rfl)) (opnF_cons (k:=1) rfl (by kernel_rfl) (fun _=>rfl) (opn_op (by kernel_rfl)) (opnF_cons (k:=2) rfl (by kernel_rfl) (fun _=>rfl) opn_val opnF_nil)))))
  (fun x=>⟨x.1,x.2.1,x.2.2.1,x.2.2.2.1⟩) (fun _=>rfl) (fun _ _=>trivial)
theorem opn_end:Opn Tryz.prog 88 GEnd eEnd (fun _=>True) :=
 Opn.map (opn_struct Tryz.underlying88 (opnF_cons (k:=1) rfl (by kernel_rfl) (fun _=>rfl) (opn_op (by kernel_rfl)) (opnF_cons (k:=2) rfl (by kernel_rfl) (fun _=>rfl) opn_val opnF_nil)))
  (fun x=>⟨x.1,x.2.1⟩) (fun _=>rfl) (fun _ _=>trivial)
theorem opn_cells:Opn Tryz.prog 22 (List GCell) (fun l=>[.sl true (l.map eCell)]) (fun l => ∀ c∈l,okCell c):=Opn.map (opn_slice (e:=75) (k:=4) (f:=eCell) (by kernel_rfl) (by kernel_rfl) (by decide) (fun _=>rfl) opn_cell) id (fun _=>rfl) (fun _ h=>h)
theorem opn_shapes:Opn Tryz.prog 23 (List Shp) (fun l=>[.sl true (l.map eShape)]) (fun l => ∀ x∈l,InS x):=Opn.map (opn_slice (e:=118) (k:=2) (f:=eShape) (by kernel_rfl) (by kernel_rfl) (by decide) (fun _=>rfl) opn_shape) id (fun _=>rfl) (fun _ h=>h)
theorem opn_threads:Opn Tryz.prog 25 (List GThread) (fun l=>[.sl true (l.map eThread)]) (fun _=>True):=Opn.map (opn_slice (e:=90) (k:=5) (f:=eThread) (by kernel_rfl) (by kernel_rfl) (by decide) (fun _=>rfl) opn_thread) id (fun _=>rfl) (fun _ _=>trivial)
theorem opn_ends:Opn Tryz.prog 26 (List GEnd) (fun l=>[.sl true (l.map eEnd)]) (fun _=>True):=Opn.map (opn_slice (e:=88) (k:=3) (f:=eEnd) (by kernel_rfl) (by kernel_rfl) (by decide) (fun _=>rfl) opn_end) id (fun _=>rfl) (fun _ _=>trivial)
theorem opn_state:Opn Tryz.prog 29 GState eState okSt :=
 Opn.map (opn_struct Tryz.underlying29 (opnF_cons (k:=1) rfl (by kernel_rfl) (fun _=>rfl) opn_cells (opnF_cons (k:=1) rfl (by kernel_rfl) (fun _=>rfl) opn_shapes (opnF_cons (k:=1) rfl (by kernel_rfl) (fun _=>rfl) opn_texts (opnF_cons (k:=1) rfl (by kernel_rfl) (fun _=>rfl) opn_threads
  (opnF_cons (k:=1) rfl (by kernel_rfl) (fun _=>rfl) opn_ends (opnF_cons (k:=1) rfl (by kernel_rfl) (fun _=>rfl) opn_vals (opnF_cons (k:=1) rfl (by kernel_rfl) (fun _=>rfl) (opn_op (by kernel_rfl)) (opnF_cons (k:=1) rfl (by kernel_rfl) (fun _=>rfl) (opn_op (by kernel_rfl)) opnF_nil)))))))))
  (fun x=>⟨x.1,x.2.1,x.2.2.1,x.2.2.2.1,x.2.2.2.2.1,x.2.2.2.2.2.1,x.2.2.2.2.2.2.1,x.2.2.2.2.2.2.2.1⟩) (fun _=>rfl) (fun x h=>⟨h.2.2.1,h.2.1,h.1⟩)
theorem state_arg {H:Type} {enc:TypeId×Value->H} {W:World} {held:Bool} {r:Reach} {b0:Nat} {v:Value} {d:DataW H} {ps:List MemPlace} (hval:Value.okWide Tryz.prog W r b0 29 v) (h:DataW.Trod enc Tryz.prog W 0 (fun _=>true) held 29 v d ps) (hz : ∀ y∈d.weights Tryz.prog 29,y≤reachBytes) :
  ∃ s:GState,okSt s ∧ ∀ (B:Nat->Prop) (ι:Nms),RV (Env.mk (fun b=>b<W.heap.size) B) W ι (aD (eState s)) v:=by
 obtain ⟨cs,rfl,hsz⟩:=WideShapes.okWide_struct Tryz.underlying29 hval
 rw [show Tryz.prog.cellsOf 29=8 by kernel_rfl] at hsz
 obtain ⟨m,hm⟩:=h
 rw [show (Value.agg cs).cells=cs from rfl] at hm
 obtain ⟨s,s1,s2⟩:=opn_state enc W held cs.toList ⟨m,_,hm,hz⟩
 refine ⟨s,s1,fun B ι => ?_⟩
 rw [RV]
 exact ⟨cs,rfl,rcs_of _ (by simp [hsz]) (s2 _ fun b hb=>hb)⟩
theorem shapeNames1_ok (S:Bool) (L:List Shp) (hin : ∀ x∈L,InS x) (n:Int) {K:D->List Blk->Prop} (h:K (.one (.own 0 1 (namesQ L n).length)) [⟨.c 3,1,iRows (namesQ L n)⟩]) :
  DPure Tryz.prog 135 [dL S (L.map eShape),dI n] K:=by
 refine DPure.own 3 1 ?_
 refine fn_ok [0,1,4,17] [] Tryz.func135 rfl (by kernel_rfl) rfl rfl rfl rfl (by kernel_rfl) ?_
 simp
 refine shapeCheck_ok S L hin ?_
 have no:(faultP L≠0∨n<0∨(L.length:Int)≤n)->namesQ L n=[]:=fun e=>by unfold namesQ;rw [if_pos e]
 by_cases c1:faultP L=0
 ·simp [c1]
  have emp:namesQ L n=[]->(K (D.one (C.d Dt.emp)) []∨K (D.one (C.own 0 1 0)) [{ t:=BT.c 3,k:=1,es := [] }]):=fun e=>by
   rw [e] at h
   exact .inr (by simpa [iRows] using h)
  refine alt (fun c2 => ?_) (fun c2=>emp (no (.inr (.inl (by omega)))))
  intro _
  refine alt (fun c3=>emp (no (.inr (.inr c3)))) (fun c3 => ?_)
  obtain ⟨k,rfl⟩ : ∃ k:Nat,n=k:=⟨n.toNat,by omega⟩
  have hq:namesQ L k=namesP L k:=by unfold namesQ;rw [if_neg (by rw [c1];omega)];rfl
  rw [hq] at h
  obtain ⟨g1,g2⟩:=faultP_ok c1
  refine names1_ok S L k (g2.2.2.ahead (by omega)) (by omega) (by omega) ?_
  simp
  exact h
 ·rw [no (.inl c1)] at h
  simp [c1]
  exact .inr (by simpa [iRows] using h)
theorem any_not {α:Type} {l:List α} {p:α->Bool} : (l.any fun x => !p x) = !l.all p:=by rw [List.all_eq_not_any_not];simp
theorem celCell_ok (s:GState) (hs : ∀ x∈s.shapes,InS x) (hf:faultP s.shapes=0) (c:GCell) (hc:okCell c) (hv:c.vals.length≤100000) {K:D->List Blk->Prop} (h:K (dB (cellB s c)) []):DPure Tryz.prog 121 [pS true s,aD (eCell c)] K:=by
 obtain ⟨kind,num,vals,frames⟩:=c
 have hin : ∀ v∈vals,InI v.n:=hc.1
 replace hv:vals.length≤100000:=hv
 generalize hA:vals.all (fitsB s)=bA
 generalize hF:frames.all (frameFits s)=bF
 have hq:cellB s ⟨kind,num,vals,frames⟩=(kindB s ⟨kind,num,vals,frames⟩&&decide (frames.length=framesOf ⟨kind,num,vals,frames⟩)&&bA&&bF):=by rw [← hA, ← hF];rfl
 refine fn_ok [0,1,2,3,4,5,6,7,16,17,19,45,47,53,63,70,71,76,101] [(1,[0,1,3,0,8,24,56,7,255,511],(.seg 0 (.seg 1 (.seg 2 (.seg 3 (.seg 4 (.seg 5 (.seg 6 (.seg 7 (.seg 8 (.seg 9 .last))))))))))),(6,[0,1,0,4,12,28,60,124,255,511],(.seg 0 (.seg 1 (.seg 2 (.seg 3 (.seg 4 (.seg 5 (.seg 6 (.seg 7 (.eff 8 [] (.seg 9 .last))))))))))),(7,[0,1,3,7,15,3,35,99,227,3,515,2019,4067,8191,16383,32767],(.seg 0 (.seg 1 (.seg 2 (.seg 3 (.seg 4 (.seg 5 (.seg 6 (.seg 7 (.seg 8 (.seg 9 (.seg 10 (.eff 11 [2,3,4] (.seg 12 (.seg 13 (.seg 14 (.seg 15 .last)))))))))))))))))] Tryz.func121 rfl (by kernel_rfl) rfl rfl rfl rfl (by kernel_rfl) ?_
 by_cases e0:kind=0
 ·subst e0
  simp
  repeat' (first | (refine alt (fun _ => ?_) (fun _ => ?_)) | (intro _) | (refine celAll_ok true s vals ?_;rw [hA];cases bA <;> simp) | (refine containsFFr_ok true frames eFrame (fun f=>aD (eFrame f)) (fun f => !frameFits s f) 184 (fun _=>by simp) rfl [] [.at_ true [.at_ true (eState s)]] (fun x=>⟨_,_,_,_,_,_,_,_,rfl,rfl⟩) (fun x _ K hK=>celCell2_ok s x hK) ?_;rw [any_not,hF];simp))
  all_goals exact kB h (by rw [hq];clear hq hA hF;simp [kindB,framesOf, *] <;> (intros;omega))
 by_cases e1:kind=1
 ·subst e1
  simp
  intro _ hl
  refine cwithin_ok _ _ _ ?_
  rw [wrap_id (by omega) (by omega)]
  cases hW:btw num 0 ((s.shapes.length:Int)-1) with
  | false =>
   simp
   exact kB h (by rw [hq];simp [kindB,hW])
  | true =>
   have hN:namesQ s.shapes num=namesP s.shapes num.toNat:=by
    unfold namesQ
    simp [btw] at hW
    rw [if_neg (by rw [hf];omega)]
   simp
   intro _
   refine shapeNames1_ok true s.shapes hs num ?_
   rw [hN]
   simp
   have hSL:shapeLen s num=(namesP s.shapes num.toNat).length:=rfl
   repeat' (first | (refine alt (fun _ => ?_) (fun _ => ?_)) | (intro _) | (refine celAll_ok true s vals ?_;rw [hA];cases bA <;> simp) | (refine containsFFr_ok true frames eFrame (fun f=>aD (eFrame f)) (fun f => !frameFits s f) 184 (fun _=>by simp) rfl [] [.at_ true [.at_ true (eState s)]] (fun x=>⟨_,_,_,_,_,_,_,_,rfl,rfl⟩) (fun x _ K hK=>celCell2_ok s x hK) ?_;rw [any_not,hF];simp))
   all_goals exact kB h (by rw [hq];clear hq hA hF;simp [kindB,framesOf, *] <;> (intros;omega))
 by_cases e2:kind=2
 ·subst e2
  simp
  repeat' (first | (refine alt (fun _ => ?_) (fun _ => ?_)) | (intro _) | (refine celAll_ok true s vals ?_;rw [hA];cases bA <;> simp) | (refine containsFFr_ok true frames eFrame (fun f=>aD (eFrame f)) (fun f => !frameFits s f) 184 (fun _=>by simp) rfl [] [.at_ true [.at_ true (eState s)]] (fun x=>⟨_,_,_,_,_,_,_,_,rfl,rfl⟩) (fun x _ K hK=>celCell2_ok s x hK) ?_;rw [any_not,hF];simp))
  all_goals exact kB h (by rw [hq];clear hq hA hF;simp [kindB,framesOf, *] <;> (intros;omega))
 by_cases e3:kind=3
 ·subst e3
  simp
  repeat' (first | (refine alt (fun _ => ?_) (fun _ => ?_)) | (intro _) | (refine celAll_ok true s vals ?_;rw [hA];cases bA <;> simp) | (refine containsFFr_ok true frames eFrame (fun f=>aD (eFrame f)) (fun f => !frameFits s f) 184 (fun _=>by simp) rfl [] [.at_ true [.at_ true (eState s)]] (fun x=>⟨_,_,_,_,_,_,_,_,rfl,rfl⟩) (fun x _ K hK=>celCell2_ok s x hK) ?_;rw [any_not,hF];simp))
  all_goals exact kB h (by rw [hq];clear hq hA hF;simp [kindB,framesOf, *] <;> (intros;omega))
 by_cases e4:kind=4
 ·subst e4
  simp
  intro _
  refine containsFV_ok true vals eVal (fun v=>aD (eVal v)) (fun v => !namesB s v 3) 181 (fun _=>by simp) rfl [] [.at_ true [.at_ true (eState s)]] (fun x=>⟨_,_,rfl,rfl⟩) (fun x _ K hK=>celCell1_ok s x hK) ?_
  rw [any_not]
  generalize hC:(vals.all fun v=>namesB s v 3)=bC at *
  simp
  repeat' (first | (refine alt (fun _ => ?_) (fun _ => ?_)) | (intro _) | (refine celAll_ok true s vals ?_;rw [hA];cases bA <;> simp) | (refine containsFFr_ok true frames eFrame (fun f=>aD (eFrame f)) (fun f => !frameFits s f) 184 (fun _=>by simp) rfl [] [.at_ true [.at_ true (eState s)]] (fun x=>⟨_,_,_,_,_,_,_,_,rfl,rfl⟩) (fun x _ K hK=>celCell2_ok s x hK) ?_;rw [any_not,hF];simp))
  all_goals exact kB h (by rw [hq];clear hq hA hF;simp [kindB,framesOf, *] <;> (intros;omega))
 by_cases e5:kind=5
 ·subst e5
  simp
  intro _
  refine cwithin_ok _ _ _ ?_
  cases hW:btw num 0 2 with
  | false =>
   simp
   repeat' (first | (refine alt (fun _ => ?_) (fun _ => ?_)) | (intro _) | fail)
   all_goals exact kB h (by rw [hq];simp [kindB,hW])
  | true =>
   by_cases e0:num=0
   ·subst e0
    simp
    repeat' (first | (refine alt (fun _ => ?_) (fun _ => ?_)) | (intro _) | (refine celAll_ok true s vals ?_;rw [hA];cases bA <;> simp) | (refine containsFFr_ok true frames eFrame (fun f=>aD (eFrame f)) (fun f => !frameFits s f) 184 (fun _=>by simp) rfl [] [.at_ true [.at_ true (eState s)]] (fun x=>⟨_,_,_,_,_,_,_,_,rfl,rfl⟩) (fun x _ K hK=>celCell2_ok s x hK) ?_;rw [any_not,hF];simp))
    all_goals exact kB h (by rw [hq];clear hq hA hF;simp [kindB,framesOf, *] <;> (intros;omega))
   ·simp [e0]
    repeat' (first | (refine alt (fun _ => ?_) (fun _ => ?_)) | (intro _) | (refine celAll_ok true s vals ?_;rw [hA];cases bA <;> simp) | (refine containsFFr_ok true frames eFrame (fun f=>aD (eFrame f)) (fun f => !frameFits s f) 184 (fun _=>by simp) rfl [] [.at_ true [.at_ true (eState s)]] (fun x=>⟨_,_,_,_,_,_,_,_,rfl,rfl⟩) (fun x _ K hK=>celCell2_ok s x hK) ?_;rw [any_not,hF];simp))
    all_goals exact kB h (by rw [hq];clear hq hA hF;simp [kindB,framesOf, *] <;> (intros;omega))
 by_cases e6:kind=6
 ·subst e6
  simp
  intro _
  refine cwithin_ok _ _ _ ?_
  generalize hW:btw num (-1) 4=bW at *
  simp
  repeat' (first | (refine alt (fun _ => ?_) (fun _ => ?_)) | (intro _) | (refine celAll_ok true s vals ?_;rw [hA];cases bA <;> simp) | (refine containsFFr_ok true frames eFrame (fun f=>aD (eFrame f)) (fun f => !frameFits s f) 184 (fun _=>by simp) rfl [] [.at_ true [.at_ true (eState s)]] (fun x=>⟨_,_,_,_,_,_,_,_,rfl,rfl⟩) (fun x _ K hK=>celCell2_ok s x hK) ?_;rw [any_not,hF];simp))
  all_goals exact kB h (by rw [hq];clear hq hA hF;simp [kindB,framesOf, *] <;> (intros;omega))
 by_cases e7:kind=7
 ·subst e7
  simp
  intro _
  refine celWeak_ok true _ vals hin hv ?_
  generalize hW:weakB vals=bW at *
  simp
  repeat' (first | (refine alt (fun _ => ?_) (fun _ => ?_)) | (intro _) | (refine celAll_ok true s vals ?_;rw [hA];cases bA <;> simp) | (refine containsFFr_ok true frames eFrame (fun f=>aD (eFrame f)) (fun f => !frameFits s f) 184 (fun _=>by simp) rfl [] [.at_ true [.at_ true (eState s)]] (fun x=>⟨_,_,_,_,_,_,_,_,rfl,rfl⟩) (fun x _ K hK=>celCell2_ok s x hK) ?_;rw [any_not,hF];simp))
  all_goals exact kB h (by rw [hq];clear hq hA hF;simp [kindB,framesOf, *] <;> (intros;omega))
 ·simp [e0,e1,e2,e3,e4,e5,e6,e7]
  intro _
  exact kB h (by rw [hq];simp [kindB,e0,e1,e2,e3,e4,e5,e6,e7])
theorem celCheck1_ok (s:GState) (x:Shp) {K:D->List Blk->Prop} (h:K (dB (!decide (x.2<s.texts.length))) []):DPure Tryz.prog 118 [aD (eShape x),.one (.d (.at_ true (eState s)))] K:=by
 refine fn_ok [0,1,2,3] [] Tryz.func118 rfl (by kernel_rfl) rfl rfl rfl rfl (by kernel_rfl) ?_
 simp
 intro _
 exact kB h (by rw [Bool.eq_iff_iff];simp)
theorem celCheck2_ok (s:GState) (hs : ∀ x∈s.shapes,InS x) (hf:faultP s.shapes=0) (c:GCell) (hc:okCell c) (hv:c.vals.length≤100000) {K:D->List Blk->Prop} (h:K (dB (!cellB s c)) []):DPure Tryz.prog 120 [aD (eCell c),.one (.d (.at_ true (eState s)))] K:=by
 refine fn_ok [0,1,2,3] [] Tryz.func120 rfl (by kernel_rfl) rfl rfl rfl rfl (by kernel_rfl) ?_
 simp
 refine celCell_ok s hs hf c hc hv ?_
 simp
 exact h
theorem celCheck3_ok (s:GState) (v:GVal) {K:D->List Blk->Prop} (h:K (dB (!saidB s v)) []):DPure Tryz.prog 123 [aD (eVal v),.one (.d (.at_ true (eState s)))] K:=by
 refine fn_ok [0,1,2,3] [] Tryz.func123 rfl (by kernel_rfl) rfl rfl rfl rfl (by kernel_rfl) ?_
 simp
 refine alt (fun c1 => ?_) (fun c1=>kB h (by simp [saidB,c1]))
 refine fits_ok true s v ?_
 simp
 exact kB h (by simp [saidB,c1])
theorem celCheck4_ok (s:GState) (e:GEnd) {K:D->List Blk->Prop} (h:K (dB (!endB s e)) []):DPure Tryz.prog 126 [aD (eEnd e),.one (.d (.at_ true (eState s)))] K:=by
 refine fn_ok [0,1,2,3] [] Tryz.func126 rfl (by kernel_rfl) rfl rfl rfl rfl (by kernel_rfl) ?_
 simp
 intro _
 refine cwithin_ok _ _ _ ?_
 rw [wrap_id (by omega) (by omega)]
 cases hW:btw e.cell 0 ((s.cells.length:Int)-1) with
 | false =>
  simp
  exact kB h (by simp [endB,hW])
 | true =>
  simp
  refine celIs_ok true s e.fn 4 (by decide) ?_
  simp
  exact kB h (by simp [endB,hW])
theorem celCheck_ok (s:GState) (hok:okSt s) {K:D->List Blk->Prop} (h:K (dI (cellsQ wordsT s)) []):DPure Tryz.prog 61 [aD (eState s)] K:=by
 obtain ⟨ok1,ok2,ok3⟩:=hok
 refine fn_ok [0,1,2,3,4,9,26,30,34] [] Tryz.func61 rfl (by kernel_rfl) rfl rfl rfl rfl (by kernel_rfl) ?_
 simp
 refine ICall.ofPure (es := [pS false s]) (by simp) ?_
 refine celLarge_ok false s ?_
 cases hL:heapLarge s with
 | true =>
  have:cellsQ wordsT s=2:=by unfold cellsQ;rw [if_pos hL]
  rw [this] at h
  simp
  exact h
 | false =>
 simp
 refine shapeCheck_ok true s.shapes ok2 ?_
 by_cases hF:faultP s.shapes=0
 case neg =>
  have:cellsQ wordsT s=faultP s.shapes:=by unfold cellsQ;rw [if_neg (by rw [hL];simp),if_pos hF]
  rw [this] at h
  simp [hF]
  exact h
 have bad:(¬ (wordsB wordsT s.texts=true∧s.shapes.all (fun x=>decide (x.2<s.texts.length))=true∧s.cells.all (cellB s)=true∧s.said.all (saidB s)=true∧s.ends.all (endB s)=true))->K (dI 3) []:=fun e=>by
  have:cellsQ wordsT s=3:=by unfold cellsQ;rw [if_neg (by rw [hL];simp),if_neg (by simpa using hF),if_neg e]
  rw [this] at h;exact h
 have good:(wordsB wordsT s.texts=true∧s.shapes.all (fun x=>decide (x.2<s.texts.length))=true∧s.cells.all (cellB s)=true∧s.said.all (saidB s)=true∧s.ends.all (endB s)=true)->K (dI 0) []:=fun e=>by
  have:cellsQ wordsT s=0:=by unfold cellsQ;rw [if_neg (by rw [hL];simp),if_neg (by simpa using hF),if_pos e]
  rw [this] at h;exact h
 clear h
 have hlen:s.texts.length≤300 ∧ ∀ c∈s.cells,c.vals.length≤100000:=by
  simp only [heapLarge,Bool.or_eq_false_iff,decide_eq_false_iff_not,List.any_eq_false] at hL
  refine ⟨by omega,fun c hc => ?_⟩
  have:=hL.2 c hc
  simp only [manyB,Bool.and_eq_true,Bool.or_eq_true,decide_eq_true_eq,Bool.not_eq_true',decide_eq_false_iff_not] at this
  omega
 simp [hF]
 refine celTexts_ok true s.texts ok1 (by omega) ?_
 generalize wordsB wordsT s.texts=b1 at bad good ⊢
 cases b1 with
 | false =>
  simp
  exact bad (by simp)
 | true =>
 simp
 refine containsFSh_ok true s.shapes eShape (fun x=>aD (eShape x)) (fun x => !decide (x.2<s.texts.length)) 118 (fun _=>by simp) rfl [] [.at_ true (eState s)] (fun x=>⟨_,_,rfl,rfl⟩) (fun x _ K hK=>celCheck1_ok s x hK) ?_
 rw [any_not]
 generalize (s.shapes.all fun x=>decide (x.2<s.texts.length))=b2 at bad good ⊢
 cases b2 with
 | false =>
  simp
  exact bad (by simp)
 | true =>
 simp
 refine containsFCe_ok true s.cells eCell (fun c=>aD (eCell c)) (fun c => !cellB s c) 120 (fun _=>by simp) rfl [] [.at_ true (eState s)] (fun x=>⟨_,_,_,_,rfl,rfl⟩) (fun x hx K hK=>celCheck2_ok s ok2 hF x (ok3 x hx) (hlen.2 x hx) hK) ?_
 rw [any_not]
 generalize s.cells.all (cellB s)=b3 at bad good ⊢
 cases b3 with
 | false =>
  simp
  exact bad (by simp)
 | true =>
 simp
 refine containsFV_ok true s.said eVal (fun v=>aD (eVal v)) (fun v => !saidB s v) 123 (fun _=>by simp) rfl [] [.at_ true (eState s)] (fun x=>⟨_,_,rfl,rfl⟩) (fun x _ K hK=>celCheck3_ok s x hK) ?_
 rw [any_not]
 generalize s.said.all (saidB s)=b4 at bad good ⊢
 cases b4 with
 | false =>
  simp
  exact bad (by simp)
 | true =>
 simp
 refine containsFEn_ok true s.ends eEnd (fun e=>aD (eEnd e)) (fun e => !endB s e) 126 (fun _=>by simp) rfl [] [.at_ true (eState s)] (fun x=>⟨_,_,_,rfl,rfl⟩) (fun x _ K hK=>celCheck4_ok s x hK) ?_
 rw [any_not]
 generalize s.ends.all (endB s)=b5 at bad good ⊢
 cases b5 with
 | false =>
  simp
  exact bad (by simp)
 | true =>
  simp
  exact good (by simp)
theorem stCheck1_ok (t:GThread) {K:D->List Blk->Prop} (h:K (dB (decide (30<t.frames.length))) []):DPure Tryz.prog 92 [aD (eThread t)] K:=by
 refine fn_ok [0,1,2] [] Tryz.func92 rfl (by kernel_rfl) rfl rfl rfl rfl (by kernel_rfl) ?_
 simp
 intro _
 exact kB h (by rw [Bool.eq_iff_iff];simp;omega)
theorem heap_large {s:GState} (h:cellsQ wordsT s=0):s.cells.length≤300∧s.cells.all (cellB s)=true:=by
 unfold cellsQ at h
 split at h
 ·cases h
 ·rename_i h1
  split at h
  ·rename_i h2;exact absurd h h2
  split at h
  ·rename_i h3
   simp only [heapLarge,Bool.not_eq_true,Bool.or_eq_false_iff,decide_eq_false_iff_not] at h1
   exact ⟨by omega,h3.2.2.1⟩
  ·cases h
theorem stCheck_ok (p:GProg) (hp:okP p) (s:GState) (hs:okSt s) {K:D->List Blk->Prop} (h:K (dI (stateQ wordsT p s)) []):DPure Tryz.prog 44 [aD (eProg p),aD (eState s)] K:=by
 refine fn_ok [0,1,2,3,4,5,6,7,11,16,26,44] [] Tryz.func44 rfl (by kernel_rfl) rfl rfl rfl rfl (by kernel_rfl) ?_
 simp
 refine ⟨_,rfl,Wk.refl _,?_⟩
 simp [vcC0]
 refine check_ok p hp ?_
 by_cases c1:checkQ wordsT p=0
 case neg =>
  have:stateQ wordsT p s=checkQ wordsT p:=by unfold stateQ;rw [if_pos c1]
  rw [this] at h
  simp [c1]
  exact h
 simp [c1]
 refine celCheck_ok s hs ?_
 by_cases c2:cellsQ wordsT s=0
 case neg =>
  have:stateQ wordsT p s=cellsQ wordsT s:=by unfold stateQ;rw [if_neg (by rw [c1];simp),if_pos c2]
  rw [this] at h
  simp [c2]
  exact h
 have h3:stateQ wordsT p s=if stateLarge s=true then 2 else if stateB p s=true then 0 else 3:=by unfold stateQ;rw [if_neg (by rw [c1];simp),if_neg (by rw [c2];simp)]
 rw [h3] at h
 clear h3
 obtain ⟨l1,l2⟩:=heap_large c2
 simp [c2]
 intro _
 by_cases c3:5<s.threads.length
 ·rw [if_pos (by simp [stateLarge,c3])] at h
  have c3' : ¬ (s.threads.length:Int)≤5:=by omega
  simp [c3']
  exact h
 have c3':(s.threads.length:Int)≤5:=by omega
 simp [c3']
 refine containsFTh_ok true s.threads eThread (fun x=>aD (eThread x)) (fun t=>decide (30<t.frames.length)) 92 (fun _=>by simp) rfl [] [] (fun x=>⟨_,_,_,_,_,rfl,rfl⟩) (fun x _ K hK=>stCheck1_ok x hK) ?_
 cases c4:s.threads.any fun t=>decide (30<t.frames.length) with
 | true =>
  rw [if_pos (by simp [stateLarge,c4])] at h
  simp
  exact h
 | false =>
 rw [if_neg (by simp [stateLarge,c4,c3])] at h
 have hfs : ∀ t∈s.threads,t.frames.length≤30:=fun t ht=>by
  have:=List.any_eq_false.1 c4 t ht
  simpa using this
 simp
 refine all_ok p (large_lt (check_zero c1).1).1 (fun f hf=>⟨(fn_in c1 hf).2.2.1,(fn_in c1 hf).2.2.2.1⟩) ?_
 simp
 refine ⟨⟨45,[(42,.one (.ptr 3 7 0 0))],(Hp.none.set 2 (some ⟨.m 3 (seenG []) 0,0,[]⟩)).set 3 (some ⟨.c 155,7,[lookRow p s 2]⟩),4⟩,rfl,(Wk.sub (by simp)).trans (Wk.deep (fun n=>n=1) (fun t=>DRel.refl _) ?_),?_⟩
 ·intro i y hy
  by_cases e3:i=3
  ·subst e3
   simp at hy
   subst hy
   refine ⟨by simp,_,rfl,⟨rfl,rfl,by simp,by simp [lookRow],fun i j c' hc => ?_⟩⟩
   match i,j with
   | 0,0=>simp [nth2,lookRow] at hc ⊢; exact .inl hc.symm
   | 0,1=>simp [nth2,lookRow] at hc ⊢; exact .inl hc.symm
   | 0,2=>simp [nth2,lookRow] at hc ⊢; exact .inl hc.symm
   | 0,3 =>
    simp [nth2,lookRow] at hc ⊢
    subst hc
    refine .inr ⟨_,rfl,Shw.ptr (fun j => .d ((eState s).getD j .emp)) rfl rfl rfl (fun j d hd => ?_) (fun j d hd => ?_)⟩
    ·match j with
     | 0=>rfl
     | 1=>rfl
     | 2=>rfl
     | 3=>rfl
     | 4=>rfl
     | 5=>rfl
     | 6=>rfl
     | 7=>rfl
     | j+8=>simp at hd
    ·have hm:=List.mem_of_getElem? hd
     rw [show (eState s).getD j .emp=d by rw [List.getD_eq_getElem?_getD];exact congrArg (·.getD .emp) hd]
     refine .d ?_
     simp at hm
     rcases hm with rfl | rfl | rfl | rfl | rfl | rfl | rfl | rfl <;> simp
   | 0,4=>simp [nth2,lookRow] at hc ⊢; exact .inl hc.symm
   | 0,5=>simp [nth2,lookRow] at hc ⊢; exact .inl hc.symm
   | 0,6=>simp [nth2,lookRow] at hc ⊢; exact .inl hc.symm
   | 0,j+7=>simp [nth2,lookRow] at hc
   | i+1,j=>simp [nth2,lookRow] at hc
  ·by_cases e2:i=2
   ·subst e2
    simp at hy
    subst hy
    exact ⟨by simp,_,rfl,⟨by rw [seenG_nil],rfl,by simp,by simp,fun i j c' hc=>by simp [nth2] at hc⟩⟩
   ·simp [e3,e2] at hy
 simp [vcCI0]
 refine lright_ok p c1 s (by omega) l2 (by omega) hfs (nL:=3) (nG:=2) ?_ (by simp) (by simp) fun H' nx' hS' => ?_
 ·refine HSol.set (HSol.set (fun i x hx=>by simp [Hp.none] at hx) (by simp)) (by simp [lookRow])
 cases c5:stateB p s with
 | true =>
  rw [if_pos c5] at h
  simp
  exact h
 | false =>
  rw [if_neg (by rw [c5];simp)] at h
  simp
  exact h
theorem check_mk {p:GProg} (h1:largeB p=false) (h2:tablesB wordsT p=true) (h3:firstB p=true) (h4 : ∀ f∈p.fns,functionB p f=true):checkQ wordsT p=0:=by
 rw [check_fns h1 h2 h3,if_neg]
 simp only [List.any_eq_true,not_exists,not_and]
 intro f hf
 rw [h4 f hf]
 simp
def noS:GState:=⟨[],[],[],[],[],[],0,0⟩
structure RyS where
 k:Nat
 nx:Nat
instance:DecidableEq GVal:=fun a b=>decidable_of_iff (a.kind=b.kind∧a.n=b.n) (by cases a;cases b;simp)
instance:DecidableEq GFrame:=fun a b=>decidable_of_iff (a.fn=b.fn∧a.at_=b.at_∧a.to=b.to∧a.gen=b.gen∧a.self=b.self∧a.regs=b.regs∧a.tries=b.tries) (by cases a;cases b;simp)
instance:DecidableEq GCell:=fun a b=>decidable_of_iff (a.kind=b.kind∧a.num=b.num∧a.vals=b.vals∧a.frames=b.frames) (by cases a;cases b;simp)
instance:DecidableEq GThread:=fun a b=>decidable_of_iff (a.frames=b.frames∧a.state=b.state∧a.on=b.on∧a.val=b.val) (by cases a;cases b;simp)
instance:DecidableEq GEnd:=fun a b=>decidable_of_iff (a.cell=b.cell∧a.fn=b.fn) (by cases a;cases b;simp)
instance:DecidableEq GState:=fun a b=>decidable_of_iff (a.cells=b.cells∧a.shapes=b.shapes∧a.texts=b.texts∧a.threads=b.threads∧a.ends=b.ends∧a.said=b.said∧a.asked=b.asked∧a.steps=b.steps) (by cases a;cases b;simp)
@[simp] theorem eqiEnd:EqI Tryz.prog 88 3:=by
 intro x y l m w hl hm
 obtain ⟨a0,a1,a2,rfl⟩ : ∃ a0 a1 a2,l=[a0,a1,a2]:=by match l,hl with | [a0,a1,a2],_=>exact ⟨a0,a1,a2,rfl⟩
 obtain ⟨b0,b1,b2,rfl⟩ : ∃ b0 b1 b2,m=[b0,b1,b2]:=by match m,hm with | [b0,b1,b2],_=>exact ⟨b0,b1,b2,rfl⟩
 constructor <;> (simp [go_sem];by_cases h0:a0=b0 <;> by_cases h1:a1=b1 <;> by_cases h2:a2=b2 <;> simp [h0,h1,h2])

theorem equalI_ok (S T:Bool) (L M:List Int) {K:D->List Blk->Prop} (h:K (dB (decide (L=M))) []):DPure Tryz.prog 20 [dL S (L.map (fun n=>[eI n])),dL T (M.map (fun n=>[eI n]))] K:=by
 refine fn_ok [0,1,4,5,10,12,13,14,24] [(6,[0,0,3,7,0,0,48,112,255],(.seg 0 (.seg 1 (.seg 2 (.seg 3 (.seg 4 (.seg 5 (.seg 6 (.seg 7 (.seg 8 .last))))))))))] Tryz.func20 rfl (by kernel_rfl) rfl rfl rfl rfl (by kernel_rfl) ?_
 simp
 intro hl hm
 refine alt (fun he => ?_) (fun hne=>kB h (by simp;rintro rfl;exact hne rfl))
 have he:L.length=M.length:=by omega
 intro _
 refine loop_ok (ks := [0,1,4,5,10,12,13,14,24]) (pl := [(6,[0,0,3,7,0,0,48,112,255],(.seg 0 (.seg 1 (.seg 2 (.seg 3 (.seg 4 (.seg 5 (.seg 6 (.seg 7 (.seg 8 .last))))))))))]) (n0:=26) (fun x : {k:Nat//k≤L.length∧L.take k=M.take k} => [(13,dI x.1)]) (fun x=>L.length-x.1) ⟨0,by simp⟩ rfl (by kernel_rfl) (Wk.sub (by simp)) ?_
 rintro ⟨k,hk,ht⟩
 by_cases h1:k<L.length
 ·have h2:k<M.length:=by omega
  simp [h1,h2]
  refine alt (fun e1 => ?_) (fun hne=>kB h (by simp;rintro rfl;simp at hne))
  exact ⟨k+1,by omega,⟨by omega,take_eq_succ ht h1 h2 (by exact e1)⟩,Wk.sub (by simp [wrap_add (show k<9223372036854775807 by omega)])⟩
 ·simp [h1]
  obtain rfl:k=L.length:=by omega
  rw [List.take_length,he,List.take_length] at ht
  exact kB h (by simpa using ht)
section
variable {s:GState} {cs:List GCell} {ts:List ByteArray}
theorem right_pos {k n:Int} (h:rightB k n=true) (hk:k=4∨k=5):0≤n:=by
 unfold rightB at h
 rw [if_neg (by omega),if_neg (by omega),if_neg (by omega),if_neg (by omega),if_pos hk] at h
 simpa using h
end
theorem cellsQ_iff {ws:List ByteArray} {s:GState} : cellsQ ws s=0↔heapLarge s=false∧faultP s.shapes=0∧wordsB ws s.texts=true∧s.shapes.all (fun x=>decide (x.2<s.texts.length))=true∧s.cells.all (cellB s)=true∧s.said.all (saidB s)=true∧s.ends.all (endB s)=true:=by
 unfold cellsQ
 by_cases h1:heapLarge s=true
 ·rw [if_pos h1,h1];simp
 rw [if_neg h1]
 by_cases h2:faultP s.shapes=0
 ·rw [if_neg (by simpa using h2)]
  by_cases h3:wordsB ws s.texts=true∧s.shapes.all (fun x=>decide (x.2<s.texts.length))=true∧s.cells.all (cellB s)=true∧s.said.all (saidB s)=true∧s.ends.all (endB s)=true
  ·rw [if_pos h3];exact ⟨fun _=>⟨by simpa using h1,h2,h3⟩,fun _=>rfl⟩
  ·rw [if_neg h3];exact ⟨fun h=>by simp at h,fun h=>absurd h.2.2 h3⟩
 ·rw [if_pos (by simpa using h2)];exact ⟨fun h=>absurd h h2,fun h=>absurd h.2.1 h2⟩
theorem stateQ_iff {ws:List ByteArray} {p:GProg} {s:GState} : stateQ ws p s=0↔checkQ ws p=0∧cellsQ ws s=0∧stateLarge s=false∧stateB p s=true:=by
 unfold stateQ
 by_cases h1:checkQ ws p=0
 ·rw [if_neg (by simpa using h1)]
  by_cases h2:cellsQ ws s=0
  ·rw [if_neg (by simpa using h2)]
   by_cases h3:stateLarge s=true
   ·rw [if_pos h3,h3];simp
   ·rw [if_neg h3]
    by_cases h4:stateB p s=true
    ·rw [if_pos h4];exact ⟨fun _=>⟨h1,h2,by simpa using h3,h4⟩,fun _=>rfl⟩
    ·rw [if_neg h4];exact ⟨fun h=>by simp at h,fun h=>absurd h.2.2.2 h4⟩
  ·rw [if_pos (by simpa using h2)];exact ⟨fun h=>absurd h h2,fun h=>absurd h.2.1 h2⟩
 ·rw [if_pos (by simpa using h1)];exact ⟨fun h=>absurd h h1,fun h=>absurd h.1 h1⟩
def dThread:GThread:=⟨[],0,0,⟨0,0⟩⟩
section
variable {p:GProg} {s:GState} {th reg:Nat} {v:GVal}
end
theorem CsS.dat {H:Hp} {N:Nat->Prop} : ∀ {l:List Dt}, (∀ d∈l,d.solidT=true)->CsS H N (l.map .d) l
 | [],_=>trivial
 | d::l,h=>⟨.d (h d (List.mem_cons_self ..)),CsS.dat fun x hx=>h x (List.mem_cons_of_mem _ hx)⟩
theorem cloneCe_ok (S:Bool) (es:List (List Dt)) (hk : ∀ e∈es,e.length=4) (hs : ∀ e∈es, ∀ x∈e,x.solidT=true) (hl:es.length≤100000000000) {K:D->List Blk->Prop} (h:K (.one (.own 0 4 es.length)) [⟨.c 75,4,es.map fun e=>e.map .d⟩]) :
  DPure Tryz.prog 63 [dL S es] K:=by
 refine DPure.own 75 4 ?_
 refine fn_ok [0,2,4] [] Tryz.func63 rfl (by kernel_rfl) rfl rfl rfl rfl (by kernel_rfl) ?_
 have hk' : ∀ d∈es.map (fun e=>e.map C.d),d.length=4:=fun d hd=>by
  obtain ⟨e,he,rfl⟩:=List.mem_map.1 hd
  simpa using hk e he
 simp [Function.comp_def,hl]
 refine ⟨fun e => ?_,fun e he=>hk e he,?_⟩
 ·subst e;exact .inr (by simpa using h)
 ·rw [if_pos fun e he x hx=>hs e he x hx]
  exact h
theorem cloneTh_ok (S:Bool) (es:List (List Dt)) (hk : ∀ e∈es,e.length=5) (hs : ∀ e∈es, ∀ x∈e,x.solidT=true) (hl:es.length≤100000000000) {K:D->List Blk->Prop} (h:K (.one (.own 0 5 es.length)) [⟨.c 90,5,es.map fun e=>e.map .d⟩]) :
  DPure Tryz.prog 66 [dL S es] K:=by
 refine DPure.own 90 5 ?_
 refine fn_ok [0,2,4] [] Tryz.func66 rfl (by kernel_rfl) rfl rfl rfl rfl (by kernel_rfl) ?_
 have hk' : ∀ d∈es.map (fun e=>e.map C.d),d.length=5:=fun d hd=>by
  obtain ⟨e,he,rfl⟩:=List.mem_map.1 hd
  simpa using hk e he
 simp [Function.comp_def,hl]
 refine ⟨fun e => ?_,fun e he=>hk e he,?_⟩
 ·subst e;exact .inr (by simpa using h)
 ·rw [if_pos fun e he x hx=>hs e he x hx]
  exact h
theorem cloneFr_ok (S:Bool) (es:List (List Dt)) (hk : ∀ e∈es,e.length=8) (hs : ∀ e∈es, ∀ x∈e,x.solidT=true) (hl:es.length≤100000000000) {K:D->List Blk->Prop} (h:K (.one (.own 0 8 es.length)) [⟨.c 100,8,es.map fun e=>e.map .d⟩]) :
  DPure Tryz.prog 130 [dL S es] K:=by
 refine DPure.own 100 8 ?_
 refine fn_ok [0,2,4] [] Tryz.func130 rfl (by kernel_rfl) rfl rfl rfl rfl (by kernel_rfl) ?_
 have hk' : ∀ d∈es.map (fun e=>e.map C.d),d.length=8:=fun d hd=>by
  obtain ⟨e,he,rfl⟩:=List.mem_map.1 hd
  simpa using hk e he
 simp [Function.comp_def,hl]
 refine ⟨fun e => ?_,fun e he=>hk e he,?_⟩
 ·subst e;exact .inr (by simpa using h)
 ·rw [if_pos fun e he x hx=>hs e he x hx]
  exact h
theorem cloneSh_ok (S:Bool) (es:List (List Dt)) (hk : ∀ e∈es,e.length=2) (hs : ∀ e∈es, ∀ x∈e,x.solidT=true) (hl:es.length≤100000000000) {K:D->List Blk->Prop} (h:K (.one (.own 0 2 es.length)) [⟨.c 118,2,es.map fun e=>e.map .d⟩]) :
  DPure Tryz.prog 64 [dL S es] K:=by
 refine DPure.own 118 2 ?_
 refine fn_ok [0,2,4] [] Tryz.func64 rfl (by kernel_rfl) rfl rfl rfl rfl (by kernel_rfl) ?_
 have hk' : ∀ d∈es.map (fun e=>e.map C.d),d.length=2:=fun d hd=>by
  obtain ⟨e,he,rfl⟩:=List.mem_map.1 hd
  simpa using hk e he
 simp [Function.comp_def,hl]
 refine ⟨fun e => ?_,fun e he=>hk e he,?_⟩
 ·subst e;exact .inr (by simpa using h)
 ·rw [if_pos fun e he x hx=>hs e he x hx]
  exact h
theorem cloneEn_ok (S:Bool) (es:List (List Dt)) (hk : ∀ e∈es,e.length=3) (hs : ∀ e∈es, ∀ x∈e,x.solidT=true) (hl:es.length≤100000000000) {K:D->List Blk->Prop} (h:K (.one (.own 0 3 es.length)) [⟨.c 88,3,es.map fun e=>e.map .d⟩]) :
  DPure Tryz.prog 67 [dL S es] K:=by
 refine DPure.own 88 3 ?_
 refine fn_ok [0,2,4] [] Tryz.func67 rfl (by kernel_rfl) rfl rfl rfl rfl (by kernel_rfl) ?_
 have hk' : ∀ d∈es.map (fun e=>e.map C.d),d.length=3:=fun d hd=>by
  obtain ⟨e,he,rfl⟩:=List.mem_map.1 hd
  simpa using hk e he
 simp [Function.comp_def,hl]
 refine ⟨fun e => ?_,fun e he=>hk e he,?_⟩
 ·subst e;exact .inr (by simpa using h)
 ·rw [if_pos fun e he x hx=>hs e he x hx]
  exact h
theorem law_frame {f:FuncId} {ds:List D} (hD:DPure Tryz.prog f ds fun d _=>d=dB true) {W:World} {vs:List Value} (hgl:GlOk (fun b=>b<W.heap.size) W) (hvs:RVs ⟨fun b=>b<W.heap.size,fun b=>b<W.heap.size⟩ W (fun _=>none) ds vs) :
  Calls Tryz.prog f vs.toArray W fun e w'=>e = .returned (.bool true)∧Below W.heap.size W w' :=
 (hD.2 _ W vs (fun _ h=>h) hgl hvs).mono fun e w' ⟨F',ι,d,fr,v,e1,ho,e3⟩=>by
  subst e1 e3
  have hv:=ho.val
  rw [RV] at hv
  exact ⟨by rw [RD.lit_inv hv],⟨ho.io.1,ho.io.2.2,ho.io.2.1,ho.size,ho.old⟩⟩
theorem laid_tail {P:Program} {x:String×DataW Unit} {l:List (String×DataW Unit)} {W:World} (h:laidMet P (x::l) W):laidMet P l W:=by
 obtain ⟨ps,⟨g,t,cs,fuel,p,q, -, -, -, -, hq,rfl⟩,hn,hc⟩:=h
 exact ⟨q,hq,(List.nodup_append.1 hn).2.1,fun b off hb=>hc b off (List.mem_append_right _ hb)⟩
theorem gl_of_laid {W : World} (h : laidMetH Tryz.prog [("unicode.White_Space", Rows.laid_unicode_White_Space), ("strings.asciiSpace", Rows.laid_strings_asciiSpace)] W) : GlOk (fun b => b < W.heap.size) W := by
  rw [MakeChecks.laidMetH_plain _ _ _ (by kernel_rfl)] at h
  have h2 := laid_tail h
  have hd : Rows.laid_strings_asciiSpace (H := Unit) = Lib.tabData .u8 Lib.asciiSpaceTab := by kernel_rfl
  rw [hd] at h2
  have ht := Lib.tabIs_of_head (g := 2) (by kernel_rfl) (by kernel_rfl) (t := 283) (e := 5) (n := 256) (by kernel_rfl) (by kernel_rfl) (by kernel_rfl) (by kernel_rfl) h2
  intro g arr hm
  obtain ⟨rfl, rfl⟩ : g = 2 ∧ arr = (Lib.asciiSpaceTab.map fun z => Value.int .u8 z).toArray := by
    have := List.mem_singleton.1 hm
    cases this
    exact ⟨rfl, rfl⟩
  unfold Lib.TabIs World.var? at ht
  rw [show Tryz.prog.globalNamed "strings.asciiSpace" = some 2 by kernel_rfl] at ht
  simp only [Option.bind_some] at ht
  split at ht
  · rename_i cs t fz hw
    simp only [Option.some.injEq] at ht
    subst ht
    refine ⟨?_, t, fz, hw⟩
    exact (Array.getElem?_eq_some_iff.1 hw).1
  · cases ht
end
end Go.Proofs.YtbphdcffpobcbaaGreatDoor
