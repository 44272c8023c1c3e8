/- Several texts in one. -/
import Derived.Laws.BytesString
import Derived.Maps.Keyed
import Derived.StringKeys
import Derived.Carry
import Derived.Laws.FloatArith
import Ieee.Arith
import Derived.IntWalk
import Derived.Test.YtbphdcffpobcbaaGreatDoorChecked
import Derived.Test.YtbphdcffpobcbaaGreatDoorMb
set_option linter.unusedSimpArgs false
set_option linter.unusedVariables false
set_option maxRecDepth 100000
set_option maxHeartbeats 16000000
namespace Go.Proofs.YtbphdcffpobcbaaGreatDoor
section
open Go.RowKit Go
section
variable {P:Program} {qt:Bool} {o:Oper} {st:St} {K:St->Prop} {t:Nat}
theorem isStr_run {ty:TypeId} (hs:isStr P ty=true):P.underlying ty=some .string:=by
 unfold isStr at hs
 split at hs
 ·rename_i e;exact e
 ·cases hs
theorem bounds_run {lo hi:Option Operand} {i j n:Int} {β:Base} {F:Nat->Prop} {ι:Nms} {a:Act} {w:World} (h:Holds β F ι st a w) (hlo:optInt st lo 0=some i) (hhi:optInt st hi n=some j) (h0:0≤i) (h1:i≤j) (h2:j≤n) (w':World) :
  (Instr.sliceBounds false n.toNat n.toNat (lo.map a.eval) (hi.map a.eval) none).run P w' = .ok (i.toNat,j.toNat,n.toNat) w':=by
 have hb : ∀ (y:Operand) (n:Int),intOf? (ev st y)=some n -> ∃ k,a.eval y = .int k n:=fun y n hy=>intOf_ok h hy
 cases hi with
 | none =>
  simp only [optInt,Option.some.injEq] at hhi
  subst hhi
  cases lo with
  | none =>
   simp only [optInt,Option.some.injEq] at hlo
   subst hlo
   simp [Instr.sliceBounds]
  | some y =>
   obtain ⟨k,hk⟩:=hb y i hlo
   have e1:i≤(n.toNat:Int):=by omega
   simp [Instr.sliceBounds,Instr.sliceBound,asIntOf,hk,h0,e1]
   omega
 | some u =>
  obtain ⟨k,hk⟩:=hb u j hhi
  have hj0:0≤j:=by omega
  have hjc:j≤(n.toNat:Int):=by omega
  cases lo with
  | none =>
   simp only [optInt,Option.some.injEq] at hlo
   subst hlo
   simp [Instr.sliceBounds,Instr.sliceBound,asIntOf,hk,hj0,hjc]
   omega
  | some y =>
   obtain ⟨k',hk'⟩:=hb y i hlo
   have e1:i≤(j.toNat:Int):=by omega
   have hm1:j≤max n 0:=by omega
   have hm2:i≤max j 0:=by omega
   simp [Instr.sliceBounds,Instr.sliceBound,asIntOf,hk,hk',hj0,hjc,h0,e1,hm1,hm2]
theorem ev_sliceStr {ty:TypeId} {x:Operand} {lo hi:Option Operand} {s:ByteArray} {i j:Int} (ho:o.op = .slice ty x lo hi none) (hx:litOf (ev st x)=some (.string s)) (hs:isStr P ty=true) (hlo:optInt st lo 0=some i) (hhi:optInt st hi s.size=some j)
  (h0:0≤i) (h1:i≤j) (h2:j≤s.size):EvS P o st (.one (.d (.lit (.string (s.extract i.toNat j.toNat))))) true:=fun β F ι a w h=>by
 refine ⟨.string (s.extract i.toNat j.toNat),fun w' _ => ?_,by rw [RV];exact .lit rfl⟩
 have hb:=bounds_run (P:=P) h hlo hhi h0 h1 h2 w'
 rw [Int.toNat_natCast] at hb
 simp [execOp,ho,Instr.sliceAt,Instr.slice,run_underlying (isStr_run hs),litOf_ok (h.ev x) hx,hb]
theorem ev_sliceArr {ty e:TypeId} {b0:Bool} {x:Operand} {lo hi:Option Operand} {S:Bool} {cs:List Dt} {n:Nat} {i j:Int} (ho:o.op = .slice ty x lo hi none) (hx:ev st x = .one (.d (.at_ S cs))) (ha:arrOf P ty=some (n,e,1,b0)) (hlo:optInt st lo 0=some i) (hhi:optInt st hi n=some j)
  (h0:0≤i) (h1:i≤j) (h2:j≤n) (hl:cs.length=n) (hm:n≤maxLen):EvS P o st (.one (.d (.sl S (((cs.take j.toNat).drop i.toNat).map fun c=>[c])))) true:=fun β F ι a w h=>by
 obtain ⟨hu,hz, -⟩:=arrOf_run ha
 have he:=h.ev x
 rw [hx,RV] at he
 have he:RD ⟨F,β.B⟩ w (.at_ S cs) (a.eval x):=he
 generalize hv:a.eval x=v at he
 cases he with
 | @at_ _ _ _ _ b of X h4 hc h5 =>
  have hlen:(((cs.take j.toNat).drop i.toNat).map fun c=>[c]).length=j.toNat-i.toNat:=by simp;omega
  have hn2 : ∀ p q c,nth2 (((cs.take j.toNat).drop i.toNat).map fun c=>[c]) p q=some c->q=0∧cs[i.toNat+p]? = some c:=fun p q c hc=>by
   unfold nth2 at hc
   rw [List.getElem?_map,List.getElem?_drop,List.getElem?_take] at hc
   split at hc
   ·cases hq:cs[i.toNat+p]? with
    | none=>simp [hq] at hc
    | some d =>
     simp only [hq,Option.map_some,Option.bind_some] at hc
     cases q with
     | zero=>simp only [List.getElem?_cons_zero,Option.some.injEq] at hc;exact ⟨rfl,by rw [hc]⟩
     | succ q=>simp at hc
   ·simp at hc
  refine ⟨.slice (some (if n=i.toNat then ⟨b,of,none⟩ else (⟨b,of,none⟩:Addr).add (i.toNat*1))) (j.toNat-i.toNat) (n-i.toNat),fun w' _ => ?_,?_⟩
  ·have hb:=bounds_run (P:=P) h hlo hhi h0 h1 h2 w'
   rw [Int.toNat_natCast] at hb
   simp [execOp,ho,Instr.sliceAt,run_underlying hu,hv,hb,szOf_run hz,Instr.sureAddr]
  ·rw [RV]
   show RD _ _ _ _
   rw [← hlen]
   refine RD.sl (k:=1) (fun p _=>X (i.toNat+p)) (by rw [hlen];omega) (by omega) (fun e he=>by obtain ⟨c, -, rfl⟩:=List.mem_map.1 he;rfl) (fun e=>by cases e) (fun hp => ?_) (fun p q c hc'=>h5 _ c (hn2 p q c hc').2)
   rw [hlen] at hp
   have hne : ¬ n=i.toNat:=by omega
   rw [if_neg hne]
   refine ⟨b,of+i.toNat,by simp [Addr.add_mid],h4,fun p q c hc' => ?_⟩
   obtain ⟨rfl,g⟩:=hn2 p q c hc'
   have:=hc _ c g
   rw [show of+i.toNat+p*1+0=of+(i.toNat+p) by omega]
   exact this
def bytesOf:List (List Dt)->Option (List UInt8)
 | []=>some []
 | e::es=>match e with
  | [.lit (.int .u8 n)]=>(bytesOf es).map fun l=>UInt8.ofNat n.toNat::l
  | _=>none
def u8S (P:Program) (t:TypeId):Bool:=match P.underlying t with
 | some (.slice e)=>match P.underlying e with
  | some (.int .u8)=>true
  | _=>false
 | _=>false
theorem bytesOf_get : ∀ {es:List (List Dt)} {bs:List UInt8}, bytesOf es=some bs->bs.length=es.length ∧ ∀ (i:Nat) (h:i<es.length), ∃ n:Int,es[i]=[.lit (.int .u8 n)]∧bs[i]? = some (UInt8.ofNat n.toNat)
 | [],bs,h=>by simp only [bytesOf,Option.some.injEq] at h;subst h;exact ⟨rfl,fun i h=>absurd h (by simp)⟩
 | e::es,bs,h=>by
  simp only [bytesOf] at h
  split at h
  ·rename_i n
   cases hb:bytesOf es with
   | none=>simp [hb] at h
   | some l =>
    simp only [hb,Option.map_some,Option.some.injEq] at h
    subst h
    obtain ⟨h1,h2⟩:=bytesOf_get hb
    refine ⟨by simp [h1],fun i hi => ?_⟩
    cases i with
    | zero=>exact ⟨n,rfl,rfl⟩
    | succ i=>simpa using h2 i (by simpa using hi)
  ·cases h
theorem push_all (ns:List Int) : ∀ (r:ByteArray),ns.foldl (fun r n=>r.push (UInt8.ofNat n.toNat)) r=⟨r.data++(ns.map fun n=>UInt8.ofNat n.toNat).toArray⟩:=by
 induction ns with
 | nil=>intro r;simp
 | cons n ns ih =>
  intro r
  rw [List.foldl_cons,ih]
  congr 1
  apply Array.ext'
  simp [ByteArray.push]
theorem ev_b2s {sr ds:TypeId} {x:Operand} {S:Bool} {es:List (List Dt)} {bs:List UInt8} (ho:o.op = .convert sr ds x) (hs:u8S P sr=true) (hd:isStr P ds=true) (hx:ev st x = .one (.d (.sl S es))) (hb:bytesOf es=some bs) (ht:o.dst=some t) (hn:t<st.n)
  (hK:K (st.put t (.one (.d (.lit (.string ⟨bs.toArray⟩)))))):EvO P qt o st K:=by
 refine EvO.val ht hn st rfl _ hK fun β F ι a w h => ?_
 obtain ⟨e,hu,hue⟩ : ∃ e,P.underlying sr=some (.slice e)∧P.underlying e=some (.int .u8):=by
  unfold u8S at hs
  split at hs
  ·rename_i e h1
   split at hs
   ·rename_i h2;exact ⟨e,h1,h2⟩
   ·cases hs
  ·cases hs
 have he:=h.ev x
 rw [hx,RV] at he
 have he:RD ⟨F,β.B⟩ w (.sl S es) (a.eval x):=he
 generalize hv:a.eval x=v at he
 refine ⟨.string ⟨bs.toArray⟩,F,ι,w,?_,h,by rw [RV];exact .lit rfl,fun hq=>Old.refl w⟩
 obtain ⟨g1,g2⟩:=bytesOf_get hb
 cases he with
 | @sl _ _ _ _ A cap k X h1 h2 hk h3 h4 h5 =>
  have hconv : ∀ y,(Conv.bytesToString (.slice A es.length cap)).run P w = .ok y w->(execOp a.eval o).run P w = .ok (.value y) w:=fun y hy=>by
   cases A <;> simp [execOp,ho,convert,run_underlying hu,run_underlying (isStr_run hd),run_underlying hue,hv,hy]
  refine hconv _ ?_
  rcases Nat.eq_zero_or_pos es.length with h0 | h0
  ·have hes:es=[]:=List.eq_nil_of_length_eq_zero h0
   subst hes
   simp only [bytesOf,Option.some.injEq] at hb
   subst hb
   rw [show (⟨([]:List UInt8).toArray⟩:ByteArray)=ByteArray.empty from rfl]
   cases A with
   | none=>simp [Conv.bytesToString]
   | some ad =>
    have:=run_bytesToString (P:=P) w ad 0 cap [] (by simpa using run_loadCells_list (P:=P) w ad [] (fun j v hv=>by simp at hv))
    simpa using this
  ·obtain ⟨b,of,rfl, -, hc⟩:=h4 h0
   have hk1:k=1:=by
    obtain ⟨n,e1, -⟩:=g2 0 h0
    have:=hk es[0] (List.getElem_mem h0)
    rw [e1] at this
    simpa using this.symm
   subst hk1
   have hcell : ∀ (i:Nat) (hi:i<es.length) (n:Int),es[i]=[.lit (.int .u8 n)]->w.cell? ⟨b,of+i,none⟩=some (.int .u8 n):=fun i hi n hn=>by
    have e2:nth2 es i 0=some (.lit (.int .u8 n)):=by unfold nth2;rw [List.getElem?_eq_getElem hi,hn];rfl
    have h6:=hc i 0 _ e2
    have h7:=h5 i 0 _ e2
    generalize X i 0=u at h6 h7
    cases h7
    simpa using h6
   have hch : ∀ i:Nat, ∃ n:Int,i<es.length->es[i]? = some [.lit (.int .u8 n)]∧bs[i]? = some (UInt8.ofNat n.toNat):=fun i=>by
    by_cases hi:i<es.length
    ·obtain ⟨n,e1,e2⟩:=g2 i hi
     exact ⟨n,fun _=>⟨by rw [List.getElem?_eq_getElem hi,e1],e2⟩⟩
    ·exact ⟨0,fun h=>absurd h hi⟩
   let f:Nat->Int:=fun i=>(hch i).choose
   have hf : ∀ i,i<es.length->es[i]? = some [.lit (.int .u8 (f i))]∧bs[i]? = some (UInt8.ofNat (f i).toNat):=fun i hi=>(hch i).choose_spec hi
   have hld:=run_loadCells (P:=P) w ⟨b,of,none⟩ es.length (fun i => .int .u8 (f i)) (fun i hi=>by
    have:=hcell i hi (f i) (by have:=(hf i hi).1;rw [List.getElem?_eq_getElem hi] at this;exact Option.some.inj this)
    rw [Addr.add_lit]
    exact this)
   have hbs:⟨bs.toArray⟩=((List.range es.length).map f).foldl (fun r n=>r.push (UInt8.ofNat n.toNat)) ByteArray.empty:=by
    rw [push_all]
    congr 1
    apply Array.ext'
    rw [Array.toList_append,show ByteArray.empty.data.toList=([]:List UInt8) from rfl,List.nil_append]
    refine List.ext_getElem? fun i => ?_
    by_cases hi:i<es.length
    ·have:=(hf i hi).2
     simp only [List.getElem?_toArray,List.getElem?_map,List.getElem?_range hi,Option.map_some] at this ⊢
     exact this
    ·rw [List.getElem?_eq_none (by simp;omega),List.getElem?_eq_none (by simp;omega)]
   rw [hbs]
   exact run_bytesToString (P:=P) w _ es.length cap _ (by rw [hld];congr 2;simp [Function.comp_def])
def fltT (P:Program) (t:TypeId):Bool:=match P.underlying t with
 | some (.float .f64)=>true
 | _=>false
theorem fltT_run {ty:TypeId} (hs:fltT P ty=true):P.underlying ty=some (.float .f64):=by
 unfold fltT at hs
 split at hs
 ·rename_i e;exact e
 ·cases hs
theorem ev_i2f {sr ds:TypeId} {x:Operand} {k:IntKind} {n:Int} (ho:o.op = .convert sr ds x) (hx:litOf (ev st x)=some (.int k n)) (hs:intT P sr=some k) (hd:fltT P ds=true):EvS P o st (.one (.d (.lit (.float .f64 (FloatKind.f64.nearest n))))) true:=fun β F ι a w h=>by
 have hu:P.underlying sr=some (.int k):=by
  unfold intT at hs
  split at hs
  ·rename_i e;simp only [Option.some.injEq] at hs;subst hs;exact e
  ·cases hs
 refine ⟨.float .f64 (FloatKind.f64.nearest n),fun w' _ => ?_,by rw [RV];exact .lit rfl⟩
 simp [execOp,ho,litOf_ok (h.ev x) hx,convert,run_underlying hu,run_underlying (fltT_run hd),Conv.intToFloat]
theorem ev_f2i {sr ds:TypeId} {x:Operand} {k:IntKind} {b:Nat} {n:Int} (ho:o.op = .convert sr ds x) (hx:litOf (ev st x)=some (.float .f64 b)) (hs:fltT P sr=true) (hd:intT P ds=some k) (hn:(FloatKind.f64.decode b).toInt .zero=some n) (h1:k.min≤n) (h2:n≤k.max):EvS P o st (.one (.d (.lit (.int k n)))) true:=fun β F ι a w h=>by
 have hu:P.underlying ds=some (.int k):=by
  unfold intT at hd
  split at hd
  ·rename_i e;simp only [Option.some.injEq] at hd;subst hd;exact e
  ·cases hd
 refine ⟨.int k n,fun w' _ => ?_,by rw [RV];exact .lit rfl⟩
 simp [execOp,ho,litOf_ok (h.ev x) hx,convert,run_underlying hu,run_underlying (fltT_run hs),Conv.floatToInt,hn,h1,h2]
end
end
section
open Go.RowKit Go Go.Maps Go.ChangeMaps Go.MapKept Go.WideShapes
theorem int_underlying:Tryz.prog.underlying 3=some (.int .i64):=by kernel_rfl
theorem int_zero (w:World):(zeroValue 3).run Tryz.prog w = .ok (.int .i64 0) w:=by kernel_rfl
noncomputable instance (a b:Value):Decidable (a=b):=Classical.propDecidable _
def keyD:D->Option Value
 | .one (.d (.lit v))=>some v
 | .agg cs=>(intsOf cs).map fun l => .agg (l.map (Value.int .i64)).toArray
 | _=>none
theorem keyD_ok {E:Env} {w:World} {ι:Nms} {d:D} {v u:Value} (h:RV E w ι d v) (hk:keyD d=some u):v=u:=by
 unfold keyD at hk
 split at hk
 ·simp only [Option.some.injEq] at hk
  subst hk
  rw [RV] at h
  exact RD.lit_inv h
 ·rename_i cs
  cases hi:intsOf cs with
  | none=>simp [hi] at hk
  | some l =>
   simp only [hi,Option.map_some,Option.some.injEq] at hk
   subst hk
   rw [RV] at h
   obtain ⟨xs,rfl,h⟩:=h
   congr 1
   apply Array.ext'
   simpa using intsOf_ok h hi
 ·cases hk
def KeyIn (kt:TypeId) (v:Value):Prop := ∃ kl,keyOf Tryz.prog kt v=some kl
def mapOf (st:St) (d:D):Option (Nat×TypeId×(Value->Int)×Nat):=match d with
 | .one (.map n)=>match st.H n with
  | some ⟨.m kt f c,0,[]⟩=>some (n,kt,f,c)
  | _=>none
 | _=>none
theorem mapOf_ok {β:Base} {F:Nat->Prop} {ι:Nms} {st:St} {a:Act} {w:World} (h:Holds β F ι st a w) {x:Operand} {n c:Nat} {kt:TypeId} {f:Value->Int} (hx:mapOf st (ev st x)=some (n,kt,f,c)) :
  st.H n=some ⟨.m kt f c,0,[]⟩ ∧ ∃ b cap,a.eval x = .map (some b)∧ι n=some (b,cap)∧0<cap∧MapIs w b kt f c:=by
 unfold mapOf at hx
 split at hx
 ·rename_i m hm
  split at hx
  ·rename_i kt' f' c' hH
   simp only [Option.some.injEq,Prod.mk.injEq] at hx
   obtain ⟨rfl,rfl,rfl,rfl⟩:=hx
   have hv:=h.ev x
   rw [hm,RV] at hv
   obtain ⟨b,cap,p1,p2,p3⟩:=hv
   obtain ⟨b',cap',q1,q2,q3,q4⟩:=h.heap.blk _ _ hH
   rw [p1] at q1
   simp only [Option.some.injEq,Prod.mk.injEq] at q1
   obtain ⟨rfl,rfl⟩:=q1
   obtain ⟨arr,r1, -⟩:=q4 p2
   exact ⟨hH,b,cap,p3,p1,p2,r1.2⟩
  ·cases hx
 ·cases hx
def mapT (P:Program) (ty:TypeId):Option TypeId:=match P.underlying ty with
 | some (.map k e)=>if e=3 then some k else none
 | _=>none
theorem mapT_run {P:Program} {ty kt:TypeId} (h:mapT P ty=some kt):P.underlying ty=some (.map kt 3):=by
 unfold mapT at h
 split at h
 ·rename_i hu
  split at h
  ·rename_i e;subst e;simp only [Option.some.injEq] at h;subst h;exact hu
  ·cases h
 ·cases h
theorem MapIs.lt {w:World} {b n:Nat} {kt:TypeId} {f:Value->Int} (h:MapIs w b kt f n):b<w.heap.size:=by
 obtain ⟨D,m, -, hD, -⟩:=h
 exact hD.lt
theorem MapIs.made (w:World) (kt:TypeId):MapIs (w.alloc (.map #[] 0)) w.heap.size kt (fun _=>0) 0 :=
 ⟨_,0,Nat.le_refl _,World.ownsMap_made _ _ _ _,fun k kl _=>by simp [DataW.atKey]⟩
theorem MapIs.look {w:World} {b n:Nat} {kt ty:TypeId} {f:Value->Int} (h:MapIs w b kt f n) (K:Keyed Tryz.prog kt) (ht:Tryz.prog.underlying ty=some (.map kt 3)) {u:Value} (hu:KeyIn kt u) :
  (Instr.lookup ty (.map (some b)) u false).run Tryz.prog w = .ok (.int .i64 (f u)) w:=by
 obtain ⟨D,m, -, hD,hf⟩:=h
 obtain ⟨kl,hkl⟩:=hu
 obtain ⟨c,hrun,hc, -⟩:=hD.lookup_int K ht int_underlying (int_zero w) hkl
 rw [hf u kl hkl] at hc
 simp only [DataW.lit.injEq,Lit.int.injEq,true_and] at hc
 rw [hc];exact hrun
theorem MapIs.put {w:World} {b n:Nat} {kt ty:TypeId} {f:Value->Int} (h:MapIs w b kt f n) (K:Keyed Tryz.prog kt) (ht:Tryz.prog.underlying ty=some (.map kt 3)) (hn:n<100000000000) {u:Value} (hu:KeyIn kt u) {x:Int} (hx:(Lit.int .i64 x).wf=true) :
  ∃ w',(Instr.mapUpdate ty (.map (some b)) u (.int .i64 x)).run Tryz.prog w = .ok () w'∧MapIs w' b kt (fun k=>if k=u then x else f k) (n+1)∧w'.heap.size=w.heap.size∧SameIo w w' ∧ ∀ c,c≠b->w'.heap[c]? = w.heap[c]? := by
 obtain ⟨D,m,hm,hD,hf⟩:=h
 obtain ⟨kl,hkl⟩:=hu
 obtain ⟨w',hrun,h3,es,cl,es',cl',h4,h5⟩:=hD.store K ht (by simp only [maxLen];omega) hkl (plainElem_int (a:=x) int_underlying hx)
 refine ⟨w',hrun,⟨D.put kl (.lit (.int .i64 x)),m+1,by omega,h3,fun k kl' hk => ?_⟩,by rw [h5];simp [setBlock],by rw [h5];exact ⟨rfl,rfl,rfl⟩,fun c hc=>by rw [h5];exact heap_setBlock_other h4 _ hc⟩
 by_cases e:k=u
 ·subst e
  rw [hkl] at hk
  cases hk
  simp only [if_true]
  exact atKey_put_same hD.isMap (K.key hkl) _ _
 ·simp only [e,if_false]
  rw [atKey_put_other (fun h=>e (by subst h;exact K.inj hk hkl))]
  exact hf k kl' hk
def St.newMap (st:St) (kt:TypeId):St:=⟨st.n,st.tm,st.H.set st.nx (some ⟨.m kt (fun _=>0) 0,0,[]⟩),st.nx+1⟩
section
variable {qt:Bool} {o:Oper} {st:St} {K:St->Prop} {t:Nat}
theorem ev_makeMap {ty kt:TypeId} (ho:o.op = .makeMap ty none) (ht:o.dst=some t) (hn:t<st.n) (hK:K ((st.newMap kt).put t (.one (.map st.nx)))):EvO Tryz.prog qt o st K :=
 EvO.val ht hn (st.newMap kt) rfl _ hK (fun β F ι a w h=>by
  obtain ⟨h1,h2,h3⟩:=h.heap.alloc0 (w':=w.alloc (.map #[] 0)) #[] ⟨.m kt (fun _=>0) 0,0,[]⟩ 1 (by omega) (ob := .map #[] 0) rfl ⟨rfl,rfl,rfl⟩ ⟨rfl,MapIs.made w kt⟩ (by simp) (by simp) rfl (by simp) (fun i j y hy=>by simp [nth2] at hy)
  refine ⟨.map (some w.heap.size),F,_,_,by simp [execOp,ho,run_makeMap],⟨h.good,h.defers,h.size,fun u=>(h.tm u).keep h2 h3,h1⟩,?_,fun _=>old_alloc w _⟩
  rw [RV]
  exact ⟨w.heap.size,1,by simp [Nms.set],by omega,rfl⟩)
theorem ev_lookup {ty kt:TypeId} {x y:Operand} {n c:Nat} {f:Value->Int} {u:Value} (ho:o.op = .lookup ty x y false) (hx:mapOf st (ev st x)=some (n,kt,f,c)) (ht:mapT Tryz.prog ty=some kt) (hy:keyD (ev st y)=some u) (hk:Keyed Tryz.prog kt) (hi:KeyIn kt u):EvS Tryz.prog o st (.one (.d (.lit (.int .i64 (f u))))) false:=fun β F ι a w h=>by
 obtain ⟨-, b,cap,h1, -, -, hm⟩:=mapOf_ok h hx
 refine ⟨.int .i64 (f u),fun w' hw => ?_,by rw [RV];exact .lit rfl⟩
 have hrun:=(hm.keep (hw.resolve_left (by simp) b hm.lt)).look hk (mapT_run ht) hi
 simp [execOp,ho,h1,keyD_ok (h.ev y) hy,hrun]
theorem ev_mapUpdate {ty kt:TypeId} {x y z:Operand} {n c:Nat} {f:Value->Int} {u:Value} {v:Int} (ho:o.op = .mapUpdate ty x y z) (hx:mapOf st (ev st x)=some (n,kt,f,c)) (ht:mapT Tryz.prog ty=some kt) (hy:keyD (ev st y)=some u) (hz:litOf (ev st z)=some (.int .i64 v)) (hk:Keyed Tryz.prog kt) (hi:KeyIn kt u) (hv:(Lit.int .i64 v).wf=true) (hc:c<100000000000) (hd:o.dst=none)
  (hK:K ⟨st.n,st.tm,st.H.set n (some ⟨.m kt (fun k=>if k=u then v else f k) (c+1),0,[]⟩),st.nx⟩):EvO Tryz.prog qt o st K :=
 EvO.unit hd (by rw [ho];rfl) _ hK (by rw [ho];rfl) fun β F ι a w h=>by
  obtain ⟨hH,b,cap,h1,hb,hcap,hm⟩:=mapOf_ok h hx
  obtain ⟨w',hrun,g1,g2,gio,g3⟩:=hm.put hk (mapT_run ht) hc hi hv
  obtain ⟨k1,k2⟩:=h.heap.write (w':=w') hH hb hcap #[] ⟨.m kt (fun k=>if k=u then v else f k) (c+1),0,[]⟩ (fun c hc=>g3 c hc) g2 gio ⟨rfl,g1⟩ (by simp) (by simp) (by simp) (by simp) (fun i j y hy=>by simp [nth2] at hy)
  refine ⟨F,ι,w',?_,⟨h.good,h.defers,h.size,fun u=>(h.tm u).keep k2 (Nms.le_refl _),k1⟩,fun ty x y e=>by rw [ho] at e;cases e⟩
  simp [execOp,ho,h1,keyD_ok (h.ev y) hy,litOf_ok (h.ev z) hz,hrun]
end
def isNum (b:Nat):Bool:=Ieee.double.order b b == some .eq
def fltA:BinOp->Option Value->Option Value->Option (Nat×Nat)
 | .add,some (.float .f64 a),some (.float .f64 b)=>some (a,b)
 | .sub,some (.float .f64 a),some (.float .f64 b)=>some (a,b)
 | .mul,some (.float .f64 a),some (.float .f64 b)=>some (a,b)
 | .quo,some (.float .f64 a),some (.float .f64 b)=>some (a,b)
 | _,_,_=>none
theorem fltA_inv {op:BinOp} {x y:Option Value} {a b:Nat} (h:fltA op x y=some (a,b)):(op = .add∨op = .sub∨op = .mul∨op = .quo)∧x=some (.float .f64 a)∧y=some (.float .f64 b):=by
 unfold fltA at h
 split at h
 all_goals first
  | (simp only [Option.some.injEq,Prod.mk.injEq] at h;obtain ⟨rfl,rfl⟩:=h;simp;done)
  | cases h
theorem order_nan' {x y:Nat} (h:9218868437227405312<x%9223372036854775808):Ieee.double.order x y=none:=by
 have dbl_sign:Ieee.double.signWeight=9223372036854775808:=by decide
 have dbl_bin:Ieee.double.binade=4503599627370496:=by decide
 have dbl_inf:Ieee.double.infRung=9218868437227405312:=by decide
 have hr : ∃ s f,Ieee.double.read x = .nan s f:=by
  unfold Ieee.Format.read
  rw [dbl_sign,dbl_bin,dbl_inf]
  simp only []
  rw [if_neg (by omega),if_neg (by omega),if_neg (by omega)]
  exact ⟨_,_,rfl⟩
 obtain ⟨s,f,hr⟩:=hr
 unfold Ieee.Format.order
 rw [hr]
 rfl
theorem run_nan {P:Program} (op:BinOp) (t:TypeId) (x y:Nat) (w:World) (h:floatBits op .f64 x y=none) (ho:op = .add∨op = .sub∨op = .mul∨op = .quo) :
  ∃ b:Nat,isNum b=false∧(binOp op t (.float .f64 x) (.float .f64 y)).run P w = .ok (.float .f64 b) w.drew:=by
 refine ⟨(Question.nanBits .f64 x y).cut (w.tape w.drawn (.nanBits .f64 x y)),?_,?_⟩
 ·have key : ∀ t:Nat,isNum ((t%2)*2 ^ 63+0x7ff0000000000000+1+(t/2)%(2 ^ 52-1))=false:=by
   intro t
   have h1:t%2<2:=Nat.mod_lt _ (by decide)
   have h2:(t/2)%(2 ^ 52-1)<4503599627370495:=Nat.mod_lt _ (by decide)
   generalize t%2=s at h1
   generalize (t/2)%(2 ^ 52-1)=r at h2
   unfold isNum
   rw [order_nan' (by rcases (by omega:s=0∨s=1) with rfl | rfl <;> omega)]
   rfl
  exact key _
 ·unfold floatBits at h
  rcases ho with rfl | rfl | rfl | rfl <;> simp only at h <;> simp [binOp,Op.floatArith,h,choose,Sem.run,Question.forced] <;> rfl
section
variable {P:Program} {qt:Bool} {o:Oper} {st:St} {K:St->Prop} {t:Nat}
theorem ev_floatA {op:BinOp} {ty yt:TypeId} {x y:Operand} {p q:Nat} (ho:o.op = .binOp op ty x y yt) (hf:fltA op (litOf (ev st x)) (litOf (ev st y))=some (p,q)) (ht:o.dst=some t) (hn:t<st.n)
  (h1 : ∀ r,floatBits op .f64 p q=some r->K (st.put t (.one (.d (.lit (.float .f64 r)))))) (h2:floatBits op .f64 p q=none -> ∀ r,isNum r=false->K (st.put t (.one (.d (.lit (.float .f64 r)))))):EvO P qt o st K:=by
 obtain ⟨hop,hx,hy⟩:=fltA_inv hf
 intro β F ι a w h next Q hnext
 have hg : ∀ r w1,(binOp op ty (.float .f64 p) (.float .f64 q)).run P w = .ok (.float .f64 r) w1->(execOp a.eval o).run P w = .ok (.value (.float .f64 r)) w1:=fun r w1 hr=>by
  have:(eqGuard op ty x y (.float .f64 p) (.float .f64 q)).run P w = .ok () w:=by
   rcases hop with rfl | rfl | rfl | rfl <;> simp [eqGuard]
  simp [execOp,ho,litOf_ok (h.ev x) hx,litOf_ok (h.ev y) hy,this,hr]
 have hch : ∀ v w',Chg qt o a w v w':=fun v w'=>⟨fun _ e=>(by rw [ho] at e;cases e),fun e=>(by rw [ho] at e;cases e),fun ty x y e=>(by rw [ho] at e;cases e)⟩
 unfold Oper.wp
 rw [ht] at hnext
 cases hb:floatBits op .f64 p q with
 | some r =>
  rw [hg r w (run_float_arith (P:=P) w op ty .f64 p q r hb),Oper.upon_value,ht]
  exact hnext F ι _ _ w (hch _ _) (h.put (by rw [RV];exact .lit rfl) hn) (h1 r hb)
 | none =>
  obtain ⟨r,g1,g2⟩:=run_nan op ty p q w hb hop
  rw [hg r _ g2,Oper.upon_value,ht]
  obtain ⟨k1,k2⟩:=h.heap.drew
  have h':Holds β F ι st a w.drew:=⟨h.good,h.defers,h.size,fun t=>(h.tm t).keep k2 (Nms.le_refl _),k1⟩
  exact hnext F ι _ _ w.drew (hch _ _) (h'.put (by rw [RV];exact .lit rfl) hn) (h2 hb r g1)
theorem ev_negF {ty:TypeId} {x:Operand} {k:FloatKind} {n:Nat} (ho:o.op = .unOp .neg ty x) (hx:litOf (ev st x)=some (.float k n)):EvS P o st (.one (.d (.lit (.float k (Op.negFloat k n))))) true:=fun β F ι a w h=>⟨.float k (Op.negFloat k n),fun w' _=>by simp [execOp,ho,litOf_ok (h.ev x) hx,Op.unary],by rw [RV];exact .lit rfl⟩
end
theorem ext_from (n:Int) (w:World):(callFunc 77 #[.int .u64 n]).run Tryz.prog w = .ok (.value (.float .f64 n.toNat)) w:=by
 rw [run_callFunc_extern (e:=Extern.MathFloatBits.float64frombits) Tryz.func77 (by kernel_rfl) (by kernel_rfl) (by kernel_rfl) (by kernel_rfl)]
 rfl
theorem ext_bits (n:Nat) (w:World):(callFunc 75 #[.float .f64 n]).run Tryz.prog w = .ok (.value (.int .u64 n)) w:=by
 rw [run_callFunc_extern (e:=Extern.MathFloatBits.float64bits) Tryz.func75 (by kernel_rfl) (by kernel_rfl) (by kernel_rfl) (by kernel_rfl)]
 rfl
def ext1 (f:FuncId) (v:Option Value):Option Value :=
 if f=77 then (match v with | some (.int .u64 n)=>some (.float .f64 n.toNat) | _=>none) else
 if f=75 then (match v with | some (.float .f64 n)=>some (.int .u64 n) | _=>none) else
 none
theorem ext1_ok {f:FuncId} {v r:Value} (h:ext1 f (some v)=some r) (w:World):(callFunc f #[v]).run Tryz.prog w = .ok (.value r) w∧r.oneCell'=true:=by
 unfold ext1 at h
 repeat' split at h
 all_goals first
  | (cases h;done)
  | (rename_i e _ _ hv;have e2:f=77:=e;simp only [Option.some.injEq] at h hv;subst h hv e;exact ⟨ext_from _ w,rfl⟩)
  | (rename_i e _ _ hv;have e2:f=75:=e;simp only [Option.some.injEq] at h hv;subst h hv e;exact ⟨ext_bits _ w,rfl⟩)
def ext (st:St) (f:FuncId) (xs:List Operand):Option Value:=match xs with
 | [x]=>ext1 f (litOf (ev st x))
 | _=>none
section
variable {qt:Bool} {o:Oper} {st:St} {K:St->Prop} {t:Nat}
theorem ev_ext {x:Operand} {xs:Array Operand} {tys:Array TypeId} {f:FuncId} {r:Value} (ho:o.op = .call { callee := .value x,args:=xs,argTypes:=tys }) (hx:ev st x = .one (.d (.fn (.func f) [] []))) (he:ext st f xs.toList=some r):EvS Tryz.prog o st (.one (.d (.lit r))) true:=fun β F ι a w h=>by
 unfold ext at he
 split at he
 ·rename_i y hy
  obtain rfl:xs = #[y]:=by apply Array.ext';simpa using hy
  cases hv:litOf (ev st y) with
  | none=>rw [hv] at he;unfold ext1 at he;simp at he
  | some v =>
   rw [hv] at he
   have hfv:=h.ev x
   rw [hx,RV] at hfv
   have hfx:a.eval x = .func (.func f) #[] #[]:=by
    cases hq:a.eval x with
    | func fn ys zs =>
     rw [hq] at hfv
     cases hfv with
     | fn l1 l2 h1 h2 =>
      obtain rfl:ys = #[]:=by simpa using l1
      obtain rfl:zs = #[]:=by simpa using l2
      rfl
    | _=>rw [hq] at hfv;cases hfv
   refine ⟨r,fun w' _ => ?_,by rw [RV];exact .lit (ext1_ok he w).2⟩
   have hr:=(ext1_ok he w').1
   simp [execOp,ho,resolve,hfx,Deferred.ofValue,invoke,litOf_ok (h.ev y) hv,hr]
 ·cases he
end
end
section
open Go.RowKit Go
def Cap.solid:Cap->Bool
 | .d x=>x.solidT
 | _=>true
def C.solidC:C->Bool
 | .d x=>x.solidT
 | .fnp _ cs=>cs.all Cap.solid
 | _=>true
mutual
def D.sol:D->Prop
 | .one c=>c.solidC=true
 | .agg cs => ∀ c∈cs,C.solidC c=true
 | .tup ds=>Ds.sol ds
 | .top=>True
def Ds.sol:List D->Prop
 | []=>True
 | d::ds=>d.sol∧Ds.sol ds
end
def HSol (H:Hp):Prop := ∀ n x,H n=some x -> ∀ e∈x.es, ∀ c∈e,C.solidC c=true
section
variable {F:Nat->Prop} {B B':Nat->Prop} {w:World} {ι:Nms}
theorem RCaps.sol : ∀ {cs:List Cap} {vs:List Value}, RCaps ⟨F,B⟩ w ι cs vs->cs.all Cap.solid=true->RCaps ⟨F,B'⟩ w ι cs vs
 | [],[],_,_=>trivial
 | .d x::cs,_::_,h,hs=>by
  simp only [List.all_cons,Bool.and_eq_true,Cap.solid] at hs
  exact ⟨(RD.toSolid h.1 hs.1).keep (show Env.le ⟨F,fun _=>False⟩ ⟨F,B'⟩ w w from ⟨fun _ h=>h,fun _ h=>h.elim,fun _ _=>rfl,fun _ _=>rfl⟩),RCaps.sol h.2 hs.2⟩
 | .ptr _ _ _ _::cs,_::_,h,hs=>by
  simp only [List.all_cons,Bool.and_eq_true] at hs
  exact ⟨h.1,RCaps.sol h.2 hs.2⟩
 | .own _ _ _::cs,_::_,h,hs=>by
  simp only [List.all_cons,Bool.and_eq_true] at hs
  exact ⟨h.1,RCaps.sol h.2 hs.2⟩
theorem RC.sol {c:C} {v:Value} (h:RC ⟨F,B⟩ w ι c v) (hs:c.solidC=true):RC ⟨F,B'⟩ w ι c v:=by
 cases c with
 | d x=>exact (RD.toSolid h hs).keep (show Env.le ⟨F,fun _=>False⟩ ⟨F,B'⟩ w w from ⟨fun _ h=>h,fun _ h=>h.elim,fun _ _=>rfl,fun _ _=>rfl⟩)
 | own n k l=>exact h
 | ptr n k i o=>exact h
 | map n=>exact h
 | fnp f cs=>obtain ⟨ys,h1,h2⟩:=h;exact ⟨ys,h1,RCaps.sol h2 hs⟩
 | ifo t n k l=>exact h
 | any=>exact h
theorem RCs.sol : ∀ {cs:List C} {vs:List Value}, RCs ⟨F,B⟩ w ι cs vs->(∀ c∈cs,C.solidC c=true)->RCs ⟨F,B'⟩ w ι cs vs
 | [],[],_,_=>trivial
 | c::_,_::_,h,hs=>⟨h.1.sol (hs c (List.mem_cons_self ..)),RCs.sol h.2 fun c hc=>hs c (List.mem_cons_of_mem _ hc)⟩
mutual
theorem RV.sol : ∀ {d:D} {v:Value}, RV ⟨F,B⟩ w ι d v->d.sol->RV ⟨F,B'⟩ w ι d v
 | .one _,_,h,hs=>by rw [RV] at h ⊢; rw [D.sol] at hs;exact RC.sol h hs
 | .agg _,_,h,hs=>by rw [RV] at h ⊢; rw [D.sol] at hs;obtain ⟨xs,h1,h2⟩:=h;exact ⟨xs,h1,RCs.sol h2 hs⟩
 | .tup _,_,h,hs=>by rw [RV] at h ⊢; rw [D.sol] at hs;obtain ⟨xs,h1,h2⟩:=h;exact ⟨xs,h1,RVs.sol h2 hs⟩
 | .top,_,_,_=>by rw [RV];trivial
theorem RVs.sol : ∀ {ds:List D} {vs:List Value}, RVs ⟨F,B⟩ w ι ds vs->Ds.sol ds->RVs ⟨F,B'⟩ w ι ds vs
 | [],[],_,_=>by rw [RVs];trivial
 | _::_,_::_,h,hs=>by rw [RVs] at h ⊢; rw [Ds.sol] at hs;exact ⟨RV.sol h.1 hs.1,RVs.sol h.2 hs.2⟩
 | [],_::_,h,_=>by simp [RVs] at h
 | _::_,[],h,_=>by simp [RVs] at h
end
end
def ICall (P:Program) (f:FuncId) (ds:List D) (H:Hp) (nx:Nat) (K:D->Hp->Nat->Prop):Prop:=goFn P f=true ∧
 ∀ β F ι w vs,β.good->HpOk β F w ι H nx->RVs ⟨F,β.B⟩ w ι ds vs->Calls P f vs.toArray w fun e w' => ∃ F' ι' H' nx' d v,e = .returned v∧HpOk β F' w' ι' H' nx'∧Env.le ⟨F,β.B⟩ ⟨F',β.B⟩ w w'∧Nms.le ι ι'∧RV ⟨F',β.B⟩ w' ι' d v∧K d H' nx'
theorem ICall.ofPure {P:Program} {f:FuncId} {ds es:List D} {H:Hp} {nx:Nat} {K:D->Hp->Nat->Prop} (hl:lends H ds=some es) (h:DPure P f es fun d fr=>K (d.ren (· + nx)) (addsH H nx fr) (nx+fr.length)):ICall P f ds H nx K :=
 ⟨h.1,fun β F ι w vs hg hH hvs=>(h.2 F w vs hH.Flt (hH.gl hg) (lends_ok hH hvs hl)).mono fun _ w' ⟨F',ι',d,fr,v,e1,ho,e3⟩=>by
  have hh:Holds β F ι ⟨0,[],H,nx⟩ ⟨#[],[]⟩ w:=⟨hg,rfl,rfl,fun t=>by rw [show lk [] t=D.top from rfl,RV];trivial,hH⟩
  obtain ⟨ι2,g1,g2,g3⟩:=hh.out ho
  have hle:Env.le ⟨F,β.B⟩ ⟨F',β.B⟩ w w':=⟨ho.Fle,fun _ h=>h,fun b hb=>ho.old b (hH.Flt b hb),fun b hb=>ho.old b (Nat.lt_of_lt_of_le hb.1 hH.size)⟩
  exact ⟨F',ι2,_,_,_,v,e1,g1.heap,hle,g3,g2,e3⟩⟩
def callKI (st:St) (t:Option Nat) (K:St->Prop) (d:D) (H:Hp) (nx:Nat):Prop:=K (St.putO ⟨st.n,st.tm,H,nx⟩ t d)
theorem ev_icall {P:Program} {o:Oper} {st:St} {K:St->Prop} {x:Operand} {xs:Array Operand} {tys:Array TypeId} {f:FuncId} {fs cs:List Dt} (ho:o.op = .call { callee := .value x,args:=xs,argTypes:=tys }) (hx:ev st x = .one (.d (.fn (.func f) fs cs)))
  (ht : ∀ t,o.dst=some t->t<st.n) (hC:ICall P f (callArgs st fs cs xs.toList) st.H st.nx (callKI st o.dst K)):EvO P false o st K:=by
 intro β F ι a w h next Q hnext
 have he:=h.ev x
 rw [hx,RV] at he
 obtain ⟨ys,zs,hv,l1,l2,h1,h2⟩ : ∃ ys zs,a.eval x = .func (.func f) ys zs∧ys.size=fs.length∧zs.size=cs.length∧(∀ (j:Nat) c x,fs[j]? = some c->ys[j]? = some x->RD ⟨F,β.B⟩ w c x)∧(∀ (j:Nat) c x,cs[j]? = some c->zs[j]? = some x->RD ⟨F,β.B⟩ w c x):=by
  cases hq:a.eval x with
  | func fn ys zs =>
   rw [hq] at he
   cases he with
   | fn l1 l2 h1 h2=>exact ⟨ys,zs,rfl,l1,l2,h1,h2⟩
  | _=>rw [hq] at he;cases he
 have hrun:(execOp a.eval o).run P w = .ok (.enter f (ys++xs.map a.eval++zs)) w:=by
  simp [execOp,ho,resolve,hv,Deferred.ofValue,invoke,goFn_run hC.1]
 unfold Oper.wp
 rw [hrun,Oper.upon_enter]
 have hargs:RVs ⟨F,β.B⟩ w ι (callArgs st fs cs xs.toList) (ys.toList++xs.toList.map a.eval++zs.toList) :=
  ((RVs.ofRD (by simpa using l1) fun j c x hc hx=>h1 j c x hc (by simpa using hx)).append (evs_ok h xs.toList)).append (RVs.ofRD (by simpa using l2) fun j c x hc hx=>h2 j c x hc (by simpa using hx))
 have hc:=hC.2 β F ι w _ h.good h.heap hargs
 rw [show (ys.toList++xs.toList.map a.eval++zs.toList).toArray=ys++xs.map a.eval++zs by apply Array.ext';simp] at hc
 refine hc.mono ?_
 rintro e w' ⟨F',ι',H',nx',d,v,rfl,hH,hle,hi,hr,hK⟩
 have g1:Holds β F' ι' ⟨st.n,st.tm,H',nx'⟩ a w':=⟨h.good,h.defers,h.size,fun u=>(h.tm u).keep hle hi,hH⟩
 refine hnext F' ι' (St.putO ⟨st.n,st.tm,H',nx'⟩ o.dst d) v w' (Chg.call ho fun h=>by cases h) ?_ hK
 cases hdst:o.dst with
 | none=>exact g1
 | some t=>exact g1.put hr (ht t hdst)
def Cap.D:Cap->D
 | .d x => .one (.d x)
 | .ptr n k i o => .one (.ptr n k i o)
 | .own n k l => .one (.own n k l)
theorem RVs.ofCaps {E:Env} {w:World} {ι:Nms} : ∀ {cs:List Cap} {vs:List Value}, RCaps E w ι cs vs->RVs E w ι (cs.map Cap.D) vs
 | [],[],_=>by rw [List.map_nil,RVs];trivial
 | .d _::_,_::_,h=>by rw [List.map_cons,RVs,Cap.D,RV];exact ⟨h.1,RVs.ofCaps h.2⟩
 | .ptr _ _ _ _::_,_::_,h=>by rw [List.map_cons,RVs,Cap.D,RV];exact ⟨h.1,RVs.ofCaps h.2⟩
 | .own _ _ _::_,_::_,h=>by rw [List.map_cons,RVs,Cap.D,RV];exact ⟨h.1,RVs.ofCaps h.2⟩
def capOf:D->Option Cap
 | .one (.d x)=>some (.d x)
 | .one (.ptr n k i o)=>some (.ptr n k i o)
 | _=>none
def capsOf (st:St):List Operand->Option (List Cap)
 | []=>some []
 | x::xs=>(capOf (ev st x)).bind fun c=>(capsOf st xs).map fun l=>c::l
theorem capsOf_ok {β:Base} {F:Nat->Prop} {ι:Nms} {st:St} {a:Act} {w:World} (h:Holds β F ι st a w) : ∀ {xs:List Operand} {cs:List Cap}, capsOf st xs=some cs->RCaps ⟨F,β.B⟩ w ι cs (xs.map a.eval)
 | [],cs,hc=>by simp only [capsOf,Option.some.injEq] at hc;subst hc;trivial
 | x::xs,cs,hc=>by
  unfold capsOf at hc
  cases h1:capOf (ev st x) with
  | none=>simp [h1] at hc
  | some c =>
   cases h2:capsOf st xs with
   | none=>simp [h1,h2] at hc
   | some l =>
    simp only [h1,h2,Option.bind_some,Option.map_some,Option.some.injEq] at hc
    subst hc
    refine ⟨?_,capsOf_ok h h2⟩
    have hv:=h.ev x
    unfold capOf at h1
    split at h1
    ·rename_i hx;simp only [Option.some.injEq] at h1;subst h1;rw [hx,RV] at hv;exact hv
    ·rename_i hx;simp only [Option.some.injEq] at h1;subst h1;rw [hx,RV] at hv;exact hv
    ·cases h1
theorem evS_makeFuncP {P:Program} {o:Oper} {st:St} {fn:Fn} {xs ys:Array Operand} {cs:List Cap} (ho:o.op = .makeFunc fn xs ys) (hx:xs.toList=[]) (hy:capsOf st ys.toList=some cs):EvS P o st (.one (.fnp fn cs)) true:=fun β F ι a w h=>by
 obtain rfl:xs = #[]:=by apply Array.ext';simpa using hx
 refine ⟨.func fn #[] (ys.map a.eval),fun w' _=>by simp [execOp,ho,Instr.makeFunc],?_⟩
 rw [RV]
 exact ⟨ys.map a.eval,rfl,by simpa using capsOf_ok h hy⟩
theorem ev_makeFuncP {P:Program} {qt:Bool} {o:Oper} {st:St} {K:St->Prop} {t:Nat} {fn:Fn} {xs ys:Array Operand} {cs:List Cap} (ho:o.op = .makeFunc fn xs ys) (hx:xs.toList=[]) (hy:capsOf st ys.toList=some cs) (ht:o.dst=some t) (hn:t<st.n) (hK:K (st.put t (.one (.fnp fn cs)))):EvO P qt o st K :=
 EvS.toO (fr:=true) (fun β F ι a w h=>by
  obtain rfl:xs = #[]:=by apply Array.ext';simpa using hx
  refine ⟨.func fn #[] (ys.map a.eval),fun w' _=>by simp [execOp,ho,Instr.makeFunc],?_⟩
  rw [RV]
  exact ⟨ys.map a.eval,rfl,by simpa using capsOf_ok h hy⟩) ht hn hK
theorem ev_icallP {P:Program} {o:Oper} {st:St} {K:St->Prop} {x:Operand} {xs:Array Operand} {tys:Array TypeId} {f:FuncId} {cs:List Cap} (ho:o.op = .call { callee := .value x,args:=xs,argTypes:=tys }) (hx:ev st x = .one (.fnp (.func f) cs))
  (ht : ∀ t,o.dst=some t->t<st.n) (hC:ICall P f (xs.toList.map (ev st)++cs.map Cap.D) st.H st.nx (callKI st o.dst K)):EvO P false o st K:=by
 intro β F ι a w h next Q hnext
 have he:=h.ev x
 rw [hx,RV] at he
 obtain ⟨ys,hv,hcs⟩ : ∃ ys:Array Value,a.eval x = .func (.func f) #[] ys∧RCaps ⟨F,β.B⟩ w ι cs ys.toList:=he
 have hrun:(execOp a.eval o).run P w = .ok (.enter f (#[]++xs.map a.eval++ys)) w:=by
  simp [execOp,ho,resolve,hv,Deferred.ofValue,invoke,goFn_run hC.1]
 unfold Oper.wp
 rw [hrun,Oper.upon_enter]
 have hargs:RVs ⟨F,β.B⟩ w ι (xs.toList.map (ev st)++cs.map Cap.D) (xs.toList.map a.eval++ys.toList):=(evs_ok h xs.toList).append (RVs.ofCaps hcs)
 have hc:=hC.2 β F ι w _ h.good h.heap hargs
 rw [show (xs.toList.map a.eval++ys.toList).toArray = #[]++xs.map a.eval++ys by apply Array.ext';simp] at hc
 refine hc.mono ?_
 rintro e w' ⟨F',ι',H',nx',d,v,rfl,hH,hle,hi,hr,hK⟩
 have g1:Holds β F' ι' ⟨st.n,st.tm,H',nx'⟩ a w':=⟨h.good,h.defers,h.size,fun u=>(h.tm u).keep hle hi,hH⟩
 refine hnext F' ι' (St.putO ⟨st.n,st.tm,H',nx'⟩ o.dst d) v w' (Chg.call ho fun h=>by cases h) ?_ hK
 cases hdst:o.dst with
 | none=>exact g1
 | some t=>exact g1.put hr (ht t hdst)
def XCall (P:Program) (f:FuncId) (ds:List D) (H:Hp) (nx:Nat) (K:D->Hp->Nat->Prop):Prop :=
 ∀ β F ι w vs,β.good->HpOk β F w ι H nx->RVs ⟨F,β.B⟩ w ι ds vs -> ∃ F' ι' H' nx' d v w',(callFunc f vs.toArray).run P w = .ok (.value v) w'∧HpOk β F' w' ι' H' nx'∧Env.le ⟨F,β.B⟩ ⟨F',β.B⟩ w w'∧Nms.le ι ι'∧RV ⟨F',β.B⟩ w' ι' d v∧K d H' nx'
theorem ev_xcallP {P:Program} {o:Oper} {st:St} {K:St->Prop} {x:Operand} {xs:Array Operand} {tys:Array TypeId} {f:FuncId} {cs:List Cap} (ho:o.op = .call { callee := .value x,args:=xs,argTypes:=tys }) (hx:ev st x = .one (.fnp (.func f) cs))
  (ht : ∀ t,o.dst=some t->t<st.n) (hC:XCall P f (xs.toList.map (ev st)++cs.map Cap.D) st.H st.nx (callKI st o.dst K)):EvO P false o st K:=by
 intro β F ι a w h next Q hnext
 have he:=h.ev x
 rw [hx,RV] at he
 obtain ⟨ys,hv,hcs⟩ : ∃ ys:Array Value,a.eval x = .func (.func f) #[] ys∧RCaps ⟨F,β.B⟩ w ι cs ys.toList:=he
 have hargs:RVs ⟨F,β.B⟩ w ι (xs.toList.map (ev st)++cs.map Cap.D) (xs.toList.map a.eval++ys.toList):=(evs_ok h xs.toList).append (RVs.ofCaps hcs)
 obtain ⟨F',ι',H',nx',d,v,w',hr0,hH,hle,hi,hr,hK⟩:=hC β F ι w _ h.good h.heap hargs
 rw [show (xs.toList.map a.eval++ys.toList).toArray = #[]++xs.map a.eval++ys by apply Array.ext';simp] at hr0
 have hrun:(execOp a.eval o).run P w = .ok (.value v) w':=by
  have e:(execOp a.eval o).run P w=(callFunc f (#[]++xs.map a.eval++ys)).run P w:=by
   simp [execOp,ho,resolve,hv,Deferred.ofValue,invoke]
  rw [e];exact hr0
 unfold Oper.wp
 rw [hrun,Oper.upon_value]
 have g1:Holds β F' ι' ⟨st.n,st.tm,H',nx'⟩ a w':=⟨h.good,h.defers,h.size,fun u=>(h.tm u).keep hle hi,hH⟩
 refine hnext F' ι' (St.putO ⟨st.n,st.tm,H',nx'⟩ o.dst d) v w' (Chg.call ho fun h=>by cases h) ?_ hK
 cases hdst:o.dst with
 | none=>exact g1
 | some t=>exact g1.put hr (ht t hdst)
theorem ev_mkI {P:Program} {o:Oper} {st:St} {t:TypeId} {x:Operand} {n k l:Nat} {r:TypeId×Nat} (ho:o.op = .makeInterface t x) (hx:ev st x = .one (.own n k l)) (he:elOf P t=some r):EvS P o st (.one (.ifo t n k l)) true:=fun β F ι a w h=>by
 have hu:=h.ev x
 rw [hx,RV] at hu
 obtain ⟨b,cap,h1,h2,h3,h4⟩:=hu
 refine ⟨.iface t (a.eval x),fun w' _ => ?_,?_⟩
 ·simp [execOp,ho,Instr.makeInterface,run_underlying (elOf_run (e:=r.1) (k:=r.2) he).1]
 ·rw [RV]
  refine ⟨b,cap,h1,h2,h3,?_⟩
  rcases h4 with ⟨e,A,h⟩ | ⟨e,h⟩
  ·exact .inl ⟨e,A,by rw [h]⟩
  ·exact .inr ⟨e,by rw [h]⟩
def retI (P:Program) (rs:List ResultVar) (K:D->Hp->Nat->Prop):Exit->St->Prop
 | .normal,st | .ret,st => ∃ ds,resDs P st rs=some ds∧(resT ds).sol∧HSol st.H∧K (resT ds) st.H st.nx
 | _,_=>False
theorem icall_of_ev {P:Program} {f:FuncId} {fn:Func} {c:Code} {ds:List D} {H:Hp} {nx:Nat} {K:D->Hp->Nat->Prop} (hf:P.funcs[f]? = some fn) (hb:fn.body=some c) (hg:goFn P f=true) (hn:ds.length≤fn.ntmps)
  (h:Ev P c (retI P fn.results.toList K) ⟨fn.ntmps,tms 0 ds,H,nx⟩):ICall P f ds H nx K:=by
 refine ⟨hg,fun β F ι w vs hgood hH hvs=>calls_of_wp hf hb ?_⟩
 have hlen : ∀ {ds:List D} {vs:List Value} {E:Env} {ι:Nms}, RVs E w ι ds vs->vs.length=ds.length ∧ ∀ t:Nat,RV E w ι ((ds[t]?).getD .top) ((vs[t]?).getD undef):=by
  intro ds
  induction ds with
  | nil=>intro vs E ι h;cases vs with
   | nil=>exact ⟨rfl,fun t=>by simp only [List.getElem?_nil,Option.getD_none];rw [RV];trivial⟩
   | cons _ _=>simp [RVs] at h
  | cons d ds ih=>intro vs E ι h;cases vs with
   | nil=>simp [RVs] at h
   | cons v vs =>
    rw [RVs] at h
    obtain ⟨i1,i2⟩:=ih h.2
    refine ⟨by simp [i1],fun t => ?_⟩
    cases t with
    | zero=>simpa using h.1
    | succ t=>simpa using i2 t
 obtain ⟨hvl,hget⟩:=hlen hvs
 let N:Nat->Prop:=fun b => ∃ n cap,H n≠none∧ι n=some (b,cap)∧0<cap
 let β':Base:=⟨w,N,F,ι⟩
 have hNF : ∀ b,F b -> ¬ N b:=fun b hb ⟨n,cap,h1,h2,h3⟩=>(hH.own n b cap h1 h2 h3).2.1 hb
 have hNo : ∀ b,N b->β.N0 b∨β.w0.heap.size≤b:=fun b ⟨n,cap,h1,h2,h3⟩=>(hH.own n b cap h1 h2 h3).2.2
 have hBB : ∀ b,β.B b->b<w.heap.size ∧ ¬ N b:=fun b hb=>⟨Nat.lt_of_lt_of_le hb.1 hH.size,fun hN=>by
  rcases hNo b hN with h0 | h0
  ·exact hb.2 h0
  ·have:=hb.1;omega⟩
 have hle:Env.le ⟨F,β.B⟩ ⟨F,β'.B⟩ w w:=⟨fun _ h=>h,fun b hb=>hBB b hb,fun _ _=>rfl,fun _ _=>rfl⟩
 have hHo:Holds β' F ι ⟨fn.ntmps,tms 0 ds,H,nx⟩ { tmps:=vs.toArray++Array.replicate (fn.ntmps-vs.toArray.size) undef,defers := [] } w:=by
  refine ⟨⟨hH.gl hgood,hH.Flt,hNF⟩,rfl,by simp;omega,fun t => ?_,⟨Nat.le_refl _,fun _ _ _=>rfl,hH.Flt,fun b hb => .inl hb,fun _ h=>h,fun n x hx=>(hH.blk n x hx).keep hle (Nms.le_refl _) fun _ _ _ _=>rfl,fun n b cap h1 h2 h3 => ?_,hH.inj,hH.nx,Nms.le_refl _,SameIo.refl _⟩⟩
  ·rw [lk_tms,if_pos (Nat.zero_le _),Nat.sub_zero]
   have:=(hget t).keep hle (Nms.le_refl _)
   by_cases ht:t<vs.length
   ·have e:(vs.toArray++Array.replicate (fn.ntmps-vs.toArray.size) undef).getD t undef=(vs[t]?).getD undef:=by
     simp [Array.getD_eq_getD_getElem?, Array.getElem?_append,ht]
    rw [e];exact this
   ·have e:ds[t]? = none:=List.getElem?_eq_none (by omega)
    rw [e,Option.getD_none,RV];trivial
  ·obtain ⟨g1,g2, -⟩:=hH.own n b cap h1 h2 h3
   exact ⟨g1,g2,.inl ⟨n,cap,h1,h2,h3⟩⟩
 refine h β' F _ _ w hHo _ fun e F' ι' st' a' w' h1 h2 => ?_
 have key : ∀ {e}, (e=Exit.normal∨e=Exit.ret)->retI P fn.results.toList K e st'->a'.defers=[] ∧ ∃ v,(results fn a'.tmps).run P w' = .ok v w' ∧ ∃ F' ι' H' nx' d v',Ending.returned v = .returned v'∧HpOk β F' w' ι' H' nx'∧Env.le ⟨F,β.B⟩ ⟨F',β.B⟩ w w'∧Nms.le ι ι'∧RV ⟨F',β.B⟩ w' ι' d v'∧K d H' nx':=by
  intro e he hk
  have hk' : ∃ ds,resDs P st' fn.results.toList=some ds∧(resT ds).sol∧HSol st'.H∧K (resT ds) st'.H st'.nx:=by
   rcases he with rfl | rfl <;> exact hk
  obtain ⟨rs,k1,k2,k3,k4⟩:=hk'
  obtain ⟨v,r1,r2⟩:=results_ok h1 k1
  have hh:=h1.heap
  refine ⟨h1.defers,v,r1,F',ι',st'.H,st'.nx,resT rs,v,rfl,⟨Nat.le_trans hH.size hh.size,fun b hb hN => ?_,hh.Flt,fun b hb => ?_,fun b hb=>hh.F0 b (hH.F0 b hb),fun n x hx => ?_,fun n b cap g1 g2 g3 => ?_,hh.inj,hh.nx,fun n y hy=>hh.nm n y (hH.nm n y hy),hH.io.trans hh.io⟩,⟨fun b hb=>hh.F0 b hb,fun _ h=>h,fun b hb=>hh.keep b (hH.Flt b hb) (hNF b hb),fun b hb=>hh.keep b (hBB b hb).1 (hBB b hb).2⟩,hh.nm,r2.sol k2,k4⟩
  ·have hB:=hBB b ⟨hb,hN⟩
   rw [hh.keep b hB.1 hB.2];exact hH.keep b hb hN
  ·rcases hh.Fof b hb with h0 | h0 | h0
   ·exact hH.Fof b h0
   ·exact .inr (hNo b h0)
   ·exact .inr (.inr (Nat.le_trans hH.size h0))
  ·obtain ⟨b,cap,p1,p2,p3,p4⟩:=hh.blk n x hx
   refine ⟨b,cap,p1,p2,p3,fun hc => ?_⟩
   obtain ⟨arr,q1,q2,q3,q4⟩:=p4 hc
   refine ⟨arr,q1,q2,q3,fun i j c hj => ?_⟩
   obtain ⟨v,s1,s2⟩:=q4 i j c hj
   have hm : ∃ e∈x.es,c∈e:=by
    unfold nth2 at hj
    cases he:x.es[i]? with
    | none=>simp [he] at hj
    | some e=>exact ⟨e,List.mem_of_getElem? he,List.mem_of_getElem? (by simpa [he] using hj)⟩
   obtain ⟨e,he,hce⟩:=hm
   exact ⟨v,s1,s2.sol (k3 n x hx e he c hce)⟩
  ·obtain ⟨s1,s2,s3⟩:=hh.own n b cap g1 g2 g3
   refine ⟨s1,s2,?_⟩
   rcases s3 with s3 | s3
   ·exact hNo b s3
   ·exact .inr (Nat.le_trans hH.size s3)
 cases e with
 | normal=>exact key (.inl rfl) h2
 | ret=>exact key (.inr rfl) h2
 | _=>exact h2.elim
def C.newC:C->Bool
 | .d (.lit _)=>true
 | .d .emp=>true
 | .own _ _ _=>true
 | .ptr _ _ _ _=>true
 | .map _=>true
 | _=>false
mutual
def D.newD:D->Prop
 | .one c=>c.newC=true
 | .agg cs => ∀ c∈cs,c.newC=true
 | .tup ds=>Ds.newD ds
 | .top=>True
def Ds.newD:List D->Prop
 | []=>True
 | d::ds=>d.newD∧Ds.newD ds
end
section
variable {E E':Env} {w w':World} {ι:Nms}
theorem RC.newC {c:C} {v:Value} (h:RC E w ι c v) (hc:c.newC=true):RC E' w' ι c v:=by
 cases c with
 | d x =>
  cases x with
  | lit u=>cases h with | lit h=>exact RD.lit h
  | emp=>cases h with | emp=>exact RD.emp
  | _=>cases hc
 | own n k l=>exact h
 | ptr n k i o=>exact h
 | map n=>exact h
 | _=>cases hc
theorem RCs.newC : ∀ {cs:List C} {vs:List Value}, RCs E w ι cs vs->(∀ c∈cs,c.newC=true)->RCs E' w' ι cs vs
 | [],[],_,_=>trivial
 | c::_,_::_,h,hs=>⟨h.1.newC (hs c (List.mem_cons_self ..)),RCs.newC h.2 fun c hc=>hs c (List.mem_cons_of_mem _ hc)⟩
mutual
theorem RV.newD : ∀ {d:D} {v:Value}, RV E w ι d v->d.newD->RV E' w' ι d v
 | .one _,_,h,hs=>by rw [RV] at h ⊢; rw [D.newD] at hs;exact RC.newC h hs
 | .agg _,_,h,hs=>by rw [RV] at h ⊢; rw [D.newD] at hs;obtain ⟨xs,h1,h2⟩:=h;exact ⟨xs,h1,RCs.newC h2 hs⟩
 | .tup _,_,h,hs=>by rw [RV] at h ⊢; rw [D.newD] at hs;obtain ⟨xs,h1,h2⟩:=h;exact ⟨xs,h1,RVs.newD h2 hs⟩
 | .top,_,_,_=>by rw [RV];trivial
theorem RVs.newD : ∀ {ds:List D} {vs:List Value}, RVs E w ι ds vs->Ds.newD ds->RVs E' w' ι ds vs
 | [],[],_,_=>by rw [RVs];trivial
 | _::_,_::_,h,hs=>by rw [RVs] at h ⊢; rw [Ds.newD] at hs;exact ⟨RV.newD h.1 hs.1,RVs.newD h.2 hs.2⟩
 | [],_::_,h,_=>by simp [RVs] at h
 | _::_,[],h,_=>by simp [RVs] at h
end
end
def Hp.mer (H:Hp) (nx:Nat) (H':Hp):Hp:=fun i=>if i<nx then H i else H' i
theorem Hp.mer_lt {H H':Hp} {nx i:Nat} (h:i<nx):Hp.mer H nx H' i=H i:=by simp [Hp.mer,h]
theorem Hp.mer_ge {H H':Hp} {nx i:Nat} (h:nx≤i):Hp.mer H nx H' i=H' i:=by simp [Hp.mer,Nat.not_lt.2 h]
def quietK (st:St) (t:Option Nat) (K:St->Prop) (d:D) (H':Hp) (nx':Nat):Prop:=(∀ i x,H' i=some x->st.nx≤i ∧ ∀ e∈x.es, ∀ c∈e,c.newC=true)∧d.newD∧K (St.putO ⟨st.n,st.tm,Hp.mer st.H st.nx H',nx'⟩ t d)
theorem ev_callQ {P:Program} {qt:Bool} {o:Oper} {st:St} {K:St->Prop} {x:Operand} {xs:Array Operand} {tys:Array TypeId} {f:FuncId} {fs cs:List Dt} {ds:List D} (ho:o.op = .call { callee := .value x,args:=xs,argTypes:=tys }) (hx:ev st x = .one (.d (.fn (.func f) fs cs)))
  (hd:lends st.H (callArgs st fs cs xs.toList)=some ds) (ht : ∀ t,o.dst=some t->t<st.n) (hC:ICall P f ds (fun _=>none) st.nx (quietK st o.dst K)):EvO P qt o st K:=by
 intro β F ι a w h next Q hnext
 have he:=h.ev x
 rw [hx,RV] at he
 obtain ⟨ys,zs,hv,l1,l2,h1,h2⟩ : ∃ ys zs,a.eval x = .func (.func f) ys zs∧ys.size=fs.length∧zs.size=cs.length∧(∀ (j:Nat) c x,fs[j]? = some c->ys[j]? = some x->RD ⟨F,β.B⟩ w c x)∧(∀ (j:Nat) c x,cs[j]? = some c->zs[j]? = some x->RD ⟨F,β.B⟩ w c x):=by
  cases hq:a.eval x with
  | func fn ys zs =>
   rw [hq] at he
   cases he with
   | fn l1 l2 h1 h2=>exact ⟨ys,zs,rfl,l1,l2,h1,h2⟩
  | _=>rw [hq] at he;cases he
 have hrun:(execOp a.eval o).run P w = .ok (.enter f (ys++xs.map a.eval++zs)) w:=by
  simp [execOp,ho,resolve,hv,Deferred.ofValue,invoke,goFn_run hC.1]
 unfold Oper.wp
 rw [hrun,Oper.upon_enter]
 have hargs:RVs ⟨F,β.B⟩ w ι (callArgs st fs cs xs.toList) (ys.toList++xs.toList.map a.eval++zs.toList) :=
  ((RVs.ofRD (by simpa using l1) fun j c x hc hx=>h1 j c x hc (by simpa using hx)).append (evs_ok h xs.toList)).append (RVs.ofRD (by simpa using l2) fun j c x hc hx=>h2 j c x hc (by simpa using hx))
 have hh:=h.heap
 have hl:=lends_ok hh hargs hd
 have hf : ∀ i,st.nx≤i->st.H i=none:=fun i hi=>by
  cases hH:st.H i with
  | none=>rfl
  | some y =>
   obtain ⟨b,cap,p1, -⟩:=hh.blk i y hH
   rw [hh.nx i hi] at p1
   cases p1
 have hg':Base.good ⟨w,fun _=>False,F,fun _=>none⟩:=⟨hh.gl h.good,hh.Flt,fun _ _ h=>h⟩
 have hH':HpOk ⟨w,fun _=>False,F,fun _=>none⟩ F w ι (fun _=>none) st.nx:=⟨Nat.le_refl _,fun _ _ _=>rfl,hh.Flt,fun _ hb => .inl hb,fun _ hb=>hb,(fun n x hx=>by cases hx),fun n b cap hn=>absurd rfl hn,fun n m b c c' hn=>absurd rfl hn,hh.nx,(fun n x hx=>by cases hx),SameIo.refl w⟩
 have hl':RVs ⟨F,Base.B ⟨w,fun _=>False,F,fun _=>none⟩⟩ w ι ds (ys.toList++xs.toList.map a.eval++zs.toList):=RVs.keep (show Env.le ⟨F,fun b=>b<w.heap.size⟩ ⟨F,Base.B ⟨w,fun _=>False,F,fun _=>none⟩⟩ w w from ⟨fun _ h=>h,fun _ hb=>⟨hb,fun h=>h⟩,fun _ _=>rfl,fun _ _=>rfl⟩) (fun n x hx=>by cases hx) hl
 have hc:=hC.2 ⟨w,fun _=>False,F,fun _=>none⟩ F ι w _ hg' hH' hl'
 rw [show (ys.toList++xs.toList.map a.eval++zs.toList).toArray=ys++xs.map a.eval++zs by apply Array.ext';simp] at hc
 refine hc.mono ?_
 rintro e w' ⟨F',ι',H',nx',d,v,rfl,e2,e3,e4,e5,e6,e7,hK⟩
 have hsz:w.heap.size≤w'.heap.size:=e2.size
 have old : ∀ b,b<w.heap.size->w'.heap[b]? = w.heap[b]? := fun b hb=>e2.keep b hb fun h=>h
 have hle:Env.le ⟨F,β.B⟩ ⟨F,β.B⟩ w w':=⟨fun _ h=>h,fun _ h=>h,fun b hb=>old b (hh.Flt b hb),fun b hb=>old b (Nat.lt_of_lt_of_le hb.1 hh.size)⟩
 have hlt : ∀ n b cap,st.H n≠none->ι n=some (b,cap)->0<cap->b<w.heap.size:=fun n b cap h1 h2 h3=>(hh.own n b cap h1 h2 h3).1
 have hN : ∀ n b cap,st.H n≠none->ι' n=some (b,cap)->ι n=some (b,cap):=fun n b cap hn hb=>by
  cases hx:st.H n with
  | none=>exact absurd hx hn
  | some x =>
   obtain ⟨b',cap',g1, -⟩:=hh.blk n x hx
   have:=e4 _ _ g1
   rw [hb] at this
   rw [this];exact g1
 have hHp:HpOk β F w' ι' (fun i=>if i<st.nx then st.H i else H' i) nx':=by
  refine ⟨Nat.le_trans hh.size hsz,fun b hb hn=>by rw [old b (Nat.lt_of_lt_of_le hb hh.size)];exact hh.keep b hb hn,fun b hb=>Nat.lt_of_lt_of_le (hh.Flt b hb) hsz,hh.Fof,hh.F0,fun n x hx => ?_,fun n b cap hn hb hc => ?_,fun n m b c c' hn hm hb1 hb2 p1 p2 => ?_,e2.nx,fun n x hx=>e4 n x (hh.nm n x hx),hh.io.trans e2.io⟩
  ·by_cases hl:n<st.nx
   ·simp only [hl,if_true] at hx
    exact (hh.blk n x hx).keep hle e4 fun b cap hb hc=>old b (hlt n b cap (by rw [hx];simp) hb hc)
   ·simp only [hl,if_false] at hx
    obtain ⟨b,cap,a1,a2,a3,a4⟩:=e2.blk n x hx
    refine ⟨b,cap,a1,a2,a3,fun hc => ?_⟩
    obtain ⟨arr,b1,b2,b3,b4⟩:=a4 hc
    refine ⟨arr,b1,b2,b3,fun i j c hj => ?_⟩
    obtain ⟨u,k1,k2⟩:=b4 i j c hj
    refine ⟨u,k1,k2.newC ?_⟩
    unfold nth2 at hj
    cases he:x.es[i]? with
    | none=>simp [he] at hj
    | some e=>exact (e6 n x hx).2 e (List.mem_of_getElem? he) c (List.mem_of_getElem? (by simpa [he] using hj))
  ·by_cases hl:n<st.nx
   ·simp only [hl,if_true] at hn
    obtain ⟨s1,s2,s3⟩:=hh.own n b cap hn (hN n b cap hn hb) hc
    exact ⟨Nat.lt_of_lt_of_le s1 hsz,s2,s3⟩
   ·simp only [hl,if_false] at hn
    obtain ⟨s1,s2,s3⟩:=e2.own n b cap hn hb hc
    exact ⟨s1,fun hF=>s2 (e3.F b hF),.inr (Nat.le_trans hh.size (s3.resolve_left fun h=>h))⟩
  ·have hnew : ∀ n b cap,H' n≠none->ι' n=some (b,cap)->0<cap->w.heap.size≤b:=fun n b cap hn hb hc=>(e2.own n b cap hn hb hc).2.2.resolve_left fun h=>h
   by_cases hl:n<st.nx <;> by_cases hl2:m<st.nx
   ·simp only [hl,hl2,if_true] at hn hm
    exact hh.inj n m b c c' hn hm (hN _ _ _ hn hb1) (hN _ _ _ hm hb2) p1 p2
   ·simp only [hl,hl2,if_true,if_false] at hn hm
    have:=hlt n b c hn (hN _ _ _ hn hb1) p1
    have:=hnew m b c' hm hb2 p2
    omega
   ·simp only [hl,hl2,if_true,if_false] at hn hm
    have:=hlt m b c' hm (hN _ _ _ hm hb2) p2
    have:=hnew n b c hn hb1 p1
    omega
   ·simp only [hl,hl2,if_false] at hn hm
    exact e2.inj n m b c c' hn hm hb1 hb2 p1 p2
 have g1:Holds β F ι' ⟨st.n,st.tm,fun i=>if i<st.nx then st.H i else H' i,nx'⟩ a w':=⟨h.good,h.defers,h.size,fun u=>(h.tm u).keep hle e4,hHp⟩
 refine hnext F ι' (St.putO ⟨st.n,st.tm,fun i=>if i<st.nx then st.H i else H' i,nx'⟩ o.dst d) v w' (Chg.call ho fun _ _=>old) ?_ hK
 cases hdst:o.dst with
 | none=>exact g1
 | some t=>exact g1.put (e5.newD e7) (ht t hdst)
inductive Shw (H:Hp) (N:Nat->Prop):C->Dt->Prop
 | d {x:Dt} (h:x.solidT=true):Shw H N (.d x) x
 | emp {S:Bool} : Shw H N (.d .emp) (.sl S [])
 | own {n k l:Nat} {x:Blk} {es:List (List Dt)} (X:Nat->Nat->C) (hn:N n) (hx:H n=some x) (hk:x.k=k) (h1:es.length=l) (h2:l≤x.es.length) (h3 : ∀ e∈es,e.length=k)
   (h4 : ∀ i j d,nth2 es i j=some d->nth2 x.es i j=some (X i j)) (h5 : ∀ i j d,nth2 es i j=some d->Shw H N (X i j) d):Shw H N (.own n k l) (.sl true es)
 | ptr {n k i o:Nat} {x:Blk} {cs:List Dt} (X:Nat->C) (hn:N n) (hx:H n=some x) (hk:x.k=k)
   (h4 : ∀ j d,cs[j]? = some d->nth2 x.es i (o+j)=some (X j)) (h5 : ∀ j d,cs[j]? = some d->Shw H N (X j) d):Shw H N (.ptr n k i o) (.at_ true cs)
def giv (F:Nat->Prop) (ι:Nms) (H:Hp) (N:Nat->Prop):Nat->Prop:=fun q=>F q ∨ ∃ n cap,N n∧H n≠none∧ι n=some (q,cap)∧0<cap
theorem giv_le {B F:Nat->Prop} {w:World} {ι:Nms} {H:Hp} {N:Nat->Prop} : Env.le ⟨F,B⟩ ⟨giv F ι H N,B⟩ w w:=⟨fun _ h => .inl h,fun _ h=>h,fun _ _=>rfl,fun _ _=>rfl⟩
theorem Shw.rd {B F:Nat->Prop} {w:World} {ι:Nms} {H:Hp} {N:Nat->Prop} (hh : ∀ n x,H n=some x->RB ⟨F,B⟩ w ι n x) {c:C} {d:Dt} (h:Shw H N c d) : ∀ {v:Value}, RC ⟨F,B⟩ w ι c v->RD ⟨giv F ι H N,noB⟩ w d v:=by
 induction h with
 | d h =>
  intro v hv
  exact RD.toSolid (RD.keep (E':=⟨giv F ι H N,B⟩) hv giv_le) h
 | emp =>
  intro v hv
  have h2:RD _ _ .emp v:=hv
  cases h2 with
  | emp=>exact RD.sl (k:=0) (fun _ _=>undef) (Nat.le_refl _) (by simp [maxLen]) (by simp) (fun _=>rfl) (fun h=>by simp at h) (fun i j c hc=>by simp [nth2] at hc)
 | @own n k l x es X hn hx hk h1 h2 h3 h4 h5 ih =>
  intro v hv
  obtain ⟨b,cap,p1,p2,p3,p4⟩:=hh n x hx
  obtain ⟨b',cap',q1,q2,q3,q4⟩:=hv
  rw [p1] at q1
  simp only [Option.some.injEq,Prod.mk.injEq] at q1
  obtain ⟨rfl,rfl⟩:=q1
  rcases q4 with ⟨h0,A,rfl⟩ | ⟨h0,rfl⟩
  ·obtain rfl:l=0:=by omega
   obtain rfl:es=[]:=List.eq_nil_of_length_eq_zero h1
   exact RD.sl (k:=0) (fun _ _=>undef) (Nat.le_refl _) (by simp [maxLen]) (by simp) (fun _=>rfl) (fun h=>by simp at h) (fun i j c hc=>by simp [nth2] at hc)
  ·obtain ⟨arr,r1,r2,r3,r4⟩:=p4 h0
   have hb:giv F ι H N b := .inr ⟨n,cap,hn,by rw [hx];simp,p1,h0⟩
   subst h1
   have hR : ∀ i j d,nth2 es i j=some d->arr[i*x.k+j]? = some (arr.getD (i*x.k+j) undef)∧RD ⟨giv F ι H N,noB⟩ w d (arr.getD (i*x.k+j) undef):=fun i j d hd=>by
    obtain ⟨v,g1,g2⟩:=r4 i j (X i j) (h4 i j d hd)
    have e2:arr.getD (i*x.k+j) undef=v:=by simp [Array.getD_eq_getD_getElem?, g1]
    rw [e2]
    exact ⟨g1,ih i j d hd g2⟩
   refine RD.sl (k:=x.k) (fun i j=>arr.getD (i*x.k+j) undef) q2 q3 (fun e he=>by rw [hk];exact h3 e he) (fun h=>by cases h) (fun _=>⟨b,0,rfl,.inl hb,fun i j d hd => ?_⟩) (fun i j d hd=>(hR i j d hd).2)
   simp only [Nat.zero_add]
   exact r1.cell (hR i j d hd).1
 | @ptr n k i o x cs X hn hx hk h4 h5 ih =>
  intro v hv
  obtain ⟨b,cap,p1,p2,p3,p4⟩:=hh n x hx
  obtain ⟨b',cap',q1,q2,rfl⟩:=hv
  rw [p1] at q1
  simp only [Option.some.injEq,Prod.mk.injEq] at q1
  obtain ⟨rfl,rfl⟩:=q1
  obtain ⟨arr,r1,r2,r3,r4⟩:=p4 q2
  have hb:giv F ι H N b := .inr ⟨n,cap,hn,by rw [hx];simp,p1,q2⟩
  subst hk
  have hR : ∀ j d,cs[j]? = some d->arr[i*x.k+o+j]? = some (arr.getD (i*x.k+o+j) undef)∧RD ⟨giv F ι H N,noB⟩ w d (arr.getD (i*x.k+o+j) undef):=fun j d hd=>by
   obtain ⟨v,g1,g2⟩:=r4 i (o+j) (X j) (h4 j d hd)
   rw [← Nat.add_assoc] at g1
   have e2:arr.getD (i*x.k+o+j) undef=v:=by simp [Array.getD_eq_getD_getElem?, g1]
   rw [e2]
   exact ⟨g1,ih j d hd g2⟩
  exact RD.at_ (fun j=>arr.getD (i*x.k+o+j) undef) (.inl hb) (fun j d hd=>r1.cell (hR j d hd).1) (fun j d hd=>(hR j d hd).2)
def CsShw (H:Hp) (N:Nat->Prop):List C->List C->Prop
 | [],[]=>True
 | c::cs,e::es=>(∃ x,e = .d x∧Shw H N c x)∧CsShw H N cs es
 | _,_=>False
mutual
def DShw (H:Hp) (N:Nat->Prop):D->D->Prop
 | .one c,.one c' => ∃ x,c' = .d x∧Shw H N c x
 | .agg cs,.agg cs'=>CsShw H N cs cs'
 | .tup ds,.tup ds'=>DsShw H N ds ds'
 | .top,.top=>True
 | _,_=>False
def DsShw (H:Hp) (N:Nat->Prop):List D->List D->Prop
 | [],[]=>True
 | d::ds,e::es=>DShw H N d e∧DsShw H N ds es
 | _,_=>False
end
section
variable {B F:Nat->Prop} {w:World} {ι ι':Nms} {H:Hp} {N:Nat->Prop}
theorem CsShw.rc (hh : ∀ n x,H n=some x->RB ⟨F,B⟩ w ι n x) : ∀ {cs cs':List C}, CsShw H N cs cs' -> ∀ {vs:List Value}, RCs ⟨F,B⟩ w ι cs vs->RCs ⟨giv F ι H N,noB⟩ w ι' cs' vs
 | [],[],_,[],_=>trivial
 | _::_,_::_,h,_::_,hv=>⟨by obtain ⟨x,rfl,hx⟩:=h.1;exact hx.rd hh hv.1,CsShw.rc hh h.2 hv.2⟩
 | [],[],_,_::_,hv=>hv.elim
 | _::_,_::_,_,[],hv=>hv.elim
mutual
theorem DShw.rv (hh : ∀ n x,H n=some x->RB ⟨F,B⟩ w ι n x) : ∀ {d d':D}, DShw H N d d' -> ∀ {v:Value}, RV ⟨F,B⟩ w ι d v->RV ⟨giv F ι H N,noB⟩ w ι' d' v
 | .one c,.one c',h,v,hv=>by
  rw [DShw] at h
  obtain ⟨x,rfl,hx⟩:=h
  rw [RV] at hv ⊢
  exact hx.rd hh hv
 | .agg cs,.agg cs',h,v,hv=>by
  rw [DShw] at h
  rw [RV] at hv ⊢
  obtain ⟨xs,e1,e2⟩:=hv
  exact ⟨xs,e1,CsShw.rc hh h e2⟩
 | .tup ds,.tup ds',h,v,hv=>by
  rw [DShw] at h
  rw [RV] at hv ⊢
  obtain ⟨xs,e1,e2⟩:=hv
  exact ⟨xs,e1,DsShw.rvs hh h e2⟩
 | .top,.top,_,_,_=>by rw [RV];trivial
 | .one _,.agg _,h,_,_=>by simp [DShw] at h
 | .one _,.tup _,h,_,_=>by simp [DShw] at h
 | .one _,.top,h,_,_=>by simp [DShw] at h
 | .agg _,.one _,h,_,_=>by simp [DShw] at h
 | .agg _,.tup _,h,_,_=>by simp [DShw] at h
 | .agg _,.top,h,_,_=>by simp [DShw] at h
 | .tup _,.one _,h,_,_=>by simp [DShw] at h
 | .tup _,.agg _,h,_,_=>by simp [DShw] at h
 | .tup _,.top,h,_,_=>by simp [DShw] at h
 | .top,.one _,h,_,_=>by simp [DShw] at h
 | .top,.agg _,h,_,_=>by simp [DShw] at h
 | .top,.tup _,h,_,_=>by simp [DShw] at h
theorem DsShw.rvs (hh : ∀ n x,H n=some x->RB ⟨F,B⟩ w ι n x) : ∀ {ds ds':List D}, DsShw H N ds ds' -> ∀ {vs:List Value}, RVs ⟨F,B⟩ w ι ds vs->RVs ⟨giv F ι H N,noB⟩ w ι' ds' vs
 | [],[],_,[],_=>by rw [RVs];trivial
 | d::ds,e::es,h,v::vs,hv=>by
  rw [DsShw] at h
  rw [RVs] at hv ⊢
  exact ⟨DShw.rv hh h.1 hv.1,DsShw.rvs hh h.2 hv.2⟩
 | [],[],_,_::_,hv=>by simp [RVs] at hv
 | _::_,_::_,_,[],hv=>by simp [RVs] at hv
 | [],_::_,h,_,_=>by simp [DsShw] at h
 | _::_,[],h,_,_=>by simp [DsShw] at h
end
end
def C.litC:C->Bool
 | .d (.lit _)=>true
 | .d .emp=>true
 | _=>false
mutual
def D.litD:D->Prop
 | .one c=>c.litC=true
 | .agg cs => ∀ c∈cs,c.litC=true
 | .tup ds=>Ds.litD ds
 | .top=>False
def Ds.litD:List D->Prop
 | []=>True
 | d::ds=>d.litD∧Ds.litD ds
end
theorem RC.litC {E E':Env} {w w':World} {ι ι':Nms} {c:C} {v:Value} (h:RC E w ι c v) (hc:c.litC=true):RC E' w' ι' c v:=by
 cases c with
 | d x =>
  cases x with
  | lit u=>cases h with | lit h=>exact RD.lit h
  | emp=>cases h with | emp=>exact RD.emp
  | _=>cases hc
 | _=>cases hc
theorem RCs.litC {E E':Env} {w w':World} {ι ι':Nms} : ∀ {cs:List C} {vs:List Value}, RCs E w ι cs vs->(∀ c∈cs,c.litC=true)->RCs E' w' ι' cs vs
 | [],[],_,_=>trivial
 | c::_,_::_,h,hs=>⟨h.1.litC (hs c (List.mem_cons_self ..)),RCs.litC h.2 fun c hc=>hs c (List.mem_cons_of_mem _ hc)⟩
mutual
theorem RV.litD {E E':Env} {w w':World} {ι ι':Nms} : ∀ {d:D} {v:Value}, RV E w ι d v->d.litD->RV E' w' ι' d v
 | .one _,_,h,hs=>by rw [RV] at h ⊢; rw [D.litD] at hs;exact RC.litC h hs
 | .agg _,_,h,hs=>by rw [RV] at h ⊢; rw [D.litD] at hs;obtain ⟨xs,h1,h2⟩:=h;exact ⟨xs,h1,RCs.litC h2 hs⟩
 | .tup _,_,h,hs=>by rw [RV] at h ⊢; rw [D.litD] at hs;obtain ⟨xs,h1,h2⟩:=h;exact ⟨xs,h1,RVs.litD h2 hs⟩
 | .top,_,_,hs=>by rw [D.litD] at hs;exact hs.elim
theorem RVs.litD {E E':Env} {w w':World} {ι ι':Nms} : ∀ {ds:List D} {vs:List Value}, RVs E w ι ds vs->Ds.litD ds->RVs E' w' ι' ds vs
 | [],[],_,_=>by rw [RVs];trivial
 | _::_,_::_,h,hs=>by rw [RVs] at h ⊢; rw [Ds.litD] at hs;exact ⟨RV.litD h.1 hs.1,RVs.litD h.2 hs.2⟩
 | [],_::_,h,_=>by simp [RVs] at h
 | _::_,[],h,_=>by simp [RVs] at h
end
def lendK (st:St) (t:Option Nat) (K:St->Prop) (d:D):Prop:=d.litD∧K (St.putO st t d)
theorem ev_callD {P:Program} {qt:Bool} {o:Oper} {st:St} {K:St->Prop} {x:Operand} {xs:Array Operand} {tys:Array TypeId} {f:FuncId} {fs cs:List Dt} {es:List D} (ho:o.op = .call { callee := .value x,args:=xs,argTypes:=tys }) (hx:ev st x = .one (.d (.fn (.func f) fs cs)))
  (hd:DsShw st.H (fun _=>True) (callArgs st fs cs xs.toList) es) (ht : ∀ t,o.dst=some t->t<st.n) (hC:DPure P f es fun d _=>lendK st o.dst K d):EvO P qt o st K:=by
 intro β F ι a w h next Q hnext
 have he:=h.ev x
 rw [hx,RV] at he
 obtain ⟨ys,zs,hv,l1,l2,h1,h2⟩ : ∃ ys zs,a.eval x = .func (.func f) ys zs∧ys.size=fs.length∧zs.size=cs.length∧(∀ (j:Nat) c x,fs[j]? = some c->ys[j]? = some x->RD ⟨F,β.B⟩ w c x)∧(∀ (j:Nat) c x,cs[j]? = some c->zs[j]? = some x->RD ⟨F,β.B⟩ w c x):=by
  cases hq:a.eval x with
  | func fn ys zs =>
   rw [hq] at he
   cases he with
   | fn l1 l2 h1 h2=>exact ⟨ys,zs,rfl,l1,l2,h1,h2⟩
  | _=>rw [hq] at he;cases he
 have hrun:(execOp a.eval o).run P w = .ok (.enter f (ys++xs.map a.eval++zs)) w:=by
  simp [execOp,ho,resolve,hv,Deferred.ofValue,invoke,goFn_run hC.1]
 unfold Oper.wp
 rw [hrun,Oper.upon_enter]
 have hargs:RVs ⟨F,β.B⟩ w ι (callArgs st fs cs xs.toList) (ys.toList++xs.toList.map a.eval++zs.toList) :=
  ((RVs.ofRD (by simpa using l1) fun j c x hc hx=>h1 j c x hc (by simpa using hx)).append (evs_ok h xs.toList)).append (RVs.ofRD (by simpa using l2) fun j c x hc hx=>h2 j c x hc (by simpa using hx))
 have hH:=h.heap
 have hF1 : ∀ b,giv F ι st.H (fun _=>True) b->b<w.heap.size:=fun b hb=>by
  rcases hb with hb | ⟨n,cap, -, g1,g2,g3⟩
  ·exact hH.Flt b hb
  ·exact (hH.own n b cap g1 g2 g3).1
 have hgl:GlOk (giv F ι st.H (fun _=>True)) w:=fun g arr hm=>by
  obtain ⟨a1,a2⟩:=hH.gl h.good g arr hm
  exact ⟨.inl a1,a2⟩
 have hr:RVs ⟨giv F ι st.H (fun _=>True),fun b=>b<w.heap.size⟩ w (fun _=>none) es (ys.toList++xs.toList.map a.eval++zs.toList):=RVs.keep (show Env.le ⟨_,noB⟩ ⟨_,fun b=>b<w.heap.size⟩ w w from ⟨fun _ h=>h,fun _ h=>h.elim,fun _ _=>rfl,fun _ _=>rfl⟩) (fun n x hx=>hx) (DsShw.rvs (ι':=fun _=>none) hH.blk hd hargs)
 have hc:=hC.2 (giv F ι st.H (fun _=>True)) w _ hF1 hgl hr
 rw [show (ys.toList++xs.toList.map a.eval++zs.toList).toArray=ys++xs.map a.eval++zs by apply Array.ext';simp] at hc
 refine hc.mono ?_
 rintro e w' ⟨F',ι',d,fr,v,rfl,hout,hl,hK⟩
 have ho2:Out F w w' F (fun _=>none) d [] v:=⟨hout.size,hout.old,fun b hb=>hb,fun b hb=>⟨.inl hb,Nat.lt_of_lt_of_le (hH.Flt b hb) hout.size⟩,fun i x hx=>by simp at hx,fun i b cap hi=>by simp at hi,fun i j b c c' hi=>by simp at hi,fun _ _=>rfl,hout.val.litD hl,hout.io⟩
 obtain ⟨ι2,g1, -, -⟩:=h.out ho2
 have g2:Holds β F ι2 st a w':=g1
 refine hnext F ι2 (St.putO st o.dst d) v w' (Chg.call ho fun _ _=>hout.old) ?_ hK
 cases hdst:o.dst with
 | none=>exact g2
 | some t=>exact g2.put (hout.val.litD hl) (ht t hdst)
def putK (st:St) (o:Oper) (s':St) (d:D) (K:St->Prop):Prop:=match o.dst with
 | some t=>t<st.n∧K (s'.put t d)
 | none=>False
def callK (st:St) (t:Option Nat) (K:St->Prop) (d:D) (fr:List Blk):Prop:=K ((st.adds fr).putO t (d.ren (· + st.nx)))
def onlyK (ks:List Nat) (K:Exit->St->Prop) (st:St):Prop:=K .normal (st.only ks)
def freeO:Op->Bool
 | .load .. => false
 | .lookup .. => false
 | _=>true
def vcLen (P:Program) (st:St) (x:Operand) (ty:TypeId) (K:D->Prop):Prop:=match litOf (ev st x) with
 | some (.string s)=>isStr P ty=true∧K (.one (.d (.lit (.int .i64 s.size))))
 | _=>match elOf P ty,lenOf? (ev st x) with
  | some _,some n=>n≤9223372036854775807->K (.one (.d (.lit (.int .i64 n))))
  | _,_=>False
def mutFn (f:Fn):Bool:=match f with
 | .func f =>
  f == 146 ||
  f == 148 ||
  f == 244 ||
  f == 28 ||
  f == 31 ||
  f == 56 ||
  f == 57 ||
  f == 60 ||
  f == 107 ||
  false
 | _=>false
def vcS (P:Program) (st:St) (o:Op) (K:D->Prop):Prop:=match o with
 | .move x=>K (ev st x)
 | .assign x=>K (ev st x)
 | .pick c x y=>match ev st c with
  | .one (.d (.lit (.bool b)))=>K (if b then ev st x else ev st y)
  | _=>False
 | .load ty x=>match rowT P ty,rd st x with
  | some false,some cs=>match cs.head? with
   | some c=>K (.one c)
   | none=>False
  | some true,some cs=>match szOf P ty with
   | some k=>k≤cs.length∧K (.agg (cs.take k))
   | none=>False
  | _,_=>False
 | .nilCheck x=>match ev st x,rd st x with
  | .one c,some _=>K (.one c)
  | _,_=>False
 | .fieldAddr s x f=>match ev st x,fldOf P s f with
  | .one c,some (off,k)=>match fieldA c off with
   | some c'=>0<k∧K (.one c')
   | none=>False
  | _,_=>False
 | .indexAddr ty x y=>match ev st x,intOf? (ev st y) with
  | .one c,some n=>match elOf P ty with
   | some (_,z)=>0≤n∧match idxA c n.toNat z with
    | some c'=>K (.one c')
    | none=>False
   | none=>match arrOf P ty with
    | some (m,_,k,_)=>0≤n∧n<m∧match fieldA c (n.toNat*k) with
     | some c'=>K (.one c')
     | none=>False
    | none=>False
  | _,_=>False
 | .binOp op ty x y _=>match litOf (ev st y),nilOf (ev st x) with
  | some (.pointer none),some e=>(op = .eql∨op = .neq)∧ptrT P ty=true∧K (.one (.d (.lit (.bool (if op = .eql then e else !e)))))
  | _,_=>match litOf (ev st x),litOf (ev st y) with
   | some (.bool p),some (.bool q)=>(op = .eql∨op = .neq)∧boolT P ty=true∧K (.one (.d (.lit (.bool (if op = .eql then p == q else p != q)))))
   | some u,some v=>match sc op u v with
    | some r=>K (.one (.d (.lit r)))
    | none=>False
   | _,_=>match (aggOf (ev st x)).bind intsOf,(aggOf (ev st y)).bind intsOf with
    | some l,some m=>(op = .eql∨op = .neq)∧EqI P ty l.length∧l.length=m.length∧K (.one (.d (.lit (.bool (if op = .eql then decide (l=m) else !decide (l=m))))))
    | _,_=>False
 | .unOp .not _ x=>match litOf (ev st x) with
  | some (.bool b)=>K (.one (.d (.lit (.bool (!b)))))
  | _=>False
 | .unOp .neg _ x=>match litOf (ev st x) with
  | some (.int k n)=>K (.one (.d (.lit (.int k (k.wrap (0-n))))))
  | some (.float k n)=>K (.one (.d (.lit (.float k (Op.negFloat k n)))))
  | _=>False
 | .lookup ty x y false=>match mapOf st (ev st x),mapT P ty,keyD (ev st y) with
  | some (_,kt,f,_),some kt',some u=>P=Tryz.prog∧kt'=kt∧Go.Maps.Keyed Tryz.prog kt∧KeyIn kt u∧K (.one (.d (.lit (.int .i64 (f u)))))
  | _,_,_=>False
 | .convert s d x=>match litOf (ev st x),intT P s,intT P d with
  | some (.int k n),some k1,some k2=>k=k1∧K (.one (.d (.lit (.int k2 (k2.wrap n)))))
  | some (.int k n),some k1,none=>k=k1∧fltT P d=true∧K (.one (.d (.lit (.float .f64 (FloatKind.f64.nearest n)))))
  | some (.float .f64 b),none,some k2=>match (FloatKind.f64.decode b).toInt .zero with
   | some n=>fltT P s=true∧k2.min≤n∧n≤k2.max∧K (.one (.d (.lit (.int k2 n))))
   | none=>False
  | _,_,_=>False
 | .extract x i=>match ev st x with
  | .tup ds=>match ds[i]? with
   | some d=>K d
   | none=>False
  | _=>False
 | .slice ty x lo hi none=>match litOf (ev st x) with
  | some (.string s)=>match optInt st lo 0,optInt st hi s.size with
   | some i,some j=>isStr P ty=true∧0≤i∧i≤j∧j≤s.size∧K (.one (.d (.lit (.string (s.extract i.toNat j.toNat)))))
   | _,_=>False
  | _=>match ev st x,elOf P ty with
   | .one c,some (_,z)=>match lenOf? (.one c) with
    | some l=>match optInt st lo 0,optInt st hi l with
     | some i,some j=>0≤i∧i≤j∧j≤l∧(∀ S es,c = .d (.sl S es) -> ∀ e∈es,e.length=z)∧match subC c i.toNat j.toNat with
      | some c'=>K (.one c')
      | none=>False
     | _,_=>False
    | none=>False
   | _,_=>False
 | .field s x f=>match ev st x,ftyOf P s f with
  | .agg cs,some (off,k,row)=>match partD cs off k row with
   | some d=>K d
   | none=>False
  | _,_=>False
 | .index ty x y=>match intOf? (ev st y) with
  | some i=>match ev st x with
   | .agg cs=>match arrOf P ty with
    | some (n,_,k,b)=>0≤i∧i<n∧match partD cs (i.toNat*k) k b with
     | some d=>K d
     | none=>False
    | none=>False
   | .one (.d (.lit (.string s)))=>isStr P ty=true∧0≤i∧match s.data.toList[i.toNat]? with
    | some c=>K (.one (.d (.lit (.int .u8 c.toNat))))
    | none=>False
   | _=>False
  | none=>False
 | .build ty parts=>match zeroOf P ty with
  | some zs=>zs.all Value.oneCell'=true∧match fldsOf P ty,arrOf P ty with
   | some pl,_=>match layC (fun i=>pl[i]?) st parts.toList (zs.map fun v => .d (cellOf v)) with
    | some r=>K (.agg r)
    | none=>False
   | none,some (_,_,k,_)=>match layC (fun i=>some (i*k,k)) st parts.toList (zs.map fun v => .d (cellOf v)) with
    | some r=>K (.agg r)
    | none=>False
   | _,_=>False
  | none=>False
 | .call c=>match c.callee with
  | .builtin .len=>match c.args.toList,c.argTypes.toList with
   | [x],[ty]=>vcLen P st x ty K
   | _,_=>False
  | .builtin .min=>match c.args.toList with
   | [x,y]=>match litOf (ev st x),litOf (ev st y) with
    | some (.int k p),some (.int _ q)=>K (.one (.d (.lit (.int k (if q<p then q else p)))))
    | _,_=>False
   | _=>False
  | .builtin .max=>match c.args.toList with
   | [x,y]=>match litOf (ev st x),litOf (ev st y) with
    | some (.int k p),some (.int _ q)=>K (.one (.d (.lit (.int k (if p<q then q else p)))))
    | _,_=>False
   | _=>False
  | _=>False
 | .makeFunc fn xs ys=>match mutFn fn with
  | true=>match capsOf st ys.toList with
   | some cs=>xs.toList=[]∧K (.one (.fnp fn cs))
   | none=>False
  | false=>match dsOf st xs.toList,dsOf st ys.toList with
   | some fs,some cs=>K (.one (.d (.fn fn fs cs)))
   | _,_=>False
 | .makeInterface t x=>match ev st x,elOf P t with
  | .one (.own n k l),some _=>K (.one (.ifo t n k l))
  | _,_=>False
 | _=>False
def Reading (P:Program) (o:Oper) (st:St) (K:D->Prop):Prop:=(∃ d,K d∧EvS P o st d (freeO o.op)) ∨ ∀ β F ι a w, ¬ Holds β F ι st a w
theorem Reading.mk {P:Program} {o:Oper} {st:St} {K:D->Prop} {d:D} {fr:Bool} (hK:K d) (h:EvS P o st d fr) (hf:freeO o.op=fr):Reading P o st K := .inl ⟨d,hK,by rw [hf];exact h⟩
theorem vcS_ok {P:Program} {st:St} {o:Oper} {K:D->Prop} (h:vcS P st o.op K):Reading P o st K:=by
 unfold vcS at h
 split at h
 ·rename_i ho;exact .mk h (ev_move (.inl ho)) (by rw [ho];rfl)
 ·rename_i ho;exact .mk h (ev_move (.inr ho)) (by rw [ho];rfl)
 ·rename_i ho
  split at h
  ·rename_i hc;exact .mk h (ev_pick ho hc) (by rw [ho];rfl)
  ·exact h.elim
 ·rename_i ho
  split at h
  ·rename_i cs h0 hr
   cases cs with
   | nil=>exact h.elim
   | cons c cs=>exact .mk h (ev_load_one ho hr h0) (by rw [ho];rfl)
  ·rename_i h0 hr
   split at h
   ·rename_i hk;exact .mk h.2 (ev_load_agg ho hr h0 hk h.1) (by rw [ho];rfl)
   ·exact h.elim
  ·exact h.elim
 ·rename_i ho
  split at h
  ·rename_i hx hr;exact .mk h (ev_nilCheck ho hx ⟨_,hr⟩) (by rw [ho];rfl)
  ·exact h.elim
 ·rename_i ho
  split at h
  ·rename_i hx hf
   split at h
   ·rename_i hc;exact .mk h.2 (ev_fieldAddr ho hx hf h.1 hc) (by rw [ho];rfl)
   ·exact h.elim
  ·exact h.elim
 ·rename_i ho
  split at h
  ·rename_i hx hy
   split at h
   ·rename_i he
    obtain ⟨h0,h⟩:=h
    split at h
    ·rename_i hc;exact .mk h (ev_indexAddr ho hx hy h0 he hc) (by rw [ho];rfl)
    ·exact h.elim
   ·split at h
    ·rename_i ha
     obtain ⟨h0,h1,h⟩:=h
     split at h
     ·rename_i hc;exact .mk h (ev_indexArr ho hx hy ha h0 h1 hc) (by rw [ho];rfl)
     ·exact h.elim
    ·exact h.elim
  ·exact h.elim
 ·rename_i ho
  split at h
  ·rename_i hy hx
   exact .mk h.2.2 (ev_ptrNil ho h.1 h.2.1 hx hy) (by rw [ho];rfl)
  split at h
  ·rename_i hx hy
   exact .mk h.2.2 (ev_eqB ho h.1 h.2.1 hx hy) (by rw [ho];rfl)
  ·rename_i hx hy
   split at h
   ·rename_i hr;exact .mk h (ev_binOp ho hx hy hr) (by rw [ho];rfl)
   ·exact h.elim
  ·split at h
   ·rename_i hx hy
    obtain ⟨hop,hE,hlm,h⟩:=h
    obtain ⟨cs,g1,g2⟩:=Option.bind_eq_some_iff.1 hx
    obtain ⟨ds,g3,g4⟩:=Option.bind_eq_some_iff.1 hy
    exact .mk h (ev_eqI ho hop hE g1 g3 g2 g4 rfl hlm.symm) (by rw [ho];rfl)
   ·exact h.elim
 ·rename_i ho
  split at h
  ·rename_i hx;exact .mk h (ev_not ho hx) (by rw [ho];rfl)
  ·exact h.elim
 ·rename_i ho
  split at h
  ·rename_i hx;exact .mk h (ev_neg ho hx) (by rw [ho];rfl)
  ·rename_i hx;exact .mk h (ev_negF ho hx) (by rw [ho];rfl)
  ·exact h.elim
 ·rename_i ho
  split at h
  ·rename_i hx ht hy
   obtain ⟨rfl,rfl,hk,hi,h⟩:=h
   exact .mk h (ev_lookup ho hx ht hy hk hi) (by rw [ho];rfl)
  ·exact h.elim
 ·rename_i ho
  split at h
  ·rename_i hx hs hd;obtain ⟨rfl,h⟩:=h;exact .mk h (ev_conv ho hx hs hd) (by rw [ho];rfl)
  ·rename_i hx hs hd;obtain ⟨rfl,h1,h⟩:=h;exact .mk h (ev_i2f ho hx hs h1) (by rw [ho];rfl)
  ·rename_i hx hs hd
   split at h
   ·rename_i hn;exact .mk h.2.2.2 (ev_f2i ho hx h.1 hd hn h.2.1 h.2.2.1) (by rw [ho];rfl)
   ·exact h.elim
  ·exact h.elim
 ·rename_i ho
  split at h
  ·rename_i hx
   split at h
   ·rename_i hd;exact .mk h (ev_extract ho hx hd) (by rw [ho];rfl)
   ·exact h.elim
  ·exact h.elim
 ·rename_i ho
  split at h
  ·rename_i hx
   split at h
   ·rename_i hlo hhi
    obtain ⟨a1,a2,a3,a4,h⟩:=h
    exact .mk h (ev_sliceStr ho hx a1 hlo hhi a2 a3 a4) (by rw [ho];rfl)
   ·exact h.elim
  split at h
  ·rename_i hx he
   split at h
   ·rename_i hl
    split at h
    ·rename_i hlo hhi
     obtain ⟨a1,a2,a3,a4,h⟩:=h
     split at h
     ·rename_i hs;exact .mk h (ev_slice ho hx he hl hlo hhi a1 a2 a3 a4 hs) (by rw [ho];rfl)
     ·exact h.elim
    ·exact h.elim
   ·exact h.elim
  ·exact h.elim
 ·rename_i ho
  split at h
  ·rename_i hx hf
   split at h
   ·rename_i hd;exact .mk h (ev_field ho hx hf hd) (by rw [ho];rfl)
   ·exact h.elim
  ·exact h.elim
 ·rename_i ho
  split at h
  ·rename_i hy
   split at h
   ·rename_i hx
    split at h
    ·rename_i ha
     obtain ⟨a1,a2,h⟩:=h
     split at h
     ·rename_i hd;exact .mk h (ev_index ho hx hy ha a1 a2 hd) (by rw [ho];rfl)
     ·exact h.elim
    ·exact h.elim
   ·rename_i hx
    obtain ⟨a1,a2,h⟩:=h
    split at h
    ·rename_i hc;exact .mk h (ev_indexS ho (by rw [hx];rfl) hy a1 a2 hc) (by rw [ho];rfl)
    ·exact h.elim
   ·exact h.elim
  ·exact h.elim
 ·rename_i ho
  split at h
  ·rename_i hz
   obtain ⟨a1,h⟩:=h
   split at h
   ·rename_i hf
    split at h
    ·rename_i hl;exact .mk h (ev_build ho hf hz a1 hl) (by rw [ho];rfl)
    ·exact h.elim
   ·rename_i hf ha
    split at h
    ·rename_i hl;exact .mk h (ev_buildA ho ha hz a1 hl) (by rw [ho];rfl)
    ·exact h.elim
   ·exact h.elim
  ·exact h.elim
 ·rename_i c ho
  obtain ⟨ce,args,tys⟩:=c
  simp only at h
  split at h
  ·split at h
   ·rename_i x ty hxs hts
    obtain rfl:args = #[x]:=by apply Array.ext';simpa using hxs
    obtain rfl:tys = #[ty]:=by apply Array.ext';simpa using hts
    unfold vcLen at h
    split at h
    ·rename_i hx;exact .mk h.2 (ev_lenS ho h.1 hx) (by rw [ho];rfl)
    ·split at h
     ·rename_i nn he hx
      by_cases hb:nn≤9223372036854775807
      ·exact .mk (h hb) (ev_len ho he hx) (by rw [ho];rfl)
      ·exact .inr fun β F ι a w hh=>absurd (lenOf_ok (hh.ev x) hx).choose_spec.choose_spec.2 hb
     ·exact h.elim
   ·exact h.elim
  ·split at h
   ·rename_i x y hxs
    obtain rfl:args = #[x,y]:=by apply Array.ext';simpa using hxs
    split at h
    ·rename_i hx hy;exact .mk h (ev_min ho hx hy) (by rw [ho];rfl)
    ·exact h.elim
   ·exact h.elim
  ·split at h
   ·rename_i x y hxs
    obtain rfl:args = #[x,y]:=by apply Array.ext';simpa using hxs
    split at h
    ·rename_i hx hy;exact .mk h (ev_max ho hx hy) (by rw [ho];rfl)
    ·exact h.elim
   ·exact h.elim
  ·exact h.elim
 ·rename_i ho
  split at h
  ·split at h
   ·rename_i hy;exact .mk h.2 (evS_makeFuncP ho h.1 hy) (by rw [ho];rfl)
   ·exact h.elim
  ·split at h
   ·rename_i hx hy;exact .mk h (ev_makeFunc ho hx hy) (by rw [ho];rfl)
   ·exact h.elim
 ·rename_i ho
  split at h
  ·rename_i hx he;exact .mk h (ev_mkI ho hx he) (by rw [ho];rfl)
  ·exact h.elim
 ·exact h.elim
theorem Reading.toO {P:Program} {qt:Bool} {o:Oper} {st:St} {K:St->Prop} {s0:St} (hs:s0.n=st.n) (h:Reading P o st fun d=>putK s0 o st d K):EvO P qt o st K:=by
 rcases h with ⟨d,hK,he⟩ | h
 ·unfold putK at hK
  split at hK
  ·rename_i t ht;exact he.toO ht (by rw [← hs];exact hK.1) hK.2
  ·exact hK.elim
 ·exact fun β F ι a w hh=>(h β F ι a w hh).elim
def putD (st:St) (o:Oper) (K:St->Prop) (d:D):Prop:=putK st o st d K
def vcApp (P:Program) (st:St) (o:Oper) (x y:Operand) (ty tx:TypeId) (K:St->Prop):Prop:=match elOf P ty,elOf P tx,baseOf st (ev st x),srcOf st (ev st y) with
 | some (e,k),some _,some (n,es),some ns=>match byOf P e,zeroOf P e with
  | some bt,some zs=>0<k∧bt≤1024∧zs.length=k∧zs.all Value.oneCell'=true∧(∀ m b,n=some m->st.H m=some b->b.t = .c e∧b.k=k)∧(∀ d∈ns,d.length=k)∧(es.length+ns.length≤100000000000∨(es.length+ns.length≤20000000000000∧(es.length+ns.length)*bt≤200000000000000)) ∧
   putK st o (st.row n ⟨.c e,k,es++ns⟩) (.one (.own st.nx k (es.length+ns.length))) K
  | _,_=>False
 | _,_,_,_=>False
def vcExt (P:Program) (st:St) (o:Oper) (f:FuncId) (fs cs:List Dt) (xs:List Operand) (K:St->Prop) (L:Prop):Prop:=match ext st f xs with
 | some r=>P=Tryz.prog∧fs=[]∧cs=[]∧putK st o st (.one (.d (.lit r))) K
 | none=>L
def vcC0 (P:Program) (st:St) (o:Oper) (x:Operand) (xs:List Operand) (K:St->Prop):Prop:=match ev st x with
 | .one (.d (.fn (.func f) fs cs))=>match lends st.H (callArgs st fs cs xs) with
  | some ds=>(∀ t,o.dst=some t->t<st.n)∧DPure P f ds (callK st o.dst K)
  | none=>False
 | _=>False
def extP (f:FuncId):Bool :=
 f == 166 ||
 false
def frzFn (f:FuncId):Bool :=
 f == 90 ||
 f == 44 ||
 f == 16 ||
 false
def vcFz (P:Program) (st:St) (o:Oper) (x:Operand) (xs:List Operand) (K:St->Prop):Prop := ∃ st',st'.n=st.n∧Wk st st'∧vcC0 P st' o x xs K
def vcC (P:Program) (st:St) (o:Oper) (x:Operand) (xs:List Operand) (K:St->Prop):Prop:=match ev st x with
 | .one (.d (.fn (.func f) fs cs))=>vcExt P st o f fs cs xs K <| if frzFn f=true then vcFz P st o x xs K else match lends st.H (callArgs st fs cs xs) with
  | some ds=>(∀ t,o.dst=some t->t<st.n)∧DPure P f ds (callK st o.dst K)
  | none=>vcFz P st o x xs K
 | _=>False
def wrFn (f:FuncId):Bool :=
 f == 217 ||
 f == 190 ||
 f == 106 ||
 f == 160 ||
 f == 212 ||
 f == 213 ||
 f == 236 ||
 f == 247 ||
 f == 24 ||
 f == 69 ||
 f == 58 ||
 f == 17 ||
 f == 32 ||
 f == 34 ||
 f == 109 ||
 false
def hasPtr:D->Bool
 | .one (.fnp _ _)=>true
 | .one (.ptr _ _ _ _)=>true
 | .agg cs=>cs.any fun c=>match c with
  | .ptr _ _ _ _=>true
  | .fnp _ _=>true
  | _=>false
 | _=>false
def frzI (f:FuncId):Bool :=
 f == 94 ||
 false
def vcCI0 (P:Program) (st:St) (o:Oper) (x:Operand) (xs:List Operand) (K:St->Prop):Prop:=match ev st x with
 | .one (.d (.fn (.func f) fs cs))=>(∀ t,o.dst=some t->t<st.n)∧ICall P f (callArgs st fs cs xs) st.H st.nx (callKI st o.dst K)
 | _=>False
def vcFzI (P:Program) (st:St) (o:Oper) (x:Operand) (xs:List Operand) (K:St->Prop):Prop := ∃ st',st'.n=st.n∧Wk st st'∧vcCI0 P st' o x xs K
def vcCI (P:Program) (st:St) (o:Oper) (x:Operand) (xs:List Operand) (K:St->Prop):Prop:=match ev st x with
 | .one (.d (.fn (.func f) fs cs))=>match wrFn f||xs.any fun x=>hasPtr (ev st x) with
  | true=>match frzI f with
   | true=>vcFzI P st o x xs K
   | false=>(∀ t,o.dst=some t->t<st.n)∧ICall P f (callArgs st fs cs xs) st.H st.nx (callKI st o.dst K)
  | false=>vcC P st o x xs K
 | .one (.fnp (.func f) cs)=>(∀ t,o.dst=some t->t<st.n)∧match extP f with
  | true=>XCall P f (xs.map (ev st)++cs.map Cap.D) st.H st.nx (callKI st o.dst K)
  | false=>ICall P f (xs.map (ev st)++cs.map Cap.D) st.H st.nx (callKI st o.dst K)
 | _=>False
def lndFn (f:FuncId):Bool :=
 f == 46 ||
 f == 74 ||
 false
def vcCQ (P:Program) (st:St) (o:Oper) (x:Operand) (xs:List Operand) (K:St->Prop):Prop:=match ev st x with
 | .one (.d (.fn (.func f) fs cs))=>if lndFn f=true then ∃ es,DsShw st.H (fun _=>True) (callArgs st fs cs xs) es∧(∀ t,o.dst=some t->t<st.n)∧DPure P f es (fun d _=>lendK st o.dst K d) else match wrFn f with
  | true=>match lends st.H (callArgs st fs cs xs) with
   | some ds=>(∀ t,o.dst=some t->t<st.n)∧ICall P f ds (fun _=>none) st.nx (quietK st o.dst K)
   | none=>False
  | false=>vcC P st o x xs K
 | _=>False
def vcMkP (st:St) (o:Oper) (fn:Fn) (xs ys:List Operand) (K:St->Prop):Prop:=match capsOf st ys with
 | some cs=>xs=[]∧putK st o st (.one (.fnp fn cs)) K
 | none=>False
def vcMk (st:St) (o:Oper) (fn:Fn) (xs ys:List Operand) (K:St->Prop):Prop:=match dsOf (st.frzs (ys.flatMap fun y=>ptrOf (ev st y))) xs,dsOf (st.frzs (ys.flatMap fun y=>ptrOf (ev st y))) ys with
 | some fs,some cs=>putK st o (st.frzs (ys.flatMap fun y=>ptrOf (ev st y))) (.one (.d (.fn fn fs cs))) K
 | _,_=>False
def vcNil (P:Program) (st:St) (o:Oper) (op:BinOp) (ty:TypeId) (x:Operand) (K:St->Prop):Prop:=match ev st x,elOf P ty with
 | .one c,some _=>match lenOf? (.one c) with
  | some n=>(op = .eql∨op = .neq)∧(n=0->putK st o st (.one (.d (.lit (.bool (decide (op = .eql)))))) K)∧putK st o st (.one (.d (.lit (.bool (decide (op = .neq)))))) K
  | none=>False
 | _,_=>False
def isNilC:Operand->Bool
 | .const (.slice none 0 0)=>true
 | _=>false
theorem isNilC_ok {x:Operand} (h:isNilC x=true):x = .const (.slice none 0 0):=by
 unfold isNilC at h
 split at h
 ·rfl
 ·cases h
def vcFlt (op:BinOp) (p q:Nat) (K:D->Prop):Prop:=(∀ r,floatBits op .f64 p q=some r->K (.one (.d (.lit (.float .f64 r)))))∧(floatBits op .f64 p q=none -> ∀ r,isNum r=false->K (.one (.d (.lit (.float .f64 r)))))
theorem putD_out {st:St} {o:Oper} {K:St->Prop} {d:D} {t:Nat} (h:putD st o K d) (ht:o.dst=some t):K (st.put t d):=by
 unfold putD putK at h
 rw [ht] at h
 exact h.2
def vcB2s (P:Program) (st:St) (o:Oper) (x:Operand) (d:TypeId) (K:St->Prop):Prop:=match ev st x with
 | .one (.d (.sl _ es))=>match bytesOf es with
  | some bs=>isStr P d=true∧putK st o st (.one (.d (.lit (.string ⟨bs.toArray⟩)))) K
  | none=>False
 | _=>False
def vcSlA (st:St) (o:Oper) (x:Operand) (n k:Nat) (lo hi:Option Operand) (K:St->Prop):Prop:=match ev (st.frzs (ptrOf (ev st x))) x,optInt (st.frzs (ptrOf (ev st x))) lo 0,optInt (st.frzs (ptrOf (ev st x))) hi n with
 | .one (.d (.at_ S cs)),some i,some j=>k=1∧0≤i∧i≤j∧j≤n∧cs.length=n∧n≤maxLen∧putK st o (st.frzs (ptrOf (ev st x))) (.one (.d (.sl S (((cs.take j.toNat).drop i.toNat).map fun c=>[c])))) K
 | _,_,_=>False
noncomputable def vcOp (P:Program) (qt:Bool) (st:St) (o:Oper) (K:St->Prop):Prop:=match o.op with
 | .binOp op ty x y _=>match isNilC y with
  | true=>vcNil P st o op ty x K
  | false=>match fltA op (litOf (ev st x)) (litOf (ev st y)) with
   | some (p,q)=>vcFlt op p q (putD st o K)
   | none=>vcS P st o.op (putD st o K)
 | .makeMap ty none=>match mapT P ty with
  | some kt=>P=Tryz.prog∧putK st o (st.newMap kt) (.one (.map st.nx)) K
  | none=>False
 | .mapUpdate ty x y z=>match mapOf st (ev st x),mapT P ty,keyD (ev st y),litOf (ev st z) with
  | some (n,kt,f,c),some kt',some u,some (.int .i64 v)=>P=Tryz.prog∧kt'=kt∧Go.Maps.Keyed Tryz.prog kt∧KeyIn kt u∧(Lit.int .i64 v).wf=true∧c<100000000000∧o.dst=none∧K ⟨st.n,st.tm,st.H.set n (some ⟨.m kt (fun k=>if k=u then v else f k) (c+1),0,[]⟩),st.nx⟩
  | _,_,_,_=>False
 | .box ty x=>match Dcells (ev st x) with
  | some cs=>putK st o (st.newVar ty cs) (.one (.ptr st.nx cs.length 0 0)) K
  | none=>False
 | .alloc ty=>match zeroOf P ty with
  | some zs=>zs.all Value.oneCell'=true∧putK st o (st.newVar ty (zs.map fun v => .d (cellOf v))) (.one (.ptr st.nx (zs.map fun v=>C.d (cellOf v)).length 0 0)) K
  | none=>False
 | .store ty x y=>match ev st x,Dcells (ev st y),szOf P ty with
  | .one (.ptr n k i of),some cs,some z=>match st.H n with
   | some b=>match b.t,b.es[i]? with
    | .c bt,some e=>b.k=k∧z=cs.length∧of+cs.length≤e.length∧o.dst=none∧K ⟨st.n,st.tm,st.H.set n (some ⟨.c bt,b.k,b.es.set i (splice e of cs)⟩),st.nx⟩
    | _,_=>False
   | none=>False
  | _,_,_=>False
 | .makeFunc fn xs ys=>match mutFn fn with
  | true=>vcMkP st o fn xs.toList ys.toList K
  | false=>vcMk st o fn xs.toList ys.toList K
 | .buildSlice ty len parts=>match elOf P ty with
  | some (e,k)=>(len=0->parts.toList=[]∧putK st o st (.one (.d .emp)) K)∧(0<len->match zeroOf P e with
   | some zs=>zs.length=k∧0<k∧zs.all Value.oneCell'=true∧0<len∧len*k≤16777216∧match layE st k parts.toList (List.replicate len (zs.map fun v => .d (cellOf v))) with
    | some r=>putK st o (st.row none ⟨.c e,k,r⟩) (.one (.own st.nx k len)) K
    | none=>False
   | none=>False)
  | none=>False
 | .makeSlice ty x y=>match elOf P ty,intOf? (ev st x),intOf? (ev st y) with
  | some (e,k),some m,some m'=>match zeroOf P e,byOf P e with
   | some zs,some bt=>m=m'∧zs.length=k∧0<k∧zs.all Value.oneCell'=true∧bt≤1024∧0≤m∧m≤100000000000∧putK st o (st.row none ⟨.c e,k,List.replicate m.toNat (zs.map fun v => .d (cellOf v))⟩) (.one (.own st.nx k m.toNat)) K
   | _,_=>False
  | _,_,_=>False
 | .convert s d x=>match u8S P s with
  | true=>vcB2s P st o x d K
  | false=>vcS P st o.op (putD st o K)
 | .slice ty x lo hi none=>match arrOf P ty with
  | some (n,_,k,_)=>vcSlA st o x n k lo hi K
  | none=>vcS P st o.op (putD st o K)
 | .call c=>match c.callee with
  | .builtin .append=>match c.args.toList,c.argTypes.toList with
   | [x,y],[ty,tx]=>vcApp P st o x y ty tx K
   | _,_=>False
  | .value x=>match qt with
   | true=>vcCQ P st o x c.args.toList K
   | false=>vcCI P st o x c.args.toList K
  | _=>vcS P st o.op (putD st o K)
 | _=>vcS P st o.op (putD st o K)
theorem dstP_out {st s':St} {o:Oper} {d:D} {K:St->Prop} (h:putK st o s' d K) : ∃ t,o.dst=some t∧t<st.n∧K (s'.put t d):=by
 unfold putK at h
 split at h
 ·rename_i t ht;exact ⟨t,ht,h⟩
 ·exact h.elim
theorem vcC0_ok {P:Program} {qt:Bool} {st:St} {o:Oper} {K:St->Prop} {x:Operand} {args:Array Operand} {tys:Array TypeId} (ho:o.op = .call { callee := .value x,args:=args,argTypes:=tys }) (h:vcC0 P st o x args.toList K):EvO P qt o st K:=by
 unfold vcC0 at h
 split at h
 ·rename_i hx
  split at h
  ·rename_i hd;exact ev_call ho hx hd h.1 h.2
  ·exact h.elim
 ·exact h.elim
theorem vcC_ok {P:Program} {qt:Bool} {st:St} {o:Oper} {K:St->Prop} {x:Operand} {args:Array Operand} {tys:Array TypeId} (ho:o.op = .call { callee := .value x,args:=args,argTypes:=tys }) (h:vcC P st o x args.toList K):EvO P qt o st K:=by
 unfold vcC at h
 split at h
 ·rename_i hx
  unfold vcExt at h
  split at h
  ·rename_i he
   obtain ⟨rfl,rfl,rfl,h⟩:=h
   exact Reading.toO (s0:=st) rfl (.inl ⟨_,h,by rw [show freeO o.op=true by rw [ho];rfl];exact ev_ext ho hx he⟩)
  split at h
  ·obtain ⟨st', -, hw,h⟩:=h
   exact (vcC0_ok ho h).weak hw
  split at h
  ·rename_i hd;exact ev_call ho hx hd h.1 h.2
  ·obtain ⟨st', -, hw,h⟩:=h
   exact (vcC0_ok ho h).weak hw
 ·exact h.elim
theorem vcOp_ok {P:Program} {qt:Bool} {st:St} {o:Oper} {K:St->Prop} (h:vcOp P qt st o K):EvO P qt o st K:=by
 unfold vcOp at h
 split at h
 ·rename_i op ty x y yt ho
  split at h
  ·rename_i hy
   obtain rfl:=isNilC_ok hy
   unfold vcNil at h
   split at h
   ·rename_i hx he
    split at h
    ·rename_i hl
     obtain ⟨a1,a2,a3⟩:=h
     obtain ⟨t,h1,h2,h3⟩:=dstP_out a3
     exact ev_eqNil ho a1 he hx hl h1 h2 (fun e=>by
      obtain ⟨t',g1,g2,g3⟩:=dstP_out (a2 e)
      rw [h1] at g1
      cases g1
      exact g3) h3
    ·exact h.elim
   ·exact h.elim
  ·split at h
   ·rename_i p q hf
    cases hd:o.dst with
    | none =>
     exfalso
     cases hb:floatBits op .f64 p q with
     | some r=>have:=h.1 r hb;unfold putD putK at this;rw [hd] at this;exact this
     | none =>
      have:=h.2 hb 9218868437227405313 (by decide)
      unfold putD putK at this;rw [hd] at this;exact this
    | some t =>
     have hlt:t<st.n:=by
      cases hb:floatBits op .f64 p q with
      | some r=>have:=h.1 r hb;unfold putD putK at this;rw [hd] at this;exact this.1
      | none =>
       have:=h.2 hb 9218868437227405313 (by decide)
       unfold putD putK at this;rw [hd] at this;exact this.1
     exact ev_floatA ho hf hd hlt (fun r hr=>putD_out (h.1 r hr) hd) (fun hr r hn=>putD_out (h.2 hr r hn) hd)
   ·exact Reading.toO rfl (vcS_ok h)
 ·rename_i ho
  split at h
  ·rename_i ht
   obtain ⟨rfl,h⟩:=h
   obtain ⟨t,h1,h2,h3⟩:=dstP_out h
   exact ev_makeMap ho h1 h2 h3
  ·exact h.elim
 ·rename_i ho
  split at h
  ·rename_i hx ht hy hz
   obtain ⟨rfl,rfl,hk,hi,hv,hc,hd,h⟩:=h
   exact ev_mapUpdate ho hx ht hy hz hk hi hv hc hd h
  ·exact h.elim
 ·rename_i ho
  split at h
  ·rename_i hx;obtain ⟨t,h1,h2,h3⟩:=dstP_out h;exact ev_box ho hx h1 h2 h3
  ·exact h.elim
 ·rename_i ho
  split at h
  ·rename_i hz;obtain ⟨h0,h⟩:=h;obtain ⟨t,h1,h2,h3⟩:=dstP_out h;exact ev_alloc ho hz h0 h1 h2 h3
  ·exact h.elim
 ·rename_i ho
  split at h
  ·rename_i hx hy hz
   split at h
   ·rename_i hb
    split at h
    ·rename_i hbt he;obtain ⟨hk,rfl,hl,ht,h⟩:=h;exact ev_store ho hx hb hbt hk he hy hz hl ht h
    ·exact h.elim
   ·exact h.elim
  ·exact h.elim
 ·rename_i ho
  split at h
  ·unfold vcMkP at h
   split at h
   ·rename_i hy
    obtain ⟨t,h1,h2,h3⟩:=dstP_out h.2
    exact ev_makeFuncP ho h.1 hy h1 h2 h3
   ·exact h.elim
  ·unfold vcMk at h
   split at h
   ·rename_i hx hy
    obtain ⟨t,h1,h2,h3⟩:=dstP_out h
    exact ((ev_makeFunc ho hx hy).toO h1 (by rw [frzs_n];exact h2) h3).weak (Wk.frzs _ _)
   ·exact h.elim
 ·rename_i ty len parts ho
  split at h
  ·rename_i he
   by_cases hl0:len=0
   ·subst hl0
    obtain ⟨g1,g2⟩:=h.1 rfl
    obtain ⟨t,h1,h2,h3⟩:=dstP_out g2
    exact ev_buildSlice0 ho g1 he h1 h2 h3
   have h:=h.2 (by omega)
   split at h
   ·rename_i hz
    obtain ⟨a1,a2,a3,a4,a5,h⟩:=h
    split at h
    ·rename_i hl;obtain ⟨t,h1,h2,h3⟩:=dstP_out h;exact ev_buildSlice ho he hz a1 a2 a3 a4 a5 hl h1 h2 h3
    ·exact h.elim
   ·exact h.elim
  ·exact h.elim
 ·rename_i ho
  split at h
  ·rename_i he hx hy
   split at h
   ·rename_i hz hb
    obtain ⟨rfl,a1,a2,a3,a4,a5,a6,h⟩:=h
    obtain ⟨t,h1,h2,h3⟩:=dstP_out h
    exact ev_makeSlice ho he hz a1 a2 a3 hb a4 hx hy a5 a6 h1 h2 h3
   ·exact h.elim
  ·exact h.elim
 ·rename_i ho
  split at h
  ·rename_i hu
   unfold vcB2s at h
   split at h
   ·rename_i hx
    split at h
    ·rename_i hb
     obtain ⟨h0,h⟩:=h
     obtain ⟨t,h1,h2,h3⟩:=dstP_out h
     exact ev_b2s ho hu h0 hx hb h1 h2 h3
    ·exact h.elim
   ·exact h.elim
  ·exact Reading.toO rfl (vcS_ok h)
 ·rename_i ho
  split at h
  ·rename_i ha
   unfold vcSlA at h
   split at h
   ·rename_i hx hlo hhi
    obtain ⟨rfl,a1,a2,a3,a4,a5,h⟩:=h
    obtain ⟨t,h1,h2,h3⟩:=dstP_out h
    exact ((ev_sliceArr ho hx ha hlo hhi a1 a2 a3 a4 a5).toO h1 (by rw [frzs_n];exact h2) h3).weak (Wk.frzs _ _)
   ·exact h.elim
  ·exact Reading.toO rfl (vcS_ok h)
 ·rename_i c ho
  obtain ⟨ce,args,tys⟩:=c
  simp only at h
  split at h
  ·split at h
   ·rename_i x y ty tx hxs hts
    obtain rfl:args = #[x,y]:=by apply Array.ext';simpa using hxs
    obtain rfl:tys = #[ty,tx]:=by apply Array.ext';simpa using hts
    unfold vcApp at h
    split at h
    ·rename_i he hex hx hy
     split at h
     ·rename_i hb hz
      obtain ⟨a1,a2,a3,a4,a5,a6,a7,h⟩:=h
      obtain ⟨t,h1,h2,h3⟩:=dstP_out h
      exact ev_append ho he a1 hb a2 hz a3 a4 hex hx a5 hy a6 a7 h1 h2 h3
     ·exact h.elim
    ·exact h.elim
   ·exact h.elim
  ·split at h
   ·unfold vcCQ at h
    split at h
    ·rename_i hx
     split at h
     ·obtain ⟨es,hd,h1,h2⟩:=h
      exact ev_callD ho hx hd h1 h2
     split at h
     ·split at h
      ·rename_i hd;exact ev_callQ ho hx hd h.1 h.2
      ·exact h.elim
     ·exact vcC_ok ho h
    ·exact h.elim
   ·unfold vcCI at h
    split at h
    ·rename_i hx
     split at h
     ·split at h
      ·obtain ⟨st',h1,h2,h3⟩:=h
       unfold vcCI0 at h3
       split at h3
       ·rename_i hx';exact (ev_icall ho hx' h3.1 h3.2).weak h2
       ·exact h3.elim
      ·exact ev_icall ho hx h.1 h.2
     ·exact vcC_ok ho h
    ·rename_i hx
     obtain ⟨h1,h2⟩:=h
     split at h2
     ·exact ev_xcallP ho hx h1 h2
     ·exact ev_icallP ho hx h1 h2
    ·exact h.elim
  ·exact Reading.toO rfl (vcS_ok h)
 ·exact Reading.toO rfl (vcS_ok h)
def dstLt (n:Nat):Option Nat->Bool
 | some t=>decide (t<n)
 | none=>true
theorem dstLt_iff {n:Nat} {d:Option Nat} (h:dstLt n d=true) : ∀ t,d=some t->t<n:=by
 cases d with
 | none=>intro t e;cases e
 | some t=>intro u e;cases e;simpa [dstLt] using h
def vcL (P:Program) (l:List Oper) (K:St->Prop):List Oper->St->Prop
 | [],st=>K st
 | o::rest,st=>match o.guard with
  | none=>dstLt st.n o.dst=true∧vcOp P false st o (vcL P l K rest)
  | some _=>match gd l st o with
   | some (x,y,d)=>dstLt st.n o.dst=true∧(if x=y then vcOp P false (st.told d y) o (vcL P l K rest) else vcL P l K rest ((st.told d (!y)).skip o))
   | none=>False
theorem EvO.mono {P:Program} {qt:Bool} {o:Oper} {st:St} {K K':St->Prop} (h:EvO P qt o st K) (hk : ∀ st,K st->K' st):EvO P qt o st K':=fun β F ι a w hh next Q hn=>h β F ι a w hh next Q fun F' ι' st' v w' ho h1 h2=>hn F' ι' st' v w' ho h1 (hk _ h2)
theorem alt_if {x y:Bool} {A B:Prop} (h:if x=y then A else B):(x=y->A)∧(x = !y->B):=by
 cases x <;> cases y <;> simp_all
theorem vcL_ok {P:Program} {l:List Oper} {K:St->Prop} : ∀ {rest:List Oper} {st:St}, vcL P l K rest st->EvL P l rest K st
 | [],st,h=>evl_nil h
 | o::rest,st,h=>by
  unfold vcL at h
  split at h
  ·rename_i hg
   exact evl_if (d:=none) (x:=true) (y:=true) (by simp [gd,hg]) (dstLt_iff h.1) (fun _=>(vcOp_ok h.2).mono fun st h=>vcL_ok h) (fun e=>by cases e)
  ·split at h
   ·rename_i x y d hg
    exact evl_if hg (dstLt_iff h.1) (fun e=>(vcOp_ok ((alt_if h.2).1 e)).mono fun st h=>vcL_ok h) (fun e=>vcL_ok ((alt_if h.2).2 e))
   ·exact h.elim
abbrev Frs:=List (Nat×List Nat)
def DoneOk (P:Program) (l:List Oper) (a:Act) (w:World) (done:List Nat) (fr:Frs):Prop := ∀ i∈done, ∀ o,nthOp l i=some o->Region.wanted o (yielded l.toArray a.tmps)=true ->
 ∃ s,s≤w.heap.size∧(∀ w',(freeO o.op=true ∨ ∀ b,b<s->w'.heap[b]? = w.heap[b]?)->(execOp a.eval o).run P w' = .ok (.value (slotOf a o)) w') ∧
  ∀ x∈fr,i∈x.2 -> ∃ b of sp,a.tmps[x.1]? = some (.pointer (some ⟨b,of,sp⟩))∧s≤b
def staysT (l:List Oper) (t:Option Nat) (k:Nat):Bool:=match nthOp l k,t with
 | some o,some t=>plainOp o.op && !(o.looksAt l.toArray).contains t&&o.dst != some t
 | _,_=>true
def nextDone (l:List Oper) (i:Nat) (done:List Nat):List Nat:=match nthOp l i with
 | some o=>match o.dst with
  | some t=>(if plainOp o.op && !(o.looksAt l.toArray).contains t then [i] else [])++done.filter (staysT l (some t))
  | none=>[]
 | none=>[]
def nextFr (l:List Oper) (i:Nat) (fr:Frs):Frs:=match nthOp l i with
 | some o=>match o.dst with
  | some t=>(fr.filter fun x=>x.1 != t).map fun x=>(x.1,x.2.filter (· != i))
  | none=>[]
 | none=>[]
def pokes (fr:Frs) (o:Op) (k:Nat):Bool:=match o with
 | .store _ (.tmp t) _=>fr.any fun x=>x.1 == t&&x.2.contains k
 | _=>false
def isLd (o:Op):Option (TypeId×Nat):=match o with
 | .load ty (.tmp u)=>some (ty,u)
 | _=>none
def oldSt (l:List Oper) (o:Oper):Option Operand:=match o.op,o.dst with
 | .store _ (.tmp t) _,none=>if (l.any fun q=>q.dst == some t&&newO q.op)=true then none else some (.tmp t)
 | _,_=>none
def aside (l:List Oper) (o:Oper) (pend:List Nat) (k:Nat):Bool:=(oldSt l o).isSome&&pend.contains k&&match nthOp l k with
 | some o'=>(isLd o'.op).isSome
 | none=>false
def lateFn (f:FuncId):Bool :=
 f == 32 ||
 false
def lateCall:Op->Bool
 | .call { callee := .value (.func f),.. } => lateFn f
 | _=>false
def quietP (l:List Oper) (pend:List Nat) (o:Oper):Bool:=if lateCall o.op=true then pend.any (fun k=>match nthOp l k with | some o' => !freeO o'.op | none=>true) else !pend.isEmpty
def effDone (pend:List Nat) (l:List Oper) (j:Nat) (done:List Nat) (fr:Frs):List Nat:=match nthOp l j with
 | some o=>done.filter fun k=>staysT l o.dst k&&(((quietP l pend o)&&quietO o.op)||pokes fr o.op k||(match nthOp l k with | some o'=>freeO o'.op | none=>true)||aside l o pend k)
 | none=>[]
def effFr (pend:List Nat) (l:List Oper) (j:Nat) (done:List Nat) (fr:Frs):Frs:=match nthOp l j with
 | some o=>match o.dst with
  | some t=>(if newO o.op&&o.guard.isNone then [(t,done)] else [])++fr.filter fun x=>x.1 != t
  | none=>fr.map fun x=>(x.1,x.2.filter fun k => !aside l o pend k)
 | none=>[]
def Plan.pends (l:List Oper):Plan->List Nat->Frs->Bool
 | .last,_,_=>true
 | .seg i p,done,fr=>Plan.pends l p (nextDone l i done) (nextFr l i fr)
 | .eff j pend p,done,fr=>pend.all ((effDone pend l j done fr).contains ·)&&Plan.pends l p (effDone pend l j done fr) (effFr pend l j done fr)
 | .fork j pend p rest,done,fr=>pend.all ((effDone pend l j done fr).contains ·)&&Plan.pends l p (effDone pend l j done fr) (effFr pend l j done fr)&&Plan.pends l rest done fr
def segK (st:St) (t:Nat) (K:St->Prop) (d:D):Prop:=K (st.put t d)
def sepD (st:St) (x:Operand) (u:Nat):Prop:=match ev st x,ev st (.tmp u) with
 | .one (.ptr n _ _ _),.one (.ptr n' _ _ _)=>(st.H n).isSome=true∧n'≠n
 | .one (.ptr n _ _ _),.one (.d (.at_ _ _))=>(st.H n).isSome=true
 | _,_=>False
def sepB (P:Program) (l:List Oper) (st:St) (x:Operand):List Nat->Prop
 | []=>True
 | k::ks=>(match nthOp l k with
  | some o'=>match isLd o'.op with
   | some (ty,u)=>sepD st x u∧vcS P st (.load ty (.tmp u)) fun _=>True
   | none=>True
  | none=>True)∧sepB P l st x ks
def sepA (P:Program) (l:List Oper) (st:St) (o:Oper) (pend:List Nat):Prop:=match oldSt l o with
 | some x=>sepB P l st x pend
 | none=>True
theorem sepB_get {P:Program} {l:List Oper} {st:St} {x:Operand} : ∀ {pend:List Nat}, sepB P l st x pend -> ∀ k∈pend, ∀ o',nthOp l k=some o' -> ∀ ty u,isLd o'.op=some (ty,u)->sepD st x u∧vcS P st (.load ty (.tmp u)) fun _=>True
 | _::_,h,k,hk,o',ho',ty,u,hl=>by
  rcases List.mem_cons.1 hk with rfl | hk
  ·have h1:=h.1
   simp only [ho',hl] at h1
   exact h1
  ·exact sepB_get h.2 k hk o' ho' ty u hl
 | [],_,_,hk,_,_,_,_,_=>by cases hk
theorem sepA_get {P:Program} {l:List Oper} {st:St} {o:Oper} {pend:List Nat} (h:sepA P l st o pend) : ∀ k∈pend, ∀ x,oldSt l o=some x -> ∀ o',nthOp l k=some o' -> ∀ ty u,isLd o'.op=some (ty,u)->sepD st x u∧vcS P st (.load ty (.tmp u)) fun _=>True:=fun k hk x hx=>by
 unfold sepA at h
 rw [hx] at h
 exact sepB_get h k hk
theorem ld_any {P:Program} {o:Oper} {β:Base} {F:Nat->Prop} {ι:Nms} {st:St} {a:Act} {w:World} (hh:Holds β F ι st a w) {ty:TypeId} {u:Nat} (ho:o.op = .load ty (.tmp u)) (h:vcS P st (.load ty (.tmp u)) fun _=>True) :
  ∃ b off v,a.eval (.tmp u) = .pointer (some ⟨b,off,none⟩) ∧ ∀ w',w'.heap[b]? = w.heap[b]? -> (execOp a.eval o).run P w' = .ok (.value v) w':=by
 unfold vcS at h
 simp only at h
 split at h
 ·rename_i cs hty hr
  obtain ⟨b,off,he,vs,h1,h2⟩:=rd_ok hh hr
  cases cs with
  | nil=>simp at h
  | cons c cs =>
   obtain ⟨v,hv,hc⟩:=h1.get (j:=0) (c:=c) rfl
   refine ⟨b,off,v,he,fun w' hw => ?_⟩
   have this:=h2 0 v hv
   rw [← cell_block hw] at this
   simp [execOp,ho,Instr.loadAt,he,Instr.sureAddr,loadVar,rowT_run hty,load,Sem.run,World.cell?] at this ⊢
   simp [this]
 ·rename_i cs hty hr
  split at h
  ·rename_i k hk
   obtain ⟨b,off,he,vs,h1,h2⟩:=rd_ok hh hr
   have h3:=h1.take k
   have hlen:=h3.len
   have hvl:(vs.take k).length=k:=by rw [hlen,List.length_take];omega
   refine ⟨b,off,.agg (vs.take k).toArray,he,fun w' hw => ?_⟩
   have hc:=run_loadCells_list (P:=P) w' ⟨b,off,none⟩ (vs.take k) (fun j v hj=>by
    rw [Addr.add_mid]
    rw [List.getElem?_take] at hj
    split at hj
    ·rw [cell_block hw];exact h2 j v hj
    ·simp at hj)
   rw [hvl] at hc
   simp [execOp,ho,Instr.loadAt,he,Instr.sureAddr,loadVar,rowT_run hty,szOf_run hk,hc]
  ·exact h.elim
 ·exact h.elim
theorem sepD_ne {β:Base} {F:Nat->Prop} {ι:Nms} {st:St} {a:Act} {w:World} (hh:Holds β F ι st a w) {x:Operand} {u:Nat} (h:sepD st x u) {cs:List C} (hr:rd st (.tmp u)=some cs) {b off:Nat} (he:a.eval (.tmp u) = .pointer (some ⟨b,off,none⟩)) :
  b<w.heap.size ∧ ∃ bx ox,a.eval x = .pointer (some ⟨bx,ox,none⟩)∧bx≠b:=by
 have e1:=hh.ev x
 have e2:=hh.ev (.tmp u)
 unfold sepD at h
 split at h
 ·rename_i n k i o n' k' i' o' hx hu
  rw [hx,RV] at e1
  rw [hu,RV] at e2
  obtain ⟨b1,c1,p1,p2,p3⟩:=e1
  obtain ⟨b2,c2,q1,q2,q3⟩:=e2
  rw [he] at q3
  simp only [Value.pointer.injEq,Option.some.injEq,Addr.mk.injEq] at q3
  have hn':st.H n'≠none:=fun e=>by
   unfold rd at hr
   rw [hu] at hr
   simp [e] at hr
  have hn:st.H n≠none:=fun e=>by have:=h.1;rw [e] at this;cases this
  have q3b:b=b2:=by have:=q3.1;omega
  refine ⟨by rw [q3b];exact (hh.heap.own n' b2 c2 hn' q1 q2).1,b1,_,p3,fun e=>h.2 ?_⟩
  exact hh.heap.inj n' n b2 c2 c1 hn' hn q1 (by rw [p1,e,q3b]) q2 p2
 ·rename_i n k i o S cs' hx hu
  rw [hx,RV] at e1
  rw [hu,RV] at e2
  obtain ⟨b1,c1,p1,p2,p3⟩:=e1
  have hn:st.H n≠none:=fun e=>by rw [e] at h;cases h
  obtain ⟨o1,o2,o3⟩:=hh.heap.own n b1 c1 hn p1 p2
  have e2':RD _ _ (.at_ S cs') _:=e2
  rw [he] at e2'
  cases e2' with
  | at_ X h4 hc h5 =>
   refine ⟨?_,b1,_,p3,fun e => ?_⟩
   ·rcases h4 with hF | ⟨-, hB⟩
    ·exact hh.heap.Flt _ hF
    ·exact Nat.lt_of_lt_of_le hB.1 hh.heap.size
   subst e
   rcases h4 with hF | ⟨-, hB⟩
   ·exact o2 hF
   ·rcases o3 with o3 | o3
    ·exact hB.2 o3
    ·have:=hB.1;omega
 ·exact h.elim
def vcPl (P:Program) (l:List Oper) (K:St->Prop):Plan->St->Prop
 | .last,st=>K st
 | .seg i p,st=>match nthOp l i with
  | some o=>match o.dst,gd l st o with
   | some t,some (x,y,d)=>t<st.n∧(if x=y then vcS P (st.told d y) o.op (segK (st.told d y) t (vcPl P l K p)) else vcPl P l K p ((st.told d (!y)).put t (.tup [])))
   | _,_=>False
  | none=>False
 | .eff j pend p,st=>match nthOp l j with
  | some o=>match gd l st o with
   | some (x,y,d)=>(∀ t,o.dst=some t->t<st.n)∧(if x=y then sepA P l (st.told d y) o pend∧vcOp P (quietP l pend o) (st.told d y) o (vcPl P l K p) else vcPl P l K p ((st.told d (!y)).skip o))
   | none=>False
  | none=>False
 | .fork j pend p rest,st=>(match nthOp l j with
  | some o=>match gd l st o with
   | some (x,y,d)=>(∀ t,o.dst=some t->t<st.n)∧(if x=y then sepA P l (st.told d y) o pend∧vcOp P (quietP l pend o) (st.told d y) o (vcPl P l K p) else vcPl P l K p ((st.told d (!y)).skip o))
   | none=>False
  | none=>False)∧vcPl P l K rest st
section
variable {P:Program} {l:List Oper}
theorem put_get {a:Act} {t u:Nat} {v:Value} (h:u≠t):(a.put (some t) v).tmps[u]? = a.tmps[u]? := by
 simp only [Act.put]
 exact Array.getElem?_setIfInBounds_ne (fun e=>h e.symm)
theorem stays_run {a:Act} {t:Option Nat} {v:Value} {k:Nat} {o:Oper} (ho:nthOp l k=some o) (hs:staysT l t k=true) :
  execOp (a.put t v).eval o=execOp a.eval o∧Region.wanted o (yielded l.toArray (a.put t v).tmps)=Region.wanted o (yielded l.toArray a.tmps)∧slotOf (a.put t v) o=slotOf a o:=by
 cases t with
 | none=>exact ⟨rfl,rfl,rfl⟩
 | some t =>
  unfold staysT at hs
  simp only [ho,Bool.and_eq_true,Bool.not_eq_true',bne_iff_ne,ne_eq] at hs
  obtain ⟨⟨h1,h2⟩,h3⟩:=hs
  have hne : ∀ u∈o.looksAt l.toArray,u≠t:=fun u hu e=>by
   subst e
   rw [List.contains_iff_mem.2 hu] at h2
   cases h2
  obtain ⟨g1,g2⟩:=looks_same (ops:=l.toArray) (plain_noselect h1) (a:=a.put (some t) v) (a':=a) fun u hu=>put_get (hne u hu)
  refine ⟨g1,g2,?_⟩
  unfold slotOf
  cases hd:o.dst with
  | none=>rfl
  | some d =>
   have hdt:d≠t:=fun e=>h3 (by rw [hd,e])
   show (a.put (some t) v).tmps.getD d undef=a.tmps.getD d undef
   simp only [Array.getD_eq_getD_getElem?]
   rw [put_get hdt]
theorem done_seg {a:Act} {w:World} {done:List Nat} {fr:Frs} (h:DoneOk P l a w done fr) {i t:Nat} {o:Oper} (ho:nthOp l i=some o) (hd:o.dst=some t) {v:Value} (ht:t<a.tmps.size)
  (hv:Region.wanted o (yielded l.toArray a.tmps)=true -> ∀ w',(freeO o.op=true∨Old w w')->(execOp a.eval o).run P w' = .ok (.value v) w'):DoneOk P l (a.put (some t) v) w (nextDone l i done) (nextFr l i fr):=by
 intro k hk o' ho' hw
 unfold nextDone at hk
 simp only [ho,hd] at hk
 rcases List.mem_append.1 hk with hk | hk
 ·split at hk
  ·rename_i hc
   simp only [Bool.and_eq_true,Bool.not_eq_true'] at hc
   obtain rfl:=List.mem_singleton.1 hk
   rw [ho] at ho'
   cases ho'
   have hne : ∀ u∈o.looksAt l.toArray,u≠t:=fun u hu e=>by
    subst e
    rw [List.contains_iff_mem.2 hu] at hc
    cases hc.2
   obtain ⟨g1,g2⟩:=looks_same (ops:=l.toArray) (plain_noselect hc.1) (a:=a.put (some t) v) (a':=a) fun u hu=>put_get (hne u hu)
   rw [g2] at hw
   refine ⟨w.heap.size,Nat.le_refl _,fun w' hw' => ?_,fun x hx hkx => ?_⟩
   ·rw [g1,hv hw w' hw']
    unfold slotOf
    simp only [hd,Act.put,Array.getD_eq_getD_getElem?]
    simp [ht]
   ·unfold nextFr at hx
    simp only [ho,hd] at hx
    obtain ⟨y, -, rfl⟩:=List.mem_map.1 hx
    have:=(List.mem_filter.1 hkx).2
    simp at this
  ·cases hk
 ·obtain ⟨hk1,hk2⟩:=List.mem_filter.1 hk
  obtain ⟨g1,g2,g3⟩:=stays_run (a:=a) (v:=v) ho' hk2
  rw [g2] at hw
  obtain ⟨s,s1,s2,s3⟩:=h k hk1 o' ho' hw
  refine ⟨s,s1,fun w' hw'=>by rw [g1,g3];exact s2 w' hw',fun x hx hkx => ?_⟩
  unfold nextFr at hx
  simp only [ho,hd] at hx
  obtain ⟨y,hy,rfl⟩:=List.mem_map.1 hx
  obtain ⟨hy1,hy2⟩:=List.mem_filter.1 hy
  obtain ⟨b,of,sp,e1,e2⟩:=s3 y hy1 (List.mem_filter.1 hkx).1
  exact ⟨b,of,sp,by rw [put_get (by simpa using hy2)];exact e1,e2⟩
theorem Old.size {w w1:World} (h:Old w w1):w.heap.size≤w1.heap.size:=by
 rcases Nat.eq_zero_or_pos w.heap.size with h0 | h0
 ·omega
 ·have hb:w.heap.size-1<w.heap.size:=by omega
  have e:=h _ hb
  rw [Array.getElem?_eq_getElem hb] at e
  have:=(Array.getElem?_eq_some_iff.1 e).1
  omega
theorem oldSt_store {l:List Oper} {o:Oper} {x:Operand} (h:oldSt l o=some x) : ∃ ty y,o.op = .store ty x y∧o.dst=none:=by
 unfold oldSt at h
 split at h
 ·rename_i ty t y e1 e2
  split at h
  ·cases h
  ·simp only [Option.some.injEq] at h
   subst h
   exact ⟨ty,y,e1,e2⟩
 ·cases h
theorem isLd_op {o:Op} {ty:TypeId} {u:Nat} (h:isLd o=some (ty,u)):o = .load ty (.tmp u):=by
 unfold isLd at h
 split at h
 ·simp only [Option.some.injEq,Prod.mk.injEq] at h
  obtain ⟨rfl,rfl⟩:=h
  rfl
 ·cases h
theorem done_eff {a:Act} {w w1:World} {done:List Nat} {fr:Frs} (h:DoneOk P l a w done fr) {j:Nat} {o:Oper} (ho:nthOp l j=some o) {v:Value} {pend:List Nat} (hdt : ∀ t,o.dst=some t->t<a.tmps.size) (hc:(Chg (quietP l pend o) o a w v w1 ∧ ∀ k,aside l o pend k=true -> ∀ o',nthOp l k=some o' -> ∃ b u,b<w.heap.size∧(∀ w',w'.heap[b]? = w.heap[b]? -> (execOp a.eval o').run P w' = .ok (.value u) w') ∧ ∀ x,oldSt l o=some x -> ∃ bx ox,a.eval x = .pointer (some ⟨bx,ox,none⟩)∧bx≠b)∨(w1=w∧o.guard.isNone=false)):DoneOk P l (a.put o.dst v) w1 (effDone pend l j done fr) (effFr pend l j done fr):=by
 intro k hk o' ho' hw
 unfold effDone at hk
 simp only [ho] at hk
 obtain ⟨hk1,hk2⟩:=List.mem_filter.1 hk
 simp only [ho',Bool.and_eq_true,Bool.or_eq_true] at hk2
 obtain ⟨g1,g2,g3⟩:=stays_run (a:=a) (v:=v) ho' hk2.1
 rw [g2] at hw
 obtain ⟨s,s1,s2,s3⟩:=h k hk1 o' ho' hw
 have hfr : ∀ x∈effFr pend l j done fr,k∈x.2 -> ∃ b of sp,(a.put o.dst v).tmps[x.1]? = some (.pointer (some ⟨b,of,sp⟩))∧s≤b:=fun x hx hkx=>by
  unfold effFr at hx
  simp only [ho] at hx
  cases hd:o.dst with
  | none =>
   simp only [hd] at hx
   obtain ⟨y,hy,rfl⟩:=List.mem_map.1 hx
   exact s3 y hy (List.mem_filter.1 hkx).1
  | some t =>
   simp only [hd] at hx
   rcases List.mem_append.1 hx with hx | hx
   ·split at hx
    ·rename_i hn
     simp only [Bool.and_eq_true] at hn
     obtain rfl:=List.mem_singleton.1 hx
     rcases hc with ⟨hc, -⟩ | ⟨-, hc⟩
     ·refine ⟨w.heap.size,0,none,?_,s1⟩
      rw [← hc.new hn.1]
      simp [Act.put,hdt t hd]
     ·rw [hn.2] at hc;cases hc
    ·cases hx
   ·obtain ⟨hx1,hx2⟩:=List.mem_filter.1 hx
    obtain ⟨b,of,sp,e1,e2⟩:=s3 x hx1 hkx
    exact ⟨b,of,sp,by rw [put_get (by simpa using hx2)];exact e1,e2⟩
 rcases hc with ⟨hc,hsep⟩ | ⟨rfl,hc⟩
 ·rcases hk2.2 with ((hq | hp) | hf) | has
  ·have hold:=hc.old hq.1 hq.2
   refine ⟨s,Nat.le_trans s1 hold.size,fun w' hw' => ?_,hfr⟩
   rw [g1,g3]
   refine s2 w' (hw'.imp id fun hw' b hb => ?_)
   rw [hw' b hb,hold b (Nat.lt_of_lt_of_le hb s1)]
  ·unfold pokes at hp
   split at hp
   ·rename_i ty t y hop
    obtain ⟨x,hx,hx2⟩:=List.any_eq_true.1 hp
    simp only [Bool.and_eq_true,beq_iff_eq] at hx2
    obtain ⟨b,of,sp,e1,e2⟩:=s3 x hx (List.contains_iff_mem.1 hx2.2)
    obtain ⟨b',⟨p1,p2⟩,p3⟩:=hc.poke _ _ _ hop
    have hbb:b=b':=p3 b of sp (by
     show a.tmps.getD t undef=_
     rw [← hx2.1,Array.getD_eq_getD_getElem?, e1];rfl)
    refine ⟨s,Nat.le_trans s1 p1,fun w' hw' => ?_,hfr⟩
    rw [g1,g3]
    refine s2 w' (hw'.imp id fun hw' c hcs => ?_)
    rw [hw' c hcs,p2 c (by omega)]
   ·cases hp
  ·refine ⟨0,Nat.zero_le _,fun w' _=>by rw [g1,g3];exact s2 w' (.inl hf),fun x hx hkx => ?_⟩
   obtain ⟨b,of,sp,e1, -⟩:=hfr x hx hkx
   exact ⟨b,of,sp,e1,Nat.zero_le _⟩
  ·obtain ⟨b,u,q0,q1,q2⟩:=hsep k has o' ho'
   have has2:=has
   simp only [aside,ho',Bool.and_eq_true,Option.isSome_iff_exists] at has2
   obtain ⟨⟨⟨x,hx⟩, -⟩,⟨⟨ty',u'⟩,hl⟩⟩:=has2
   obtain ⟨ty,y,hop,hd⟩:=oldSt_store hx
   obtain ⟨bx,ox,r1,r2⟩:=q2 x hx
   obtain ⟨b',⟨p1,p2⟩,p3⟩:=hc.poke _ _ _ hop
   have hbb:bx=b':=p3 bx ox none r1
   have hsl:slotOf a o'=u:=by
    have t1:=s2 w (.inr fun _ _=>rfl)
    rw [q1 w rfl] at t1
    injection t1 with t2
    injection t2 with t3
    exact t3.symm
   refine ⟨w1.heap.size,Nat.le_refl _,fun w' hw' => ?_,fun x hx hkx => ?_⟩
   ·rw [g1,g3,hsl]
    rcases hw' with hf | hw'
    ·rw [isLd_op hl] at hf;cases hf
    ·exact q1 w' (by rw [hw' b (Nat.lt_of_lt_of_le q0 p1),p2 b (by rw [← hbb];exact fun e=>r2 e.symm)])
   ·unfold effFr at hx
    simp only [ho,hd] at hx
    obtain ⟨y,hy,rfl⟩:=List.mem_map.1 hx
    have:=(List.mem_filter.1 hkx).2
    rw [has] at this
    cases this
 ·exact ⟨s,s1,fun w' hw'=>by rw [g1,g3];exact s2 w' hw',hfr⟩
theorem sep_run {β:Base} {F:Nat->Prop} {ι:Nms} {st:St} {a:Act} {w:World} (hh:Holds β F ι st a w) {o:Oper} {pend:List Nat} (hs:sepA P l st o pend) {k:Nat} (hk:aside l o pend k=true) {o':Oper} (ho':nthOp l k=some o') :
  ∃ b u,b<w.heap.size∧(∀ w',w'.heap[b]? = w.heap[b]? -> (execOp a.eval o').run P w' = .ok (.value u) w') ∧ ∀ x,oldSt l o=some x -> ∃ bx ox,a.eval x = .pointer (some ⟨bx,ox,none⟩)∧bx≠b:=by
 simp only [aside,ho',Bool.and_eq_true,Option.isSome_iff_exists] at hk
 obtain ⟨⟨⟨x,hx⟩,hm⟩,⟨⟨ty',u'⟩,hl⟩⟩:=hk
 obtain ⟨h1,h2⟩:=sepA_get hs k (List.contains_iff_mem.1 hm) x hx o' ho' ty' u' hl
 obtain ⟨b,off,v,e1,e2⟩:=ld_any (P:=P) (o:=o') hh (isLd_op hl) h2
 have hr : ∃ cs,rd st (.tmp u')=some cs:=by
  unfold vcS at h2
  simp only at h2
  split at h2
  ·rename_i cs _ hr;exact ⟨cs,hr⟩
  ·rename_i cs _ hr;exact ⟨cs,hr⟩
  ·exact h2.elim
 obtain ⟨cs,hr⟩:=hr
 obtain ⟨g0,bx,ox,g1,g2⟩:=sepD_ne hh h1 hr e1
 refine ⟨b,v,g0,e2,fun x' hx' => ?_⟩
 rw [hx] at hx'
 obtain rfl:=Option.some.inj hx'
 exact ⟨bx,ox,g1,g2⟩
theorem pend_of {a:Act} {w:World} {done:List Nat} {fr:Frs} (h:DoneOk P l a w done fr) : ∀ {pend:List Nat}, pend.all (done.contains ·)=true->pendOk P l.toArray a w pend
 | [],_=>trivial
 | i::pend,hp=>by
  simp only [List.all_cons,Bool.and_eq_true] at hp
  refine ⟨fun o ho hw => ?_,pend_of h hp.2⟩
  rw [← nthOp_eq] at ho
  obtain ⟨s, -, s2, -⟩:=h i (List.contains_iff_mem.1 hp.1) o ho hw
  exact s2 w (.inr fun _ _=>rfl)
theorem unwanted_guard {o:Oper} {ts:Nat->Option Bool} (h:Region.wanted o ts=false):o.guard.isNone=false:=by
 unfold Region.wanted at h
 cases hg:o.guard with
 | none=>rw [hg] at h;cases h
 | some _=>rfl
theorem wpl_one {o:Oper} {Q:Exit->Act->World->Prop} {a:Act} {w:World} (h1:Region.wanted o (yielded l.toArray a.tmps)=true->o.wp P a w (fun a w=>Q .normal a w) Q) (h2:Region.wanted o (yielded l.toArray a.tmps)=false->Q .normal (a.put o.dst undef) w):wpList P l.toArray Q [o] a w:=by
 unfold wpList
 cases h:Region.wanted o (yielded l.toArray a.tmps) with
 | true=>simp only [if_true];exact .inl (h1 h)
 | false=>simp only [Bool.false_eq_true,if_false];exact h2 h
theorem vcPl_ok {K:St->Prop} : ∀ {p:Plan} {done:List Nat} {fr:Frs} {st:St}, Plan.pends l p done fr=true->vcPl P l K p st -> ∀ β F ι a w,Holds β F ι st a w->DoneOk P l a w done fr ->
  ∀ Q:Exit->Act->World->Prop,(∀ F' ι' st' a' w',Holds β F' ι' st' a' w'->K st'->Q .normal a' w')->Plan.wp P l.toArray Q p a w
 | .last,done,fr,st,_,h,β,F,ι,a,w,hh,_,Q,hQ=>hQ F ι st a w hh h
 | .seg i p,done,fr,st,hp,h,β,F,ι,a,w,hh,hd,Q,hQ=>by
  have hp:Plan.pends l p (nextDone l i done) (nextFr l i fr)=true:=hp
  intro o ho Q' hQ'
  rw [← nthOp_eq] at ho
  simp only [vcPl,ho] at h
  split at h
  ·rename_i t x y d hdst hg
   obtain ⟨ht,h12⟩:=h
   obtain ⟨h1,h2⟩:=alt_if h12
   have hlt:t<a.tmps.size:=by rw [hh.size];exact ht
   have htold:=told_ok hh hg
   have hw:=gd_ok hh hg
   have hn : ∀ b,(st.told d b).n=st.n:=fun b=>by cases d <;> rfl
   by_cases e:x=y
   ·subst e
    rcases vcS_ok (h1 rfl) with ⟨dd,hK,hE⟩ | hno
    ·obtain ⟨v,hv,hr⟩:=hE β F ι a w htold
     refine wpl_one (fun _ => ?_) (fun hf=>by rw [hw] at hf;simp at hf)
     unfold Oper.wp
     rw [hv w (.inr (Old.refl w)),Oper.upon_value,hdst]
     refine hQ' _ (vcPl_ok hp hK β F ι _ w (htold.put hr (by rw [hn];exact ht)) (done_seg hd ho hdst hlt fun _=>hv) Q hQ)
    ·exact (hno β F ι a w htold).elim
   ·have e':x = !y:=by cases x <;> cases y <;> simp_all
    subst e'
    refine wpl_one (fun hf=>by rw [hw] at hf;cases y <;> simp at hf) (fun hf => ?_)
    rw [hdst]
    exact hQ' _ (vcPl_ok hp (h2 rfl) β F ι _ w (htold.put RV.undef (by rw [hn];exact ht)) (done_seg hd ho hdst hlt fun hw'=>by rw [hf] at hw';cases hw') Q hQ)
  ·exact h.elim
 | .eff j pend p,done,fr,st,hp,h,β,F,ι,a,w,hh,hd,Q,hQ=>by
  simp only [Plan.pends,Bool.and_eq_true] at hp
  intro o ho Q' hQ'
  rw [← nthOp_eq] at ho
  simp only [vcPl,ho] at h
  split at h
  ·rename_i x y d hg
   obtain ⟨ht,h12⟩:=h
   obtain ⟨h1,h2⟩:=alt_if h12
   have htold:=told_ok hh hg
   have hw:=gd_ok hh hg
   have hn : ∀ b,(st.told d b).n=st.n:=fun b=>by cases d <;> rfl
   by_cases e:x=y
   ·subst e
    refine wpl_one (fun _=>vcOp_ok (h1 rfl).2 β F ι a w htold _ _ fun F' ι' st' v w' hold g1 g2 => ?_) (fun hf=>by rw [hw] at hf;simp at hf)
    have hdone:=done_eff (v:=v) hd ho (fun t ht'=>by rw [hh.size];exact ht t ht') (.inl ⟨hold,fun k hk o' ho'=>sep_run htold (h1 rfl).1 hk ho'⟩)
    exact hQ' _ _ (pend_of hdone hp.1) (vcPl_ok hp.2 g2 β F' ι' _ w' g1 hdone Q hQ)
   ·have e':x = !y:=by cases x <;> cases y <;> simp_all
    subst e'
    refine wpl_one (fun hf=>by rw [hw] at hf;cases y <;> simp at hf) (fun hf => ?_)
    have hdone:=done_eff (v:=undef) (pend:=pend) hd ho (fun t ht'=>by rw [hh.size];exact ht t ht') (.inr ⟨rfl,unwanted_guard hf⟩)
    refine hQ' _ _ (pend_of hdone hp.1) (vcPl_ok hp.2 (h2 rfl) β F ι _ w ?_ hdone Q hQ)
    unfold St.skip
    cases hdst:o.dst with
    | none=>exact htold
    | some t=>exact htold.put RV.undef (by rw [hn];exact ht t hdst)
  ·exact h.elim
 | .fork j pend p rest,done,fr,st,hp,h,β,F,ι,a,w,hh,hd,Q,hQ=>by
  simp only [Plan.pends,Bool.and_eq_true] at hp
  simp only [vcPl] at h
  refine ⟨?_,vcPl_ok hp.2 h.2 β F ι a w hh hd Q hQ⟩
  have h:=h.1
  intro o ho Q' hQ'
  rw [← nthOp_eq] at ho
  simp only [ho] at h
  split at h
  ·rename_i x y d hg
   obtain ⟨ht,h12⟩:=h
   obtain ⟨h1,h2⟩:=alt_if h12
   have htold:=told_ok hh hg
   have hw:=gd_ok hh hg
   have hn : ∀ b,(st.told d b).n=st.n:=fun b=>by cases d <;> rfl
   by_cases e:x=y
   ·subst e
    refine wpl_one (fun _=>vcOp_ok (h1 rfl).2 β F ι a w htold _ _ fun F' ι' st' v w' hold g1 g2 => ?_) (fun hf=>by rw [hw] at hf;simp at hf)
    have hdone:=done_eff (v:=v) hd ho (fun t ht'=>by rw [hh.size];exact ht t ht') (.inl ⟨hold,fun k hk o' ho'=>sep_run htold (h1 rfl).1 hk ho'⟩)
    exact hQ' _ _ (pend_of hdone hp.1.1) (vcPl_ok hp.1.2 g2 β F' ι' _ w' g1 hdone Q hQ)
   ·have e':x = !y:=by cases x <;> cases y <;> simp_all
    subst e'
    refine wpl_one (fun hf=>by rw [hw] at hf;cases y <;> simp at hf) (fun hf => ?_)
    have hdone:=done_eff (v:=undef) (pend:=pend) hd ho (fun t ht'=>by rw [hh.size];exact ht t ht') (.inr ⟨rfl,unwanted_guard hf⟩)
    refine hQ' _ _ (pend_of hdone hp.1.1) (vcPl_ok hp.1.2 (h2 rfl) β F ι _ w ?_ hdone Q hQ)
    unfold St.skip
    cases hdst:o.dst with
    | none=>exact htold
    | some t=>exact htold.put RV.undef (by rw [hn];exact ht t hdst)
  ·exact h.elim
abbrev Pls:=List (Nat×List Nat×Plan)
def plAt:Pls->Nat->Option (List Nat×Plan)
 | [],_=>none
 | (i,x)::l,j=>if j=i then some x else plAt l j
def regOk (n:Nat) (l:List Oper) (x:List Nat×Plan):Bool:=planOk l x.1 x.2&&Plan.pends l x.2 [] []&&l.all fun o=>match o.dst with | some d=>decide (d<n) | none=>true
def plsOk (pl:Pls) (n:Nat):Code->Bool
 | .region id ops true=>match plAt pl id with
  | some x=>regOk n ops.toList x
  | none=>false
 | .seq a b=>plsOk pl n a&&plsOk pl n b
 | .cond _ a b=>plsOk pl n a&&plsOk pl n b
 | .block _ a=>plsOk pl n a
 | .loop a=>plsOk pl n a
 | _=>true
theorem Holds.drew {β:Base} {F:Nat->Prop} {ι:Nms} {st:St} {a:Act} {w:World} (h:Holds β F ι st a w):Holds β F ι st a w.drew:=by
 obtain ⟨h1,h2⟩:=h.heap.drew
 exact ⟨h.good,h.defers,h.size,fun t=>(h.tm t).keep h2 (Nms.le_refl _),h1⟩
theorem ev_region_draw {id:Nat} {x:List Nat×Plan} {st:St} {K:Exit->St->Prop} (hm:P.follows .mixedOrders=true) (hok:regOk st.n l x=true) (h:vcPl P l (K .normal) x.2 st):Ev P (.region id l.toArray true) K st:=fun β F ι a w hh Q hQ=>by
 simp only [regOk,Bool.and_eq_true] at hok
 refine wp_region_plan x.1 x.2 hm hok.1.1 (by rw [hh.size];exact hok.2) ?_
 exact vcPl_ok hok.1.2 h β F ι a w.drew hh.drew (fun i hi=>by cases hi) Q fun F' ι' st' a' w' h1 h2=>hQ .normal F' ι' st' a' w' h1 h2
end
def vc (P:Program) (pl:Pls) (n:Nat) (ks:List Nat):Code->(Exit->St->Prop)->St->Prop
 | .skip,K,st=>K .normal st
 | .region _ ops false,K,st=>vcL P ops.toList (onlyK ks K) ops.toList st
 | .region id ops true,K,st=>match plAt pl id with
  | some x=>st.n=n∧vcPl P ops.toList (onlyK ks K) x.2 st
  | none=>False
 | .seq a b,K,st=>vc P pl n ks a (thenK (vc P pl n ks b K) K) st
 | .cond c x y,K,st=>match ev st c with
  | .one (.d (.lit (.bool b)))=>(if b=true then vc P pl n ks x K st else vc P pl n ks y K st)
  | _=>False
 | .block id c,K,st=>vc P pl n ks c (blockK id K) st
 | .exit id,K,st=>K (.exit id) st
 | .ret,K,st=>K .ret st
 | c,K,st=>Ev P c K st
theorem Ev.mono {P:Program} {c:Code} {st:St} {K K':Exit->St->Prop} (h:Ev P c K st) (hk : ∀ e st,K e st->K' e st):Ev P c K' st:=fun β F ι a w hh Q hn=>h β F ι a w hh Q fun e F' ι' st' a' w' h1 h2=>hn e F' ι' st' a' w' h1 (hk _ _ h2)
theorem evl_weakK {P:Program} {l rest:List Oper} {st:St} {K:St->Prop} {f:St->St} (h:EvL P l rest (fun st=>K (f st)) st) (hf : ∀ st,Wk st (f st)):EvL P l rest K st:=fun β F ι a w hh Q hn=>h β F ι a w hh Q fun F' ι' st' a' w' h1 h2=>by
 obtain ⟨F2,ι2,h3⟩:=hf st' β F' ι' a' w' h1
 exact hn F2 ι2 _ a' w' h3 h2
theorem ev_weakK {P:Program} {c:Code} {st:St} {K:Exit->St->Prop} {f:St->St} (h:Ev P c (fun e st=>K e (f st)) st) (hf : ∀ st,Wk st (f st)):Ev P c K st:=fun β F ι a w hh Q hn=>h β F ι a w hh Q fun e F' ι' st' a' w' h1 h2=>by
 obtain ⟨F2,ι2,h3⟩:=hf st' β F' ι' a' w' h1
 exact hn e F2 ι2 _ a' w' h3 h2
theorem vc_ok {P:Program} {pl:Pls} {ks:List Nat} {n:Nat} (hm:P.follows .mixedOrders=true) : ∀ {c:Code} {K:Exit->St->Prop} {st:St}, plsOk pl n c=true->vc P pl n ks c K st->Ev P c K st
 | .skip,K,st,_,h=>ev_skip h
 | .region id ops false,K,st,_,h=>by
  have h':vcL P ops.toList (onlyK ks K) ops.toList st:=h
  have:=ev_region (id:=id) (K:=K) (evl_weakK (f:=fun st=>st.only ks) (K:=K .normal) (vcL_ok h') fun st=>Wk.only st ks)
  simpa using this
 | .region id ops true,K,st,hp,h=>by
  unfold vc at h
  unfold plsOk at hp
  split at h
  ·rename_i x hx
   simp only [hx] at hp
   have:=ev_weakK (ev_region_draw (id:=id) (K:=fun e s=>K e (s.only ks)) hm (by rw [h.1];exact hp) h.2) fun st=>Wk.only st ks
   simpa using this
  ·exact h.elim
 | .seq a b,K,st,hp,h=>by
  simp only [plsOk,Bool.and_eq_true] at hp
  exact ev_seq ((vc_ok hm (c:=a) hp.1 h).mono fun e st h=>by
   cases e with
   | normal=>exact vc_ok hm (c:=b) hp.2 h
   | _=>exact h)
 | .cond c x y,K,st,hp,h=>by
  simp only [plsOk,Bool.and_eq_true] at hp
  unfold vc at h
  split at h
  ·rename_i hc;exact ev_cond hc (fun e=>vc_ok hm hp.1 ((alt_if h).1 e)) (fun e=>vc_ok hm hp.2 ((alt_if h).2 e))
  ·exact h.elim
 | .block id c,K,st,hp,h=>ev_block (vc_ok hm (c:=c) hp h)
 | .exit id,K,st,_,h=>ev_exit h
 | .ret,K,st,_,h=>ev_ret h
 | .loop _,K,st,_,h=>h
 | .rangeFunc .., K,st,_,h=>h
 | .scope _,K,st,_,h=>h
 | .label _,K,st,_,h=>h
 | .goto _,K,st,_,h=>h
 | .refuse _,K,st,_,h=>h
section
variable {P:Program} {pl:Pls} {n0:Nat} {ks:List Nat} {K:Exit->St->Prop} {K1:St->Prop} {n nx:Nat} {tm:List (Nat×D)} {H:Hp}
@[simp] theorem vc_skip:vc P pl n0 ks .skip K ⟨n,tm,H,nx⟩=K .normal ⟨n,tm,H,nx⟩:=rfl
@[simp] theorem vc_region {id:Nat} {ops:List Oper} : vc P pl n0 ks (.region id ops.toArray false) K ⟨n,tm,H,nx⟩=vcL P ops (onlyK ks K) ops ⟨n,tm,H,nx⟩:=rfl
@[simp] theorem vc_draw {id:Nat} {ops:List Oper} : vc P pl n0 ks (.region id ops.toArray true) K ⟨n,tm,H,nx⟩=(match plAt pl id with
  | some x=>n=n0∧vcPl P ops (onlyK ks K) x.2 ⟨n,tm,H,nx⟩
  | none=>False):=rfl
@[simp] theorem vc_seq {a b:Code} : vc P pl n0 ks (.seq a b) K ⟨n,tm,H,nx⟩=vc P pl n0 ks a (thenK (vc P pl n0 ks b K) K) ⟨n,tm,H,nx⟩:=rfl
@[simp] theorem vc_cond {c:Operand} {x y:Code} : vc P pl n0 ks (.cond c x y) K ⟨n,tm,H,nx⟩=(match ev ⟨n,tm,H,nx⟩ c with
  | .one (.d (.lit (.bool b)))=>(if b=true then vc P pl n0 ks x K ⟨n,tm,H,nx⟩ else vc P pl n0 ks y K ⟨n,tm,H,nx⟩)
  | _=>False):=rfl
@[simp] theorem vc_block {id:Nat} {c:Code} : vc P pl n0 ks (.block id c) K ⟨n,tm,H,nx⟩=vc P pl n0 ks c (blockK id K) ⟨n,tm,H,nx⟩:=rfl
@[simp] theorem vc_exit {id:Nat} : vc P pl n0 ks (.exit id) K ⟨n,tm,H,nx⟩=K (.exit id) ⟨n,tm,H,nx⟩:=rfl
@[simp] theorem vc_ret:vc P pl n0 ks .ret K ⟨n,tm,H,nx⟩=K .ret ⟨n,tm,H,nx⟩:=rfl
@[simp] theorem vc_loop {c:Code} : vc P pl n0 ks (.loop c) K ⟨n,tm,H,nx⟩=Ev P (.loop c) K ⟨n,tm,H,nx⟩:=rfl
@[simp] theorem vcL_nil {l:List Oper} : vcL P l K1 [] ⟨n,tm,H,nx⟩=K1 ⟨n,tm,H,nx⟩:=rfl
@[simp] theorem vcL_cons {l rest:List Oper} {o:Oper} : vcL P l K1 (o::rest) ⟨n,tm,H,nx⟩=(match o.guard with
  | none=>dstLt n o.dst=true∧vcOp P false ⟨n,tm,H,nx⟩ o (vcL P l K1 rest)
  | some _=>match gd l ⟨n,tm,H,nx⟩ o with
   | some (x,y,d)=>dstLt n o.dst=true∧(if x=y then vcOp P false (St.told ⟨n,tm,H,nx⟩ d y) o (vcL P l K1 rest) else vcL P l K1 rest ((St.told ⟨n,tm,H,nx⟩ d (!y)).skip o))
   | none=>False):=rfl
@[simp] theorem vcPl_last {l:List Oper} : vcPl P l K1 .last ⟨n,tm,H,nx⟩=K1 ⟨n,tm,H,nx⟩:=rfl
@[simp] theorem vcPl_seg {l:List Oper} {i:Nat} {p:Plan} : vcPl P l K1 (.seg i p) ⟨n,tm,H,nx⟩=(match nthOp l i with
  | some o=>match o.dst,gd l ⟨n,tm,H,nx⟩ o with
   | some t,some (x,y,d)=>t<n∧(if x=y then vcS P (St.told ⟨n,tm,H,nx⟩ d y) o.op (segK (St.told ⟨n,tm,H,nx⟩ d y) t (vcPl P l K1 p)) else vcPl P l K1 p ((St.told ⟨n,tm,H,nx⟩ d (!y)).put t (.tup [])))
   | _,_=>False
  | none=>False):=rfl
@[simp] theorem sepA_nil {l:List Oper} {st:St} {o:Oper} : sepA P l st o []=True:=by unfold sepA;split <;> rfl
@[simp] theorem sepA_cons {l:List Oper} {st:St} {o:Oper} {k:Nat} {ks:List Nat} : sepA P l st o (k::ks)=(match oldSt l o with
  | some x=>sepB P l st x (k::ks)
  | none=>True):=rfl
@[simp] theorem quietP_eq {l:List Oper} {pend:List Nat} {o:Oper} : quietP l pend o=if lateCall o.op=true then pend.any (fun k=>match nthOp l k with | some o' => !freeO o'.op | none=>true) else !pend.isEmpty:=rfl
@[simp] theorem vcPl_eff {l:List Oper} {j:Nat} {pend:List Nat} {p:Plan} : vcPl P l K1 (.eff j pend p) ⟨n,tm,H,nx⟩=(match nthOp l j with
  | some o=>match gd l ⟨n,tm,H,nx⟩ o with
   | some (x,y,d)=>(∀ t,o.dst=some t->t<n)∧(if x=y then sepA P l (St.told ⟨n,tm,H,nx⟩ d y) o pend∧vcOp P (quietP l pend o) (St.told ⟨n,tm,H,nx⟩ d y) o (vcPl P l K1 p) else vcPl P l K1 p ((St.told ⟨n,tm,H,nx⟩ d (!y)).skip o))
   | none=>False
  | none=>False):=rfl
@[simp] theorem vcPl_fork {l:List Oper} {j:Nat} {pend:List Nat} {p rest:Plan} : vcPl P l K1 (.fork j pend p rest) ⟨n,tm,H,nx⟩=(vcPl P l K1 (.eff j pend p) ⟨n,tm,H,nx⟩∧vcPl P l K1 rest ⟨n,tm,H,nx⟩):=rfl
@[simp] theorem segK_mk {t:Nat} {d:D} : segK ⟨n,tm,H,nx⟩ t K1 d=K1 ⟨n,ins tm t d,H,nx⟩:=rfl
@[simp] theorem putD_mk {o:Oper} {d:D} : putD ⟨n,tm,H,nx⟩ o K1 d=(match o.dst with
  | some t=>t<n∧K1 ⟨n,ins tm t d,H,nx⟩
  | none=>False):=rfl
@[simp] theorem onlyK_mk:onlyK ks K ⟨n,tm,H,nx⟩=K .normal ⟨n,keepT tm ks,H,nx⟩:=rfl
@[simp] theorem thenK_normal:thenK K1 K .normal ⟨n,tm,H,nx⟩=K1 ⟨n,tm,H,nx⟩:=rfl
@[simp] theorem thenK_exit {id:Nat} : thenK K1 K (.exit id) ⟨n,tm,H,nx⟩=K (.exit id) ⟨n,tm,H,nx⟩:=rfl
@[simp] theorem thenK_ret:thenK K1 K .ret ⟨n,tm,H,nx⟩=K .ret ⟨n,tm,H,nx⟩:=rfl
@[simp] theorem blockK_normal {id:Nat} : blockK id K .normal ⟨n,tm,H,nx⟩=K .normal ⟨n,tm,H,nx⟩:=rfl
@[simp] theorem blockK_ret {id:Nat} : blockK id K .ret ⟨n,tm,H,nx⟩=K .ret ⟨n,tm,H,nx⟩:=rfl
@[simp] theorem blockK_exit {id id':Nat} : blockK id K (.exit id') ⟨n,tm,H,nx⟩=if id'=id then K .normal ⟨n,tm,H,nx⟩ else K (.exit id') ⟨n,tm,H,nx⟩:=rfl
@[simp] theorem loopK_normal {α:Type} {S:α->St} {m:α->Nat} {x:α} : loopK S m x K .normal ⟨n,tm,H,nx⟩ = ∃ x',m x'<m x∧Wk ⟨n,tm,H,nx⟩ (S x'):=rfl
@[simp] theorem loopK_exit {α:Type} {S:α->St} {m:α->Nat} {x:α} {id:Nat} : loopK S m x K (.exit id) ⟨n,tm,H,nx⟩=K (.exit id) ⟨n,tm,H,nx⟩:=rfl
@[simp] theorem loopK_ret {α:Type} {S:α->St} {m:α->Nat} {x:α} : loopK S m x K .ret ⟨n,tm,H,nx⟩=K .ret ⟨n,tm,H,nx⟩:=rfl
@[simp] theorem callK_mk {t:Option Nat} {d:D} {fr:List Blk} : callK ⟨n,tm,H,nx⟩ t K1 d fr=K1 ((St.adds ⟨n,tm,H,nx⟩ fr).putO t (d.ren (· + nx))):=rfl
@[simp] theorem callKI_mk {t:Option Nat} {d:D} {H':Hp} {nx':Nat} : callKI ⟨n,tm,H,nx⟩ t K1 d H' nx'=K1 (St.putO ⟨n,tm,H',nx'⟩ t d):=rfl
@[simp] theorem lendK_mk {t:Option Nat} {d:D} : lendK ⟨n,tm,H,nx⟩ t K1 d=(d.litD∧K1 (St.putO ⟨n,tm,H,nx⟩ t d)):=rfl
@[simp] theorem quietK_mk {t:Option Nat} {d:D} {H':Hp} {nx':Nat} : quietK ⟨n,tm,H,nx⟩ t K1 d H' nx'=((∀ i x,H' i=some x->nx≤i ∧ ∀ e∈x.es, ∀ c∈e,c.newC=true)∧d.newD∧K1 (St.putO ⟨n,tm,Hp.mer H nx H',nx'⟩ t d)):=rfl
def retPI (P:Program) (rs:List ResultVar) (K:D->Hp->Nat->Prop) (st:St):Prop:=match resDs P st rs with
 | some ds=>(resT ds).sol∧HSol st.H∧K (resT ds) st.H st.nx
 | none=>False
theorem retPI_ok {rs:List ResultVar} {K:D->Hp->Nat->Prop} {st:St} (h:retPI P rs K st):retI P rs K .ret st:=by
 unfold retPI at h
 split at h
 ·rename_i ds h1;exact ⟨ds,h1,h⟩
 ·exact h.elim
def retJ (P:Program) (rs:List ResultVar) (K:D->Hp->Nat->Prop):Exit->St->Prop
 | .normal,st | .ret,st=>retPI P rs K st
 | _,_=>False
theorem retJ_ok {rs:List ResultVar} {K:D->Hp->Nat->Prop} {e:Exit} {st:St} (h:retJ P rs K e st):retI P rs K e st:=by
 cases e <;> first | exact retPI_ok h | exact h.elim
@[simp] theorem retJ_normal {rs:List ResultVar} {K:D->Hp->Nat->Prop} : retJ P rs K .normal ⟨n,tm,H,nx⟩=match resDs P ⟨n,tm,H,nx⟩ rs with
  | some ds=>(resT ds).sol∧HSol H∧K (resT ds) H nx
  | none=>False:=rfl
@[simp] theorem retJ_ret {rs:List ResultVar} {K:D->Hp->Nat->Prop} : retJ P rs K .ret ⟨n,tm,H,nx⟩=match resDs P ⟨n,tm,H,nx⟩ rs with
  | some ds=>(resT ds).sol∧HSol H∧K (resT ds) H nx
  | none=>False:=rfl
def retP (P:Program) (rs:List ResultVar) (K:D->List Blk->Prop) (st:St):Prop:=match resDs P st rs with
 | some ds=>(resT ds).owns.Nodup∧(resT ds).okX (fun n=>n∈(resT ds).owns)∧match blks st.H (resT ds).owns with
  | some fr=>K ((resT ds).ren fun n=>(resT ds).owns.idxOf n) fr
  | none=>False
 | none=>False
theorem retP_ok {rs:List ResultVar} {K:D->List Blk->Prop} {st:St} (h:retP P rs K st):retK P rs K .ret st:=by
 unfold retP at h
 split at h
 ·rename_i ds h1
  obtain ⟨h2,h3,h⟩:=h
  split at h
  ·rename_i fr h4;exact ⟨ds,fr,h1,h2,h3,h4,h⟩
  ·exact h.elim
 ·exact h.elim
def retQ (P:Program) (rs:List ResultVar) (K:D->List Blk->Prop):Exit->St->Prop
 | .normal,st | .ret,st=>retP P rs K st
 | _,_=>False
theorem retQ_ok {rs:List ResultVar} {K:D->List Blk->Prop} {e:Exit} {st:St} (h:retQ P rs K e st):retK P rs K e st:=by
 cases e <;> first | exact retP_ok h | exact h.elim
@[simp] theorem retQ_normal {rs:List ResultVar} {K:D->List Blk->Prop} : retQ P rs K .normal ⟨n,tm,H,nx⟩=retP P rs K ⟨n,tm,H,nx⟩:=rfl
@[simp] theorem retQ_ret {rs:List ResultVar} {K:D->List Blk->Prop} : retQ P rs K .ret ⟨n,tm,H,nx⟩=retP P rs K ⟨n,tm,H,nx⟩:=rfl
@[simp] theorem retP_mk {rs:List ResultVar} {K:D->List Blk->Prop} : retP P rs K ⟨n,tm,H,nx⟩=match resDs P ⟨n,tm,H,nx⟩ rs with
 | some ds=>(resT ds).owns.Nodup∧(resT ds).okX (fun n=>n∈(resT ds).owns)∧match blks H (resT ds).owns with
  | some fr=>K ((resT ds).ren fun n=>(resT ds).owns.idxOf n) fr
  | none=>False
 | none=>False:=rfl
theorem fn_ok {f:FuncId} {fn:Func} {c:Code} {ds:List D} {rs:List ResultVar} {m:Nat} {K:D->List Blk->Prop} (ks:List Nat) (pl:Pls) (hf:P.funcs[f]? = some fn) (hb:fn.body=some c) (hg:goFn P f=true) (hr:fn.results.toList=rs) (hm:fn.ntmps=m) (hn:decide (ds.length≤m)=true)
  (hx:P.follows .mixedOrders=true) (hp:plsOk pl m c=true) (h:vc P pl m ks c (retQ P rs K) ⟨m,tms 0 ds,Hp.none,0⟩):DPure P f ds K:=by
 subst hr hm
 exact dpure_of_ev hf hb hg (by simpa using hn) ((vc_ok hx hp h).mono fun e st h=>retQ_ok h)
theorem fni_ok {f:FuncId} {fn:Func} {c:Code} {ds:List D} {rs:List ResultVar} {m:Nat} {K:D->Hp->Nat->Prop} (ks:List Nat) (pl:Pls) (hf:P.funcs[f]? = some fn) (hb:fn.body=some c) (hg:goFn P f=true) (hr:fn.results.toList=rs) (hm:fn.ntmps=m) (hn:decide (ds.length≤m)=true)
  (hx:P.follows .mixedOrders=true) (hp:plsOk pl m c=true) (h:vc P pl m ks c (retJ P rs K) ⟨m,tms 0 ds,H,nx⟩):ICall P f ds H nx K:=by
 subst hr hm
 exact icall_of_ev hf hb hg (by simpa using hn) ((vc_ok hx hp h).mono fun e st h=>retJ_ok h)
def retW (P:Program) (rs:List ResultVar) (K:D->List Blk->Prop):Exit->St->Prop
 | .normal,st | .ret,st => ∃ st',Wk st st'∧retP P rs K st'
 | _,_=>False
@[simp] theorem retW_normal {rs:List ResultVar} {K:D->List Blk->Prop} : retW P rs K .normal ⟨n,tm,H,nx⟩ = ∃ st',Wk ⟨n,tm,H,nx⟩ st'∧retP P rs K st':=rfl
@[simp] theorem retW_ret {rs:List ResultVar} {K:D->List Blk->Prop} : retW P rs K .ret ⟨n,tm,H,nx⟩ = ∃ st',Wk ⟨n,tm,H,nx⟩ st'∧retP P rs K st':=rfl
def retJW (P:Program) (rs:List ResultVar) (K:D->Hp->Nat->Prop):Exit->St->Prop
 | .normal,st | .ret,st => ∃ st',Wk st st'∧retPI P rs K st'
 | _,_=>False
@[simp] theorem retJW_normal {rs:List ResultVar} {K:D->Hp->Nat->Prop} : retJW P rs K .normal ⟨n,tm,H,nx⟩ = ∃ st',Wk ⟨n,tm,H,nx⟩ st'∧retPI P rs K st':=rfl
@[simp] theorem retJW_ret {rs:List ResultVar} {K:D->Hp->Nat->Prop} : retJW P rs K .ret ⟨n,tm,H,nx⟩ = ∃ st',Wk ⟨n,tm,H,nx⟩ st'∧retPI P rs K st':=rfl
theorem DPure.own {f:FuncId} {ds:List D} {K:D->List Blk->Prop} (e:TypeId) (k:Nat) (h:DPure P f ds fun d fr=>K d fr∨(d = .one (.d .emp)∧fr=[]∧K (.one (.own 0 k 0)) [⟨.c e,k,[]⟩])):DPure P f ds K :=
 ⟨h.1,fun F w vs h1 hgl h2=>(h.2 F w vs h1 hgl h2).mono fun _ w' ⟨F',ι,d,fr,v,e1,e2,e3⟩=>by
  rcases e3 with e3 | ⟨rfl,rfl,e3⟩
  ·exact ⟨F',ι,d,fr,v,e1,e2,e3⟩
  ·refine ⟨F',fun i=>if i=0 then some (0,0) else none,_,_,v,e1,⟨e2.size,e2.old,e2.Fle,e2.new,fun i x hx => ?_,fun i b cap hi hb hc => ?_,fun i j b c c' hi hj hb hb' hc => ?_,fun i hi => ?_,?_,e2.io⟩,e3⟩
   ·cases i with
    | zero =>
     simp only [List.getElem?_cons_zero,Option.some.injEq] at hx
     subst hx
     exact ⟨⟨0,0,rfl,Nat.le_refl _,by simp,fun h=>absurd h (by omega)⟩,fun e he=>by cases he⟩
    | succ i=>simp at hx
   ·simp at hi;subst hi;simp at hb;omega
   ·simp at hi;subst hi;simp at hb;omega
   ·simp at hi;have:i≠0:=by omega
    simp [this]
   ·have hv:=e2.val
    rw [RV] at hv ⊢
    have hv' : ∃ A,v = .slice A 0 0:=by cases hv;exact ⟨_,rfl⟩
    exact ⟨0,0,rfl,Nat.le_refl _,by simp [maxLen],.inl ⟨rfl,hv'⟩⟩⟩
def puts (tm:List (Nat×D)):List (Nat×D)->List (Nat×D)
 | []=>tm
 | (t,d)::l=>puts (ins tm t d) l
theorem loop_ok {α:Type} {c:Code} (u:α->List (Nat×D)) (m:α->Nat) (x0:α) (hx:P.follows .mixedOrders=true) (hp:plsOk pl n0 c=true) (h0:Wk ⟨n,tm,H,nx⟩ ⟨n,puts tm (u x0),H,nx⟩)
  (round : ∀ x,vc P pl n0 ks c (loopK (fun x=>⟨n,puts tm (u x),H,nx⟩) m x K) ⟨n,puts tm (u x),H,nx⟩):Ev P (.loop c) K ⟨n,tm,H,nx⟩ :=
 ev_loop (fun x=>⟨n,puts tm (u x),H,nx⟩) m x0 h0 fun x=>vc_ok hx hp (round x)
theorem Wk.sub {tm':List (Nat×D)} (h:keepT tm (tm'.map (·.1))=tm'):Wk ⟨n,tm,H,nx⟩ ⟨n,tm',H,nx⟩:=by
 have:=Wk.only ⟨n,tm,H,nx⟩ (tm'.map (·.1))
 simp only [St.only] at this
 rwa [h] at this
end
@[simp] theorem lends_map {H:Hp} {l:List D} : ∀ fs:List Dt,lends H (fs.map (fun x=>D.one (C.d x))++l)=(lends H l).map fun r=>fs.map (fun x=>D.one (C.d x))++r
 | []=>by simp
 | f::fs=>by
  simp only [List.map_cons,List.cons_append,lends,lendD,lendC,Option.map_some,Option.bind_some,lends_map fs]
  cases lends H l <;> rfl
@[simp] theorem lends_map0 {H:Hp} (fs:List Dt):lends H (fs.map (fun x=>D.one (C.d x)))=some (fs.map fun x=>D.one (C.d x)):=by
 have:=lends_map (H:=H) (l := []) fs
 simpa [lends] using this
@[simp] theorem solid_lit (v:Value):(Dt.lit v).solidT=true:=rfl
@[simp] theorem solid_emp:Dt.emp.solidT=true:=rfl
@[simp] theorem solid_sl (S:Bool) (es:List (List Dt)):(Dt.sl S es).solidT=S:=rfl
@[simp] theorem solid_at (S:Bool) (es:List Dt):(Dt.at_ S es).solidT=S:=rfl
@[simp] theorem solid_fn (f:Fn) (fs cs:List Dt):(Dt.fn f fs cs).solidT=(fs.isEmpty&&cs.isEmpty):=rfl
@[simp] theorem isD_d (x:Dt):(C.d x).isD=x.solidT:=rfl
@[simp] theorem isD_own (n k l:Nat):(C.own n k l).isD=false:=rfl
@[simp] theorem isD_ptr (n k i o:Nat):(C.ptr n k i o).isD=false:=rfl
@[simp] theorem isD_map (n:Nat):(C.map n).isD=false:=rfl
@[simp] theorem isD_any:C.any.isD=false:=rfl
@[simp] theorem dt_d (x:Dt):(C.d x).dt=x:=rfl
@[simp] theorem solidC_d (x:Dt):(C.d x).solidC=x.solidT:=rfl
@[simp] theorem solidC_own (n k l:Nat):(C.own n k l).solidC=true:=rfl
@[simp] theorem solidC_map (n:Nat):(C.map n).solidC=true:=rfl
@[simp] theorem solidC_ptr (n k i o:Nat):(C.ptr n k i o).solidC=true:=rfl
attribute [simp] newO sepB sepD oldSt isLd frzI vcFzI mutFn vcMk vcMkP capOf capsOf Cap.D Cap.ren Cap.solid wrFn frzFn extP vcFz keyD mapOf St.newMap fltA vcFlt vcExt ext ext1 dstLt keepF ascB Value.oneCell' Hp.set_ne D.sol Ds.sol hasPtr vcCI vcCQ D.newD Ds.newD C.newC lndFn D.litD Ds.litD vcB2s vcSlA C.litC putK vcNil isNilC vcOp vcS vcC vcLen vcApp plAt puts gd nthOp ev lk ins St.put St.skip St.told St.only keepT St.adds St.putO addsH litOf aggOf intsOf intOf? lenOf? idxA fieldA rd sc ofVal cellOf resDs resD resT tms Ds.ren D.ren C.ren D.owns Ds.owns ownsC D.okX Ds.okX C.okX blks lends lendD lendC lendCs callArgs Dcells splice layC layE partD optInt subC dsOf ptrOf St.frzs St.frz frzT D.frz C.frz baseOf srcOf St.row dropO Hp.set Hp.none St.newVar
theorem Wk.of_eq {st st':St} (h:st=st'):Wk st st':=h▸Wk.refl st
theorem wrap_id {n:Int} (h1 : -9223372036854775808≤n) (h2:n≤9223372036854775807):IntKind.i64.wrap n=n:=IntWalk.i64_in n ⟨h1,h2⟩
theorem alt {c:Prop} [Decidable c] {A B:Prop} (h:c->A) (g : ¬ c->B):if c then A else B:=by
 by_cases e:c
 ·rw [if_pos e];exact h e
 ·rw [if_neg e];exact g e
@[simp] theorem arr144:arrOf Tryz.prog 144=some (8,3,1,false):=by kernel_rfl
@[simp] theorem arr199:arrOf Tryz.prog 199=some (16,9,1,false):=by kernel_rfl
@[simp] theorem arr224:arrOf Tryz.prog 224=some (3,3,1,false):=by kernel_rfl
@[simp] theorem arr257:arrOf Tryz.prog 257=some (24,5,1,false):=by kernel_rfl
@[simp] theorem arr279:arrOf Tryz.prog 279=some (65,5,1,false):=by kernel_rfl
@[simp] theorem arr286:arrOf Tryz.prog 286=some (39,9,1,false):=by kernel_rfl
@[simp] theorem bool4:boolT Tryz.prog 4=true:=by kernel_rfl
@[simp] theorem by100:byOf Tryz.prog 100=some 96:=by kernel_rfl
@[simp] theorem by118:byOf Tryz.prog 118=some 16:=by kernel_rfl
@[simp] theorem by147:byOf Tryz.prog 147=some 16:=by kernel_rfl
@[simp] theorem by168:byOf Tryz.prog 168=some 32:=by kernel_rfl
@[simp] theorem by207:byOf Tryz.prog 207=some 24:=by kernel_rfl
@[simp] theorem by24:byOf Tryz.prog 24=some 24:=by kernel_rfl
@[simp] theorem by3:byOf Tryz.prog 3=some 8:=by kernel_rfl
@[simp] theorem by31:byOf Tryz.prog 31=some 16:=by kernel_rfl
@[simp] theorem by4:byOf Tryz.prog 4=some 1:=by kernel_rfl
@[simp] theorem by5:byOf Tryz.prog 5=some 1:=by kernel_rfl
@[simp] theorem by55:byOf Tryz.prog 55=some 24:=by kernel_rfl
@[simp] theorem by75:byOf Tryz.prog 75=some 64:=by kernel_rfl
@[simp] theorem by88:byOf Tryz.prog 88=some 24:=by kernel_rfl
@[simp] theorem by9:byOf Tryz.prog 9=some 16:=by kernel_rfl
@[simp] theorem by90:byOf Tryz.prog 90=some 56:=by kernel_rfl
@[simp] theorem by98:byOf Tryz.prog 98=some 24:=by kernel_rfl
@[simp] theorem el152:elOf Tryz.prog 152=some (207,1):=by kernel_rfl
@[simp] theorem el153:elOf Tryz.prog 153=some (55,1):=by kernel_rfl
@[simp] theorem el164:elOf Tryz.prog 164=some (168,2):=by kernel_rfl
@[simp] theorem el207:elOf Tryz.prog 207=some (98,1):=by kernel_rfl
@[simp] theorem el215:elOf Tryz.prog 215=some (5,1):=by kernel_rfl
@[simp] theorem el22:elOf Tryz.prog 22=some (75,4):=by kernel_rfl
@[simp] theorem el23:elOf Tryz.prog 23=some (118,2):=by kernel_rfl
@[simp] theorem el24:elOf Tryz.prog 24=some (9,1):=by kernel_rfl
@[simp] theorem el25:elOf Tryz.prog 25=some (90,5):=by kernel_rfl
@[simp] theorem el26:elOf Tryz.prog 26=some (88,3):=by kernel_rfl
@[simp] theorem el27:elOf Tryz.prog 27=some (31,2):=by kernel_rfl
@[simp] theorem el37:elOf Tryz.prog 37=some (97,5):=by kernel_rfl
@[simp] theorem el40:elOf Tryz.prog 40=some (3,1):=by kernel_rfl
@[simp] theorem el55:elOf Tryz.prog 55=some (4,1):=by kernel_rfl
@[simp] theorem el69:elOf Tryz.prog 69=some (24,1):=by kernel_rfl
@[simp] theorem el73:elOf Tryz.prog 73=some (100,8):=by kernel_rfl
@[simp] theorem el95:elOf Tryz.prog 95=some (103,5):=by kernel_rfl
@[simp] theorem el98:elOf Tryz.prog 98=some (147,2):=by kernel_rfl
@[simp] theorem eqi118:EqI Tryz.prog 118 2:=by
 intro x y l m w hl hm
 obtain ⟨a0,a1,rfl⟩ : ∃ a0 a1,l=[a0,a1]:=by match l,hl with | [a0,a1],_=>exact ⟨a0,a1,rfl⟩
 obtain ⟨b0,b1,rfl⟩ : ∃ b0 b1,m=[b0,b1]:=by match m,hm with | [b0,b1],_=>exact ⟨b0,b1,rfl⟩
 constructor <;> (simp [go_sem];by_cases h0:a0=b0 <;> by_cases h1:a1=b1 <;> simp [h0,h1])
@[simp] theorem eqi147:EqI Tryz.prog 147 2:=by
 intro x y l m w hl hm
 obtain ⟨a0,a1,rfl⟩ : ∃ a0 a1,l=[a0,a1]:=by match l,hl with | [a0,a1],_=>exact ⟨a0,a1,rfl⟩
 obtain ⟨b0,b1,rfl⟩ : ∃ b0 b1,m=[b0,b1]:=by match m,hm with | [b0,b1],_=>exact ⟨b0,b1,rfl⟩
 constructor <;> (simp [go_sem];by_cases h0:a0=b0 <;> by_cases h1:a1=b1 <;> simp [h0,h1])
@[simp] theorem eqi31:EqI Tryz.prog 31 2:=by
 intro x y l m w hl hm
 obtain ⟨a0,a1,rfl⟩ : ∃ a0 a1,l=[a0,a1]:=by match l,hl with | [a0,a1],_=>exact ⟨a0,a1,rfl⟩
 obtain ⟨b0,b1,rfl⟩ : ∃ b0 b1,m=[b0,b1]:=by match m,hm with | [b0,b1],_=>exact ⟨b0,b1,rfl⟩
 constructor <;> (simp [go_sem];by_cases h0:a0=b0 <;> by_cases h1:a1=b1 <;> simp [h0,h1])
@[simp] theorem fld100_0:fldOf Tryz.prog 100 0=some (0,1):=by kernel_rfl
@[simp] theorem fld100_1:fldOf Tryz.prog 100 1=some (1,1):=by kernel_rfl
@[simp] theorem fld100_2:fldOf Tryz.prog 100 2=some (2,1):=by kernel_rfl
@[simp] theorem fld100_3:fldOf Tryz.prog 100 3=some (3,1):=by kernel_rfl
@[simp] theorem fld100_4:fldOf Tryz.prog 100 4=some (4,2):=by kernel_rfl
@[simp] theorem fld100_5:fldOf Tryz.prog 100 5=some (6,1):=by kernel_rfl
@[simp] theorem fld100_6:fldOf Tryz.prog 100 6=some (7,1):=by kernel_rfl
@[simp] theorem fld103_0:fldOf Tryz.prog 103 0=some (0,1):=by kernel_rfl
@[simp] theorem fld103_1:fldOf Tryz.prog 103 1=some (1,1):=by kernel_rfl
@[simp] theorem fld103_2:fldOf Tryz.prog 103 2=some (2,1):=by kernel_rfl
@[simp] theorem fld103_3:fldOf Tryz.prog 103 3=some (3,1):=by kernel_rfl
@[simp] theorem fld103_4:fldOf Tryz.prog 103 4=some (4,1):=by kernel_rfl
@[simp] theorem fld118_0:fldOf Tryz.prog 118 0=some (0,1):=by kernel_rfl
@[simp] theorem fld118_1:fldOf Tryz.prog 118 1=some (1,1):=by kernel_rfl
@[simp] theorem fld155_0:fldOf Tryz.prog 155 0=some (0,3):=by kernel_rfl
@[simp] theorem fld155_1:fldOf Tryz.prog 155 1=some (3,1):=by kernel_rfl
@[simp] theorem fld155_2:fldOf Tryz.prog 155 2=some (4,1):=by kernel_rfl
@[simp] theorem fld155_3:fldOf Tryz.prog 155 3=some (5,1):=by kernel_rfl
@[simp] theorem fld155_4:fldOf Tryz.prog 155 4=some (6,1):=by kernel_rfl
@[simp] theorem fld168_0:fldOf Tryz.prog 168 0=some (0,1):=by kernel_rfl
@[simp] theorem fld168_1:fldOf Tryz.prog 168 1=some (1,1):=by kernel_rfl
@[simp] theorem fld172_0:fldOf Tryz.prog 172 0=some (0,1):=by kernel_rfl
@[simp] theorem fld172_1:fldOf Tryz.prog 172 1=some (1,1):=by kernel_rfl
@[simp] theorem fld172_2:fldOf Tryz.prog 172 2=some (2,1):=by kernel_rfl
@[simp] theorem fld172_3:fldOf Tryz.prog 172 3=some (3,1):=by kernel_rfl
@[simp] theorem fld248_0:fldOf Tryz.prog 248 0=some (0,3):=by kernel_rfl
@[simp] theorem fld248_1:fldOf Tryz.prog 248 1=some (3,5):=by kernel_rfl
@[simp] theorem fld252_0:fldOf Tryz.prog 252 0=some (0,5):=by kernel_rfl
@[simp] theorem fld252_1:fldOf Tryz.prog 252 1=some (5,1):=by kernel_rfl
@[simp] theorem fld252_2:fldOf Tryz.prog 252 2=some (6,1):=by kernel_rfl
@[simp] theorem fld252_3:fldOf Tryz.prog 252 3=some (7,1):=by kernel_rfl
@[simp] theorem fld252_4:fldOf Tryz.prog 252 4=some (8,1):=by kernel_rfl
@[simp] theorem fld29_0:fldOf Tryz.prog 29 0=some (0,1):=by kernel_rfl
@[simp] theorem fld29_1:fldOf Tryz.prog 29 1=some (1,1):=by kernel_rfl
@[simp] theorem fld29_2:fldOf Tryz.prog 29 2=some (2,1):=by kernel_rfl
@[simp] theorem fld29_3:fldOf Tryz.prog 29 3=some (3,1):=by kernel_rfl
@[simp] theorem fld29_4:fldOf Tryz.prog 29 4=some (4,1):=by kernel_rfl
@[simp] theorem fld29_5:fldOf Tryz.prog 29 5=some (5,1):=by kernel_rfl
@[simp] theorem fld29_6:fldOf Tryz.prog 29 6=some (6,1):=by kernel_rfl
@[simp] theorem fld29_7:fldOf Tryz.prog 29 7=some (7,1):=by kernel_rfl
@[simp] theorem fld31_0:fldOf Tryz.prog 31 0=some (0,1):=by kernel_rfl
@[simp] theorem fld31_1:fldOf Tryz.prog 31 1=some (1,1):=by kernel_rfl
@[simp] theorem fld39_0:fldOf Tryz.prog 39 0=some (0,1):=by kernel_rfl
@[simp] theorem fld39_1:fldOf Tryz.prog 39 1=some (1,1):=by kernel_rfl
@[simp] theorem fld39_2:fldOf Tryz.prog 39 2=some (2,1):=by kernel_rfl
@[simp] theorem fld65_0:fldOf Tryz.prog 65 0=some (0,1):=by kernel_rfl
@[simp] theorem fld75_0:fldOf Tryz.prog 75 0=some (0,1):=by kernel_rfl
@[simp] theorem fld75_1:fldOf Tryz.prog 75 1=some (1,1):=by kernel_rfl
@[simp] theorem fld75_2:fldOf Tryz.prog 75 2=some (2,1):=by kernel_rfl
@[simp] theorem fld75_3:fldOf Tryz.prog 75 3=some (3,1):=by kernel_rfl
@[simp] theorem fld88_0:fldOf Tryz.prog 88 0=some (0,1):=by kernel_rfl
@[simp] theorem fld88_1:fldOf Tryz.prog 88 1=some (1,2):=by kernel_rfl
@[simp] theorem fld90_0:fldOf Tryz.prog 90 0=some (0,1):=by kernel_rfl
@[simp] theorem fld90_1:fldOf Tryz.prog 90 1=some (1,1):=by kernel_rfl
@[simp] theorem fld90_2:fldOf Tryz.prog 90 2=some (2,1):=by kernel_rfl
@[simp] theorem fld90_3:fldOf Tryz.prog 90 3=some (3,2):=by kernel_rfl
@[simp] theorem fld97_0:fldOf Tryz.prog 97 0=some (0,1):=by kernel_rfl
@[simp] theorem fld97_1:fldOf Tryz.prog 97 1=some (1,1):=by kernel_rfl
@[simp] theorem fld97_2:fldOf Tryz.prog 97 2=some (2,1):=by kernel_rfl
@[simp] theorem fld97_3:fldOf Tryz.prog 97 3=some (3,1):=by kernel_rfl
@[simp] theorem fld97_4:fldOf Tryz.prog 97 4=some (4,1):=by kernel_rfl
@[simp] theorem flds118:fldsOf Tryz.prog 118=some [(0,1),(1,1)]:=by kernel_rfl
@[simp] theorem flds147:fldsOf Tryz.prog 147=some [(0,1),(1,1)]:=by kernel_rfl
@[simp] theorem flds155:fldsOf Tryz.prog 155=some [(0,3),(3,1),(4,1),(5,1),(6,1)]:=by kernel_rfl
@[simp] theorem flds168:fldsOf Tryz.prog 168=some [(0,1),(1,1)]:=by kernel_rfl
@[simp] theorem flds172:fldsOf Tryz.prog 172=some [(0,1),(1,1),(2,1),(3,1)]:=by kernel_rfl
@[simp] theorem flds248:fldsOf Tryz.prog 248=some [(0,3),(3,5)]:=by kernel_rfl
@[simp] theorem flds252:fldsOf Tryz.prog 252=some [(0,5),(5,1),(6,1),(7,1),(8,1)]:=by kernel_rfl
@[simp] theorem flds29:fldsOf Tryz.prog 29=some [(0,1),(1,1),(2,1),(3,1),(4,1),(5,1),(6,1),(7,1)]:=by kernel_rfl
@[simp] theorem flds31:fldsOf Tryz.prog 31=some [(0,1),(1,1)]:=by kernel_rfl
@[simp] theorem flds65:fldsOf Tryz.prog 65=some [(0,1)]:=by kernel_rfl
@[simp] theorem flds75:fldsOf Tryz.prog 75=some [(0,1),(1,1),(2,1),(3,1)]:=by kernel_rfl
@[simp] theorem flds88:fldsOf Tryz.prog 88=some [(0,1),(1,2)]:=by kernel_rfl
@[simp] theorem flt83:fltT Tryz.prog 83=true:=by kernel_rfl
@[simp] theorem int130:intT Tryz.prog 130=some .u64:=by kernel_rfl
@[simp] theorem int210:intT Tryz.prog 210=some .u64:=by kernel_rfl
@[simp] theorem int262:intT Tryz.prog 262=some .u32:=by kernel_rfl
@[simp] theorem int3:intT Tryz.prog 3=some .i64:=by kernel_rfl
@[simp] theorem map151:mapT Tryz.prog 151=some 3:=by kernel_rfl
@[simp] theorem keyed3:Go.Maps.Keyed Tryz.prog 3:=Go.Maps.int_keyed (q := .i64) (by kernel_rfl)
theorem keyin3 {n:Int} (h : -9223372036854775808≤n∧n≤9223372036854775807):KeyIn 3 (.int .i64 n):=⟨_,Go.Maps.keyOf_int_mk (by kernel_rfl) (WalkArith.wf_i64 h)⟩
@[simp] theorem map235:mapT Tryz.prog 235=some 118:=by kernel_rfl
@[simp] theorem map236:mapT Tryz.prog 236=some 9:=by kernel_rfl
@[simp] theorem keyed9:Go.Maps.Keyed Tryz.prog 9:=Go.Maps.string_keyed (by kernel_rfl)
theorem keyin9 {s:ByteArray} (h:s.size≤maxLen):KeyIn 9 (.string s):=⟨_,Go.WideMaps.keyOf_string_mk (by kernel_rfl) h⟩
@[simp] theorem arr23:arrOf Tryz.prog 23=none:=by kernel_rfl
@[simp] theorem arr24:arrOf Tryz.prog 24=none:=by kernel_rfl
@[simp] theorem arr27:arrOf Tryz.prog 27=none:=by kernel_rfl
@[simp] theorem arr40:arrOf Tryz.prog 40=none:=by kernel_rfl
@[simp] theorem arr9:arrOf Tryz.prog 9=none:=by kernel_rfl
@[simp] theorem arr98:arrOf Tryz.prog 98=none:=by kernel_rfl
@[simp] theorem el199:elOf Tryz.prog 199=none:=by kernel_rfl
@[simp] theorem el279:elOf Tryz.prog 279=none:=by kernel_rfl
@[simp] theorem el286:elOf Tryz.prog 286=none:=by kernel_rfl
@[simp] theorem flds144:fldsOf Tryz.prog 144=none:=by kernel_rfl
@[simp] theorem flds199:fldsOf Tryz.prog 199=none:=by kernel_rfl
@[simp] theorem flds224:fldsOf Tryz.prog 224=none:=by kernel_rfl
@[simp] theorem flds286:fldsOf Tryz.prog 286=none:=by kernel_rfl
@[simp] theorem int83:intT Tryz.prog 83=none:=by kernel_rfl
@[simp] theorem ptrT135:ptrT Tryz.prog 135=true:=by kernel_rfl
@[simp] theorem row100:rowT Tryz.prog 100=some true:=by kernel_rfl
@[simp] theorem row103:rowT Tryz.prog 103=some true:=by kernel_rfl
@[simp] theorem row110:rowT Tryz.prog 110=some false:=by kernel_rfl
@[simp] theorem row118:rowT Tryz.prog 118=some true:=by kernel_rfl
@[simp] theorem row147:rowT Tryz.prog 147=some true:=by kernel_rfl
@[simp] theorem row150:rowT Tryz.prog 150=some false:=by kernel_rfl
@[simp] theorem row151:rowT Tryz.prog 151=some false:=by kernel_rfl
@[simp] theorem row152:rowT Tryz.prog 152=some false:=by kernel_rfl
@[simp] theorem row153:rowT Tryz.prog 153=some false:=by kernel_rfl
@[simp] theorem row207:rowT Tryz.prog 207=some false:=by kernel_rfl
@[simp] theorem row22:rowT Tryz.prog 22=some false:=by kernel_rfl
@[simp] theorem row23:rowT Tryz.prog 23=some false:=by kernel_rfl
@[simp] theorem row24:rowT Tryz.prog 24=some false:=by kernel_rfl
@[simp] theorem row248:rowT Tryz.prog 248=some true:=by kernel_rfl
@[simp] theorem row25:rowT Tryz.prog 25=some false:=by kernel_rfl
@[simp] theorem row26:rowT Tryz.prog 26=some false:=by kernel_rfl
@[simp] theorem row27:rowT Tryz.prog 27=some false:=by kernel_rfl
@[simp] theorem row29:rowT Tryz.prog 29=some true:=by kernel_rfl
@[simp] theorem row3:rowT Tryz.prog 3=some false:=by kernel_rfl
@[simp] theorem row31:rowT Tryz.prog 31=some true:=by kernel_rfl
@[simp] theorem row37:rowT Tryz.prog 37=some false:=by kernel_rfl
@[simp] theorem row39:rowT Tryz.prog 39=some true:=by kernel_rfl
@[simp] theorem row4:rowT Tryz.prog 4=some false:=by kernel_rfl
@[simp] theorem row40:rowT Tryz.prog 40=some false:=by kernel_rfl
@[simp] theorem row55:rowT Tryz.prog 55=some false:=by kernel_rfl
@[simp] theorem row62:rowT Tryz.prog 62=some false:=by kernel_rfl
@[simp] theorem row65:rowT Tryz.prog 65=some true:=by kernel_rfl
@[simp] theorem row73:rowT Tryz.prog 73=some false:=by kernel_rfl
@[simp] theorem row75:rowT Tryz.prog 75=some true:=by kernel_rfl
@[simp] theorem row88:rowT Tryz.prog 88=some true:=by kernel_rfl
@[simp] theorem row9:rowT Tryz.prog 9=some false:=by kernel_rfl
@[simp] theorem row90:rowT Tryz.prog 90=some true:=by kernel_rfl
@[simp] theorem row95:rowT Tryz.prog 95=some false:=by kernel_rfl
@[simp] theorem row97:rowT Tryz.prog 97=some true:=by kernel_rfl
@[simp] theorem row98:rowT Tryz.prog 98=some false:=by kernel_rfl
@[simp] theorem str9:isStr Tryz.prog 9=true:=by kernel_rfl
@[simp] theorem sz100:szOf Tryz.prog 100=some 8:=by kernel_rfl
@[simp] theorem sz103:szOf Tryz.prog 103=some 5:=by kernel_rfl
@[simp] theorem sz110:szOf Tryz.prog 110=some 1:=by kernel_rfl
@[simp] theorem sz118:szOf Tryz.prog 118=some 2:=by kernel_rfl
@[simp] theorem sz147:szOf Tryz.prog 147=some 2:=by kernel_rfl
@[simp] theorem sz152:szOf Tryz.prog 152=some 1:=by kernel_rfl
@[simp] theorem sz153:szOf Tryz.prog 153=some 1:=by kernel_rfl
@[simp] theorem sz168:szOf Tryz.prog 168=some 2:=by kernel_rfl
@[simp] theorem sz199:szOf Tryz.prog 199=some 16:=by kernel_rfl
@[simp] theorem sz22:szOf Tryz.prog 22=some 1:=by kernel_rfl
@[simp] theorem sz23:szOf Tryz.prog 23=some 1:=by kernel_rfl
@[simp] theorem sz24:szOf Tryz.prog 24=some 1:=by kernel_rfl
@[simp] theorem sz248:szOf Tryz.prog 248=some 8:=by kernel_rfl
@[simp] theorem sz25:szOf Tryz.prog 25=some 1:=by kernel_rfl
@[simp] theorem sz26:szOf Tryz.prog 26=some 1:=by kernel_rfl
@[simp] theorem sz27:szOf Tryz.prog 27=some 1:=by kernel_rfl
@[simp] theorem sz286:szOf Tryz.prog 286=some 39:=by kernel_rfl
@[simp] theorem sz29:szOf Tryz.prog 29=some 8:=by kernel_rfl
@[simp] theorem sz3:szOf Tryz.prog 3=some 1:=by kernel_rfl
@[simp] theorem sz31:szOf Tryz.prog 31=some 2:=by kernel_rfl
@[simp] theorem sz39:szOf Tryz.prog 39=some 3:=by kernel_rfl
@[simp] theorem sz4:szOf Tryz.prog 4=some 1:=by kernel_rfl
@[simp] theorem sz40:szOf Tryz.prog 40=some 1:=by kernel_rfl
@[simp] theorem sz5:szOf Tryz.prog 5=some 1:=by kernel_rfl
@[simp] theorem sz55:szOf Tryz.prog 55=some 1:=by kernel_rfl
@[simp] theorem sz65:szOf Tryz.prog 65=some 1:=by kernel_rfl
@[simp] theorem sz73:szOf Tryz.prog 73=some 1:=by kernel_rfl
@[simp] theorem sz75:szOf Tryz.prog 75=some 4:=by kernel_rfl
@[simp] theorem sz88:szOf Tryz.prog 88=some 3:=by kernel_rfl
@[simp] theorem sz90:szOf Tryz.prog 90=some 5:=by kernel_rfl
@[simp] theorem sz97:szOf Tryz.prog 97=some 5:=by kernel_rfl
@[simp] theorem sz98:szOf Tryz.prog 98=some 1:=by kernel_rfl
@[simp] theorem u8S130:u8S Tryz.prog 130=false:=by kernel_rfl
@[simp] theorem u8S210:u8S Tryz.prog 210=false:=by kernel_rfl
@[simp] theorem u8S215:u8S Tryz.prog 215=true:=by kernel_rfl
@[simp] theorem u8S262:u8S Tryz.prog 262=false:=by kernel_rfl
@[simp] theorem u8S3:u8S Tryz.prog 3=false:=by kernel_rfl
@[simp] theorem u8S83:u8S Tryz.prog 83=false:=by kernel_rfl
@[simp] theorem zero100:zeroOf Tryz.prog 100=some [.int .i64 0,.int .i64 0,.int .i64 0,.int .i64 0,.int .i64 0,.int .i64 0,.slice none 0 0,.slice none 0 0]:=by kernel_rfl
@[simp] theorem zero103:zeroOf Tryz.prog 103=some [.int .i64 0,.int .i64 0,.int .i64 0,.int .i64 0,.int .i64 0]:=by kernel_rfl
@[simp] theorem zero110:zeroOf Tryz.prog 110=some [.nilFunc]:=by kernel_rfl
@[simp] theorem zero118:zeroOf Tryz.prog 118=some [.int .i64 0,.int .i64 0]:=by kernel_rfl
@[simp] theorem zero144:zeroOf Tryz.prog 144=some [.int .i64 0,.int .i64 0,.int .i64 0,.int .i64 0,.int .i64 0,.int .i64 0,.int .i64 0,.int .i64 0]:=by kernel_rfl
@[simp] theorem zero147:zeroOf Tryz.prog 147=some [.int .i64 0,.int .i64 0]:=by kernel_rfl
@[simp] theorem zero155:zeroOf Tryz.prog 155=some [.slice none 0 0,.slice none 0 0,.slice none 0 0,.pointer none,.slice none 0 0,.slice none 0 0,.map none]:=by kernel_rfl
@[simp] theorem zero168:zeroOf Tryz.prog 168=some [.bool false,.slice none 0 0]:=by kernel_rfl
@[simp] theorem zero172:zeroOf Tryz.prog 172=some [.pointer none,.slice none 0 0,.slice none 0 0,.slice none 0 0]:=by kernel_rfl
@[simp] theorem zero199:zeroOf Tryz.prog 199=some [.string ByteArray.empty,.string ByteArray.empty,.string ByteArray.empty,.string ByteArray.empty,.string ByteArray.empty,.string ByteArray.empty,.string ByteArray.empty,.string ByteArray.empty,.string ByteArray.empty,.string ByteArray.empty,.string ByteArray.empty,.string ByteArray.empty,.string ByteArray.empty,.string ByteArray.empty,.string ByteArray.empty,.string ByteArray.empty]:=by kernel_rfl
@[simp] theorem zero207:zeroOf Tryz.prog 207=some [.slice none 0 0]:=by kernel_rfl
@[simp] theorem zero217:zeroOf Tryz.prog 217=some [.pointer none,.slice none 0 0]:=by kernel_rfl
@[simp] theorem zero224:zeroOf Tryz.prog 224=some [.int .i64 0,.int .i64 0,.int .i64 0]:=by kernel_rfl
@[simp] theorem zero24:zeroOf Tryz.prog 24=some [.slice none 0 0]:=by kernel_rfl
@[simp] theorem zero248:zeroOf Tryz.prog 248=some [.slice none 0 0,.slice none 0 0,.slice none 0 0,.int .i64 0,.int .i64 0,.bool false,.slice none 0 0,.slice none 0 0]:=by kernel_rfl
@[simp] theorem zero252:zeroOf Tryz.prog 252=some [.int .i64 0,.int .i64 0,.bool false,.slice none 0 0,.slice none 0 0,.slice none 0 0,.slice none 0 0,.slice none 0 0,.bool false]:=by kernel_rfl
@[simp] theorem zero257:zeroOf Tryz.prog 257=some [.int .u8 0,.int .u8 0,.int .u8 0,.int .u8 0,.int .u8 0,.int .u8 0,.int .u8 0,.int .u8 0,.int .u8 0,.int .u8 0,.int .u8 0,.int .u8 0,.int .u8 0,.int .u8 0,.int .u8 0,.int .u8 0,.int .u8 0,.int .u8 0,.int .u8 0,.int .u8 0,.int .u8 0,.int .u8 0,.int .u8 0,.int .u8 0]:=by kernel_rfl
@[simp] theorem zero279:zeroOf Tryz.prog 279=some (List.replicate 65 (.int .u8 0)):=by kernel_rfl
@[simp] theorem zero286:zeroOf Tryz.prog 286=some (List.replicate 39 (.string ByteArray.empty)):=by kernel_rfl
@[simp] theorem zero29:zeroOf Tryz.prog 29=some [.slice none 0 0,.slice none 0 0,.slice none 0 0,.slice none 0 0,.slice none 0 0,.slice none 0 0,.int .i64 0,.int .i64 0]:=by kernel_rfl
@[simp] theorem zero3:zeroOf Tryz.prog 3=some [.int .i64 0]:=by kernel_rfl
@[simp] theorem zero31:zeroOf Tryz.prog 31=some [.int .i64 0,.int .i64 0]:=by kernel_rfl
@[simp] theorem zero4:zeroOf Tryz.prog 4=some [.bool false]:=by kernel_rfl
@[simp] theorem zero40:zeroOf Tryz.prog 40=some [.slice none 0 0]:=by kernel_rfl
@[simp] theorem zero5:zeroOf Tryz.prog 5=some [.int .u8 0]:=by kernel_rfl
@[simp] theorem zero55:zeroOf Tryz.prog 55=some [.slice none 0 0]:=by kernel_rfl
@[simp] theorem zero65:zeroOf Tryz.prog 65=some [.pointer none]:=by kernel_rfl
@[simp] theorem zero75:zeroOf Tryz.prog 75=some [.int .i64 0,.int .i64 0,.slice none 0 0,.slice none 0 0]:=by kernel_rfl
@[simp] theorem zero88:zeroOf Tryz.prog 88=some [.int .i64 0,.int .i64 0,.int .i64 0]:=by kernel_rfl
@[simp] theorem zero9:zeroOf Tryz.prog 9=some [.string ByteArray.empty]:=by kernel_rfl
@[simp] theorem zero90:zeroOf Tryz.prog 90=some [.slice none 0 0,.int .i64 0,.int .i64 0,.int .i64 0,.int .i64 0]:=by kernel_rfl
@[simp] theorem zero97:zeroOf Tryz.prog 97=some [.int .i64 0,.int .i64 0,.bool false,.slice none 0 0,.slice none 0 0]:=by kernel_rfl
@[simp] theorem zero98:zeroOf Tryz.prog 98=some [.slice none 0 0]:=by kernel_rfl
end
end Go.Proofs.YtbphdcffpobcbaaGreatDoor
