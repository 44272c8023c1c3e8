/- Several texts in one. -/
import Derived.DeepKeys4
import Derived.Test.YtbphdcffpobcbaaGreatDoorMc
import Derived.Test.YtbphdcffpobcbaaGreatDoorMd
import Derived.Test.YtbphdcffpobcbaaGreatDoorMe
set_option linter.unusedSimpArgs false
set_option linter.unusedVariables false
set_option maxRecDepth 100000
set_option maxHeartbeats 16000000
namespace Go.Proofs.YtbphdcffpobcbaaGreatDoor
section
open Go.RowKit Go
def idxQ {α:Type} [DecidableEq α] (L:List α) (v:α):Int:=match L.findIdx? (fun x=>decide (v=x)) with
 | some k=>k
 | none => -1
theorem idxQ_at {α:Type} [DecidableEq α] {L:List α} {v:α} {k:Nat} (hk:k<L.length) (h : ∀ j (_:j<L.length),j<k->v≠L[j]) (e:v=L[k]):idxQ L v=k:=by
 unfold idxQ
 rw [List.findIdx?_eq_some_iff_getElem.2 ⟨hk,by simpa using e,fun j hj=>by simpa using h j (by omega) hj⟩]
theorem idxQ_no {α:Type} [DecidableEq α] {L:List α} {v:α} (h : ∀ j (_:j<L.length),v≠L[j]):idxQ L v = -1:=by
 unfold idxQ
 rw [List.findIdx?_eq_none_iff.2 fun x hx => ?_]
 obtain ⟨j,hj,rfl⟩:=List.getElem_of_mem hx
 simpa using h j hj
theorem idxQ_in {α:Type} [DecidableEq α] {L:List α} {v:α} : 0≤idxQ L v↔v∈L:=by
 unfold idxQ
 cases h:L.findIdx? (fun x=>decide (v=x)) with
 | none =>
  rw [List.findIdx?_eq_none_iff] at h
  simp only
  refine ⟨fun h0=>by omega,fun hm => ?_⟩
  have:=h v hm
  simp at this
 | some k =>
  simp only
  refine ⟨fun _ => ?_,fun _=>by omega⟩
  obtain ⟨hk,h1, -⟩:=List.findIdx?_eq_some_iff_getElem.1 h
  rw [of_decide_eq_true h1]
  exact List.getElem_mem hk
theorem indexI_ok (S:Bool) (L:List Int) (v:Int) {K:D->List Blk->Prop} (h:K (dI (idxQ L v)) []):DPure Tryz.prog 216 [dL S (L.map (fun b=>[eI b])),.one (.d (eI v))] K:=by
 refine fn_ok [0,1,4,5,7,8,9,16] [] Tryz.func216 rfl (by kernel_rfl) rfl rfl rfl rfl (by kernel_rfl) ?_
 simp
 intro hl
 refine loop_ok (ks := [0,1,4,5,7,8,9,16]) (pl := []) (n0:=19) (fun x : {k:Nat//k≤L.length ∧ ∀ j (_:j<L.length),j<k->v≠L[j]} => [(8,dI x.1)]) (fun x=>L.length-x.1) ⟨0,by simp⟩ rfl (by kernel_rfl) (Wk.sub (by simp)) ?_
 rintro ⟨k,hk,ht⟩
 by_cases h1:k<L.length
 ·simp [h1]
  refine alt (fun hb => ?_) (fun hb => ?_)
  ·rw [← idxQ_at h1 ht hb];exact h
  ·refine ⟨k+1,by omega,⟨by omega,fun j hj hjk => ?_⟩,Wk.sub (by simp [wrap_add (show k<9223372036854775807 by omega)])⟩
   by_cases e:j=k
   ·subst e;exact hb
   ·exact ht j hj (by omega)
 ·simp [h1]
  obtain rfl:k=L.length:=by omega
  rw [← idxQ_no fun j hj=>ht j hj hj]
  exact h
theorem containsI_ok (S:Bool) (L:List Int) (v:Int) {K:D->List Blk->Prop} (h:K (dB (decide (0≤idxQ L v))) []):DPure Tryz.prog 176 [dL S (L.map (fun b=>[eI b])),.one (.d (eI v))] K:=by
 refine fn_ok [0,1,4] [] Tryz.func176 rfl (by kernel_rfl) rfl rfl rfl rfl (by kernel_rfl) ?_
 simp
 refine indexI_ok S L v ?_
 simp
 exact h
theorem any_in {L:List Int} {n:Int} {k:Nat} (hk:k<L.length) (hn:n ∉ L.take k) (h:L[k]≠n):n ∉ L.take (k+1):=by
 rw [List.take_succ_eq_append_getElem hk]
 intro hm
 rcases List.mem_append.1 hm with hm | hm
 ·exact hn hm
 ·exact h (List.mem_singleton.1 hm).symm
theorem hasInt_ok (S:Bool) (L:List Int) (n:Int) {K:D->List Blk->Prop} (h:K (dB (decide (n∈L))) []):DPure Tryz.prog 50 [dL S (L.map eInt),dI n] K:=by
 refine fn_ok [0,1,4,6,7,8,9,10,15] [] Tryz.func50 rfl (by kernel_rfl) rfl rfl rfl rfl (by kernel_rfl) ?_
 simp
 intro _
 refine loop_ok (ks := [0,1,4,6,7,8,9,10,15]) (pl := []) (n0:=17) (fun x : {k:Nat//k≤L.length∧n ∉ L.take k} => [(9,dI x.1)]) (fun x=>L.length-x.1) ⟨0,by simp⟩ rfl (by kernel_rfl) (Wk.sub (by simp)) ?_
 rintro ⟨k,hk,hn⟩
 by_cases h1:k<L.length
 ·have hs:=any_in (n:=n) h1 hn
  simp [h1]
  refine alt (fun e=>kB h (by simp [← e])) (fun e=>⟨k+1,by omega,⟨by omega,hs fun e2=>e (by first | exact e2 | exact e2.symm)⟩,Wk.sub (by simp [wrap_add (show k<9223372036854775807 by omega)])⟩)
 ·obtain rfl:k=L.length:=by omega
  rw [List.take_length] at hn
  simp
  exact kB h (by simp [hn])
theorem shapeNames_ok (S:Bool) (L:List Shp) (hl:L.length≤100000) : ∀ (s:Nat),Ahead L s->s<L.length -> ∀ {K:D->List Blk->Prop}, K (.one (.own 0 1 (namesP L s).length)) [⟨.c 3,1,iRows (namesP L s)⟩]->DPure Tryz.prog 33 [dL S (L.map eShape),dI s] K:=by
 intro s
 induction s using Nat.strongRecOn with
 | _ s ih =>
 intro ha hs K h
 refine DPure.own 3 1 ?_
 refine fn_ok [0,1,4,6] [(3,[0,0,0,6,14,30,63,0,0,384,896,1920,3968,8191,16383],(.seg 0 (.seg 1 (.seg 2 (.seg 3 (.seg 4 (.seg 5 (.seg 7 (.seg 8 (.seg 9 (.seg 10 (.seg 11 (.fork 6 [9,10,11] (.eff 12 [3,4,5] (.eff 13 [] (.seg 14 .last))) (.eff 12 [3,4,5] (.eff 6 [9,10,11] (.eff 13 [] (.seg 14 .last)))))))))))))))))] Tryz.func33 rfl (by kernel_rfl) rfl rfl rfl rfl (by kernel_rfl) ?_
 by_cases h0:s=0
 ·subst h0
  simp
  exact .inr (by simpa [namesP_zero,iRows] using h)
 ·have hu:=ha s (by omega) (Nat.le_refl _)
  have hst:=namesP_step ha (by omega)
  have hfn:(((fstD L s).toNat:Nat):Int)=fstD L s:=by omega
  have h0' : ¬ (s:Int)≤0:=by omega
  simp [h0,h0',shp_get hs]
  rw [← hfn]
  repeat' (with_reducible constructor)
  all_goals
   refine ih (fstD L s).toNat (by omega) (ha.to (by omega)) (by omega) ?_
   have hlen:=namesP_len (ha.to (show (fstD L s).toNat≤s by omega))
   simp
   refine ⟨fun a b e hb => ?_,by omega,?_⟩
   ·subst e
    simp at hb
    subst hb
    exact ⟨rfl,rfl⟩
   ·rw [List.take_of_length_le (by simp),iRows_app,if_pos iRows_isD, ← hst]
    have:(namesP L (fstD L s).toNat).length+1=(namesP L s).length:=by rw [hst];simp
    rw [this]
    exact h
end
section
open Go.RowKit Go Go.Maps
def InI (n:Int):Prop := -9223372036854775808≤n∧n≤9223372036854775807
def InS (p:Shp):Prop:=InI p.1∧InI p.2
theorem wfI {n:Int} (h:InI n):(Lit.int .i64 n).wf=true:=WalkArith.wf_i64 h
theorem sk_laidOut:laidOutB Tryz.prog=true:=by kernel_rfl
theorem sk_int:Tryz.prog.underlying 3=some (.int .i64):=by kernel_rfl
theorem sk_wide:(match Tryz.prog.underlying 118 with | some (.array _ _) | some (.struct _)=>true | _=>false)=true:=by
 rw [Tryz.underlying118]
theorem sk_key2:Tryz.prog.keyTypeAt 2 118=true:=by kernel_rfl
theorem sk_law:Go.WideMaps.KeyLaw Tryz.prog 118:=deep_law_laid sk_laidOut (m:=2) (by omega) (of_decide_eq_true (by kernel_rfl)) sk_key2 sk_wide
theorem sk_keyed:Keyed Tryz.prog 118:=Keyed.of_law sk_law
def kl (p:Shp):Lit := .string (keyBytes [.int .i64 p.1,.int .i64 p.2])
theorem sk_kt:Tryz.prog.keyType 118=true:=by kernel_rfl
theorem sk_c2:Tryz.prog.cellsOf 118=2:=by kernel_rfl
theorem sk_c1:Tryz.prog.cellsOf 3=1:=by kernel_rfl
theorem sk_key {p:Shp} (h:InS p):keyOf Tryz.prog 118 (.agg #[.int .i64 p.1,.int .i64 p.2])=some (kl p):=by
 unfold keyOf
 simp only [Tryz.underlying118]
 rw [if_pos (by simp [sk_kt,Value.formed,Tryz.underlying118,sk_c2]),show Tryz.prog.types.size=(Tryz.prog.types.size-1)+1 from by kernel_rfl]
 unfold Program.keyLits
 simp only [Tryz.underlying118,Value.cells]
 rw [if_pos ⟨by rw [sk_c2];rfl,by simp⟩]
 have hk : ∀ (d:Nat) (n:Int),InI n->Tryz.prog.keyLits (d+1) 3 [.int .i64 n]=some [.int .i64 n]:=fun d n hn=>by
  unfold Program.keyLits
  simp only [sk_int,wfI hn,and_self,if_true]
 have hs : ∃ d,Tryz.prog.types.size-1=d+1:=⟨Tryz.prog.types.size-2,by kernel_rfl⟩
 obtain ⟨d,hd⟩:=hs
 simp only [hd,List.mapM_cons,List.mapM_nil,sk_c1,List.drop,List.take]
 rw [hk (d+1) p.1 h.1,hk (d+1) p.2 h.2]
 rfl
theorem keyin_shape {p:Shp} (h:InS p):KeyIn 118 (.agg #[.int .i64 p.1,.int .i64 p.2]):=⟨_,sk_key h⟩
attribute [simp] sk_keyed
end
section
open Go.RowKit Go
attribute [simp] sk_keyed
structure KC where
 k:Nat
 nx:Nat
def shV (p:Shp):Value := .agg #[.int .i64 p.1,.int .i64 p.2]
open Classical in
noncomputable def seenS (L:List Shp) (k:Nat):Value->Int:=fun v=>if v∈(L.take k).map shV then 1 else 0
theorem seenS_zero (L:List Shp):seenS L 0=fun _=>0:=by funext v;simp [seenS]
@[simp] theorem iRows_takeL (L:List Int):(iRows L).take L.length=iRows L:=List.take_of_length_le (by simp)
@[simp] theorem iRows_allD (L:List Int):(∀ e∈iRows L, ∀ c∈e,c.isD=true)↔True:=⟨fun _=>trivial,fun _=>iRows_isD⟩
@[simp] theorem iRows_dt (L:List Int):(iRows L).map (fun e=>e.map C.dt)=L.map fun b=>[eI b]:=by simp [iRows]
theorem shV_inj {p q:Shp} (h:shV p=shV q):p=q:=by
 obtain ⟨a,b⟩:=p
 obtain ⟨c,d⟩:=q
 simpa [shV] using h
theorem seenS_get (L:List Shp) (k:Nat) {p:Shp} : seenS L k (shV p)=1↔p∈L.take k:=by
 unfold seenS
 have e:shV p∈(L.take k).map shV↔p∈L.take k:=by
  rw [List.mem_map]
  exact ⟨fun ⟨x,hx,e⟩=>by rw [← shV_inj e];exact hx,fun h=>⟨_,h,rfl⟩⟩
 by_cases h:p∈L.take k
 ·rw [if_pos (e.2 h)];simp [h]
 ·rw [if_neg (fun h'=>h (e.1 h'))];simp [h]
theorem seenS_next (L:List Shp) {k:Nat} (hk:k<L.length):(fun v=>if v=shV L[k] then 1 else seenS L k v)=seenS L (k+1):=by
 funext v
 unfold seenS
 have e:(L.take (k+1)).map shV=(L.take k).map shV++[shV L[k]]:=by rw [List.take_succ_eq_append_getElem hk,List.map_append];rfl
 rw [e]
 by_cases h:v=shV L[k]
 ·rw [if_pos h,if_pos (by rw [h];simp)]
 ·rw [if_neg h]
  by_cases h2:v∈(L.take k).map shV
  ·rw [if_pos h2,if_pos (List.mem_append_left _ h2)]
  ·rw [if_neg h2,if_neg (fun hm=>by
    rcases List.mem_append.1 hm with hm | hm
    ·exact h2 hm
    ·exact h (List.mem_singleton.1 hm))]
theorem shapeCheck_ok (S:Bool) (L:List Shp) (hin : ∀ x∈L,InS x) {K:D->List Blk->Prop} (h:K (dI (faultP L)) []):DPure Tryz.prog 115 [dL S (L.map eShape)] K:=by
 refine fn_ok [0,2,3,4,5,8,18,21,22,23,24,56] [(9,[0,1,3,7,15,31,15,127,255,511,1023,2047,4095,8191,16383,32767,32767,131071,262143,524287,1048575,2097151,2097151,6291455,16777215,2097151,35651583,134217727,268435455],(.seg 0 (.seg 1 (.seg 2 (.seg 3 (.seg 4 (.seg 5 (.seg 6 (.seg 7 (.seg 8 (.seg 9 (.seg 10 (.seg 11 (.seg 12 (.seg 13 (.seg 14 (.seg 15 (.seg 16 (.seg 17 (.seg 18 (.seg 19 (.seg 20 (.seg 21 (.seg 22 (.seg 23 (.seg 25 (.seg 26 (.eff 24 [25,26] (.eff 27 [] (.seg 28 .last))))))))))))))))))))))))))))))] Tryz.func115 rfl (by kernel_rfl) rfl rfl rfl rfl (by kernel_rfl) ?_
 cases L with
 | nil =>
  have:faultP []=3:=fault_bad (by simp) fun h=>by have:=h.1;simp at this
  rw [this] at h
  simp
  exact h
 | cons x L =>
 by_cases h1:100<L.length+1
 ·have:faultP (x::L)=2:=by unfold faultP;rw [if_pos (by simpa using h1)]
  rw [this] at h
  simp
  intro _
  rw [if_pos (by omega)]
  exact h
 simp
 intro _
 rw [if_neg (by omega)]
 intro _
 rw [if_neg (by omega)]
 refine alt (fun c => ?_) (fun c => ?_)
 ·have:faultP (x::L)=3:=fault_bad (by simp;omega) fun h=>by
   have h2:x=(-1, -1):=h.2.1
   rw [h2] at c
   simp at c
  rw [this] at h
  exact h
 refine ⟨by omega,fun a b d _ e=>by rw [← e];rfl,fun _ => ?_⟩
 have hroot:(x::L).getD 0 (0,0)=(-1, -1):=by
  obtain ⟨a,b⟩:=x
  simp at c
  show (a,b)=(-1, -1)
  rw [Prod.mk.injEq];omega
 refine loopH_ok (ks := [0,2,3,4,5,8,18,21,22,23,24,56]) (pl := [(9,[0,1,3,7,15,31,15,127,255,511,1023,2047,4095,8191,16383,32767,32767,131071,262143,524287,1048575,2097151,2097151,6291455,16777215,2097151,35651583,134217727,268435455],(.seg 0 (.seg 1 (.seg 2 (.seg 3 (.seg 4 (.seg 5 (.seg 6 (.seg 7 (.seg 8 (.seg 9 (.seg 10 (.seg 11 (.seg 12 (.seg 13 (.seg 14 (.seg 15 (.seg 16 (.seg 17 (.seg 18 (.seg 19 (.seg 20 (.seg 21 (.seg 22 (.seg 23 (.seg 25 (.seg 26 (.eff 24 [25,26] (.eff 27 [] (.seg 28 .last))))))))))))))))))))))))))))))]) (n0:=60) (α := {x':KC//x'.k≤L.length∧okTo (x::L) (x'.k+1)}) (fun y=>[(23,dI y.1.k)]) (fun _ y=>Hp.none.set 0 (some ⟨.m 118 (seenS L y.1.k) y.1.k,0,[]⟩)) (fun y=>y.1.nx+1) (fun y=>L.length-y.1.k) ⟨⟨0,0⟩,Nat.zero_le _,fun j h0 h1=>by simp at h1;omega⟩ rfl (by kernel_rfl) (Wk.subH (by simp) (by rw [← seenS_zero L])) ?_
 rintro ⟨⟨k,nx⟩,hk,ho⟩
 simp only at hk ho
 by_cases h3:k<L.length
 ·have hs:L[k]=(fstD (x::L) (k+1),sndD (x::L) (k+1)):=by
   simp [fstD,sndD,List.getD_eq_getElem?_getD,List.getElem?_eq_getElem h3]
  have bad : ¬ fits (x::L) (k+1)->K (dI 3) []:=fun hn=>by
   have:faultP (x::L)=3:=fault_fit (by simp;omega) (by omega) (by simp;omega) hn
   rw [this] at h;exact h
  have hInS:=hin _ (List.mem_cons_of_mem _ (List.getElem_mem h3))
  generalize hu:fstD (x::L) (k+1)=u at *
  generalize hv:sndD (x::L) (k+1)=v at *
  by_cases a1:u<0
  ·simp [h3,hs,a1]
   exact bad fun hf=>by have:=hf.1;omega
  by_cases a2:(k:Int)<u
  ·simp [h3,hs,a1,a2]
   exact bad fun hf=>by have:=hf.2.1;omega
  by_cases a3:v<0
  ·simp [h3,hs,a1,a2,a3]
   exact bad fun hf=>by have:=hf.2.2.1;omega
  have hk3:=keyin_shape (p:=(u,v)) (by rw [hs] at hInS;exact hInS)
  simp at hk3
  obtain ⟨t,rfl⟩ : ∃ t:Nat,u=t:=⟨u.toNat,by omega⟩
  have hP:(v∈namesP (x::L) t)=(v∈namesP (x::L) (fstD (x::L) (k+1)).toNat):=by rw [hu];rfl
  have hlen:=namesP_len (ho.ahead (show t<k+1 by omega))
  have hsv:=seenS_get L k (p:=((t:Int),v))
  have hsn:=seenS_next L h3
  rw [hs] at hsn
  simp [h3,hs,a1,a2,a3,hk3]
  refine alt (fun c4 => ?_) (fun c4 => ?_)
  ·refine bad fun hf => ?_
   have h5:=fits_seen (L:=x::L) (by simp) hf
   rw [hu,hv] at h5
   exact h5 (hsv.1 c4)
  refine names1_ok S (x::L) t (ho.ahead (by omega)) (by simp;omega) (by simp;omega) ?_
  simp
  refine containsI_ok false (namesP (x::L) t) v ?_
  simp
  refine alt (fun c5=>bad fun hf => ?_) (fun c5 => ?_)
  ·have h5:=hf.2.2.2.1
   rw [hu,hv] at h5
   exact h5 (idxQ_in.1 c5)
  ·rw [idxQ_in,hP] at c5
   have hfit:fits (x::L) (k+1):=fits_mk (by simp) (by rw [fstD,hroot]) (by omega) (by omega) (by omega) (by rw [hu,hv];exact fun hm=>c4 (hsv.2 hm)) (by rw [hv];exact c5)
   exact ⟨hk3,by kernel_rfl,by omega,⟨k+1,nx+2⟩,by simp;omega,⟨by simp;omega,ho.step hfit⟩,Wk.sub1 (by simp [wrap_add (show k<9223372036854775807 by omega)]) (by simp [← hsn,shV];congr)⟩
 ·obtain rfl:k=L.length:=by omega
  have:faultP (x::L)=0:=fault_ok (by simp;omega) ⟨by simp,hroot,by simpa using ho⟩
  rw [this] at h
  simp
  exact h
theorem celAll1_ok (s:GState) (v:GVal) {K:D->List Blk->Prop} (h:K (dB (!fitsB s v)) []):DPure Tryz.prog 129 [aD (eVal v),.one (.d (.at_ true [.at_ true (eState s)]))] K:=by
 refine fn_ok [0,1,2,3] [] Tryz.func129 rfl (by kernel_rfl) rfl rfl rfl rfl (by kernel_rfl) ?_
 simp
 refine fits_ok true s v ?_
 simp
 exact h
theorem celAll_ok (S:Bool) (s:GState) (l:List GVal) {K:D->List Blk->Prop} (h:K (dB (l.all (fitsB s))) []):DPure Tryz.prog 62 [pS true s,dL S (l.map eVal)] K:=by
 refine fn_ok [0,1,2,4] [] Tryz.func62 rfl (by kernel_rfl) rfl rfl rfl rfl (by kernel_rfl) ?_
 simp
 refine containsFV_ok S l eVal (fun v=>aD (eVal v)) (fun v => !fitsB s v) 129 (fun _=>by simp) rfl [] [.at_ true [.at_ true (eState s)]] (fun x=>⟨_,_,rfl,rfl⟩) (fun x _ K hK=>celAll1_ok s x hK) ?_
 have e:l.all (fitsB s) = !l.any fun v => !fitsB s v:=by simp [List.all_eq_not_any_not]
 rw [e] at h
 generalize (l.any fun v => !fitsB s v)=b at h ⊢
 simp
 exact h
theorem is_names {s:GState} {v:GVal} {kind:Int} (hk:kind≠0):namesB s v kind=(fitsB s v&&decide (v.kind=5)&&decide ((cellAt s v.n).kind=kind)):=by
 rw [Bool.eq_iff_iff]
 obtain ⟨k,n⟩:=v
 by_cases e:k=5
 ·subst e
  simp [namesB,fitsB,rightB]
  exact fun c _ _=>by rw [c];exact hk
 ·simp [namesB,e]
theorem celIs_ok (S:Bool) (s:GState) (v:GVal) (kind:Int) (hk:kind≠0) {K:D->List Blk->Prop} (h:K (dB (namesB s v kind)) []):DPure Tryz.prog 128 [pS S s,aD (eVal v),dI kind] K:=by
 rw [is_names hk] at h
 refine fn_ok [0,1,2,4,6] [(1,[0,0,3,7,15,31,63,127,255,511,1023,2047,4095,511,8703,32767,65535,131071,511,524287,1048575,2097151],(.seg 0 (.seg 1 (.eff 2 [] (.seg 3 (.seg 4 (.seg 5 (.seg 6 (.seg 7 (.seg 8 (.seg 9 (.seg 10 (.seg 11 (.seg 12 (.seg 13 (.seg 14 (.seg 15 (.seg 16 (.seg 17 (.seg 18 (.seg 19 (.seg 20 (.seg 21 .last)))))))))))))))))))))))] Tryz.func128 rfl (by kernel_rfl) rfl rfl rfl rfl (by kernel_rfl) ?_
 simp
 refine fits_ok S s v ?_
 cases hf:fitsB s v with
 | false =>
  simp
  exact kB h (by rw [hf];rfl)
 | true =>
  rw [hf] at h
  by_cases e:v.kind=5
  ·have hr:rightB v.kind v.n=true:=by simp only [fitsB,Bool.and_eq_true] at hf;exact hf.1
   have h0:=right_nonneg hr e
   have h1:v.n<s.cells.length:=by
    simp only [fitsB,Bool.and_eq_true] at hf
    have:=hf.2
    rw [if_neg (by omega),if_pos e] at this
    simp at this;exact this.1
   simp [e,h0,h1,cell_get h0 h1]
   exact kB h (by simp [e,cellAt_eq h0 h1])
  ·simp [e]
   exact kB h (by simp [e])
theorem celCell1_ok (s:GState) (v:GVal) {K:D->List Blk->Prop} (h:K (dB (!namesB s v 3)) []):DPure Tryz.prog 181 [aD (eVal v),.one (.d (.at_ true [.at_ true (eState s)]))] K:=by
 refine fn_ok [0,1,2,3] [] Tryz.func181 rfl (by kernel_rfl) rfl rfl rfl rfl (by kernel_rfl) ?_
 simp
 refine celIs_ok true s v 3 (by decide) ?_
 simp
 exact h
theorem celCell2_ok (s:GState) (f:GFrame) {K:D->List Blk->Prop} (h:K (dB (!frameFits s f)) []):DPure Tryz.prog 184 [aD (eFrame f),.one (.d (.at_ true [.at_ true (eState s)]))] K:=by
 refine fn_ok [0,1,2,3] [] Tryz.func184 rfl (by kernel_rfl) rfl rfl rfl rfl (by kernel_rfl) ?_
 simp
 refine celAll_ok true s f.regs ?_
 cases h1:f.regs.all (fitsB s) with
 | false =>
  simp
  exact kB h (by simp [frameFits,h1])
 | true =>
  simp
  refine fits_ok true s f.self ?_
  simp
  exact kB h (by simp [frameFits,h1])
theorem indexPV_ok {α:Type} (S:Bool) (L:List α) (en:α->List Dt) (el:α->D) (g:FuncId) (cs:List Cap) (I:Nat->Hp->Nat->Prop) (J:Hp->Nat->Prop) (hI : ∀ k H nx,I k H nx->HSol H) (hJ : ∀ H nx,J H nx->HSol H) (he : ∀ x, ∃ a b,en x=[a,b]∧el x = .agg [.d a,.d b]) {H:Hp} {nx:Nat} (h0:I 0 H nx)
  (hp : ∀ (k:Nat) (hk:k<L.length) H nx,I k H nx -> ∀ K:D->Hp->Nat->Prop,(∀ H' nx',I (k+1) H' nx'->K (dB false) H' nx')->(∀ H' nx',J H' nx'->K (dB true) H' nx')->ICall Tryz.prog g (el L[k]::cs.map Cap.D) H nx K)
  {K:D->Hp->Nat->Prop} (h1 : ∀ H nx n,I L.length H nx->n<0->K (dI n) H nx) (h2 : ∀ H nx n,J H nx->0≤n->K (dI n) H nx) :
  ICall Tryz.prog 185 [dL S (L.map en),.one (.fnp (.func g) cs)] H nx K:=by
 refine fni_ok [0,1,4,5,7,8,9,16] [] Tryz.func185 rfl (by kernel_rfl) rfl rfl rfl rfl (by kernel_rfl) ?_
 simp
 intro hl
 refine loopH_ok (ks := [0,1,4,5,7,8,9,16]) (pl := []) (n0:=19) (α := {x:HN//x.k≤L.length∧I x.k x.H x.nx}) (fun x=>[(8,dI x.1.k)]) (fun _ x=>x.1.H) (fun x=>x.1.nx) (fun x=>L.length-x.1.k) ⟨⟨0,H,nx⟩,Nat.zero_le _,h0⟩ rfl (by kernel_rfl) (Wk.sub (by simp)) ?_
 rintro ⟨⟨k,H,nx⟩,hk,hi⟩
 simp only at hk hi
 by_cases h3:k<L.length
 ·have he':=he L[k]
  obtain ⟨a,b,e1,e2⟩:=he'
  have hx:=extP_no (hp k h3 H nx hi (fun _ _ _=>True) (fun _ _ _=>trivial) (fun _ _ _=>trivial)).1
  simp [h3,e1,hx, -extP]
  rw [← e2]
  refine hp k h3 H nx hi _ (fun H' nx' hi' => ?_) (fun H' nx' hj => ?_)
  ·simp
   exact ⟨⟨k+1,H',nx'⟩,by simp;omega,⟨by simp;omega,hi'⟩,Wk.sub (by simp [wrap_add (show k<9223372036854775807 by omega)])⟩
  ·simp
   exact ⟨hJ _ _ hj,h2 _ _ _ hj (by omega)⟩
 ·simp [h3]
  obtain rfl:k=L.length:=by omega
  exact ⟨hI _ _ _ hi,h1 _ _ _ hi (by omega)⟩
theorem containsPV_ok {α:Type} (S:Bool) (L:List α) (en:α->List Dt) (el:α->D) (g:FuncId) (cs:List Cap) (I:Nat->Hp->Nat->Prop) (J:Hp->Nat->Prop) (hI : ∀ k H nx,I k H nx->HSol H) (hJ : ∀ H nx,J H nx->HSol H) (he : ∀ x, ∃ a b,en x=[a,b]∧el x = .agg [.d a,.d b]) {H:Hp} {nx:Nat} (h0:I 0 H nx)
  (hp : ∀ (k:Nat) (hk:k<L.length) H nx,I k H nx -> ∀ K:D->Hp->Nat->Prop,(∀ H' nx',I (k+1) H' nx'->K (dB false) H' nx')->(∀ H' nx',J H' nx'->K (dB true) H' nx')->ICall Tryz.prog g (el L[k]::cs.map Cap.D) H nx K)
  {K:D->Hp->Nat->Prop} (h1 : ∀ H nx,I L.length H nx->K (dB false) H nx) (h2 : ∀ H nx,J H nx->K (dB true) H nx) :
  ICall Tryz.prog 122 [dL S (L.map en),.one (.fnp (.func g) cs)] H nx K:=by
 refine fni_ok [0,1,4] [] Tryz.func122 rfl (by kernel_rfl) rfl rfl rfl rfl (by kernel_rfl) ?_
 simp
 refine indexPV_ok S L en el g cs I J hI hJ he h0 hp (fun H nx n hi hn => ?_) (fun H nx n hj hn => ?_)
 ·simp [show ¬ 0≤n by omega]
  exact ⟨hI _ _ _ hi,h1 _ _ hi⟩
 ·simp [hn]
  exact ⟨hJ _ _ hj,h2 _ _ hj⟩
theorem indexPCe_ok {α:Type} (S:Bool) (L:List α) (en:α->List Dt) (el:α->D) (g:FuncId) (cs:List Cap) (I:Nat->Hp->Nat->Prop) (J:Hp->Nat->Prop) (hI : ∀ k H nx,I k H nx->HSol H) (hJ : ∀ H nx,J H nx->HSol H) (he : ∀ x, ∃ a b c d,en x=[a,b,c,d]∧el x = .agg [.d a,.d b,.d c,.d d]) {H:Hp} {nx:Nat} (h0:I 0 H nx)
  (hp : ∀ (k:Nat) (hk:k<L.length) H nx,I k H nx -> ∀ K:D->Hp->Nat->Prop,(∀ H' nx',I (k+1) H' nx'->K (dB false) H' nx')->(∀ H' nx',J H' nx'->K (dB true) H' nx')->ICall Tryz.prog g (el L[k]::cs.map Cap.D) H nx K)
  {K:D->Hp->Nat->Prop} (h1 : ∀ H nx n,I L.length H nx->n<0->K (dI n) H nx) (h2 : ∀ H nx n,J H nx->0≤n->K (dI n) H nx) :
  ICall Tryz.prog 180 [dL S (L.map en),.one (.fnp (.func g) cs)] H nx K:=by
 refine fni_ok [0,1,4,5,7,8,9,16] [] Tryz.func180 rfl (by kernel_rfl) rfl rfl rfl rfl (by kernel_rfl) ?_
 simp
 intro hl
 refine loopH_ok (ks := [0,1,4,5,7,8,9,16]) (pl := []) (n0:=19) (α := {x:HN//x.k≤L.length∧I x.k x.H x.nx}) (fun x=>[(8,dI x.1.k)]) (fun _ x=>x.1.H) (fun x=>x.1.nx) (fun x=>L.length-x.1.k) ⟨⟨0,H,nx⟩,Nat.zero_le _,h0⟩ rfl (by kernel_rfl) (Wk.sub (by simp)) ?_
 rintro ⟨⟨k,H,nx⟩,hk,hi⟩
 simp only at hk hi
 by_cases h3:k<L.length
 ·have he':=he L[k]
  obtain ⟨a,b,c,d,e1,e2⟩:=he'
  have hx:=extP_no (hp k h3 H nx hi (fun _ _ _=>True) (fun _ _ _=>trivial) (fun _ _ _=>trivial)).1
  simp [h3,e1,hx, -extP]
  rw [← e2]
  refine hp k h3 H nx hi _ (fun H' nx' hi' => ?_) (fun H' nx' hj => ?_)
  ·simp
   exact ⟨⟨k+1,H',nx'⟩,by simp;omega,⟨by simp;omega,hi'⟩,Wk.sub (by simp [wrap_add (show k<9223372036854775807 by omega)])⟩
  ·simp
   exact ⟨hJ _ _ hj,h2 _ _ _ hj (by omega)⟩
 ·simp [h3]
  obtain rfl:k=L.length:=by omega
  exact ⟨hI _ _ _ hi,h1 _ _ _ hi (by omega)⟩
theorem containsPCe_ok {α:Type} (S:Bool) (L:List α) (en:α->List Dt) (el:α->D) (g:FuncId) (cs:List Cap) (I:Nat->Hp->Nat->Prop) (J:Hp->Nat->Prop) (hI : ∀ k H nx,I k H nx->HSol H) (hJ : ∀ H nx,J H nx->HSol H) (he : ∀ x, ∃ a b c d,en x=[a,b,c,d]∧el x = .agg [.d a,.d b,.d c,.d d]) {H:Hp} {nx:Nat} (h0:I 0 H nx)
  (hp : ∀ (k:Nat) (hk:k<L.length) H nx,I k H nx -> ∀ K:D->Hp->Nat->Prop,(∀ H' nx',I (k+1) H' nx'->K (dB false) H' nx')->(∀ H' nx',J H' nx'->K (dB true) H' nx')->ICall Tryz.prog g (el L[k]::cs.map Cap.D) H nx K)
  {K:D->Hp->Nat->Prop} (h1 : ∀ H nx,I L.length H nx->K (dB false) H nx) (h2 : ∀ H nx,J H nx->K (dB true) H nx) :
  ICall Tryz.prog 119 [dL S (L.map en),.one (.fnp (.func g) cs)] H nx K:=by
 refine fni_ok [0,1,4] [] Tryz.func119 rfl (by kernel_rfl) rfl rfl rfl rfl (by kernel_rfl) ?_
 simp
 refine indexPCe_ok S L en el g cs I J hI hJ he h0 hp (fun H nx n hi hn => ?_) (fun H nx n hj hn => ?_)
 ·simp [show ¬ 0≤n by omega]
  exact ⟨hI _ _ _ hi,h1 _ _ hi⟩
 ·simp [hn]
  exact ⟨hJ _ _ hj,h2 _ _ hj⟩
theorem indexPTh_ok {α:Type} (S:Bool) (L:List α) (en:α->List Dt) (el:α->D) (g:FuncId) (cs:List Cap) (I:Nat->Hp->Nat->Prop) (J:Hp->Nat->Prop) (hI : ∀ k H nx,I k H nx->HSol H) (hJ : ∀ H nx,J H nx->HSol H) (he : ∀ x, ∃ a b c d e,en x=[a,b,c,d,e]∧el x = .agg [.d a,.d b,.d c,.d d,.d e]) {H:Hp} {nx:Nat} (h0:I 0 H nx)
  (hp : ∀ (k:Nat) (hk:k<L.length) H nx,I k H nx -> ∀ K:D->Hp->Nat->Prop,(∀ H' nx',I (k+1) H' nx'->K (dB false) H' nx')->(∀ H' nx',J H' nx'->K (dB true) H' nx')->ICall Tryz.prog g (el L[k]::cs.map Cap.D) H nx K)
  {K:D->Hp->Nat->Prop} (h1 : ∀ H nx n,I L.length H nx->n<0->K (dI n) H nx) (h2 : ∀ H nx n,J H nx->0≤n->K (dI n) H nx) :
  ICall Tryz.prog 143 [dL S (L.map en),.one (.fnp (.func g) cs)] H nx K:=by
 refine fni_ok [0,1,4,5,7,8,9,16] [] Tryz.func143 rfl (by kernel_rfl) rfl rfl rfl rfl (by kernel_rfl) ?_
 simp
 intro hl
 refine loopH_ok (ks := [0,1,4,5,7,8,9,16]) (pl := []) (n0:=19) (α := {x:HN//x.k≤L.length∧I x.k x.H x.nx}) (fun x=>[(8,dI x.1.k)]) (fun _ x=>x.1.H) (fun x=>x.1.nx) (fun x=>L.length-x.1.k) ⟨⟨0,H,nx⟩,Nat.zero_le _,h0⟩ rfl (by kernel_rfl) (Wk.sub (by simp)) ?_
 rintro ⟨⟨k,H,nx⟩,hk,hi⟩
 simp only at hk hi
 by_cases h3:k<L.length
 ·have he':=he L[k]
  obtain ⟨a,b,c,d,e,e1,e2⟩:=he'
  have hx:=extP_no (hp k h3 H nx hi (fun _ _ _=>True) (fun _ _ _=>trivial) (fun _ _ _=>trivial)).1
  simp [h3,e1,hx, -extP]
  rw [← e2]
  refine hp k h3 H nx hi _ (fun H' nx' hi' => ?_) (fun H' nx' hj => ?_)
  ·simp
   exact ⟨⟨k+1,H',nx'⟩,by simp;omega,⟨by simp;omega,hi'⟩,Wk.sub (by simp [wrap_add (show k<9223372036854775807 by omega)])⟩
  ·simp
   exact ⟨hJ _ _ hj,h2 _ _ _ hj (by omega)⟩
 ·simp [h3]
  obtain rfl:k=L.length:=by omega
  exact ⟨hI _ _ _ hi,h1 _ _ _ hi (by omega)⟩
theorem containsPTh_ok {α:Type} (S:Bool) (L:List α) (en:α->List Dt) (el:α->D) (g:FuncId) (cs:List Cap) (I:Nat->Hp->Nat->Prop) (J:Hp->Nat->Prop) (hI : ∀ k H nx,I k H nx->HSol H) (hJ : ∀ H nx,J H nx->HSol H) (he : ∀ x, ∃ a b c d e,en x=[a,b,c,d,e]∧el x = .agg [.d a,.d b,.d c,.d d,.d e]) {H:Hp} {nx:Nat} (h0:I 0 H nx)
  (hp : ∀ (k:Nat) (hk:k<L.length) H nx,I k H nx -> ∀ K:D->Hp->Nat->Prop,(∀ H' nx',I (k+1) H' nx'->K (dB false) H' nx')->(∀ H' nx',J H' nx'->K (dB true) H' nx')->ICall Tryz.prog g (el L[k]::cs.map Cap.D) H nx K)
  {K:D->Hp->Nat->Prop} (h1 : ∀ H nx,I L.length H nx->K (dB false) H nx) (h2 : ∀ H nx,J H nx->K (dB true) H nx) :
  ICall Tryz.prog 91 [dL S (L.map en),.one (.fnp (.func g) cs)] H nx K:=by
 refine fni_ok [0,1,4] [] Tryz.func91 rfl (by kernel_rfl) rfl rfl rfl rfl (by kernel_rfl) ?_
 simp
 refine indexPTh_ok S L en el g cs I J hI hJ he h0 hp (fun H nx n hi hn => ?_) (fun H nx n hj hn => ?_)
 ·simp [show ¬ 0≤n by omega]
  exact ⟨hI _ _ _ hi,h1 _ _ hi⟩
 ·simp [hn]
  exact ⟨hJ _ _ hj,h2 _ _ hj⟩
def lookRow (p:GProg) (s:GState) (nG:Nat):List C := [.d (.sl true (p.fns.map eFn)),.d (.sl true (p.consts.map eVal)),.d (.sl true (p.texts.map eStr)),.d (.at_ true (eState s)),.d (.sl true (p.fns.map eOut)),.d (.sl true (p.fns.map eSeen)),.map nG]
abbrev aLk (n:Nat):D := .one (.ptr n 7 0 0)
theorem fresh_lt {H:Hp} {nx n:Nat} {x:Blk} (hf : ∀ i,nx≤i->H i=none) (h:H n=some x):n<nx:=by
 by_cases hl:n<nx
 ·exact hl
 ·rw [hf n (by omega)] at h;cases h
theorem kBI {K:D->Hp->Nat->Prop} {H:Hp} {nx:Nat} {a b:Bool} (h:K (dB a) H nx) (e:a=b):K (dB b) H nx:=e▸h
theorem lcell_ok (p:GProg) (s:GState) {H:Hp} {nx nL nG:Nat} (hS:HSol H) (hL:H nL=some ⟨.c 155,7,[lookRow p s nG]⟩) (v:GVal) (kind:Int) {K:D->Hp->Nat->Prop}
  (h1:namesB s v kind=true -> ∀ nx',nx≤nx'->K (.tup [aD (eCell (cellAt s v.n)),dB true]) H nx') (h2:namesB s v kind=false -> ∀ nx',nx≤nx'->K (.tup [aD [eI 0,eI 0,.emp,.emp],dB false]) H nx') :
  ICall Tryz.prog 201 [aLk nL,aD (eVal v),dI kind] H nx K:=by
 refine ICall.fresh (by kernel_rfl) fun hfr => ?_
 have hlt:=fresh_lt hfr hL
 have e0 : ¬ nL=nx:=by omega
 have e1 : ¬ nL=nx+1:=by omega
 have e2 : ¬ nL=nx+2:=by omega
 have e3 : ¬ nL=nx+3:=by omega
 obtain ⟨k,n⟩:=v
 have no:namesB s ⟨k,n⟩ kind=false -> ∀ nx',nx≤nx'->K (.tup [aD [eI 0,eI 0,.emp,.emp],dB false]) H nx':=h2
 have yes:namesB s ⟨k,n⟩ kind=true -> ∀ nx',nx≤nx'->K (.tup [aD (eCell (cellAt s n)),dB true]) H nx':=h1
 clear h1 h2
 refine ICall.keepH hfr ?_
 refine fni_ok [0,1,2,4,6,7,44] [(1,[0,1,3,7,15,31,63,127,255,511,1023,511,2559,6655,14847,31231,63999,129535,260607,524287,1048575,2097151,4194303,8388607,16777215,33554431,67108863,134217727,268435455,4194303,541065215,2147483647,4294967295,8589934591,4194303,34359738367,68719476735],(.seg 0 (.seg 1 (.seg 2 (.seg 3 (.seg 4 (.seg 5 (.seg 6 (.seg 7 (.seg 8 (.seg 9 (.seg 10 (.seg 11 (.seg 12 (.seg 13 (.seg 14 (.seg 15 (.seg 16 (.seg 17 (.seg 18 (.seg 19 (.seg 20 (.seg 21 (.seg 22 (.seg 23 (.seg 24 (.seg 25 (.seg 26 (.seg 27 (.seg 28 (.seg 29 (.seg 30 (.seg 31 (.seg 32 (.seg 33 (.seg 34 (.seg 35 (.seg 36 .last)))))))))))))))))))))))))))))))))))))),(3,[0,1,3,7,15,31,63,0,128,511,1023,2047,4095],(.seg 0 (.seg 1 (.seg 2 (.seg 3 (.seg 4 (.seg 5 (.seg 6 (.seg 7 (.seg 8 (.seg 9 (.seg 10 (.eff 11 [] (.seg 12 .last))))))))))))))] Tryz.func201 rfl (by kernel_rfl) rfl rfl rfl rfl (by kernel_rfl) ?_
 by_cases e5:k=5
 case neg =>
  simp [hL,e0,e1,e2,e3,lookRow,e5]
  exact ⟨(by repeat' (first | assumption | refine HSol.set ?_ (by simp))),fun i hi=>(by first | (intro e;exfalso;omega) | (repeat rw [if_neg (by omega)])),no (by simp [namesB,e5]) _ (by omega)⟩
 subst e5
 by_cases n0:0≤n
 case neg =>
  simp [hL,e0,e1,e2,e3,lookRow,n0]
  exact ⟨(by repeat' (first | assumption | refine HSol.set ?_ (by simp))),fun i hi=>(by first | (intro e;exfalso;omega) | (repeat rw [if_neg (by omega)])),no (by simp [namesB,n0]) _ (by omega)⟩
 by_cases n1:n<s.cells.length
 case neg =>
  simp [hL,e0,e1,e2,e3,lookRow,n0,n1]
  intro _
  exact ⟨(by repeat' (first | assumption | refine HSol.set ?_ (by simp))),fun i hi=>(by first | (intro e;exfalso;omega) | (repeat rw [if_neg (by omega)])),no (by simp [namesB,n0,n1]) _ (by omega)⟩
 have hc:=cell_get n0 n1
 have hc2:=cellAt_eq n0 n1
 simp [hL,e0,e1,e2,e3,lookRow,n0,n1,hc]
 intro _
 refine alt (fun c => ?_) (fun c => ?_)
 ·have hy:=yes (by simp [namesB,n0,n1,hc2,c]) (nx+1+1) (by omega)
  rw [hc2] at hy
  exact ⟨(by repeat' (first | assumption | refine HSol.set ?_ (by simp))),fun i hi=>(by first | (intro e;exfalso;omega) | (repeat rw [if_neg (by omega)])),hy⟩
 ·exact ⟨(by repeat' (first | assumption | refine HSol.set ?_ (by simp))),fun i hi=>(by first | (intro e;exfalso;omega) | (repeat rw [if_neg (by omega)])),no (by simp [namesB,n0,n1,hc2,c]) _ (by omega)⟩
theorem celFits_ok (S:Bool) (s:GState) (v:GVal) {K:D->List Blk->Prop} (h:K (dB (fitsB s v)) []):DPure Tryz.prog 200 [pS S s,aD (eVal v)] K:=by
 refine fn_ok [0,1,3,4] [] Tryz.func200 rfl (by kernel_rfl) rfl rfl rfl rfl (by kernel_rfl) ?_
 simp
 exact fits_ok S s v (by simpa using h)
theorem stwithin_ok (n lo hi:Int) {K:D->List Blk->Prop} (h:K (dB (btw n lo hi)) []):DPure Tryz.prog 145 [dI n,dI lo,dI hi] K:=by
 refine fn_ok [0,1,2,6] [] Tryz.func145 rfl (by kernel_rfl) rfl rfl rfl rfl (by kernel_rfl) ?_
 simp
 repeat' (first | (refine alt (fun _ => ?_) (fun _ => ?_)) | (intro _) | fail)
 all_goals exact kB h (by rw [Bool.eq_iff_iff];simp [btw];omega)
theorem fn_at {p:GProg} {n:Int} (h0:0≤n) (h:n<p.fns.length):p.fns[n.toNat]? = some (fnAt p n):=by
 unfold fnAt
 rw [List.getD_eq_getElem?_getD,List.getElem?_eq_getElem (by omega)];rfl
theorem fn_mem {p:GProg} {n:Int} (h0:0≤n) (h:n<p.fns.length):fnAt p n∈p.fns:=List.mem_of_getElem? (fn_at h0 h)
theorem lframe1_ok (p:GProg) (s:GState) {H:Hp} {nx nL nG n1:Nat} (hS:HSol H) (hL:H nL=some ⟨.c 155,7,[lookRow p s nG]⟩) (hc:H n1=some ⟨.c 150,1,[[.ptr nL 7 0 0]]⟩) (v:GVal) {K:D->Hp->Nat->Prop}
  (h : ∀ nx',nx≤nx'->K (dB (!fitsB s v)) H nx'):ICall Tryz.prog 244 [aD (eVal v),.one (.ptr n1 1 0 0)] H nx K:=by
 refine ICall.fresh (by kernel_rfl) fun hfr => ?_
 have hlt:=fresh_lt hfr hL
 have e0 : ¬ nL=nx:=by omega
 have e1 : ¬ nL=nx+1:=by omega
 have e2 : ¬ nL=nx+2:=by omega
 have e3 : ¬ nL=nx+3:=by omega
 have hlt1:=fresh_lt hfr hc
 have f0 : ¬ n1=nx:=by omega
 refine ICall.keepH hfr ?_
 refine fni_ok [0,1,2,3] [(1,[0,1,3,7,0,31,63,127],(.seg 0 (.seg 1 (.seg 2 (.seg 3 (.seg 4 (.eff 5 [] (.seg 6 (.seg 7 .last)))))))))] Tryz.func244 rfl (by kernel_rfl) rfl rfl rfl rfl (by kernel_rfl) ?_
 simp [hL,hc,e0,e1,e2,e3,f0,lookRow]
 refine celFits_ok true s v ?_
 simp
 exact ⟨(by repeat' (first | assumption | refine HSol.set ?_ (by simp))),fun i hi=>(by first | (intro e;exfalso;omega) | (repeat rw [if_neg (by omega)])),h _ (by omega)⟩
theorem lregs_ok (p:GProg) (s:GState) {H:Hp} {nx nL nG n1:Nat} (hS:HSol H) (hL:H nL=some ⟨.c 155,7,[lookRow p s nG]⟩) (hc:H n1=some ⟨.c 150,1,[[.ptr nL 7 0 0]]⟩) (S:Bool) (l:List GVal) {K:D->Hp->Nat->Prop}
  (h : ∀ nx',nx≤nx'->K (dB (!l.all (fitsB s))) H nx'):ICall Tryz.prog 122 [dL S (l.map eVal),.one (.fnp (.func 244) [.ptr n1 1 0 0])] H nx K:=by
 refine containsPV_ok S l eVal (fun v=>aD (eVal v)) 244 [.ptr n1 1 0 0] (fun k H' nx'=>H'=H∧nx≤nx'∧(l.take k).all (fitsB s)=true) (fun H' nx'=>H'=H∧nx≤nx'∧l.all (fitsB s)=false) (fun k H' nx' hi=>by rw [hi.1];exact hS) (fun H' nx' hi=>by rw [hi.1];exact hS) (fun x=>⟨_,_,rfl,rfl⟩) ⟨rfl,Nat.le_refl _,rfl⟩ (fun k hk H' nx' hi K hK1 hK2 => ?_) (fun H' nx' hi => ?_) (fun H' nx' hj => ?_)
 ·obtain ⟨rfl,hn,ha⟩:=hi
  refine lframe1_ok p s hS hL hc l[k] fun nx2 hn2 => ?_
  cases hf:fitsB s l[k] with
  | true=>exact hK1 _ _ ⟨rfl,by omega,by rw [all_take_next hk,ha,hf];rfl⟩
  | false=>exact hK2 _ _ ⟨rfl,by omega,by rw [List.all_eq_false];exact ⟨_,List.getElem_mem hk,by simp [hf]⟩⟩
 ·obtain ⟨rfl,hn,ha⟩:=hi
  rw [List.take_length] at ha
  have:=h _ hn
  rw [ha] at this
  exact this
 ·obtain ⟨rfl,hn,ha⟩:=hj
  have:=h _ hn
  rw [ha] at this
  exact this
theorem frame_iff {p:GProg} {s:GState} {f:GFrame} : frameB p s f=true↔(0≤f.fn∧f.fn<p.fns.length)∧namesB s f.self 4=true∧(cellAt s f.self.n).num=f.fn∧(f.regs.length:Int)=(fnAt p f.fn).regs∧(0≤f.at_∧f.at_<(fnAt p f.fn).code.length) ∧
  (triesQ (fnAt p f.fn)).seen.getD f.at_.toNat false=true∧f.tries=(triesQ (fnAt p f.fn)).out.getD f.at_.toNat []∧f.regs.all (fitsB s)=true:=by
 simp only [frameB,Bool.and_eq_true,decide_eq_true_eq,and_assoc]
theorem lframe_ok (p:GProg) (hp:checkQ wordsT p=0) (s:GState) {H:Hp} {nx nL nG:Nat} (hS:HSol H) (hL:H nL=some ⟨.c 155,7,[lookRow p s nG]⟩) (f:GFrame) {K:D->Hp->Nat->Prop}
  (h : ∀ nx',nx≤nx'->K (dB (frameB p s f)) H nx'):ICall Tryz.prog 228 [aLk nL,aD (eFrame f)] H nx K:=by
 refine ICall.fresh (by kernel_rfl) fun hfr => ?_
 have hlt:=fresh_lt hfr hL
 have e0 : ¬ nL=nx:=by omega
 have e1 : ¬ nL=nx+1:=by omega
 have e2 : ¬ nL=nx+2:=by omega
 have e3 : ¬ nL=nx+3:=by omega
 refine ICall.keepH hfr ?_
 have no : ¬ frameB p s f=true -> ∀ nx',nx≤nx'->K (dB false) H nx':=fun e nx' hn=>by have:=h nx' hn;rw [Bool.eq_false_iff.2 e] at this;exact this
 rw [frame_iff] at no
 have hl60:=(large_lt (check_zero hp).1).1
 refine fni_ok [0,1,2,3,4,5,6,7,18,76] [(1,[0,1,0,4,12,28,60,124,252,511,1023],(.seg 0 (.seg 1 (.seg 2 (.seg 3 (.seg 4 (.seg 5 (.seg 6 (.seg 7 (.seg 8 (.eff 9 [] (.seg 10 .last)))))))))))),(3,[0,1,3,7,15,0,32,127,255,0,1023],(.seg 0 (.seg 1 (.seg 2 (.seg 3 (.seg 4 (.seg 5 (.seg 6 (.seg 7 (.seg 8 (.eff 9 [0,1,2,3,4,5,6,7,8] (.eff 10 [] .last)))))))))))),(5,[0,1,3,7,15,7,39,127,255,511,1023,2047,4095,1023,9215,32767,65535,131071,262143,524287,262143,1310719,3407871,7602175,16777215,33554431,67108863,134217727,268435455,536870911,1073741823,2147483647,268435455,4563402751,17179869183,34359738367,268435455,68987912191,274877906943,549755813887,1099511627775,2199023255551],(.seg 0 (.seg 1 (.seg 2 (.seg 3 (.seg 4 (.seg 5 (.seg 6 (.seg 7 (.seg 8 (.seg 9 (.seg 10 (.seg 11 (.seg 12 (.seg 13 (.seg 14 (.seg 15 (.seg 16 (.seg 17 (.seg 18 (.seg 19 (.seg 20 (.seg 21 (.seg 22 (.seg 23 (.eff 24 [] (.seg 25 (.seg 26 (.seg 27 (.seg 28 (.seg 29 (.seg 30 (.seg 31 (.seg 32 (.seg 33 (.seg 34 (.seg 35 (.seg 36 (.seg 37 (.seg 38 (.seg 39 (.seg 40 (.seg 41 .last))))))))))))))))))))))))))))))))))))))))))),(7,[0,1,0,4,12,28,0,64,252,508,0,1024,4092,8188,16383,32767,65535,131071,65535,524287,1048575,2097151,4194303],(.seg 0 (.seg 1 (.seg 2 (.seg 3 (.seg 4 (.seg 5 (.seg 6 (.seg 7 (.seg 8 (.seg 9 (.seg 10 (.seg 11 (.seg 12 (.seg 13 (.eff 14 [1,2,5,7,9,11,13] (.seg 15 (.seg 16 (.seg 17 (.seg 18 (.eff 19 [] (.seg 20 (.seg 21 (.seg 22 .last))))))))))))))))))))))))] Tryz.func228 rfl (by kernel_rfl) rfl rfl rfl rfl (by kernel_rfl) ?_
 simp [hL,e0,e1,e2,e3,lookRow]
 intro _
 refine stwithin_ok _ _ _ ?_
 rw [wrap_id (by omega) (by omega)]
 by_cases c1:0≤f.fn∧f.fn<p.fns.length
 case neg =>
  have:btw f.fn 0 ((p.fns.length:Int)-1)=false:=by simp [btw];omega
  rw [this]
  simp
  exact ⟨(by repeat' (first | assumption | refine HSol.set ?_ (by simp))),fun i hi=>(by first | (intro e;exfalso;omega) | (repeat rw [if_neg (by omega)])),no (fun e=>c1 e.1) _ (by omega)⟩
 have:btw f.fn 0 ((p.fns.length:Int)-1)=true:=by simp [btw];omega
 rw [this]
 have hfa:=fn_at c1.1 c1.2
 obtain ⟨-, -, hgo,hl6, -⟩:=fn_in hp (fn_mem c1.1 c1.2)
 have hg:p.fns[f.fn.toNat]'(by omega)=fnAt p f.fn:=Option.some.inj ((List.getElem?_eq_getElem _).symm.trans hfa)
 simp [c1,hL,e0,e1,e2,e3,lookRow,hfa,hg]
 generalize hF:fnAt p f.fn=fn at *
 refine lcell_ok p s (nL:=nL) (nG:=nG) (by repeat' (first | assumption | refine HSol.set ?_ (by simp))) (by simp [hL,e0,e1,e2,lookRow]) f.self 4 (fun c2 nx1 hn1 => ?_) (fun c2 nx1 hn1 => ?_)
 ·have e4 : ¬ nL=nx1:=by omega
  have e5 : ¬ nL=nx1+1:=by omega
  have d0 : ¬ nx=nx1:=by omega
  have d1 : ¬ nx+1=nx1:=by omega
  have d2 : ¬ nx+2=nx1:=by omega
  simp [hL,e0,e1,e2,e3,e4,d0,d1,d2,lookRow]
  refine alt (fun c3 => ?_) (fun c3 => ?_)
  rotate_left
  ·exact ⟨(by repeat' (first | assumption | refine HSol.set ?_ (by simp))),fun i hi=>(by first | (intro e;exfalso;omega) | (repeat rw [if_neg (by omega)])),no (fun e=>c3 e.2.2.1) _ (by omega)⟩
  intro _
  refine alt (fun c4 => ?_) (fun c4 => ?_)
  rotate_left
  ·exact ⟨(by repeat' (first | assumption | refine HSol.set ?_ (by simp))),fun i hi=>(by first | (intro e;exfalso;omega) | (repeat rw [if_neg (by omega)])),no (fun e=>c4 e.2.2.2.1) _ (by omega)⟩
  intro _
  refine stwithin_ok _ _ _ ?_
  rw [wrap_id (by omega) (by omega)]
  by_cases c5:0≤f.at_∧f.at_<fn.code.length
  case neg =>
   have:btw f.at_ 0 ((fn.code.length:Int)-1)=false:=by simp [btw];omega
   rw [this]
   simp
   exact ⟨(by repeat' (first | assumption | refine HSol.set ?_ (by simp))),fun i hi=>(by first | (intro e;exfalso;omega) | (repeat rw [if_neg (by omega)])),no (fun e=>c5 e.2.2.2.2.1) _ (by omega)⟩
  have:btw f.at_ 0 ((fn.code.length:Int)-1)=true:=by simp [btw];omega
  rw [this]
  have hls:=(triesQ_ok hgo).1.ls
  have hlo:=(triesQ_ok hgo).1.lo
  have g1:(triesQ fn).seen[f.at_.toNat]? = some ((triesQ fn).seen.getD f.at_.toNat false):=by rw [List.getD_eq_getElem?_getD,List.getElem?_eq_getElem (by omega)];rfl
  have g2:(triesQ fn).out[f.at_.toNat]? = some ((triesQ fn).out.getD f.at_.toNat []):=by rw [List.getD_eq_getElem?_getD,List.getElem?_eq_getElem (by omega)];rfl
  generalize hbs:(triesQ fn).seen.getD f.at_.toNat false=bs at *
  generalize hts:(triesQ fn).out.getD f.at_.toNat []=ts at *
  simp [hL,e0,e1,e2,e3,e4,d0,d1,d2,lookRow,c1,c5,hfa,hg,g1,g2]
  refine alt (fun c6 => ?_) (fun c6 => ?_)
  rotate_left
  ·exact ⟨(by repeat' (first | assumption | refine HSol.set ?_ (by simp))),fun i hi=>(by first | (intro e;exfalso;omega) | (repeat rw [if_neg (by omega)])),no (fun e=>c6 e.2.2.2.2.2.1) _ (by omega)⟩
  simp [hL,e0,e1,e2,e3,e4,d0,d1,d2,lookRow,c1,c5,hfa,hg,g1,g2,eTs]
  refine equalT_ok true true f.tries ts ?_
  by_cases c7:f.tries=ts
  case neg =>
   simp [c7]
   exact ⟨(by repeat' (first | assumption | refine HSol.set ?_ (by simp))),fun i hi=>(by first | (intro e;exfalso;omega) | (repeat rw [if_neg (by omega)])),no (fun e=>c7 e.2.2.2.2.2.2.1) _ (by omega)⟩
  simp [hL,e0,e1,e2,e3,e4,d0,d1,d2,lookRow,c7]
  refine lregs_ok p s (nL:=nL) (nG:=nG) (n1:=nx) ?_ ?_ ?_ true f.regs fun nx2 hn2 => ?_
  ·exact (by repeat' (first | assumption | refine HSol.set ?_ (by simp)))
  ·simp [hL,e0,e1,e2,e3,e4,d0,d1,d2,lookRow,c7]
  ·simp [hL,e0,e1,e2,e3,e4,d0,d1,d2,lookRow,c7]
  cases c8:f.regs.all (fitsB s) with
  | false =>
   simp
   exact ⟨(by repeat' (first | assumption | refine HSol.set ?_ (by simp))),fun i hi=>(by first | (intro e;exfalso;omega) | (repeat rw [if_neg (by omega)])),no (fun e=>by rw [c8] at e;exact absurd e.2.2.2.2.2.2.2 (by simp)) _ (by omega)⟩
  | true =>
   simp
   have hy:=h nx2 (by omega)
   rw [frame_iff.2 ⟨c1,c2,c3,by rw [hF];exact c4,by rw [hF];exact c5,by rw [hF,hbs];exact c6,by rw [hF,hts];exact c7,c8⟩] at hy
   exact ⟨(by repeat' (first | assumption | refine HSol.set ?_ (by simp))),fun i hi=>(by first | (intro e;exfalso;omega) | (repeat rw [if_neg (by omega)])),hy⟩
 ·have e4 : ¬ nL=nx1:=by omega
  have e5 : ¬ nL=nx1+1:=by omega
  have d0 : ¬ nx=nx1:=by omega
  have d1 : ¬ nx+1=nx1:=by omega
  have d2 : ¬ nx+2=nx1:=by omega
  simp [hL,e0,e1,e2,e3,e4,d0,d1,d2,lookRow]
  exact ⟨(by repeat' (first | assumption | refine HSol.set ?_ (by simp))),fun i hi=>(by first | (intro e;exfalso;omega) | (repeat rw [if_neg (by omega)])),no (fun e=>by rw [c2] at e;exact absurd e.2.1 (by simp)) _ (by omega)⟩
theorem saved_iff {p:GProg} {s:GState} {f:GFrame} : savedB p s f=true↔frameB p s f=true∧f.to = -1∧f.gen = -1∧(fnAt p f.fn).gen=true∧(f.at_=0∨((fnAt p f.fn).code.getD (f.at_-1).toNat dIns).op=32):=by
 simp only [savedB,Bool.and_eq_true,Bool.or_eq_true,decide_eq_true_eq,and_assoc]
theorem lsaved_ok (p:GProg) (hp:checkQ wordsT p=0) (s:GState) {H:Hp} {nx nL nG:Nat} (hS:HSol H) (hL:H nL=some ⟨.c 155,7,[lookRow p s nG]⟩) (f:GFrame) {K:D->Hp->Nat->Prop}
  (h : ∀ nx',nx≤nx'->K (dB (savedB p s f)) H nx'):ICall Tryz.prog 199 [aLk nL,aD (eFrame f)] H nx K:=by
 refine ICall.fresh (by kernel_rfl) fun hfr => ?_
 have hlt:=fresh_lt hfr hL
 have e0 : ¬ nL=nx:=by omega
 have e1 : ¬ nL=nx+1:=by omega
 have e2 : ¬ nL=nx+2:=by omega
 have e3 : ¬ nL=nx+3:=by omega
 refine ICall.keepH hfr ?_
 have no : ¬ savedB p s f=true -> ∀ nx',nx≤nx'->K (dB false) H nx':=fun e nx' hn=>by have:=h nx' hn;rw [Bool.eq_false_iff.2 e] at this;exact this
 rw [saved_iff] at no
 refine fni_ok [0,1,3,4,31] [(1,[0,0,3,7,15,31,63,127,255,511,1023,2047,4095,8191,16383,32767,65535,131071,262143,524287,32767,1081343,4194303,8388607,16777215,33554431,67108863],(.seg 0 (.seg 1 (.eff 2 [] (.seg 3 (.seg 4 (.seg 5 (.seg 6 (.seg 7 (.seg 8 (.seg 9 (.seg 10 (.seg 11 (.seg 12 (.seg 13 (.seg 14 (.seg 15 (.seg 16 (.seg 17 (.seg 18 (.seg 19 (.seg 20 (.seg 21 (.seg 22 (.seg 23 (.seg 24 (.seg 25 (.seg 26 .last)))))))))))))))))))))))))))),(3,[0,1,3,7,15,31,63,127,255,15,527,2047,4095,8191,15,16399,49167,131071,262143,524287,1048575,2097151,4194303],(.seg 0 (.seg 1 (.seg 2 (.seg 3 (.seg 4 (.seg 5 (.seg 6 (.seg 7 (.seg 8 (.seg 9 (.seg 10 (.seg 11 (.seg 12 (.seg 13 (.seg 14 (.seg 15 (.seg 16 (.seg 17 (.seg 18 (.seg 19 (.seg 20 (.seg 21 (.seg 22 .last))))))))))))))))))))))))] Tryz.func199 rfl (by kernel_rfl) rfl rfl rfl rfl (by kernel_rfl) ?_
 simp [hL,e0,e1,e2,e3,lookRow]
 refine lframe_ok p hp s (nL:=nL) (nG:=nG) ?_ ?_ f fun nx1 hn1 => ?_
 ·exact (by repeat' (first | assumption | refine HSol.set ?_ (by simp)))
 ·simp [hL,e0,e1,e2,e3,lookRow]
 have e4 : ¬ nL=nx1:=by omega
 have d0 : ¬ nx=nx1:=by omega
 by_cases c1:frameB p s f=true
 case neg =>
  rw [Bool.eq_false_iff.2 c1]
  simp [hL,e0,e1,e2,e3,e4,d0,lookRow,c1]
  exact ⟨(by repeat' (first | assumption | refine HSol.set ?_ (by simp))),fun i hi=>(by first | (intro e;exfalso;omega) | (repeat rw [if_neg (by omega)])),no (fun e=>c1 e.1) _ (by omega)⟩
 have c2:=frame_iff.1 c1
 rw [c1]
 have hfa:=fn_at c2.1.1 c2.1.2
 have hc2:=c2.1.1
 have hc3:=c2.2.2.2.2.1
 generalize hF:fnAt p f.fn=fn at *
 have hg : ∀ h:f.fn.toNat<p.fns.length,p.fns[f.fn.toNat]=fn:=fun h=>Option.some.inj ((List.getElem?_eq_getElem h).symm.trans hfa)
 by_cases c3:f.to = -1
 case neg =>
  simp [hL,e0,e1,e2,e3,e4,d0,lookRow,c3]
  exact ⟨(by repeat' (first | assumption | refine HSol.set ?_ (by simp))),fun i hi=>(by first | (intro e;exfalso;omega) | (repeat rw [if_neg (by omega)])),no (fun e=>c3 e.2.1) _ (by omega)⟩
 by_cases c4:f.gen = -1
 case neg =>
  simp [hL,e0,e1,e2,e3,e4,d0,lookRow,c3,c4]
  exact ⟨(by repeat' (first | assumption | refine HSol.set ?_ (by simp))),fun i hi=>(by first | (intro e;exfalso;omega) | (repeat rw [if_neg (by omega)])),no (fun e=>c4 e.2.2.1) _ (by omega)⟩
 by_cases c5:fn.gen=true
 case neg =>
  simp [hL,e0,e1,e2,e3,e4,d0,lookRow,c2,c3,c4,hc2,hfa,hg,c5]
  exact ⟨(by repeat' (first | assumption | refine HSol.set ?_ (by simp))),fun i hi=>(by first | (intro e;exfalso;omega) | (repeat rw [if_neg (by omega)])),no (fun e=>c5 e.2.2.2.1) _ (by omega)⟩
 by_cases c6:f.at_=0
 ·simp [hL,e0,e1,e2,e3,e4,d0,lookRow,c2,c3,c4,hc2,hfa,hg,c5,c6]
  have hy:=h nx1 (by omega)
  rw [saved_iff.2 ⟨c1,c3,c4,by rw [hF];exact c5,.inl c6⟩] at hy
  exact ⟨(by repeat' (first | assumption | refine HSol.set ?_ (by simp))),fun i hi=>(by first | (intro e;exfalso;omega) | (repeat rw [if_neg (by omega)])),hy⟩
 have hl6:fn.code.length≤600:=by
  obtain ⟨-, -, -, hl6, -⟩:=fn_in hp (fn_mem c2.1.1 c2.1.2)
  rw [hF] at hl6;exact hl6
 obtain ⟨k,hk⟩ : ∃ k:Nat,f.at_=(k:Int)+1:=⟨(f.at_-1).toNat,by omega⟩
 have hkl:k<fn.code.length:=by omega
 have hw:IntKind.i64.wrap (k:Int)=k:=wrap_id (by omega) (by omega)
 have hz : ¬ (k:Int)+1=0:=by omega
 have hgd:fn.code.getD (f.at_-1).toNat dIns=fn.code[k]:=by
  rw [hk,show ((k:Int)+1-1).toNat=k by omega,List.getD_eq_getElem?_getD,List.getElem?_eq_getElem hkl];rfl
 simp [hL,e0,e1,e2,e3,e4,d0,lookRow,c2,c3,c4,hc2,hfa,hg,c5,hk,hz,hw,hkl]
 have hy:=h nx1 (by omega)
 rw [show savedB p s f=decide (fn.code[k].op=32) by
  rw [Bool.eq_iff_iff,saved_iff,hF,hgd,decide_eq_true_eq]
  exact ⟨fun e=>(e.2.2.2.2).resolve_left c6,fun e=>⟨c1,c3,c4,c5,.inr e⟩⟩] at hy
 exact ⟨(by repeat' (first | assumption | refine HSol.set ?_ (by simp))),fun i hi=>(by first | (intro e;exfalso;omega) | (repeat rw [if_neg (by omega)])),hy⟩
theorem lheap_ok (p:GProg) (hp:checkQ wordsT p=0) (s:GState) {H:Hp} {nx nL nG:Nat} (hS:HSol H) (hL:H nL=some ⟨.c 155,7,[lookRow p s nG]⟩) (c:GCell) (hc:cellB s c=true) {K:D->Hp->Nat->Prop}
  (h : ∀ nx',nx≤nx'->K (dB (heapB p s c)) H nx'):ICall Tryz.prog 147 [aLk nL,aD (eCell c)] H nx K:=by
 refine ICall.fresh (by kernel_rfl) fun hfr => ?_
 have hlt:=fresh_lt hfr hL
 have e0 : ¬ nL=nx:=by omega
 have e1 : ¬ nL=nx+1:=by omega
 have e2 : ¬ nL=nx+2:=by omega
 have e3 : ¬ nL=nx+3:=by omega
 refine ICall.keepH hfr ?_
 obtain ⟨kind,num,vals,frames⟩:=c
 simp only [cellB,Bool.and_eq_true,decide_eq_true_eq] at hc
 refine fni_ok [0,1,3,4,6,7,35] [(3,[0,1,0,4,12,28,60,124,255,511,1023,2047,4095,1023,9215,25599,58367,123903,1023,263167,1041407,2089983,4187135,8381439,16777215,33554431,67108863],(.seg 0 (.seg 1 (.seg 2 (.seg 3 (.seg 4 (.seg 5 (.seg 6 (.seg 7 (.seg 8 (.seg 9 (.seg 10 (.seg 11 (.seg 12 (.seg 13 (.seg 14 (.seg 15 (.seg 16 (.seg 17 (.seg 18 (.seg 19 (.seg 20 (.seg 21 (.seg 22 (.seg 23 (.seg 24 (.seg 25 (.seg 26 .last))))))))))))))))))))))))))))] Tryz.func147 rfl (by kernel_rfl) rfl rfl rfl rfl (by kernel_rfl) ?_
 by_cases k4:kind=4
 ·subst k4
  have hn:0≤num:=by
   have:=hc.1.1.1
   simp [kindB] at this
   exact this.1
  by_cases c1:num<p.fns.length
  case neg =>
   simp [hL,e0,e1,e2,e3,lookRow,hn,c1]
   intro _
   have hy:=h (nx+1) (by omega)
   rw [show heapB p s ⟨4,num,vals,frames⟩=false by simp [heapB,c1]] at hy
   exact ⟨(by repeat' (first | assumption | refine HSol.set ?_ (by simp))),fun i hi=>(by first | (intro e;exfalso;omega) | (repeat rw [if_neg (by omega)])),hy⟩
  have hfa:=fn_at hn c1
  have hg : ∀ h:num.toNat<p.fns.length,p.fns[num.toNat]=fnAt p num:=fun h=>Option.some.inj ((List.getElem?_eq_getElem h).symm.trans hfa)
  simp [hL,e0,e1,e2,e3,lookRow,hn,c1,hg]
  intro _ _ _
  have hy:=h (nx+1) (by omega)
  exact ⟨(by repeat' (first | assumption | refine HSol.set ?_ (by simp))),fun i hi=>(by first | (intro e;exfalso;omega) | (repeat rw [if_neg (by omega)])),kBI hy (by rw [Bool.eq_iff_iff];simp [heapB,c1];omega)⟩
 by_cases k5:kind=5
 ·subst k5
  by_cases c1:num=0
  case neg =>
   simp [hL,e0,e1,e2,e3,lookRow,c1]
   have hy:=h (nx+1) (by omega)
   rw [show heapB p s ⟨5,num,vals,frames⟩=true by simp [heapB,c1]] at hy
   exact ⟨(by repeat' (first | assumption | refine HSol.set ?_ (by simp))),fun i hi=>(by first | (intro e;exfalso;omega) | (repeat rw [if_neg (by omega)])),hy⟩
  subst c1
  have hfl:frames.length=1:=hc.1.1.2
  obtain ⟨f,rfl⟩ : ∃ f,frames=[f]:=by
   match frames,hfl with
   | [f],_=>exact ⟨f,rfl⟩
  simp [hL,e0,e1,e2,e3,lookRow]
  refine lsaved_ok p hp s (nL:=nL) (nG:=nG) ?_ ?_ f fun nx1 hn1 => ?_
  ·exact (by repeat' (first | assumption | refine HSol.set ?_ (by simp)))
  ·simp [hL,e0,lookRow]
  simp
  have hy:=h nx1 (by omega)
  rw [show heapB p s ⟨5,0,vals,[f]⟩=savedB p s f by simp [heapB]] at hy
  exact ⟨(by repeat' (first | assumption | refine HSol.set ?_ (by simp))),fun i hi=>(by first | (intro e;exfalso;omega) | (repeat rw [if_neg (by omega)])),hy⟩
 ·simp [hL,e0,e1,e2,e3,lookRow,k4,k5]
  have hy:=h (nx+1) (by omega)
  rw [show heapB p s ⟨kind,num,vals,frames⟩=true by simp [heapB,k4,k5]] at hy
  exact ⟨(by repeat' (first | assumption | refine HSol.set ?_ (by simp))),fun i hi=>(by first | (intro e;exfalso;omega) | (repeat rw [if_neg (by omega)])),hy⟩
def nilV:GVal:=⟨0,0⟩
theorem fits_nil (s:GState):fitsB s nilV=true:=by simp [fitsB,nilV,rightB]
theorem start_fns {p:GProg} (h:checkQ wordsT p=0):0<p.fns.length∧(fnAt p 0).caught=[]∧(fnAt p 0).gen=false∧functionB p (fnAt p 0)=true:=by
 obtain ⟨-, -, h3,h4⟩:=check_zero h
 obtain ⟨fns,cs,ts⟩:=p
 cases fns with
 | nil=>simp [firstB] at h3
 | cons f fs =>
  simp [firstB] at h3
  have:fnAt ⟨f::fs,cs,ts⟩ 0=f:=rfl
  rw [this]
  exact ⟨by simp,h3.1.2,h3.2,h4 f (List.mem_cons_self ..)⟩
noncomputable def seenG (l:List Int):Value->Int:=fun v=>if v∈l.map (Value.int .i64) then 1 else 0
theorem seenG_nil:seenG []=fun _=>0:=by funext v;simp [seenG]
theorem seenG_get (l:List Int) (n:Int):seenG l (.int .i64 n)=1↔n∈l:=by
 unfold seenG
 have e:Value.int .i64 n∈l.map (Value.int .i64)↔n∈l:=by simp
 by_cases h:n∈l
 ·rw [if_pos (e.2 h)];simp [h]
 ·rw [if_neg (fun h'=>h (e.1 h'))];simp [h]
theorem seenG_not (l:List Int) (n:Int):seenG l (.int .i64 n)=0↔n ∉ l:=by
 unfold seenG
 have e:Value.int .i64 n∈l.map (Value.int .i64)↔n∈l:=by simp
 by_cases h:n∈l
 ·rw [if_pos (e.2 h)];simp [h]
 ·rw [if_neg (fun h'=>h (e.1 h'))];simp [h]
theorem seenG_add (l:List Int) (n:Int):(fun v=>if v=Value.int .i64 n then 1 else seenG l v)=seenG (l++[n]):=by
 funext v
 unfold seenG
 rw [List.map_append]
 by_cases h:v=Value.int .i64 n
 ·rw [if_pos h,if_pos (by rw [h];simp)]
 ·rw [if_neg h]
  by_cases h2:v∈l.map (Value.int .i64)
  ·rw [if_pos h2,if_pos (List.mem_append_left _ h2)]
  ·rw [if_neg h2,if_neg (fun hm=>by
    rcases List.mem_append.1 hm with hm | hm
    ·exact h2 hm
    ·exact h (by simpa using hm))]
def gK (p:GProg) (gs:List Int) (fs:List GFrame) (k:Nat):List Int:=gs++gensF p (fs.take k)
theorem gK_zero {p:GProg} {gs:List Int} {fs:List GFrame} : gK p gs fs 0=gs:=by simp [gK,gensF]
theorem gensF_app {p:GProg} {a b:List GFrame} : gensF p (a++b)=gensF p a++gensF p b:=by simp only [gensF,List.filter_append,List.map_append]
theorem gK_no {p:GProg} {gs:List Int} {fs:List GFrame} {k:Nat} (hk:k<fs.length) (hg:(fnAt p fs[k].fn).gen=false):gK p gs fs (k+1)=gK p gs fs k:=by
 rw [gK,gK,List.take_succ_eq_append_getElem hk,gensF_app]
 simp [gensF,hg]
theorem gK_yes {p:GProg} {gs:List Int} {fs:List GFrame} {k:Nat} (hk:k<fs.length) (hg:(fnAt p fs[k].fn).gen=true):gK p gs fs (k+1)=gK p gs fs k++[fs[k].gen]:=by
 rw [gK,gK,List.take_succ_eq_append_getElem hk,gensF_app,List.append_assoc]
 simp [gensF,hg]
theorem gK_end {p:GProg} {gs:List Int} {fs:List GFrame} : gK p gs fs fs.length=gs++gensF p fs:=by simp [gK]
theorem gK_sub {p:GProg} {gs:List Int} {fs:List GFrame} {k:Nat} : (gK p gs fs k).Sublist (gs++gensF p fs):=by
 unfold gK gensF
 exact List.Sublist.append (List.Sublist.refl _) (((List.take_sublist k fs).filter _).map _)
theorem gK_len {p:GProg} {gs:List Int} {fs:List GFrame} {k:Nat} : (gK p gs fs k).length≤gs.length+fs.length:=by
 have h1:=(gK_sub (p:=p) (gs:=gs) (fs:=fs) (k:=k)).length_le
 have h2:(gensF p fs).length≤fs.length:=by unfold gensF;rw [List.length_map];exact List.length_filter_le ..
 rw [List.length_append] at h1
 omega
theorem heap_at {H H':Hp} {nx nG:Nat} {x:Option Blk} (hf : ∀ i,nx≤i->H i=none) (h1:H' nG=x) (h2 : ∀ i,i<nx->i≠nG->H' i=H i) (hlt:nG<nx) : ∀ i y,(H.set nG x) i=some y->H' i=some y:=fun i y hy=>by
 by_cases e:i=nG
 ·subst e;rw [Hp.set_same] at hy;rw [h1,hy]
 ·rw [Hp.set_ne _ _ e] at hy
  rw [h2 i (Nat.lt_of_not_le fun hl=>by rw [hf i hl] at hy;cases hy) e];exact hy
theorem stack_iff {p:GProg} {s:GState} {fs:List GFrame} {k:Nat} (hk:k<fs.length):stackB p s fs k=true↔frameB p s fs[k]=true∧(-1≤fs[k].to∧fs[k].to<(if k=0 then 0 else ((fs.getD (k-1) dFrame).regs.length:Int))) ∧
  (if (fnAt p fs[k].fn).gen=true then 0≤fs[k].gen∧0<k∧namesB s ⟨5,fs[k].gen⟩ 5=true∧(cellAt s fs[k].gen).num=1 else fs[k].gen = -1):=by
 have hd:fs.getD k dFrame=fs[k]:=by rw [List.getD_eq_getElem?_getD,List.getElem?_eq_getElem hk];rfl
 unfold stackB
 simp only [hd,Bool.and_eq_true,decide_eq_true_eq,and_assoc]
 by_cases hg:(fnAt p fs[k].fn).gen=true
 ·simp only [hg,if_true,Bool.and_eq_true,decide_eq_true_eq,and_assoc]
 ·simp only [hg,if_false,Bool.false_eq_true,decide_eq_true_eq,and_assoc]
structure KL where
 k:Nat
 nx:Nat
theorem lstack_ok (p:GProg) (hp:checkQ wordsT p=0) (s:GState) (hs:s.cells.length≤1000) {H:Hp} {nx nL nG:Nat} (hS:HSol H) (hL:H nL=some ⟨.c 155,7,[lookRow p s nG]⟩) (S:Bool) (gs:List Int) (hG:H nG=some ⟨.m 3 (seenG gs) gs.length,0,[]⟩)
  (fs:List GFrame) (hn:gs.Nodup) (hlen:gs.length+fs.length≤10000) {K:D->Hp->Nat->Prop}
  (h1:(∀ k<fs.length,stackB p s fs k=true)->(gs++gensF p fs).Nodup -> ∀ nx',nx≤nx'->K (dB true) (H.set nG (some ⟨.m 3 (seenG (gs++gensF p fs)) (gs++gensF p fs).length,0,[]⟩)) nx')
  (h2 : ¬ ((∀ k<fs.length,stackB p s fs k=true)∧(gs++gensF p fs).Nodup) -> ∀ H' nx',HSol H'->K (dB false) H' nx'):ICall Tryz.prog 202 [aLk nL,dL S (fs.map eFrame)] H nx K:=by
 refine ICall.fresh (by kernel_rfl) fun hfr => ?_
 have hlt:=fresh_lt hfr hL
 have hltG:=fresh_lt hfr hG
 have hLG : ¬ nL=nG:=by rintro rfl;rw [hL] at hG;simp at hG
 have hl60:=(large_lt (check_zero hp).1).1
 have hfn0:=(start_fns hp).1
 refine fni_ok [0,1,4,5,6,7,8,9,10,11,12,13,14,19,69,71,100] [(7,[0,1,3,7,15,0,32,0,128,384,896,1920,3968,8064,16352,32736,65535,131071,262143,524287],(.seg 0 (.seg 1 (.seg 2 (.seg 3 (.seg 4 (.seg 5 (.seg 6 (.seg 7 (.seg 8 (.seg 9 (.seg 10 (.seg 11 (.seg 12 (.seg 13 (.seg 14 (.seg 15 (.seg 16 (.seg 17 (.seg 18 (.seg 19 .last))))))))))))))))))))),(12,[0,1,3,7,15,31,63,127,255,511,1023,2047,4095,8191,16383,32767,4095,69631,262143,524287,1048575],(.seg 0 (.seg 1 (.seg 2 (.seg 3 (.seg 4 (.seg 5 (.seg 6 (.seg 7 (.seg 8 (.seg 9 (.seg 10 (.seg 11 (.seg 12 (.seg 13 (.seg 14 (.seg 15 (.seg 16 (.seg 17 (.seg 18 (.seg 19 (.seg 20 .last)))))))))))))))))))))),(14,[0,1,3,7,0,16,63],(.seg 0 (.seg 1 (.seg 2 (.seg 3 (.seg 4 (.seg 5 (.eff 6 [] .last))))))))] Tryz.func202 rfl (by kernel_rfl) rfl rfl rfl rfl (by kernel_rfl) ?_
 simp
 intro _
 refine loopH_ok (ks := [0,1,4,5,6,7,8,9,10,11,12,13,14,19,69,71,100]) (pl := [(7,[0,1,3,7,15,0,32,0,128,384,896,1920,3968,8064,16352,32736,65535,131071,262143,524287],(.seg 0 (.seg 1 (.seg 2 (.seg 3 (.seg 4 (.seg 5 (.seg 6 (.seg 7 (.seg 8 (.seg 9 (.seg 10 (.seg 11 (.seg 12 (.seg 13 (.seg 14 (.seg 15 (.seg 16 (.seg 17 (.seg 18 (.seg 19 .last))))))))))))))))))))),(12,[0,1,3,7,15,31,63,127,255,511,1023,2047,4095,8191,16383,32767,4095,69631,262143,524287,1048575],(.seg 0 (.seg 1 (.seg 2 (.seg 3 (.seg 4 (.seg 5 (.seg 6 (.seg 7 (.seg 8 (.seg 9 (.seg 10 (.seg 11 (.seg 12 (.seg 13 (.seg 14 (.seg 15 (.seg 16 (.seg 17 (.seg 18 (.seg 19 (.seg 20 .last)))))))))))))))))))))),(14,[0,1,3,7,0,16,63],(.seg 0 (.seg 1 (.seg 2 (.seg 3 (.seg 4 (.seg 5 (.eff 6 [] .last))))))))]) (n0:=108) (α := {x:KL//x.k≤fs.length∧nx≤x.nx∧(∀ j<x.k,stackB p s fs j=true)∧(gK p gs fs x.k).Nodup}) (fun x=>[(13,dI x.1.k)]) (fun H x=>H.set nG (some ⟨.m 3 (seenG (gK p gs fs x.1.k)) (gK p gs fs x.1.k).length,0,[]⟩)) (fun x=>x.1.nx) (fun x=>fs.length-x.1.k) ⟨⟨0,nx⟩,Nat.zero_le _,Nat.le_refl _,fun j hj=>by simp at hj,by rw [gK_zero];exact hn⟩ rfl (by kernel_rfl) (Wk.subH (by simp) (by
  funext i
  simp only [Hp.set,gK_zero]
  split
  ·rename_i e;rw [e,hG]
  ·rfl)) ?_
 rintro ⟨⟨k,m⟩,hk,hm,hall,hnd⟩
 simp only at hk hm hall hnd
 by_cases c0:k<fs.length
 case neg =>
  obtain rfl:k=fs.length:=by omega
  simp
  have hy:=h1 hall (by rw [← gK_end];exact hnd) m hm
  rw [← gK_end] at hy
  exact ⟨(by repeat' (first | assumption | refine HSol.set ?_ (by simp))),hy⟩
 have hbad : ¬ stackB p s fs k=true -> ∀ H' nx',HSol H'->K (dB false) H' nx':=fun e=>h2 fun e2=>e (e2.1 k c0)
 have hbad2 : ¬ (gK p gs fs (k+1)).Nodup -> ∀ H' nx',HSol H'->K (dB false) H' nx':=fun e=>h2 fun e2=>e (e2.2.sublist gK_sub)
 have hst:=stack_iff (p:=p) (s:=s) c0
 have hno:=gK_no (p:=p) (gs:=gs) c0
 have hyes:=gK_yes (p:=p) (gs:=gs) c0
 have hgl:=gK_len (p:=p) (gs:=gs) (fs:=fs) (k:=k)
 generalize hf:fs[k]=f at *
 have e0 : ¬ nL=m:=by omega
 have e1 : ¬ nL=m+1:=by omega
 have e2 : ¬ nG=m:=by omega
 have e3 : ¬ nG=m+1:=by omega
 have hw:IntKind.i64.wrap ((p.fns.length:Int)-1)=(p.fns.length:Int)-1:=wrap_id (by omega) (by omega)
 by_cases c1:0≤f.fn∧f.fn<p.fns.length
 ·have hfa:=fn_at c1.1 c1.2
  have hg : ∀ h:f.fn.toNat<p.fns.length,p.fns[f.fn.toNat]=fnAt p f.fn:=fun h=>Option.some.inj ((List.getElem?_eq_getElem h).symm.trans hfa)
  have m1 : ¬ (p.fns.length:Int)-1<f.fn:=by omega
  have m2:(if 0<f.fn then f.fn else 0)=f.fn:=by split <;> omega
  generalize hF:fnAt p f.fn=fn at *
  cases k with
  | zero =>
   have hlow:(if (0:Nat)=0 then (0:Int) else ((fs.getD (0-1) dFrame).regs.length:Int))=0:=rfl
   rw [hlow] at hst
   simp [c0,hf,hL,hLG,e0,e1,e2,e3,lookRow,hw,m1,m2,hfa,hg,c1]
   intro _
   have hwl:IntKind.i64.wrap (-1)=(0:Int)-1:=by kernel_rfl
   refine lframe_ok p hp s (nL:=nL) (nG:=nG) ?_ ?_ f fun nx1 hn1 => ?_
   ·exact (by repeat' (first | assumption | refine HSol.set ?_ (by simp)))
   ·simp [hL,hLG,e0,lookRow]
   have u0 : ¬ nL=nx1:=by omega
   have u1 : ¬ nG=nx1:=by omega
   have u2 : ¬ m=nx1:=by omega
   have u3 : ¬ nx1=m:=by omega
   by_cases c2:frameB p s f=true
   case neg =>
    rw [Bool.eq_false_iff.2 c2]
    simp
    have hb:=hbad (fun e=>c2 (hst.1 e).1)
    exact ⟨(by repeat' (first | assumption | refine HSol.set ?_ (by simp))),hb _ _ (by repeat' (first | assumption | refine HSol.set ?_ (by simp)))⟩
   rw [c2]
   simp [c0,hL,hLG,e0,e1,e2,e3,u0,u1,u2,u3]
   try intro _
   refine stwithin_ok _ _ _ ?_
   rw [hwl]
   by_cases c3 : -1≤f.to∧f.to<0
   case neg =>
    have:btw f.to (-1) ((0:Int)-1)=false:=by simp [btw];omega
    rw [this]
    simp
    have hb:=hbad (fun e=>c3 (hst.1 e).2.1)
    exact ⟨(by repeat' (first | assumption | refine HSol.set ?_ (by simp))),hb _ _ (by repeat' (first | assumption | refine HSol.set ?_ (by simp)))⟩
   have:btw f.to (-1) ((0:Int)-1)=true:=by simp [btw];omega
   rw [this]
   cases hgn:fn.gen with
   | false =>
    by_cases c4:f.gen = -1
    case neg =>
     have hb:=hbad (fun e=>by have:=(hst.1 e).2.2;rw [hgn] at this;simp at this;exact c4 this)
     by_cases c5:0≤f.gen
     ·simp [c0,hL,hLG,e0,e1,e2,e3,u0,u1,u2,u3,c5]
      exact ⟨(by repeat' (first | assumption | refine HSol.set ?_ (by simp))),hb _ _ (by repeat' (first | assumption | refine HSol.set ?_ (by simp)))⟩
     ·have c6:f.gen < -1:=by omega
      simp [c0,hL,hLG,e0,e1,e2,e3,u0,u1,u2,u3,c5,c6]
      exact ⟨(by repeat' (first | assumption | refine HSol.set ?_ (by simp))),hb _ _ (by repeat' (first | assumption | refine HSol.set ?_ (by simp)))⟩
    simp [c0,hL,hLG,e0,e1,e2,e3,u0,u1,u2,u3,c4]
    have hq:stackB p s fs (0)=true:=hst.2 ⟨c2,c3,by rw [hgn];simpa using c4⟩
    refine ⟨⟨0+1,nx1⟩,by simp;omega,⟨by simp;omega,by simp;omega,fun j hj => ?_,?_⟩,(Wk.sub ?_).trans (Wk.heap (heap_at hfr ?_ ?_ hltG))⟩
    ·by_cases e:j=0
     ·rw [e];exact hq
     ·exact hall j (by simp at hj;omega)
    ·show (gK p gs fs (0+1)).Nodup
     rw [hno hgn];exact hnd
    ·simp;kernel_rfl
    ·have hno':=hno hgn
     simp only [hno']
     simp [Hp.set,e2]
    ·intro i hi hne
     simp [Hp.set,hne]
     omega
   | true =>
    by_cases c5:0≤f.gen
    case neg =>
     have hb:=hbad (fun e=>by have:=(hst.1 e).2.2;rw [hgn] at this;simp at this;try exact c5 this.1)
     simp [c0,hL,hLG,e0,e1,e2,e3,u0,u1,u2,u3,c5]
     exact ⟨(by repeat' (first | assumption | refine HSol.set ?_ (by simp))),hb _ _ (by repeat' (first | assumption | refine HSol.set ?_ (by simp)))⟩
    have c6 : ¬ f.gen < -1:=by omega
    simp [c0,hL,hLG,e0,e1,e2,e3,u0,u1,u2,u3,c5,c6]
    refine lcell_ok p s (nL:=nL) (nG:=nG) ?_ ?_ ⟨5,f.gen⟩ 5 (fun c7 nx2 hn2 => ?_) (fun c7 nx2 hn2 => ?_)
    ·exact (by repeat' (first | assumption | refine HSol.set ?_ (by simp)))
    ·simp [hL,hLG,e0,lookRow]
    ·have hid:=trivial
     have v0 : ¬ nL=nx2:=by omega
     have v1 : ¬ nG=nx2:=by omega
     have v2 : ¬ m=nx2:=by omega
     have hb:=hbad (fun e=>by have:=(hst.1 e).2.2;rw [hgn] at this;simp at this)
     simp [c0,hL,hLG,e0,e1,e2,e3,v0,v1,v2]
     exact ⟨(by repeat' (first | assumption | refine HSol.set ?_ (by simp))),hb _ _ (by repeat' (first | assumption | refine HSol.set ?_ (by simp)))⟩
    ·have v0 : ¬ nL=nx2:=by omega
     have v1 : ¬ nG=nx2:=by omega
     have v2 : ¬ m=nx2:=by omega
     have hb:=hbad (fun e=>by have:=(hst.1 e).2.2;rw [hgn] at this;simp at this;try (rw [c7] at this;simp at this))
     simp [c0,hL,hLG,e0,e1,e2,e3,v0,v1,v2]
     exact ⟨(by repeat' (first | assumption | refine HSol.set ?_ (by simp))),hb _ _ (by repeat' (first | assumption | refine HSol.set ?_ (by simp)))⟩
  | succ k =>
   have c0':k<fs.length:=by omega
   have hwk:IntKind.i64.wrap (k:Int)=k:=wrap_id (by omega) (by omega)
   have hk0:(0:Int)<(k:Int)+1:=by omega
   have hk1:(k:Int)+1<fs.length:=by omega
   have hk2:(0:Int)≤(k:Int)+1:=by omega
   have hlow:(if k+1=0 then (0:Int) else ((fs.getD (k+1-1) dFrame).regs.length:Int))=(fs[k].regs.length:Int):=by
    rw [if_neg (by omega),show k+1-1=k by omega,List.getD_eq_getElem?_getD,List.getElem?_eq_getElem c0'];rfl
   rw [hlow] at hst
   simp [c0,c0',hwk,hk0,hk1,hk2,hf,hL,hLG,e0,e1,e2,e3,lookRow,hw,m1,m2,hfa,hg,c1]
   intro _ _
   have hwl:IntKind.i64.wrap ((fs[k].regs.length:Int)-1)=(fs[k].regs.length:Int)-1:=wrap_id (by omega) (by omega)
   refine lframe_ok p hp s (nL:=nL) (nG:=nG) ?_ ?_ f fun nx1 hn1 => ?_
   ·exact (by repeat' (first | assumption | refine HSol.set ?_ (by simp)))
   ·simp [hL,hLG,e0,lookRow]
   have u0 : ¬ nL=nx1:=by omega
   have u1 : ¬ nG=nx1:=by omega
   have u2 : ¬ m=nx1:=by omega
   have u3 : ¬ nx1=m:=by omega
   by_cases c2:frameB p s f=true
   case neg =>
    rw [Bool.eq_false_iff.2 c2]
    simp
    have hb:=hbad (fun e=>c2 (hst.1 e).1)
    exact ⟨(by repeat' (first | assumption | refine HSol.set ?_ (by simp))),hb _ _ (by repeat' (first | assumption | refine HSol.set ?_ (by simp)))⟩
   rw [c2]
   simp [c0,c0',hwk,hk0,hk1,hk2,hL,hLG,e0,e1,e2,e3,u0,u1,u2,u3]
   try intro _
   refine stwithin_ok _ _ _ ?_
   rw [hwl]
   by_cases c3 : -1≤f.to∧f.to<fs[k].regs.length
   case neg =>
    have:btw f.to (-1) ((fs[k].regs.length:Int)-1)=false:=by simp [btw];omega
    rw [this]
    simp
    have hb:=hbad (fun e=>c3 (hst.1 e).2.1)
    exact ⟨(by repeat' (first | assumption | refine HSol.set ?_ (by simp))),hb _ _ (by repeat' (first | assumption | refine HSol.set ?_ (by simp)))⟩
   have:btw f.to (-1) ((fs[k].regs.length:Int)-1)=true:=by simp [btw];omega
   rw [this]
   cases hgn:fn.gen with
   | false =>
    by_cases c4:f.gen = -1
    case neg =>
     have hb:=hbad (fun e=>by have:=(hst.1 e).2.2;rw [hgn] at this;simp at this;exact c4 this)
     by_cases c5:0≤f.gen
     ·simp [c0,c0',hwk,hk0,hk1,hk2,hL,hLG,e0,e1,e2,e3,u0,u1,u2,u3,c5]
      exact ⟨(by repeat' (first | assumption | refine HSol.set ?_ (by simp))),hb _ _ (by repeat' (first | assumption | refine HSol.set ?_ (by simp)))⟩
     ·have c6:f.gen < -1:=by omega
      simp [c0,c0',hwk,hk0,hk1,hk2,hL,hLG,e0,e1,e2,e3,u0,u1,u2,u3,c5,c6]
      exact ⟨(by repeat' (first | assumption | refine HSol.set ?_ (by simp))),hb _ _ (by repeat' (first | assumption | refine HSol.set ?_ (by simp)))⟩
    simp [c0,c0',hwk,hk0,hk1,hk2,hL,hLG,e0,e1,e2,e3,u0,u1,u2,u3,c4]
    have hq:stackB p s fs (k+1)=true:=hst.2 ⟨c2,c3,by rw [hgn];simpa using c4⟩
    refine ⟨⟨k+1+1,nx1⟩,by simp;omega,⟨by simp;omega,by simp;omega,fun j hj => ?_,?_⟩,(Wk.sub ?_).trans (Wk.heap (heap_at hfr ?_ ?_ hltG))⟩
    ·by_cases e:j=k+1
     ·rw [e];exact hq
     ·exact hall j (by simp at hj;omega)
    ·show (gK p gs fs (k+1+1)).Nodup
     rw [hno hgn];exact hnd
    ·simp;exact wrap_id (by omega) (by omega)
    ·have hno':=hno hgn
     simp only [hno']
     simp [Hp.set,e2]
    ·intro i hi hne
     simp [Hp.set,hne]
     omega
   | true =>
    by_cases c5:0≤f.gen
    case neg =>
     have hb:=hbad (fun e=>by have:=(hst.1 e).2.2;rw [hgn] at this;simp at this;try exact c5 this.1)
     simp [c0,c0',hwk,hk0,hk1,hk2,hL,hLG,e0,e1,e2,e3,u0,u1,u2,u3,c5]
     exact ⟨(by repeat' (first | assumption | refine HSol.set ?_ (by simp))),hb _ _ (by repeat' (first | assumption | refine HSol.set ?_ (by simp)))⟩
    have c6 : ¬ f.gen < -1:=by omega
    simp [c0,c0',hwk,hk0,hk1,hk2,hL,hLG,e0,e1,e2,e3,u0,u1,u2,u3,c5,c6]
    refine lcell_ok p s (nL:=nL) (nG:=nG) ?_ ?_ ⟨5,f.gen⟩ 5 (fun c7 nx2 hn2 => ?_) (fun c7 nx2 hn2 => ?_)
    ·exact (by repeat' (first | assumption | refine HSol.set ?_ (by simp)))
    ·simp [hL,hLG,e0,lookRow]
    ·have hid:=trivial
     have v0 : ¬ nL=nx2:=by omega
     have v1 : ¬ nG=nx2:=by omega
     have v2 : ¬ m=nx2:=by omega
     have v3 : ¬ nL=nx2+1:=by omega
     have hz : ¬ (k:Int)+1=0:=by omega
     have hgm:f.gen<s.cells.length:=by simp [namesB] at c7;omega
     have hki:=keyin3 (n:=f.gen) ⟨by omega,by omega⟩
     have hlk:=seenG_get (gK p gs fs (k+1)) f.gen
     have hadd:=seenG_add (gK p gs fs (k+1)) f.gen
     by_cases c8:(cellAt s f.gen).num=1
     case neg =>
      have hb:=hbad (fun e=>by have:=(hst.1 e).2.2;rw [hgn] at this;simp at this;try exact c8 this.2.2)
      simp [c0,hz,hL,hLG,e0,e1,e2,e3,v0,v1,v2,v3,c8,lookRow]
      exact ⟨(by repeat' (first | assumption | refine HSol.set ?_ (by simp))),hb _ _ (by repeat' (first | assumption | refine HSol.set ?_ (by simp)))⟩
     simp [c0,hz,hL,hLG,e0,e1,e2,e3,v0,v1,v2,v3,c8,hki,lookRow]
     refine alt (fun c9 => ?_) (fun c9 => ?_)
     ·have hb:=hbad2 (fun e=>by
       rw [hyes hgn,List.nodup_append] at e
       exact e.2.2 _ (hlk.1 c9) _ (List.mem_singleton.2 rfl) rfl)
      exact ⟨(by repeat' (first | assumption | refine HSol.set ?_ (by simp))),hb _ _ (by repeat' (first | assumption | refine HSol.set ?_ (by simp)))⟩
     have hq:stackB p s fs (k+1)=true:=hst.2 ⟨c2,c3,by rw [hgn];simp;exact ⟨c5,c7,c8⟩⟩
     refine ⟨by kernel_rfl,by omega,⟨k+1+1,nx2+1⟩,by simp;omega,⟨by simp;omega,by simp;omega,fun j hj => ?_,?_⟩,(Wk.sub ?_).trans (Wk.heap (heap_at hfr ?_ ?_ hltG))⟩
     ·by_cases e:j=k+1
      ·rw [e];exact hq
      ·exact hall j (by simp at hj;omega)
     ·show (gK p gs fs (k+1+1)).Nodup
      rw [hyes hgn,List.nodup_append]
      exact ⟨hnd,by simp,fun a ha b hb e=>by rw [List.mem_singleton.1 hb] at e;subst e;exact c9 (hlk.2 ha)⟩
     ·simp;exact wrap_id (by omega) (by omega)
     ·simp only [hyes hgn, ← hadd]
      simp
     ·intro i hi hne
      simp [Hp.set,hne]
      rw [if_neg (by omega),if_neg (by omega)]
    ·have v0 : ¬ nL=nx2:=by omega
     have v1 : ¬ nG=nx2:=by omega
     have v2 : ¬ m=nx2:=by omega
     have hb:=hbad (fun e=>by have:=(hst.1 e).2.2;rw [hgn] at this;simp at this;try (rw [c7] at this;simp at this))
     simp [c0,c0',hwk,hk0,hk1,hk2,hL,hLG,e0,e1,e2,e3,v0,v1,v2]
     exact ⟨(by repeat' (first | assumption | refine HSol.set ?_ (by simp))),hb _ _ (by repeat' (first | assumption | refine HSol.set ?_ (by simp)))⟩
 ·have hfb : ¬ frameB p s f=true:=fun e=>c1 (frame_iff.1 e).1
  have hb:=hbad (fun e=>hfb (hst.1 e).1)
  by_cases c2:f.fn<0
  ·have m1 : ¬ (p.fns.length:Int)-1<f.fn:=by omega
   have m2 : ¬ 0<f.fn:=by omega
   cases k with
   | zero =>
    simp [c0,hf,hL,hLG,e0,e1,e2,e3,lookRow,hw,m1,m2,hfn0]
    intro _
    refine lframe_ok p hp s (nL:=nL) (nG:=nG) ?_ ?_ f fun nx1 hn1 => ?_
    ·exact (by repeat' (first | assumption | refine HSol.set ?_ (by simp)))
    ·simp [hL,hLG,e0,lookRow]
    rw [Bool.eq_false_iff.2 hfb]
    simp
    exact ⟨(by repeat' (first | assumption | refine HSol.set ?_ (by simp))),hb _ _ (by repeat' (first | assumption | refine HSol.set ?_ (by simp)))⟩
   | succ k =>
    have c0':k<fs.length:=by omega
    have hwk:IntKind.i64.wrap (k:Int)=k:=wrap_id (by omega) (by omega)
    have hk0:(0:Int)<(k:Int)+1:=by omega
    have hk1:(k:Int)+1<fs.length:=by omega
    have hk2:(0:Int)≤(k:Int)+1:=by omega
    simp [c0,c0',hwk,hk0,hk1,hk2,hf,hL,hLG,e0,e1,e2,e3,lookRow,hw,m1,m2,hfn0]
    intro _ _
    refine lframe_ok p hp s (nL:=nL) (nG:=nG) ?_ ?_ f fun nx1 hn1 => ?_
    ·exact (by repeat' (first | assumption | refine HSol.set ?_ (by simp)))
    ·simp [hL,hLG,e0,lookRow]
    rw [Bool.eq_false_iff.2 hfb]
    simp
    exact ⟨(by repeat' (first | assumption | refine HSol.set ?_ (by simp))),hb _ _ (by repeat' (first | assumption | refine HSol.set ?_ (by simp)))⟩
  ·obtain ⟨q,hq⟩ : ∃ q:Nat,p.fns.length=q+1:=⟨p.fns.length-1,by omega⟩
   have hql:q<p.fns.length:=by omega
   have m1:(p.fns.length:Int)-1<f.fn:=by omega
   have m2:(if 1<(p.fns.length:Int) then (p.fns.length:Int)-1 else 0)=(q:Int):=by split <;> omega
   cases k with
   | zero =>
    simp [c0,hf,hL,hLG,e0,e1,e2,e3,lookRow,hw,m1,m2,hql]
    intro _
    refine lframe_ok p hp s (nL:=nL) (nG:=nG) ?_ ?_ f fun nx1 hn1 => ?_
    ·exact (by repeat' (first | assumption | refine HSol.set ?_ (by simp)))
    ·simp [hL,hLG,e0,lookRow]
    rw [Bool.eq_false_iff.2 hfb]
    simp
    exact ⟨(by repeat' (first | assumption | refine HSol.set ?_ (by simp))),hb _ _ (by repeat' (first | assumption | refine HSol.set ?_ (by simp)))⟩
   | succ k =>
    have c0':k<fs.length:=by omega
    have hwk:IntKind.i64.wrap (k:Int)=k:=wrap_id (by omega) (by omega)
    have hk0:(0:Int)<(k:Int)+1:=by omega
    have hk1:(k:Int)+1<fs.length:=by omega
    have hk2:(0:Int)≤(k:Int)+1:=by omega
    simp [c0,c0',hwk,hk0,hk1,hk2,hf,hL,hLG,e0,e1,e2,e3,lookRow,hw,m1,m2,hql]
    intro _ _
    refine lframe_ok p hp s (nL:=nL) (nG:=nG) ?_ ?_ f fun nx1 hn1 => ?_
    ·exact (by repeat' (first | assumption | refine HSol.set ?_ (by simp)))
    ·simp [hL,hLG,e0,lookRow]
    rw [Bool.eq_false_iff.2 hfb]
    simp
    exact ⟨(by repeat' (first | assumption | refine HSol.set ?_ (by simp))),hb _ _ (by repeat' (first | assumption | refine HSol.set ?_ (by simp)))⟩
theorem thread_iff {p:GProg} {s:GState} {t:GThread} : threadB p s t=true↔overB t=decide (t.frames=[])∧(overB t=true∨(t.val.kind=0∧t.val.n=0))∧fitsB s t.val=true∧btw t.state 0 4=true∧onB s t=true ∧ ∀ k<t.frames.length,stackB p s t.frames k=true:=by
 simp only [threadB,Bool.and_eq_true,Bool.or_eq_true,decide_eq_true_eq,and_assoc,List.all_eq_true,List.mem_range]
theorem ICall.lessH {P:Program} {f:FuncId} {ds:List D} {H:Hp} {nx:Nat} {K:D->Hp->Nat->Prop} (h:ICall P f ds H nx fun d H' nx' => ∃ H2,(∀ i y,H2 i=some y->H' i=some y)∧K d H2 nx'):ICall P f ds H nx K :=
 ⟨h.1,fun β F ι w vs h1 h2 h3=>(h.2 β F ι w vs h1 h2 h3).mono fun _ _ ⟨F',ι',H',nx',d,v,e1,e2,e3,e4,e5,H2,e6,e7⟩=>⟨F',ι',H2,nx',d,v,e1,e2.heap e6,e3,e4,e5,e7⟩⟩
theorem thread_iff' {p:GProg} {s:GState} {fs:List GFrame} {st on vk vn:Int} : threadB p s ⟨fs,st,on,⟨vk,vn⟩⟩=true↔(overB ⟨fs,st,on,⟨vk,vn⟩⟩=decide (fs=[])∧(overB ⟨fs,st,on,⟨vk,vn⟩⟩=true∨vk=0∧vn=0)∧fitsB s ⟨vk,vn⟩=true∧btw st 0 4=true∧onB s ⟨fs,st,on,⟨vk,vn⟩⟩=true) ∧ ∀ k<fs.length,stackB p s fs k=true:=by
 rw [thread_iff];simp only [and_assoc]
theorem lthread_ok (p:GProg) (hp:checkQ wordsT p=0) (s:GState) (hs:s.cells.length≤1000) {H:Hp} {nx nL nG:Nat} (hS:HSol H) (hL:H nL=some ⟨.c 155,7,[lookRow p s nG]⟩) (gs:List Int) (hG:H nG=some ⟨.m 3 (seenG gs) gs.length,0,[]⟩)
  (t:GThread) (hn:gs.Nodup) (hlen:gs.length+t.frames.length≤10000) {K:D->Hp->Nat->Prop}
  (h1:threadB p s t=true->(gs++gensF p t.frames).Nodup -> ∀ nx',nx≤nx'->K (dB true) (H.set nG (some ⟨.m 3 (seenG (gs++gensF p t.frames)) (gs++gensF p t.frames).length,0,[]⟩)) nx')
  (h2 : ¬ (threadB p s t=true∧(gs++gensF p t.frames).Nodup) -> ∀ H' nx',HSol H'->K (dB false) H' nx'):ICall Tryz.prog 149 [aLk nL,aD (eThread t)] H nx K:=by
 refine ICall.fresh (by kernel_rfl) fun hfr=>ICall.lessH ?_
 have hlt:=fresh_lt hfr hL
 have hltG:=fresh_lt hfr hG
 have hLG : ¬ nL=nG:=by rintro rfl;rw [hL] at hG;simp at hG
 have e0 : ¬ nL=nx:=by omega
 have e1 : ¬ nL=nx+1:=by omega
 have e2 : ¬ nG=nx:=by omega
 have e3 : ¬ nG=nx+1:=by omega
 refine fni_ok [0,1,3,4,5,7,47,49,52,53,64,65,79] [(2,[0,0,2,6,14,31,63,127,255,511,1023,2047,1023,8191,16383,32767,65535,131071,262143,524287,1048575,131071,2228223,8388607,16777215,33554431,67108863,134217727,268435455,536870911,1073741823,2147483647],(.seg 0 (.seg 1 (.seg 2 (.seg 3 (.seg 4 (.seg 5 (.seg 6 (.seg 7 (.seg 8 (.seg 9 (.seg 10 (.seg 11 (.seg 12 (.seg 13 (.seg 14 (.seg 15 (.seg 16 (.seg 17 (.seg 18 (.seg 19 (.seg 20 (.seg 21 (.seg 22 (.eff 23 [2] (.seg 24 (.seg 25 (.seg 26 (.seg 27 (.seg 28 (.eff 29 [] (.seg 30 (.seg 31 .last))))))))))))))))))))))))))))))))),(12,[0,1,0,4,12,28,60,124,252,508,1020,2047,4095],(.seg 0 (.seg 1 (.seg 2 (.seg 3 (.seg 4 (.seg 5 (.seg 6 (.seg 7 (.seg 8 (.seg 9 (.seg 10 (.eff 11 [] (.seg 12 .last))))))))))))))] Tryz.func149 rfl (by kernel_rfl) rfl rfl rfl rfl (by kernel_rfl) ?_
 obtain ⟨fs,st,on,⟨vk,vn⟩⟩:=t
 rw [thread_iff'] at h1 h2
 have no : ∀ {P:Prop}, ¬ P->((overB ⟨fs,st,on,⟨vk,vn⟩⟩=decide (fs=[])∧(overB ⟨fs,st,on,⟨vk,vn⟩⟩=true∨vk=0∧vn=0)∧fitsB s ⟨vk,vn⟩=true∧btw st 0 4=true∧onB s ⟨fs,st,on,⟨vk,vn⟩⟩=true)->P) -> ∀ H' nx',HSol H'->K (dB false) H' nx':=fun hP hi=>h2 fun e=>hP (hi e.1.1)
 by_cases o3:st=3
 ·subst o3
  by_cases z:fs.length=0
  case neg =>
   have z' : ¬ fs=[]:=fun e=>z (by rw [e];rfl)
   simp [hL,e0,e1,e2,e3,lookRow,z,z']
   intro _
   exact ⟨(by repeat' (first | assumption | refine HSol.set ?_ (by simp))),_,fun _ _ e=>e,no (z') (fun e=>(by simpa [overB] using e.1)) _ _ (by repeat' (first | assumption | refine HSol.set ?_ (by simp)))⟩
  have z':fs=[]:=List.length_eq_zero_iff.1 z
  simp [hL,e0,e1,e2,e3,lookRow,z]
  refine celFits_ok true s ⟨vk,vn⟩ ?_
  cases c1:fitsB s ⟨vk,vn⟩ with
  | false =>
   simp
   exact ⟨(by repeat' (first | assumption | refine HSol.set ?_ (by simp))),_,fun _ _ e=>e,no (show ¬ (fitsB s ⟨vk,vn⟩=true) by simp [c1]) (fun e=>(e.2.2.1)) _ _ (by repeat' (first | assumption | refine HSol.set ?_ (by simp)))⟩
  | true =>
   simp [hL,e0,e1,e2,e3,lookRow,z]
   refine stwithin_ok _ _ _ ?_
   simp [btw]
   by_cases c2:on=0
   case neg =>
    simp [c2]
    exact ⟨(by repeat' (first | assumption | refine HSol.set ?_ (by simp))),_,fun _ _ e=>e,no (c2) (fun e=>(by simpa [onB] using e.2.2.2.2)) _ _ (by repeat' (first | assumption | refine HSol.set ?_ (by simp)))⟩
   simp [c2]
   refine lstack_ok p hp s hs (nL:=nL) (nG:=nG) ?_ ?_ true gs ?_ fs hn hlen (fun a b nx2 hn2 => ?_) (fun a H2 nx2 hS2 => ?_)
   ·exact (by repeat' (first | assumption | refine HSol.set ?_ (by simp)))
   ·simp [hL,e0,e1,lookRow,c2]
   ·simp [hG,e2,e3,c2]
   ·simp
    refine ⟨(by repeat' (first | assumption | refine HSol.set ?_ (by simp))),_,?_,h1 ⟨⟨by simp [overB,z'],.inl (by simp [overB]),c1,by simp [btw],by simp [onB,c2]⟩,a⟩ b _ (by omega)⟩
    intro i y hy
    simp only [Hp.set] at hy ⊢
    by_cases g:i=nG
    ·rw [if_pos g] at hy ⊢; rw [← hy,List.length_append]
    ·rw [if_neg g] at hy ⊢
     have:=fresh_lt hfr hy
     rw [if_neg (by omega)]
     exact hy
   ·simp
    exact ⟨hS2,_,fun _ _ e=>e,h2 (fun e=>a ⟨e.1.2,e.2⟩) _ _ hS2⟩
 by_cases o4:st=4
 ·subst o4
  by_cases z:fs.length=0
  case neg =>
   have z' : ¬ fs=[]:=fun e=>z (by rw [e];rfl)
   simp [hL,e0,e1,e2,e3,lookRow,z,z']
   intro _
   exact ⟨(by repeat' (first | assumption | refine HSol.set ?_ (by simp))),_,fun _ _ e=>e,no (z') (fun e=>(by simpa [overB] using e.1)) _ _ (by repeat' (first | assumption | refine HSol.set ?_ (by simp)))⟩
  have z':fs=[]:=List.length_eq_zero_iff.1 z
  simp [hL,e0,e1,e2,e3,lookRow,z]
  refine celFits_ok true s ⟨vk,vn⟩ ?_
  cases c1:fitsB s ⟨vk,vn⟩ with
  | false =>
   simp
   exact ⟨(by repeat' (first | assumption | refine HSol.set ?_ (by simp))),_,fun _ _ e=>e,no (show ¬ (fitsB s ⟨vk,vn⟩=true) by simp [c1]) (fun e=>(e.2.2.1)) _ _ (by repeat' (first | assumption | refine HSol.set ?_ (by simp)))⟩
  | true =>
   simp [hL,e0,e1,e2,e3,lookRow,z]
   refine stwithin_ok _ _ _ ?_
   simp [btw]
   by_cases c2:on=0
   case neg =>
    simp [c2]
    exact ⟨(by repeat' (first | assumption | refine HSol.set ?_ (by simp))),_,fun _ _ e=>e,no (c2) (fun e=>(by simpa [onB] using e.2.2.2.2)) _ _ (by repeat' (first | assumption | refine HSol.set ?_ (by simp)))⟩
   simp [c2]
   refine lstack_ok p hp s hs (nL:=nL) (nG:=nG) ?_ ?_ true gs ?_ fs hn hlen (fun a b nx2 hn2 => ?_) (fun a H2 nx2 hS2 => ?_)
   ·exact (by repeat' (first | assumption | refine HSol.set ?_ (by simp)))
   ·simp [hL,e0,e1,lookRow,c2]
   ·simp [hG,e2,e3,c2]
   ·simp
    refine ⟨(by repeat' (first | assumption | refine HSol.set ?_ (by simp))),_,?_,h1 ⟨⟨by simp [overB,z'],.inl (by simp [overB]),c1,by simp [btw],by simp [onB,c2]⟩,a⟩ b _ (by omega)⟩
    intro i y hy
    simp only [Hp.set] at hy ⊢
    by_cases g:i=nG
    ·rw [if_pos g] at hy ⊢; rw [← hy,List.length_append]
    ·rw [if_neg g] at hy ⊢
     have:=fresh_lt hfr hy
     rw [if_neg (by omega)]
     exact hy
   ·simp
    exact ⟨hS2,_,fun _ _ e=>e,h2 (fun e=>a ⟨e.1.2,e.2⟩) _ _ hS2⟩
 have ho:overB ⟨fs,st,on,⟨vk,vn⟩⟩=false:=by simp [overB,o3,o4]
 rw [ho] at no h1 h2
 by_cases z:fs.length=0
 ·have z':fs=[]:=List.length_eq_zero_iff.1 z
  simp [hL,e0,e1,e2,e3,lookRow,z,o3,o4]
  exact ⟨(by repeat' (first | assumption | refine HSol.set ?_ (by simp))),_,fun _ _ e=>e,no (show ¬ (1=0) from by simp) (fun e=>(by have:=e.1;simp [z'] at this)) _ _ (by repeat' (first | assumption | refine HSol.set ?_ (by simp)))⟩
 have z' : ¬ fs=[]:=fun e=>z (by rw [e];rfl)
 by_cases v0:vk=0∧vn=0
 case neg =>
  simp [hL,e0,e1,e2,e3,lookRow,z,z',o3,o4,v0]
  intro _
  exact ⟨(by repeat' (first | assumption | refine HSol.set ?_ (by simp))),_,fun _ _ e=>e,no (v0) (fun e=>(by simpa using e.2.1)) _ _ (by repeat' (first | assumption | refine HSol.set ?_ (by simp)))⟩
 obtain ⟨rfl,rfl⟩:=v0
 simp [hL,e0,e1,e2,e3,lookRow,z,z',o3,o4]
 intro _
 refine celFits_ok true s ⟨0,0⟩ ?_
 rw [show fitsB s ⟨0,0⟩=true from fits_nil s] at no h1 h2 ⊢
 simp [hL,e0,e1,e2,e3,lookRow,o3,o4]
 refine stwithin_ok _ _ _ ?_
 cases c1:btw st 0 4 with
 | false =>
  simp
  exact ⟨(by repeat' (first | assumption | refine HSol.set ?_ (by simp))),_,fun _ _ e=>e,no (show ¬ (btw st 0 4=true) by simp [c1]) (fun e=>(e.2.2.2.1)) _ _ (by repeat' (first | assumption | refine HSol.set ?_ (by simp)))⟩
 | true =>
 rw [c1] at no h1 h2
 by_cases o1:st=1
 ·subst o1
  simp [hL,e0,e1,e2,e3,lookRow]
  refine lcell_ok p s (nL:=nL) (nG:=nG) ?_ ?_ ⟨5,on⟩ 6 (fun c7 nx2 hn2 => ?_) (fun c7 nx2 hn2 => ?_)
  ·exact (by repeat' (first | assumption | refine HSol.set ?_ (by simp)))
  ·simp [hL,e0,e1,lookRow]
  all_goals
   have u0 : ¬ nL=nx2:=by omega
   have u1 : ¬ nG=nx2:=by omega
   have u2 : ¬ nx=nx2:=by omega
  ·simp [hL,e0,e1,e2,e3,lookRow,u0,u1,u2]
   refine lstack_ok p hp s hs (nL:=nL) (nG:=nG) ?_ ?_ true gs ?_ fs hn hlen (fun a b nx3 hn3 => ?_) (fun a H2 nx3 hS2 => ?_)
   ·exact (by repeat' (first | assumption | refine HSol.set ?_ (by simp)))
   ·simp [hL,e0,u0,lookRow]
   ·simp [hG,e2,u1]
   ·simp
    refine ⟨(by repeat' (first | assumption | refine HSol.set ?_ (by simp))),_,?_,h1 ⟨⟨by simp [z'],.inr ⟨rfl,rfl⟩,rfl,rfl,by simp [onB,c7]⟩,a⟩ b _ (by omega)⟩
    intro i y hy
    simp only [Hp.set] at hy ⊢
    by_cases g:i=nG
    ·rw [if_pos g] at hy ⊢; rw [← hy,List.length_append]
    ·rw [if_neg g] at hy ⊢
     have:=fresh_lt hfr hy
     rw [if_neg (by omega),if_neg (by omega)]
     exact hy
   ·simp
    exact ⟨hS2,_,fun _ _ e=>e,h2 (fun e=>a ⟨e.1.2,e.2⟩) _ _ hS2⟩
  ·simp [hL,e0,e1,e2,e3,lookRow,u0,u1,u2]
   exact ⟨(by repeat' (first | assumption | refine HSol.set ?_ (by simp))),_,fun _ _ e=>e,no (show ¬ (onB s ⟨fs,1,on,⟨0,0⟩⟩=true) by simp [onB,c7]) (fun e=>(e.2.2.2.2)) _ _ (by repeat' (first | assumption | refine HSol.set ?_ (by simp)))⟩
 by_cases o2:st=2
 ·subst o2
  simp [hL,e0,e1,e2,e3,lookRow]
  intro _
  refine stwithin_ok _ _ _ ?_
  rw [wrap_id (by omega) (by omega)]
  by_cases c3:0≤on∧on<s.threads.length
  case neg =>
   have:btw on 0 ((s.threads.length:Int)-1)=false:=by simp [btw];omega
   rw [this]
   simp
   exact ⟨(by repeat' (first | assumption | refine HSol.set ?_ (by simp))),_,fun _ _ e=>e,no (c3) (fun e=>(by simpa [onB] using e.2.2.2.2)) _ _ (by repeat' (first | assumption | refine HSol.set ?_ (by simp)))⟩
  have:btw on 0 ((s.threads.length:Int)-1)=true:=by simp [btw];omega
  rw [this]
  simp [hL,e0,e1,e2,e3,lookRow]
  refine lstack_ok p hp s hs (nL:=nL) (nG:=nG) ?_ ?_ true gs ?_ fs hn hlen (fun a b nx2 hn2 => ?_) (fun a H2 nx2 hS2 => ?_)
  ·exact (by repeat' (first | assumption | refine HSol.set ?_ (by simp)))
  ·simp [hL,e0,e1,lookRow,c3]
  ·simp [hG,e2,e3,c3]
  ·simp
   refine ⟨(by repeat' (first | assumption | refine HSol.set ?_ (by simp))),_,?_,h1 ⟨⟨by simp [z'],.inr ⟨rfl,rfl⟩,rfl,rfl,by simp [onB,c3]⟩,a⟩ b _ (by omega)⟩
   intro i y hy
   simp only [Hp.set] at hy ⊢
   by_cases g:i=nG
   ·rw [if_pos g] at hy ⊢; rw [← hy,List.length_append]
   ·rw [if_neg g] at hy ⊢
    have:=fresh_lt hfr hy
    rw [if_neg (by omega)]
    exact hy
  ·simp
   exact ⟨hS2,_,fun _ _ e=>e,h2 (fun e=>a ⟨e.1.2,e.2⟩) _ _ hS2⟩
 by_cases o0:on=0
 case neg =>
  simp [hL,e0,e1,e2,e3,lookRow,o1,o2,o0]
  exact ⟨(by repeat' (first | assumption | refine HSol.set ?_ (by simp))),_,fun _ _ e=>e,no (o0) (fun e=>(by simpa [onB,o1,o2] using e.2.2.2.2)) _ _ (by repeat' (first | assumption | refine HSol.set ?_ (by simp)))⟩
 subst o0
 simp [hL,e0,e1,e2,e3,lookRow,o1,o2]
 refine lstack_ok p hp s hs (nL:=nL) (nG:=nG) ?_ ?_ true gs ?_ fs hn hlen (fun a b nx2 hn2 => ?_) (fun a H2 nx2 hS2 => ?_)
 ·exact (by repeat' (first | assumption | refine HSol.set ?_ (by simp)))
 ·simp [hL,e0,e1,lookRow,o1]
 ·simp [hG,e2,e3,o1]
 ·simp
  refine ⟨(by repeat' (first | assumption | refine HSol.set ?_ (by simp))),_,?_,h1 ⟨⟨by simp [z'],.inr ⟨rfl,rfl⟩,rfl,rfl,by simp [onB,o1,o2]⟩,a⟩ b _ (by omega)⟩
  intro i y hy
  simp only [Hp.set] at hy ⊢
  by_cases g:i=nG
  ·rw [if_pos g] at hy ⊢; rw [← hy,List.length_append]
  ·rw [if_neg g] at hy ⊢
   have:=fresh_lt hfr hy
   rw [if_neg (by omega)]
   exact hy
 ·simp
  exact ⟨hS2,_,fun _ _ e=>e,h2 (fun e=>a ⟨e.1.2,e.2⟩) _ _ hS2⟩
theorem lright1_ok (p:GProg) (hp:checkQ wordsT p=0) (s:GState) {H:Hp} {nx nL nG n1:Nat} (hS:HSol H) (hL:H nL=some ⟨.c 155,7,[lookRow p s nG]⟩) (hc:H n1=some ⟨.c 150,1,[[.ptr nL 7 0 0]]⟩) (c:GCell) (hcb:cellB s c=true) {K:D->Hp->Nat->Prop}
  (h : ∀ nx',nx≤nx'->K (dB (!heapB p s c)) H nx'):ICall Tryz.prog 146 [aD (eCell c),.one (.ptr n1 1 0 0)] H nx K:=by
 refine ICall.fresh (by kernel_rfl) fun hfr => ?_
 have hlt:=fresh_lt hfr hL
 have e0 : ¬ nL=nx:=by omega
 have e1 : ¬ nL=nx+1:=by omega
 have e2 : ¬ nL=nx+2:=by omega
 have e3 : ¬ nL=nx+3:=by omega
 have hlt1:=fresh_lt hfr hc
 have f0 : ¬ n1=nx:=by omega
 refine ICall.keepH hfr ?_
 refine fni_ok [0,1,2,3] [] Tryz.func146 rfl (by kernel_rfl) rfl rfl rfl rfl (by kernel_rfl) ?_
 simp [hL,hc,e0,e1,e2,e3,f0,lookRow]
 refine lheap_ok p hp s (nL:=nL) (nG:=nG) ?_ ?_ c hcb fun nx1 hn1 => ?_
 ·exact (by repeat' (first | assumption | refine HSol.set ?_ (by simp)))
 ·simp [hL,e0,lookRow]
 simp
 have hy:=h nx1 (by omega)
 exact ⟨(by repeat' (first | assumption | refine HSol.set ?_ (by simp))),fun i hi=>(by first | (intro e;exfalso;omega) | (repeat rw [if_neg (by omega)])),hy⟩
theorem lcells_ok (p:GProg) (hp:checkQ wordsT p=0) (s:GState) {H:Hp} {nx nL nG n1:Nat} (hS:HSol H) (hL:H nL=some ⟨.c 155,7,[lookRow p s nG]⟩) (hc:H n1=some ⟨.c 150,1,[[.ptr nL 7 0 0]]⟩) (S:Bool) (l:List GCell) (hl:l.all (cellB s)=true) {K:D->Hp->Nat->Prop}
  (h : ∀ nx',nx≤nx'->K (dB (!l.all (heapB p s))) H nx'):ICall Tryz.prog 119 [dL S (l.map eCell),.one (.fnp (.func 146) [.ptr n1 1 0 0])] H nx K:=by
 rw [List.all_eq_true] at hl
 refine containsPCe_ok S l eCell (fun v=>aD (eCell v)) 146 [.ptr n1 1 0 0] (fun k H' nx'=>H'=H∧nx≤nx'∧(l.take k).all (heapB p s)=true) (fun H' nx'=>H'=H∧nx≤nx'∧l.all (heapB p s)=false) (fun k H' nx' hi=>by rw [hi.1];exact hS) (fun H' nx' hi=>by rw [hi.1];exact hS) (fun x=>⟨_,_,_,_,rfl,rfl⟩) ⟨rfl,Nat.le_refl _,rfl⟩ (fun k hk H' nx' hi K hK1 hK2 => ?_) (fun H' nx' hi => ?_) (fun H' nx' hj => ?_)
 ·obtain ⟨rfl,hn,ha⟩:=hi
  refine lright1_ok p hp s hS hL hc l[k] (hl _ (List.getElem_mem hk)) fun nx2 hn2 => ?_
  cases hf:heapB p s l[k] with
  | true=>exact hK1 _ _ ⟨rfl,by omega,by rw [all_take_next hk,ha,hf];rfl⟩
  | false=>exact hK2 _ _ ⟨rfl,by omega,by rw [List.all_eq_false];exact ⟨_,List.getElem_mem hk,by simp [hf]⟩⟩
 ·obtain ⟨rfl,hn,ha⟩:=hi
  rw [List.take_length] at ha
  have:=h _ hn
  rw [ha] at this
  exact this
 ·obtain ⟨rfl,hn,ha⟩:=hj
  have:=h _ hn
  rw [ha] at this
  exact this
def gensT (p:GProg) (l:List GThread):List Int:=l.flatMap fun t=>gensF p t.frames
theorem lright2_ok (p:GProg) (hp:checkQ wordsT p=0) (s:GState) (hs:s.cells.length≤1000) {H:Hp} {nx nL nG n1:Nat} (hS:HSol H) (hL:H nL=some ⟨.c 155,7,[lookRow p s nG]⟩) (hc:H n1=some ⟨.c 150,1,[[.ptr nL 7 0 0]]⟩) (gs:List Int) (hG:H nG=some ⟨.m 3 (seenG gs) gs.length,0,[]⟩)
  (t:GThread) (hn:gs.Nodup) (hlen:gs.length+t.frames.length≤10000) {K:D->Hp->Nat->Prop}
  (h1:threadB p s t=true->(gs++gensF p t.frames).Nodup -> ∀ nx',nx≤nx'->K (dB false) (H.set nG (some ⟨.m 3 (seenG (gs++gensF p t.frames)) (gs++gensF p t.frames).length,0,[]⟩)) nx')
  (h2 : ¬ (threadB p s t=true∧(gs++gensF p t.frames).Nodup) -> ∀ H' nx',HSol H'->K (dB true) H' nx'):ICall Tryz.prog 148 [aD (eThread t),.one (.ptr n1 1 0 0)] H nx K:=by
 refine ICall.fresh (by kernel_rfl) fun hfr=>ICall.lessH ?_
 have hlt:=fresh_lt hfr hL
 have e0 : ¬ nL=nx:=by omega
 have e1 : ¬ nL=nx+1:=by omega
 have e2 : ¬ nL=nx+2:=by omega
 have e3 : ¬ nL=nx+3:=by omega
 have hlt1:=fresh_lt hfr hc
 have hltG:=fresh_lt hfr hG
 have f0 : ¬ n1=nx:=by omega
 have g0 : ¬ nG=nx:=by omega
 refine fni_ok [0,1,2,3] [] Tryz.func148 rfl (by kernel_rfl) rfl rfl rfl rfl (by kernel_rfl) ?_
 simp [hL,hc,e0,e1,e2,e3,f0,lookRow]
 refine lthread_ok p hp s hs (nL:=nL) (nG:=nG) ?_ ?_ gs ?_ t hn hlen (fun a b nx1 hn1 => ?_) (fun a H1 nx1 hS1 => ?_)
 ·exact (by repeat' (first | assumption | refine HSol.set ?_ (by simp)))
 ·simp [hL,e0,lookRow]
 ·simp [hG,g0]
 ·simp
  refine ⟨(by repeat' (first | assumption | refine HSol.set ?_ (by simp))),_,?_,h1 a b _ (by omega)⟩
  intro i y hy
  simp only [Hp.set] at hy ⊢
  by_cases g:i=nG
  ·rw [if_pos g] at hy ⊢; rw [← hy,List.length_append]
  ·rw [if_neg g] at hy ⊢
   have:=fresh_lt hfr hy
   rw [if_neg (by omega)]
   exact hy
 ·simp
  exact ⟨hS1,_,fun _ _ e=>e,h2 a _ _ hS1⟩
theorem gensT_next {p:GProg} {l:List GThread} {k:Nat} (h:k<l.length):gensT p (l.take (k+1))=gensT p (l.take k)++gensF p l[k].frames:=by
 unfold gensT
 rw [List.take_succ_eq_append_getElem h,List.flatMap_append];simp
theorem gensT_sub {p:GProg} {l:List GThread} {k:Nat} : (gensT p (l.take k)).Sublist (gensT p l):=by
 conv=>rhs;rw [← List.take_append_drop k l]
 unfold gensT
 rw [List.flatMap_append]
 exact List.sublist_append_left ..
theorem gensF_len {p:GProg} {l:List GFrame} : (gensF p l).length≤l.length:=by unfold gensF;rw [List.length_map];exact List.length_filter_le ..
theorem gensT_len {p:GProg} {l:List GThread} {m:Nat} (h : ∀ t∈l,t.frames.length≤m):(gensT p l).length≤m*l.length:=by
 unfold gensT
 induction l with
 | nil=>simp
 | cons t l ih =>
  have h1:=h t (List.mem_cons_self ..)
  have h2:=ih fun x hx=>h x (List.mem_cons_of_mem _ hx)
  have h3:=gensF_len (p:=p) (l:=t.frames)
  rw [List.flatMap_cons,List.length_append,List.length_cons,Nat.mul_add]
  omega
theorem lthreads_ok (p:GProg) (hp:checkQ wordsT p=0) (s:GState) (hs:s.cells.length≤1000) {H:Hp} {nx nL nG n1:Nat} (hS:HSol H) (hL:H nL=some ⟨.c 155,7,[lookRow p s nG]⟩) (hc:H n1=some ⟨.c 150,1,[[.ptr nL 7 0 0]]⟩) (hG:H nG=some ⟨.m 3 (seenG []) 0,0,[]⟩) (S:Bool)
  (l:List GThread) (hl:l.length≤5) (hf : ∀ t∈l,t.frames.length≤30) {K:D->Hp->Nat->Prop}
  (h1:l.all (threadB p s)=true->(gensT p l).Nodup -> ∀ nx',nx≤nx'->K (dB false) (H.set nG (some ⟨.m 3 (seenG (gensT p l)) (gensT p l).length,0,[]⟩)) nx')
  (h2 : ¬ (l.all (threadB p s)=true∧(gensT p l).Nodup) -> ∀ H' nx',HSol H'->K (dB true) H' nx'):ICall Tryz.prog 91 [dL S (l.map eThread),.one (.fnp (.func 148) [.ptr n1 1 0 0])] H nx K:=by
 have hLG : ¬ nL=nG:=by rintro rfl;rw [hL] at hG;simp at hG
 have h1G : ¬ n1=nG:=by rintro rfl;rw [hc] at hG;simp at hG
 have hset : ∀ g:List Int,HSol (H.set nG (some ⟨.m 3 (seenG g) g.length,0,[]⟩)):=fun g=>(by repeat' (first | assumption | refine HSol.set ?_ (by simp)))
 refine containsPTh_ok S l eThread (fun v=>aD (eThread v)) 148 [.ptr n1 1 0 0] (fun k H' nx'=>H'=H.set nG (some ⟨.m 3 (seenG (gensT p (l.take k))) (gensT p (l.take k)).length,0,[]⟩)∧nx≤nx'∧(l.take k).all (threadB p s)=true∧(gensT p (l.take k)).Nodup) (fun H' nx'=>HSol H' ∧ ¬ (l.all (threadB p s)=true∧(gensT p l).Nodup))
  (fun k H' nx' hi=>by rw [hi.1];exact hset _) (fun H' nx' hi=>hi.1) (fun x=>⟨_,_,_,_,_,rfl,rfl⟩) ⟨?_,Nat.le_refl _,rfl,List.nodup_nil⟩ (fun k hk H' nx' hi K hK1 hK2 => ?_) (fun H' nx' hi => ?_) (fun H' nx' hj => ?_)
 ·funext i
  simp only [Hp.set]
  split
  ·rename_i e;rw [e,hG];rfl
  ·rfl
 ·obtain ⟨rfl,hn,ha,hb⟩:=hi
  have hlen:=gensT_len (p:=p) (l:=l.take k) (m:=30) fun t ht=>hf t (List.mem_of_mem_take ht)
  rw [List.length_take] at hlen
  have hfk:=hf _ (List.getElem_mem hk)
  refine lright2_ok p hp s hs (nL:=nL) (nG:=nG) (hset _) (by simp [Hp.set,hLG,hL]) (by simp [Hp.set,h1G,hc]) (gensT p (l.take k)) (by simp [Hp.set]) l[k] hb (by omega) (fun a b nx1 hn1 => ?_) (fun a H1 nx1 hS1 => ?_)
  ·refine hK1 _ _ ⟨?_,by omega,by rw [all_take_next hk,ha,a];rfl,by rw [gensT_next hk];exact b⟩
   rw [gensT_next hk]
   funext i
   simp only [Hp.set]
   split <;> rfl
  ·refine hK2 _ _ ⟨hS1,fun e=>a ⟨(List.all_eq_true.1 e.1) _ (List.getElem_mem hk),?_⟩⟩
   rw [← gensT_next hk]
   exact e.2.sublist gensT_sub
 ·obtain ⟨rfl,hn,ha,hb⟩:=hi
  rw [List.take_length] at ha hb ⊢
  exact h1 ha hb _ hn
 ·exact h2 hj.2 _ _ hj.1
theorem state_iff {p:GProg} {s:GState} : stateB p s=true↔((s.texts.take p.texts.length=p.texts∧btw s.steps 0 1000000000=true∧btw s.asked 0 1000000000=true∧s.threads ≠ [])∧s.cells.all (heapB p s)=true∧s.threads.all (threadB p s)=true∧(gensT p s.threads).Nodup∧goesB p s=true):=by
 simp only [stateB,beginsB,Bool.and_eq_true,decide_eq_true_eq,and_assoc,Bool.not_eq_true',decide_eq_false_iff_not,ne_eq]
 rfl
def goesK (p:GProg) (s:GState) (k:Nat):Bool := !(decide ((cellAt s k).kind=5)&&decide ((cellAt s k).num=1))||decide ((k:Int)∈gensT p s.threads)
theorem goes_iff {p:GProg} {s:GState} : goesB p s=true ↔ ∀ k<s.cells.length,goesK p s k=true:=by
 unfold goesB;rw [List.all_eq_true];simp only [List.mem_range];rfl
structure KR where
 k:Nat
 nx:Nat
theorem lright_ok (p:GProg) (hp:checkQ wordsT p=0) (s:GState) (hs:s.cells.length≤1000) (hcb:s.cells.all (cellB s)=true) (hth:s.threads.length≤5) (hfs : ∀ t∈s.threads,t.frames.length≤30) {H:Hp} {nx nL nG:Nat} (hS:HSol H)
  (hL:H nL=some ⟨.c 155,7,[lookRow p s nG]⟩) (hG:H nG=some ⟨.m 3 (seenG []) 0,0,[]⟩) {K:D->Hp->Nat->Prop} (h : ∀ H' nx',HSol H'->K (dB (stateB p s)) H' nx'):ICall Tryz.prog 94 [aLk nL] H nx K:=by
 refine ICall.fresh (by kernel_rfl) fun hfr => ?_
 have hlt:=fresh_lt hfr hL
 have e0 : ¬ nL=nx:=by omega
 have e1 : ¬ nL=nx+1:=by omega
 have e2 : ¬ nL=nx+2:=by omega
 have e3 : ¬ nL=nx+3:=by omega
 have hltG:=fresh_lt hfr hG
 have hLG : ¬ nL=nG:=by rintro rfl;rw [hL] at hG;simp at hG
 have g0 : ¬ nG=nx:=by omega
 have no : ¬ stateB p s=true -> ∀ H' nx',HSol H'->K (dB false) H' nx':=fun e H' nx' hn=>by have:=h H' nx' hn;rw [Bool.eq_false_iff.2 e] at this;exact this
 have yes:stateB p s=true -> ∀ H' nx',HSol H'->K (dB true) H' nx':=fun e H' nx' hn=>by have:=h H' nx' hn;rw [e] at this;exact this
 clear h
 rw [state_iff] at no yes
 refine fni_ok [0,1,2,3,4,5,72,92,99,100,101,102,122] [(2,[0,1,3,7,15,31,63,127,0,511,1023,2047,4095,8191,16383,32767,65535,131071,2047,524287,2047,1050623,3147775,7342079,15730687,33554431,67108863,134217727,268435455,536870911,1073741823,2147483647,4294967295,8589934591,17179869183,34359738367,68719476735,137438953471,274877906943,549755813887,1099511627775,2199023255551,4398046511103,8796093022207,17592186044415,35184372088831,70368744177663,140737488355327,281474976710655,562949953421311,1125899906842623,2251799813685247,4503599627370495,9007199254740991,18014398509481983,36028797018963967,72057594037927935,144115188075855871,288230376151711743,576460752303423487,1152921504606846975],(.seg 0 (.seg 1 (.seg 2 (.seg 3 (.seg 4 (.seg 5 (.seg 6 (.seg 7 (.seg 8 (.seg 9 (.seg 10 (.seg 11 (.seg 12 (.seg 13 (.seg 14 (.seg 15 (.seg 16 (.seg 17 (.seg 18 (.seg 19 (.seg 20 (.seg 21 (.seg 22 (.seg 23 (.seg 24 (.eff 25 [0,3,6] (.seg 26 (.seg 27 (.seg 28 (.seg 29 (.seg 30 (.seg 31 (.seg 32 (.seg 33 (.seg 34 (.seg 35 (.eff 36 [0,3,6] (.seg 37 (.seg 38 (.seg 39 (.seg 40 (.seg 41 (.seg 42 (.seg 43 (.seg 44 (.seg 45 (.seg 46 (.eff 47 [] (.seg 48 (.seg 49 (.seg 50 (.seg 51 (.seg 52 (.seg 53 (.seg 54 (.seg 55 (.seg 56 (.seg 57 (.seg 58 (.seg 59 (.seg 60 .last))))))))))))))))))))))))))))))))))))))))))))))))))))))))))))))] Tryz.func94 rfl (by kernel_rfl) rfl rfl rfl rfl (by kernel_rfl) ?_
 simp [hL,hLG,e0,e1,e2,e3,g0,lookRow]
 intro _ _
 by_cases c0:p.texts.length≤s.texts.length
 case neg =>
  simp [c0]
  exact ⟨(by repeat' (first | assumption | refine HSol.set ?_ (by simp))),no (fun e=>c0 (by have:=congrArg List.length e.1.1;rw [List.length_take] at this;omega)) _ _ (by repeat' (first | assumption | refine HSol.set ?_ (by simp)))⟩
 simp only [c0,if_true,true_and, ← List.map_take]
 refine equalS_ok true true (s.texts.take p.texts.length) p.texts ?_
 by_cases c1:s.texts.take p.texts.length=p.texts
 case neg =>
  simp [c1]
  exact ⟨(by repeat' (first | assumption | refine HSol.set ?_ (by simp))),no (fun e=>c1 e.1.1) _ _ (by repeat' (first | assumption | refine HSol.set ?_ (by simp)))⟩
 simp [c1,hL,hLG,e0,e1,e2,e3,g0,lookRow]
 refine stwithin_ok _ _ _ ?_
 cases c2:btw s.steps 0 1000000000 with
 | false =>
  simp
  exact ⟨(by repeat' (first | assumption | refine HSol.set ?_ (by simp))),no (fun e=>by rw [c2] at e;exact absurd e.1.2.1 (by simp)) _ _ (by repeat' (first | assumption | refine HSol.set ?_ (by simp)))⟩
 | true =>
 simp [hL,hLG,e0,e1,e2,e3,g0,lookRow]
 refine stwithin_ok _ _ _ ?_
 cases c3:btw s.asked 0 1000000000 with
 | false =>
  simp
  exact ⟨(by repeat' (first | assumption | refine HSol.set ?_ (by simp))),no (fun e=>by rw [c3] at e;exact absurd e.1.2.2.1 (by simp)) _ _ (by repeat' (first | assumption | refine HSol.set ?_ (by simp)))⟩
 | true =>
 by_cases c4:s.threads=[]
 ·simp [c4,hL,hLG,e0,e1,e2,e3,g0,lookRow]
  exact ⟨(by repeat' (first | assumption | refine HSol.set ?_ (by simp))),no (fun e=>e.1.2.2.2 c4) _ _ (by repeat' (first | assumption | refine HSol.set ?_ (by simp)))⟩
 have c4' : ¬ s.threads.length=0:=fun e=>c4 (List.length_eq_zero_iff.1 e)
 simp [c4,c4',hL,hLG,e0,e1,e2,e3,g0,lookRow]
 intro _
 refine lcells_ok p hp s (nL:=nL) (nG:=nG) ?_ ?_ ?_ true s.cells hcb fun nx1 hn1 => ?_
 ·exact (by repeat' (first | assumption | refine HSol.set ?_ (by simp)))
 ·simp [hL,e0,lookRow]
 ·simp
 cases c5:s.cells.all (heapB p s) with
 | false =>
  simp
  exact ⟨(by repeat' (first | assumption | refine HSol.set ?_ (by simp))),no (fun e=>by rw [c5] at e;exact absurd e.2.1 (by simp)) _ _ (by repeat' (first | assumption | refine HSol.set ?_ (by simp)))⟩
 | true =>
 have f0 : ¬ nL=nx1:=by omega
 have f1 : ¬ nG=nx1:=by omega
 have f2 : ¬ nx=nx1:=by omega
 simp [c4,c4',hL,hLG,e0,e1,e2,e3,g0,f0,f1,f2,lookRow]
 refine lthreads_ok p hp s hs (nL:=nL) (nG:=nG) ?_ ?_ ?_ ?_ true s.threads hth hfs (fun a b nx2 hn2 => ?_) (fun a H2 nx2 hS2 => ?_)
 ·exact (by repeat' (first | assumption | refine HSol.set ?_ (by simp)))
 ·simp [hL,e0,lookRow]
 ·simp
 ·simp [hG,g0]
 rotate_left
 ·simp
  exact ⟨hS2,no (fun e=>a ⟨e.2.2.1,e.2.2.2.1⟩) _ _ hS2⟩
 have k0 : ¬ nL=nx2:=by omega
 have k1 : ¬ nG=nx2:=by omega
 have k2 : ¬ nx=nx2:=by omega
 have k3 : ¬ nx=nG:=by omega
 have glen:(gensT p s.threads).length≤10000:=by
  have:=gensT_len (p:=p) hfs
  omega
 simp [c4,c4',hL,hLG,e0,e1,e2,e3,g0,f0,f1,f2,k0,k1,k2,k3,lookRow]
 intro hcl
 refine loopH_ok (ks := [0,1,2,3,4,5,72,92,99,100,101,102,122]) (pl := [(2,[0,1,3,7,15,31,63,127,0,511,1023,2047,4095,8191,16383,32767,65535,131071,2047,524287,2047,1050623,3147775,7342079,15730687,33554431,67108863,134217727,268435455,536870911,1073741823,2147483647,4294967295,8589934591,17179869183,34359738367,68719476735,137438953471,274877906943,549755813887,1099511627775,2199023255551,4398046511103,8796093022207,17592186044415,35184372088831,70368744177663,140737488355327,281474976710655,562949953421311,1125899906842623,2251799813685247,4503599627370495,9007199254740991,18014398509481983,36028797018963967,72057594037927935,144115188075855871,288230376151711743,576460752303423487,1152921504606846975],(.seg 0 (.seg 1 (.seg 2 (.seg 3 (.seg 4 (.seg 5 (.seg 6 (.seg 7 (.seg 8 (.seg 9 (.seg 10 (.seg 11 (.seg 12 (.seg 13 (.seg 14 (.seg 15 (.seg 16 (.seg 17 (.seg 18 (.seg 19 (.seg 20 (.seg 21 (.seg 22 (.seg 23 (.seg 24 (.eff 25 [0,3,6] (.seg 26 (.seg 27 (.seg 28 (.seg 29 (.seg 30 (.seg 31 (.seg 32 (.seg 33 (.seg 34 (.seg 35 (.eff 36 [0,3,6] (.seg 37 (.seg 38 (.seg 39 (.seg 40 (.seg 41 (.seg 42 (.seg 43 (.seg 44 (.seg 45 (.seg 46 (.eff 47 [] (.seg 48 (.seg 49 (.seg 50 (.seg 51 (.seg 52 (.seg 53 (.seg 54 (.seg 55 (.seg 56 (.seg 57 (.seg 58 (.seg 59 (.seg 60 .last))))))))))))))))))))))))))))))))))))))))))))))))))))))))))))))]) (n0:=124) (α := {x:KR//x.k≤s.cells.length∧nx2≤x.nx ∧ ∀ j<x.k,goesK p s j=true}) (fun x=>[(101,dI x.1.k)]) (fun H _=>H) (fun x=>x.1.nx) (fun x=>s.cells.length-x.1.k) ⟨⟨0,nx2⟩,Nat.zero_le _,Nat.le_refl _,fun j hj=>by simp at hj⟩ rfl (by kernel_rfl) (Wk.sub (by simp)) ?_
 rintro ⟨⟨k,m⟩,hk,hm,hall⟩
 simp only at hk hm hall
 have m0 : ¬ nL=m:=by omega
 have m1 : ¬ nG=m:=by omega
 have m2 : ¬ nx=m:=by omega
 by_cases h1:k<s.cells.length
 case neg =>
  simp [h1]
  obtain rfl:k=s.cells.length:=by omega
  exact ⟨(by repeat' (first | assumption | refine HSol.set ?_ (by simp))),yes ⟨⟨c1,c2,c3,c4⟩,c5,a,b,goes_iff.2 hall⟩ _ _ (by repeat' (first | assumption | refine HSol.set ?_ (by simp)))⟩
 have bad:goesK p s k=false -> ∀ H' nx',HSol H'->K (dB false) H' nx':=fun e=>no fun e2=>by
  rw [goes_iff.1 e2.2.2.2.2 k h1] at e;cases e
 have hcl2:=hs
 have hki:=keyin3 (n:=(k:Int)) ⟨by omega,by omega⟩
 have hlk:=seenG_not (gensT p s.threads) (k:Int)
 have hg:cellAt s k=s.cells[k]:=by unfold cellAt;rw [Int.toNat_natCast,List.getD_eq_getElem?_getD,List.getElem?_eq_getElem h1];rfl
 unfold goesK at bad
 have hgo:goesK p s k=(!(decide ((cellAt s k).kind=5)&&decide ((cellAt s k).num=1))||decide ((k:Int)∈gensT p s.threads)):=rfl
 rw [hg] at hgo bad
 simp [h1,hL,hLG,e0,e1,e2,e3,g0,f0,f1,f2,k0,k1,k2,k3,m0,m1,m2,lookRow,hki]
 have hmn:((H.set nx (some ⟨.c 150,1,[[C.ptr nL 7 0 0]]⟩)).set nG (some ⟨.m 3 (seenG (gensT p s.threads)) (gensT p s.threads).length,0,[]⟩)) m=none:=by
  simp only [Hp.set]
  rw [if_neg (by omega),if_neg (by omega)]
  exact hfr m (by omega)
 refine alt (fun d1=>alt (fun d2=>alt (fun d3 => ?_) (fun d3 => ?_)) (fun d2 => ?_)) (fun d1 => ?_)
 ·exact ⟨(by repeat' (first | assumption | refine HSol.set ?_ (by simp))),bad (by simp [d1,d2,hlk.1 d3]) _ _ (by repeat' (first | assumption | refine HSol.set ?_ (by simp)))⟩
 ·have hgk:=show goesK p s k=true by rw [hgo];simp [d1,d2];exact Decidable.of_not_not fun e=>d3 (hlk.2 e)
  exact ⟨⟨k+1,m+1⟩,by simp;omega,⟨by simp;omega,by simp;omega,fun j hj=>by
   by_cases e:j=k
   ·rw [e];exact hgk
   ·exact hall j (by simp at hj;omega)⟩,Wk.sub2 (m:=m) (by simp [wrap_add (show k<9223372036854775807 by omega)]) rfl hmn⟩
 ·have hgk:=show goesK p s k=true by rw [hgo];simp [d1,d2]
  exact ⟨⟨k+1,m+1⟩,by simp;omega,⟨by simp;omega,by simp;omega,fun j hj=>by
   by_cases e:j=k
   ·rw [e];exact hgk
   ·exact hall j (by simp at hj;omega)⟩,Wk.sub2 (m:=m) (by simp [wrap_add (show k<9223372036854775807 by omega)]) rfl hmn⟩
 ·have hgk:=show goesK p s k=true by rw [hgo];simp [d1]
  exact ⟨⟨k+1,m+1⟩,by simp;omega,⟨by simp;omega,by simp;omega,fun j hj=>by
   by_cases e:j=k
   ·rw [e];exact hgk
   ·exact hall j (by simp at hj;omega)⟩,Wk.sub2 (m:=m) (by simp [wrap_add (show k<9223372036854775807 by omega)]) rfl hmn⟩
def CsS (H:Hp) (N:Nat->Prop):List C->List Dt->Prop
 | [],[]=>True
 | c::cs,d::ds=>Shw H N c d∧CsS H N cs ds
 | _,_=>False
theorem CsS.get {H:Hp} {N:Nat->Prop} : ∀ {cs:List C} {ds:List Dt}, CsS H N cs ds->cs.length=ds.length ∧ ∀ (j:Nat) d,ds[j]? = some d -> ∃ c,cs[j]? = some c∧Shw H N c d
 | [],[],_=>⟨rfl,fun j d h=>by simp at h⟩
 | c::cs,e::ds,h=>by
  have ih:=CsS.get h.2
  refine ⟨by simp [ih.1],fun j d hd => ?_⟩
  cases j with
  | zero=>simp at hd;subst hd;exact ⟨c,rfl,h.1⟩
  | succ j=>obtain ⟨c',g1,g2⟩:=ih.2 j d (by simpa using hd);exact ⟨c',by simpa using g1,g2⟩
 | [],_::_,h=>h.elim
 | _::_,[],h=>h.elim
theorem CsRel.refl {H:Hp} {N:Nat->Prop} : ∀ l:List C,CsRel H N l l
 | []=>trivial
 | _::l=>⟨.inl rfl,CsRel.refl l⟩
theorem DRel.refl {H:Hp} {N:Nat->Prop} : ∀ d:D,DRel H N d d
 | .top=>trivial
 | .one _ => .inl rfl
 | .agg l=>CsRel.refl l
 | .tup _=>rfl
noncomputable def seenW (l:List GVal) (j:Nat):Value->Int:=fun v=>if v∈(List.range j).map (fun i=>Value.int .i64 (valAt l (2*i)).n) then 1 else 0
theorem seenW_zero (l:List GVal):seenW l 0=fun _=>0:=by funext v;simp [seenW]
theorem seenW_next (l:List GVal) (j:Nat):(fun v=>if v=Value.int .i64 (valAt l (2*j)).n then 1 else seenW l j v)=seenW l (j+1):=by
 funext v
 unfold seenW
 rw [List.range_succ,List.map_append]
 by_cases h:v=Value.int .i64 (valAt l (2*j)).n
 ·rw [if_pos h,if_pos (by rw [h];simp)]
 ·rw [if_neg h]
  by_cases h2:v∈(List.range j).map (fun i=>Value.int .i64 (valAt l (2*i)).n)
  ·rw [if_pos h2,if_pos (List.mem_append_left _ h2)]
  ·rw [if_neg h2,if_neg (fun hm=>by
    rcases List.mem_append.1 hm with hm | hm
    ·exact h2 hm
    ·exact h (by simpa using hm))]
theorem seenW_get (l:List GVal) (j:Nat) (n:Int):seenW l j (.int .i64 n)=1 ↔ ∃ i<j,(valAt l (2*i)).n=n:=by
 unfold seenW
 have e:Value.int .i64 n∈(List.range j).map (fun i=>Value.int .i64 (valAt l (2*i)).n) ↔ ∃ i<j,(valAt l (2*i)).n=n:=by
  simp
 by_cases h : ∃ i<j,(valAt l (2*i)).n=n
 ·rw [if_pos (e.2 h)];simp [h]
 ·rw [if_neg (fun h'=>h (e.1 h'))];simp only [h,iff_false];decide
theorem keyB_iff {l:List GVal} {j:Nat} : keyB l j=true↔(valAt l (2*j)).kind=5 ∧ ¬ ∃ i<j,(valAt l (2*i)).n=(valAt l (2*j)).n:=by
 simp [keyB]
theorem wrap_add2 {n:Nat} (h:n<100000000):IntKind.i64.wrap ((n:Int)+2)=((n:Int)+2):=wrap_id (by omega) (by omega)
structure KW where
 j:Nat
 k:Nat
theorem celWeak_ok (S:Bool) (st:D) (l:List GVal) (hin : ∀ v∈l,InI v.n) (hl:l.length≤100000) {K:D->List Blk->Prop} (h:K (dB (weakB l)) []):DPure Tryz.prog 182 [st,dL S (l.map eVal)] K:=by
 refine fn_ok [1,4,5,6,11,29] [] Tryz.func182 rfl (by kernel_rfl) rfl rfl rfl rfl (by kernel_rfl) ?_
 simp
 refine loopH_ok (ks := [1,4,5,6,11,29]) (pl := []) (n0:=40) (α := {x:KW//x.k=2*x.j∧x.k≤l.length+1 ∧ ∀ i<x.j,keyB l i=true}) (fun x=>[(6,dI x.1.k)]) (fun H x=>H.set 0 (some ⟨.m 3 (seenW l x.1.j) x.1.j,0,[]⟩)) (fun _=>1) (fun x=>l.length+1-x.1.k) ⟨⟨0,0⟩,rfl,by simp⟩ rfl (by kernel_rfl) (Wk.subH (by simp) (by rw [Hp.set_set,seenW_zero])) ?_
 rintro ⟨⟨j,k⟩,hkj,hj,hk⟩
 simp only at hkj hj hk
 by_cases h3:k<l.length
 ·have hv:l[k]=valAt l k:=by simp [valAt,List.getD_eq_getElem?_getD,List.getElem?_eq_getElem h3]
  have hI:=hin _ (List.getElem_mem h3)
  rw [hv] at hI
  have hkb:keyB l j=true↔(valAt l k).kind=5 ∧ ¬ ∃ i<j,(valAt l (2*i)).n=(valAt l k).n:=by rw [hkj];exact keyB_iff
  have hsg:=seenW_get l j (valAt l k).n
  have hsn:=seenW_next l j
  rw [← hkj] at hsn
  generalize valAt l k=v at *
  obtain ⟨vk,vn⟩:=v
  simp only at hI hkb hsg hsn
  have hbad:keyB l j=false->K (dB false) []:=fun e=>kB h (by
   unfold weakB
   rw [Bool.and_eq_false_iff]
   exact .inr (by rw [List.all_eq_false];exact ⟨j,List.mem_range.2 (by omega),by rw [e];simp⟩))
  by_cases e5:vk=5
  ·simp [h3,hv,e5,keyin3 hI]
   intro _
   refine alt (fun c=>hbad ?_) (fun c => ?_)
   ·cases hq:keyB l j with
    | false=>rfl
    | true=>exact absurd (hsg.1 c) (hkb.1 hq).2
   ·have hq:keyB l j=true:=hkb.2 ⟨e5,fun e=>c (hsg.2 e)⟩
    refine ⟨by kernel_rfl,by omega,⟨j+1,k+2⟩,by simp;omega,⟨by simp;omega,by simp;omega,fun i hi => ?_⟩,Wk.subH (by simp;exact wrap_add2 (by omega)) (by simp [← hsn])⟩
    by_cases e:i=j
    ·rw [e];exact hq
    ·exact hk i (by simp at hi;omega)
  ·simp [h3,hv,e5]
   intro _
   exact hbad (by
    cases hq:keyB l j with
    | false=>rfl
    | true=>exact absurd (hkb.1 hq).1 e5)
 ·simp [h3]
  intro _
  have hm:((l.length:Int).tmod 2=0)↔l.length%2=0:=by
   rw [Int.tmod_eq_emod_of_nonneg (by omega)];omega
  refine kB h ?_
  unfold weakB
  rw [Bool.eq_iff_iff,Bool.and_eq_true,decide_eq_true_eq,decide_eq_true_eq,hm,List.all_eq_true]
  exact ⟨fun e=>e.1,fun e=>⟨e,fun i hi=>hk i (by have:=List.mem_range.1 hi;omega)⟩⟩
end
end Go.Proofs.YtbphdcffpobcbaaGreatDoor
