/- Several texts in one. -/
import Derived.Sort.WalkA
import Derived.Test.YtbphdcffpobcbaaGreatDoorMc
import Derived.Test.YtbphdcffpobcbaaGreatDoorMd
import Derived.Test.YtbphdcffpobcbaaGreatDoorMe
set_option linter.unusedSimpArgs false
set_option linter.unusedVariables false
set_option linter.unusedSectionVars false
set_option maxRecDepth 100000
set_option maxHeartbeats 16000000
namespace Go.Proofs.YtbphdcffpobcbaaGreatDoor
section
open Go.Sort
section
variable {α:Type} [Inhabited α]
def swpR (a b:Nat):Nat->Nat->Array α->Array α
 | 0,_,d=>d
 | n+1,i,d=>swpR a b n (i+1) (Go.Sort.swp d (a+i) (b+i))
theorem size_swpR (a b:Nat) : ∀ (n i:Nat) (d:Array α),(swpR a b n i d).size=d.size
 | 0,_,_=>rfl
 | n+1,i,d=>by rw [swpR,size_swpR a b n,size_swp]
def rotA (m:Nat):Nat->Nat->Nat->Array α->Array α
 | 0,i,_,d=>swpR (m-i) m i 0 d
 | f+1,i,j,d=>if i=j then swpR (m-i) m i 0 d else if j<i then rotA m f (i-j) j (swpR (m-i) m j 0 d) else rotA m f i (j-i) (swpR (m-i) (m+j-i) i 0 d)
theorem size_rotA (m:Nat) : ∀ (f i j:Nat) (d:Array α),(rotA m f i j d).size=d.size
 | 0,_,_,_=>by rw [rotA,size_swpR]
 | f+1,i,j,d=>by
  rw [rotA]
  split
  ·rw [size_swpR]
  ·split <;> rw [size_rotA m f,size_swpR]
theorem rotA_fuel (m:Nat) : ∀ (f g i j:Nat) (d:Array α),0<i->0<j->i+j≤f->i+j≤g->rotA m f i j d=rotA m g i j d
 | 0,_,i,j,_,h1,_,h2,_=>by omega
 | _+1,0,i,j,_,h1,_,_,h2=>by omega
 | f+1,g+1,i,j,d,h1,h2,h3,h4=>by
  rw [rotA,rotA]
  split
  ·rfl
  ·split
   ·exact rotA_fuel m f g (i-j) j _ (by omega) h2 (by omega) (by omega)
   ·exact rotA_fuel m f g i (j-i) _ h1 (by omega) (by omega) (by omega)
def rot (a m b:Nat) (d:Array α):Array α:=rotA m (b-a) (m-a) (b-m) d
def bsr (p:Nat->Bool):Nat->Nat->Nat->Nat
 | 0,i,_=>i
 | f+1,i,j=>if i<j then (if p ((i+j)/2) then bsr p f ((i+j)/2+1) j else bsr p f i ((i+j)/2)) else i
theorem bsr_range (p:Nat->Bool) : ∀ (f i j:Nat),i≤j->i≤bsr p f i j∧bsr p f i j≤j
 | 0,i,j,h=>by rw [bsr];omega
 | f+1,i,j,h=>by
  rw [bsr]
  split
  ·split
   ·have:=bsr_range p f ((i+j)/2+1) j (by omega);omega
   ·have:=bsr_range p f i ((i+j)/2) (by omega);omega
  ·omega
theorem bsr_fuel (p:Nat->Bool) : ∀ (f g i j:Nat),j-i≤f->j-i≤g->bsr p f i j=bsr p g i j
 | 0,0,_,_,_,_=>rfl
 | 0,g+1,i,j,h,_=>by rw [bsr,bsr,if_neg (by omega)]
 | f+1,0,i,j,_,h=>by rw [bsr,bsr,if_neg (by omega)]
 | f+1,g+1,i,j,h1,h2=>by
  rw [bsr,bsr]
  split
  ·split
   ·exact bsr_fuel p f g _ _ (by omega) (by omega)
   ·exact bsr_fuel p f g _ _ (by omega) (by omega)
  ·rfl
def bs (p:Nat->Bool) (i j:Nat):Nat:=bsr p (j-i) i j
theorem bs_stop {p:Nat->Bool} {i j:Nat} (h : ¬ i<j):bs p i j=i:=by
 unfold bs
 rw [show j-i=0 by omega,bsr]
theorem bs_yes {p:Nat->Bool} {i j:Nat} (h:i<j) (hp:p ((i+j)/2)=true):bs p i j=bs p ((i+j)/2+1) j:=by
 unfold bs
 rw [bsr_fuel p (j-((i+j)/2+1)) (j-i-1) _ _ (Nat.le_refl _) (by omega)]
 obtain ⟨f,hf⟩ : ∃ f,j-i=f+1:=⟨j-i-1,by omega⟩
 rw [hf,bsr,if_pos h,if_pos hp,Nat.add_sub_cancel]
theorem bs_no {p:Nat->Bool} {i j:Nat} (h:i<j) (hp:p ((i+j)/2)=false):bs p i j=bs p i ((i+j)/2):=by
 unfold bs
 rw [bsr_fuel p ((i+j)/2-i) (j-i-1) _ _ (Nat.le_refl _) (by omega)]
 obtain ⟨f,hf⟩ : ∃ f,j-i=f+1:=⟨j-i-1,by omega⟩
 rw [hf,bsr,if_pos h,if_neg (by simp [hp]),Nat.add_sub_cancel]
theorem bs_range (p:Nat->Bool) {i j:Nat} (h:i≤j):i≤bs p i j∧bs p i j≤j:=bsr_range p _ i j h
def movU:Nat->Nat->Array α->Array α
 | 0,_,d=>d
 | n+1,k,d=>movU n (k+1) (Go.Sort.swp d k (k+1))
def movD:Nat->Nat->Array α->Array α
 | 0,_,d=>d
 | n+1,k,d=>movD n (k-1) (Go.Sort.swp d k (k-1))
theorem size_movU : ∀ (n k:Nat) (d:Array α),(movU n k d).size=d.size
 | 0,_,_=>rfl
 | n+1,k,d=>by rw [movU,size_movU n,size_swp]
theorem size_movD : ∀ (n k:Nat) (d:Array α),(movD n k d).size=d.size
 | 0,_,_=>rfl
 | n+1,k,d=>by rw [movD,size_movD n,size_swp]
variable (lt:α->α->Bool)
def insA (d:Array α) (a b:Nat):Array α:=Go.Sort.insertionSort lt d a b
theorem size_insInner (a:Nat) : ∀ (j:Nat) (d:Array α),(insInner lt a j d).size=d.size
 | 0,d=>by rw [insInner_stop lt a 0 d (.inl (Nat.zero_le _))]
 | j+1,d=>by
  by_cases h:a<j+1∧lt d[j+1]! d[j+1-1]! = true
  ·rw [insInner_go lt a (j+1) d h.1 h.2,Nat.add_sub_cancel,size_insInner a j,size_swp]
  ·rw [insInner_stop lt a (j+1) d]
   by_cases h2:a<j+1
   ·right;simpa using fun e=>h ⟨h2,e⟩
   ·left;omega
theorem size_insOuter (a b:Nat) : ∀ (n i:Nat) (d:Array α),b-i≤n->(insOuter lt a b i d).size=d.size
 | 0,i,d,h=>by rw [insOuter_stop lt a b i d (by omega)]
 | n+1,i,d,h=>by
  by_cases hi:i<b
  ·rw [insOuter_go lt a b i d hi,size_insOuter a b n (i+1) _ (by omega),size_insInner]
  ·rw [insOuter_stop lt a b i d hi]
theorem size_insA (d:Array α) (a b:Nat):(insA lt d a b).size=d.size:=size_insOuter lt a b _ _ _ (Nat.le_refl _)
def symS (a m b:Nat):Nat:=if (a+b)/2<m then (a+b)/2+m-b else a
def symE (a m b:Nat):Nat:=if (a+b)/2<m then (a+b)/2 else m
def symP (d:Array α) (n c:Nat):Bool := !lt d[n-1-c]! d[c]!
def symStart (a m b:Nat) (d:Array α):Nat:=bs (symP lt d ((a+b)/2+m)) (symS a m b) (symE a m b)
def symRot (a m b:Nat) (d:Array α):Array α:=if symStart lt a m b d<m∧m<(a+b)/2+m-symStart lt a m b d then rot (symStart lt a m b d) m ((a+b)/2+m-symStart lt a m b d) d else d
theorem size_symRot (a m b:Nat) (d:Array α):(symRot lt a m b d).size=d.size:=by
 unfold symRot
 split
 ·exact size_rotA _ _ _ _ _
 ·rfl
def symUp (a m b:Nat) (d:Array α):Array α:=movU (bs (fun h=>lt d[h]! d[a]!) m b-1-a) a d
def symDn (a m b:Nat) (d:Array α):Array α:=movD (m-bs (fun h => !lt d[m]! d[h]!) a m) m d
def symA:Nat->Nat->Nat->Nat->Array α->Array α
 | 0,_,_,_,d=>d
 | f+1,a,m,b,d=>if m-a=1 then symUp lt a m b d else if b-m=1 then symDn lt a m b d else
  (fun s (d1:Array α)=>(fun (d2:Array α)=>if (a+b)/2<(a+b)/2+m-s∧(a+b)/2+m-s<b then symA f ((a+b)/2) ((a+b)/2+m-s) b d2 else d2)
   (if a<s∧s<(a+b)/2 then symA f a s ((a+b)/2) d1 else d1)) (symStart lt a m b d) (symRot lt a m b d)
theorem size_symA : ∀ (f a m b:Nat) (d:Array α),(symA lt f a m b d).size=d.size
 | 0,_,_,_,_=>rfl
 | f+1,a,m,b,d=>by
  rw [symA]
  split
  ·exact size_movU _ _ _
  split
  ·exact size_movD _ _ _
  dsimp only
  split <;> split <;> simp only [size_symA f,size_symRot]
theorem symA_fuel : ∀ (f g a m b:Nat) (d:Array α),a<m->m<b->b-a≤f->b-a≤g->symA lt f a m b d=symA lt g a m b d
 | 0,_,a,m,b,_,_,_,_,_=>by omega
 | _+1,0,a,m,b,_,_,_,_,_=>by omega
 | f+1,g+1,a,m,b,d,h1,h2,h3,h4=>by
  rw [symA,symA]
  split
  ·rfl
  split
  ·rfl
  dsimp only
  have e1:a<symStart lt a m b d∧symStart lt a m b d<(a+b)/2->symA lt f a (symStart lt a m b d) ((a+b)/2) (symRot lt a m b d)=symA lt g a (symStart lt a m b d) ((a+b)/2) (symRot lt a m b d):=fun h=>symA_fuel f g _ _ _ _ h.1 h.2 (by omega) (by omega)
  have e2 : ∀ d2,(a+b)/2<(a+b)/2+m-symStart lt a m b d∧(a+b)/2+m-symStart lt a m b d<b->symA lt f ((a+b)/2) ((a+b)/2+m-symStart lt a m b d) b d2=symA lt g ((a+b)/2) ((a+b)/2+m-symStart lt a m b d) b d2:=fun d2 h=>symA_fuel f g _ _ _ _ h.1 h.2 (by omega) (by omega)
  by_cases c1:a<symStart lt a m b d∧symStart lt a m b d<(a+b)/2
  ·rw [if_pos c1,if_pos c1,e1 c1]
   by_cases c2:(a+b)/2<(a+b)/2+m-symStart lt a m b d∧(a+b)/2+m-symStart lt a m b d<b
   ·rw [if_pos c2,if_pos c2,e2 _ c2]
   ·rw [if_neg c2,if_neg c2]
  ·rw [if_neg c1,if_neg c1]
   by_cases c2:(a+b)/2<(a+b)/2+m-symStart lt a m b d∧(a+b)/2+m-symStart lt a m b d<b
   ·rw [if_pos c2,if_pos c2,e2 _ c2]
   ·rw [if_neg c2,if_neg c2]
def sym (a m b:Nat) (d:Array α):Array α:=symA lt (b-a) a m b d
theorem size_sym (a m b:Nat) (d:Array α):(sym lt a m b d).size=d.size:=size_symA lt _ _ _ _ _
theorem sym_up {a m b:Nat} {d:Array α} (h1:a<m) (h2:m<b) (h:m-a=1):sym lt a m b d=symUp lt a m b d:=by
 unfold sym
 obtain ⟨f,hf⟩ : ∃ f,b-a=f+1:=⟨b-a-1,by omega⟩
 rw [hf,symA,if_pos h]
theorem sym_dn {a m b:Nat} {d:Array α} (h1:a<m) (h2:m<b) (h0 : ¬ m-a=1) (h:b-m=1):sym lt a m b d=symDn lt a m b d:=by
 unfold sym
 obtain ⟨f,hf⟩ : ∃ f,b-a=f+1:=⟨b-a-1,by omega⟩
 rw [hf,symA,if_neg h0,if_pos h]
def symL (a m b:Nat) (d:Array α):Array α:=if a<symStart lt a m b d∧symStart lt a m b d<(a+b)/2 then sym lt a (symStart lt a m b d) ((a+b)/2) (symRot lt a m b d) else symRot lt a m b d
theorem size_symL (a m b:Nat) (d:Array α):(symL lt a m b d).size=d.size:=by
 unfold symL
 split
 ·rw [size_sym,size_symRot]
 ·rw [size_symRot]
theorem sym_at {a m b:Nat} {d:Array α} (h1:a<m) (h2:m<b) (h3 : ¬ m-a=1) (h4 : ¬ b-m=1) :
  sym lt a m b d=if (a+b)/2<(a+b)/2+m-symStart lt a m b d∧(a+b)/2+m-symStart lt a m b d<b then sym lt ((a+b)/2) ((a+b)/2+m-symStart lt a m b d) b (symL lt a m b d) else symL lt a m b d:=by
 conv=>lhs;unfold sym
 obtain ⟨f,hf⟩ : ∃ f,b-a=f+1:=⟨b-a-1,by omega⟩
 rw [hf,symA,if_neg h3,if_neg h4]
 dsimp only
 have e1:a<symStart lt a m b d∧symStart lt a m b d<(a+b)/2->symA lt f a (symStart lt a m b d) ((a+b)/2) (symRot lt a m b d)=sym lt a (symStart lt a m b d) ((a+b)/2) (symRot lt a m b d):=fun h=>symA_fuel lt _ _ _ _ _ _ h.1 h.2 (by omega) (by omega)
 have e2 : ∀ d2,(a+b)/2<(a+b)/2+m-symStart lt a m b d∧(a+b)/2+m-symStart lt a m b d<b->symA lt f ((a+b)/2) ((a+b)/2+m-symStart lt a m b d) b d2=sym lt ((a+b)/2) ((a+b)/2+m-symStart lt a m b d) b d2:=fun d2 h=>symA_fuel lt _ _ _ _ _ _ h.1 h.2 (by omega) (by omega)
 unfold symL
 by_cases c1:a<symStart lt a m b d∧symStart lt a m b d<(a+b)/2
 ·rw [if_pos c1,if_pos c1,e1 c1]
  by_cases c2:(a+b)/2<(a+b)/2+m-symStart lt a m b d∧(a+b)/2+m-symStart lt a m b d<b
  ·rw [if_pos c2,if_pos c2,e2 _ c2]
  ·rw [if_neg c2,if_neg c2]
 ·rw [if_neg c1,if_neg c1]
  by_cases c2:(a+b)/2<(a+b)/2+m-symStart lt a m b d∧(a+b)/2+m-symStart lt a m b d<b
  ·rw [if_pos c2,if_pos c2,e2 _ c2]
  ·rw [if_neg c2,if_neg c2]
theorem symS_range {a m b:Nat} (h1:a<m) (h2:m<b):symS a m b≤symE a m b∧a≤symS a m b∧symE a m b≤m∧symE a m b≤(a+b)/2:=by
 unfold symS symE
 split <;> omega
theorem symStart_range {a m b:Nat} (d:Array α) (h1:a<m) (h2:m<b):a≤symStart lt a m b d∧symStart lt a m b d≤m∧symStart lt a m b d≤(a+b)/2∧m≤(a+b)/2+m-symStart lt a m b d∧(a+b)/2≤(a+b)/2+m-symStart lt a m b d∧(a+b)/2+m-symStart lt a m b d≤b:=by
 obtain ⟨g1,g2,g3,g4⟩:=symS_range h1 h2
 have:=bs_range (symP lt d ((a+b)/2+m)) g1
 have hs:symStart lt a m b d=bs (symP lt d ((a+b)/2+m)) (symS a m b) (symE a m b):=rfl
 rw [← hs] at this
 have hq:(a+b)/2+m-b≤symS a m b:=by unfold symS;split <;> omega
 omega
def stI (n:Nat):Nat->Nat->Array α->Array α
 | 0,a,d=>insA lt d a n
 | f+1,a,d=>if a+20≤n then stI n f (a+20) (insA lt d a (a+20)) else insA lt d a n
def stM (n k:Nat):Nat->Nat->Array α->Array α
 | 0,_,d=>d
 | f+1,a,d=>if a+2*k≤n then stM n k f (a+2*k) (sym lt a (a+k) (a+2*k) d) else if a+k<n then sym lt a (a+k) n d else d
def stL (n:Nat):Nat->Nat->Array α->Array α
 | 0,_,d=>d
 | f+1,k,d=>if k<n then stL n f (2*k) (stM lt n k n 0 d) else d
theorem size_stI (n:Nat) : ∀ (f a:Nat) (d:Array α),(stI lt n f a d).size=d.size
 | 0,_,_=>size_insA _ _ _ _
 | f+1,a,d=>by
  rw [stI]
  split
  ·rw [size_stI n f,size_insA]
  ·exact size_insA _ _ _ _
theorem size_stM (n k:Nat) : ∀ (f a:Nat) (d:Array α),(stM lt n k f a d).size=d.size
 | 0,_,_=>rfl
 | f+1,a,d=>by
  rw [stM]
  split
  ·rw [size_stM n k f,size_sym]
  ·split
   ·exact size_sym _ _ _ _ _
   ·rfl
theorem size_stL (n:Nat) : ∀ (f k:Nat) (d:Array α),(stL lt n f k d).size=d.size
 | 0,_,_=>rfl
 | f+1,k,d=>by
  rw [stL]
  split
  ·rw [size_stL n f,size_stM]
  ·rfl
def stable (d:Array α):Array α:=stL lt d.size d.size 20 (stI lt d.size d.size 0 d)
theorem size_stable (d:Array α):(stable lt d).size=d.size:=by unfold stable;rw [size_stL,size_stI]
theorem stI_fuel (n:Nat) : ∀ (f g a:Nat) (d:Array α),n-a≤f->n-a≤g->stI lt n f a d=stI lt n g a d
 | 0,0,_,_,_,_=>rfl
 | 0,g+1,a,d,h,_=>by rw [stI,stI,if_neg (by omega)]
 | f+1,0,a,d,_,h=>by rw [stI,stI,if_neg (by omega)]
 | f+1,g+1,a,d,h1,h2=>by
  rw [stI,stI]
  split
  ·exact stI_fuel n f g _ _ (by omega) (by omega)
  ·rfl
theorem stM_fuel (n k:Nat) (hk:0<k) : ∀ (f g a:Nat) (d:Array α),n-a≤f->n-a≤g->stM lt n k f a d=stM lt n k g a d
 | 0,0,_,_,_,_=>rfl
 | 0,g+1,a,d,h,_=>by rw [stM,stM,if_neg (by omega),if_neg (by omega)]
 | f+1,0,a,d,_,h=>by rw [stM,stM,if_neg (by omega),if_neg (by omega)]
 | f+1,g+1,a,d,h1,h2=>by
  rw [stM,stM]
  split
  ·exact stM_fuel n k hk f g _ _ (by omega) (by omega)
  ·rfl
theorem stL_fuel (n:Nat) : ∀ (f g k:Nat) (d:Array α),0<k->n-k≤f->n-k≤g->stL lt n f k d=stL lt n g k d
 | 0,0,_,_,_,_,_=>rfl
 | 0,g+1,k,d,_,h,_=>by rw [stL,stL,if_neg (by omega)]
 | f+1,0,k,d,_,_,h=>by rw [stL,stL,if_neg (by omega)]
 | f+1,g+1,k,d,hk,h1,h2=>by
  rw [stL,stL]
  split
  ·exact stL_fuel n f g _ _ (by omega) (by omega) (by omega)
  ·rfl
end
end
section
open Go.RowKit Go
open Go.Sort
section
variable {α:Type} [Inhabited α] (enc:α->Int)
def aT (d:Array α) (i:Nat):α:=d[i]!
def aRows (d:Array α):List (List C):=d.toList.map fun x=>[.d (eI (enc x))]
theorem aRows_get {d:Array α} {i:Nat} (h:i<d.size):(aRows enc d)[i]? = some [.d (eI (enc (aT d i)))]:=by
 simp [aRows,aT,h]
theorem aRows_len (d:Array α):(aRows enc d).length=d.size:=by simp [aRows]
theorem aRows_swp {d:Array α} {i j:Nat} (hi:i<d.size) (hj:j<d.size):((aRows enc d).set i [.d (eI (enc (aT d j)))]).set j [.d (eI (enc (aT d i)))]=aRows enc (Go.Sort.swp d i j):=by
 apply List.ext_getElem?
 intro k
 simp only [aRows,aT,Go.Sort.swp,List.getElem?_set,List.getElem?_map,Array.getElem?_toList,Array.getElem?_setIfInBounds,List.length_set,List.length_map,Array.length_toList,Array.size_setIfInBounds]
 by_cases h1:j=k
 ·subst h1
  simp [hj]
 ·by_cases h2:i=k
  ·subst h2
   simp [h1,hi]
  ·simp [h1,h2]
theorem aRows_sol {d:Array α} : ∀ e∈aRows enc d, ∀ c∈e,C.solidC c=true:=by
 intro e he c hc
 obtain ⟨x, -, rfl⟩:=List.mem_map.1 he
 simp at hc
 subst hc
 rfl
structure RowAt (H0:Hp) (nx0 v:Nat) (d:Array α) (H:Hp) (nx:Nat):Prop where
 row:H v=some ⟨.c 3,1,aRows enc d⟩
 nx:nx0≤nx
 low : ∀ i,i<nx0->i≠v->H i=H0 i
 sol:HSol H
variable {enc}
theorem RowAt.put {H0 H:Hp} {nx0 nx v:Nat} {d:Array α} (h:RowAt enc H0 nx0 v d H nx) (d':Array α):RowAt enc H0 nx0 v d' (H.set v (some ⟨.c 3,1,aRows enc d'⟩)) nx :=
 ⟨Hp.set_same _ _ _,h.nx,fun i hi hn=>by rw [Hp.set_ne _ _ hn];exact h.low i hi hn,HSol.set h.sol (aRows_sol enc)⟩
structure SwS (α:Type) where
 i:Nat
 j:Nat
 d:Array α
 H:Hp
 nx:Nat
theorem int_add {a b:Nat} (h:a+b≤4000000):IntKind.i64.wrap ((a:Int)+(b:Int))=((a+b:Nat):Int):=by rw [wrap_id (by omega) (by omega)];omega
theorem int_sub {a b:Nat} (h:b≤a) (h2:a≤4000000):IntKind.i64.wrap ((a:Int)-(b:Int))=((a-b:Nat):Int):=by rw [wrap_id (by omega) (by omega)];omega
theorem RowAt.mono {H0 H H':Hp} {nx0 nx nx' v:Nat} {d:Array α} (h:RowAt enc H0 nx0 v d H nx) (hv:v<nx0) (h1:nx≤nx') (h2 : ∀ i,i<nx->H' i=H i) (h3:HSol H'):RowAt enc H0 nx0 v d H' nx' :=
 ⟨by rw [h2 v (by have:=h.nx;omega)];exact h.row,Nat.le_trans h.nx h1,fun i hi hn=>by rw [h2 i (by have:=h.nx;omega)];exact h.low i hi hn,h3⟩
theorem rot_eq {m i:Nat} (h:0<i) (d:Array α):rotA m (i+i) i i d=swpR (m-i) m i 0 d:=by
 obtain ⟨f,hf⟩ : ∃ f,i+i=f+1:=⟨i+i-1,by omega⟩
 rw [hf,rotA,if_pos rfl]
theorem rot_gt {m i j:Nat} (h:j<i) (h0:0<j) (d:Array α):rotA m (i+j) i j d=rotA m (i-j+j) (i-j) j (swpR (m-i) m j 0 d):=by
 obtain ⟨f,hf⟩ : ∃ f,i+j=f+1:=⟨i+j-1,by omega⟩
 rw [hf,rotA,if_neg (by omega),if_pos h]
 exact rotA_fuel m _ _ _ _ _ (by omega) h0 (by omega) (by omega)
theorem rot_lt {m i j:Nat} (h:i<j) (h0:0<i) (d:Array α):rotA m (i+j) i j d=rotA m (i+(j-i)) i (j-i) (swpR (m-i) (m+j-i) i 0 d):=by
 obtain ⟨f,hf⟩ : ∃ f,i+j=f+1:=⟨i+j-1,by omega⟩
 rw [hf,rotA,if_neg (by omega),if_neg (by omega)]
 exact rotA_fuel m _ _ _ _ _ h0 (by omega) (by omega) (by omega)
theorem half_at {i j:Nat} (h:i+j≤4000000) : ∃ s t:Nat,s=i+j∧t=(i+j)/2∧IntKind.i64.wrap ((i:Int)+(j:Int))=(s:Int)∧IntKind.u64.wrap (s:Int)=(s:Int)∧(s:Int).fdiv (2 ^ min 1 IntKind.u64.bits)=(t:Int)∧IntKind.i64.wrap (t:Int)=(t:Int):=by
 refine ⟨i+j,(i+j)/2,rfl,rfl,int_add h,?_,?_,wrap_id (by omega) (by omega)⟩
 ·show ((i+j:Nat):Int)%18446744073709551616=_
  omega
 ·rw [show IntKind.u64.bits=64 from rfl,Nat.min_eq_left (by omega),Int.fdiv_eq_ediv_of_nonneg _ (by decide)]
  simp
def CmpOk (enc:α->Int) (lt:α->α->Bool) (g:FuncId) (cs:List Cap) (H0:Hp) (nx0 v l:Nat):Prop:=0<l -> ∀ H nx,nx0≤nx->(∀ i,i<nx0->i≠v->H i=H0 i)->HSol H -> ∀ (x y:α) (K:D->Hp->Nat->Prop),(∀ c H' nx',nx≤nx'->(∀ i,i<nx->H' i=H i)->HSol H'->(c<0↔lt x y=true)->K (dI c) H' nx')->ICall Tryz.prog g ([dI (enc x),dI (enc y)]++cs.map Cap.D) H nx K
theorem swrS_ic {H0:Hp} {nx0 v l:Nat} (c:D) (a b n:Nat) (d:Array α) (hl:d.size=l) (h1:a+n≤d.size) (h2:b+n≤d.size) (hab:a≠b) (hsz:d.size≤1000000) {H:Hp} {nx:Nat} (hR:RowAt enc H0 nx0 v d H nx) {K:D->Hp->Nat->Prop}
  (hK : ∀ H' nx',RowAt enc H0 nx0 v (swpR a b n 0 d) H' nx'->K (.tup []) H' nx'):ICall Tryz.prog 247 [.one (.own v 1 l),dI a,dI b,dI n,c] H nx K:=by
 subst hl
 refine fni_ok [0,1,2,3,10,13] [(3,[0,0,0,6,0,0,0,96,0,0,0,1536,3840,7936,0,0,0,98304,245760,507904,1048335,2096911,4194303,8388607],(.seg 0 (.seg 1 (.seg 2 (.seg 3 (.seg 4 (.seg 5 (.seg 6 (.seg 7 (.seg 8 (.seg 9 (.seg 10 (.seg 11 (.seg 12 (.seg 13 (.seg 14 (.seg 15 (.seg 16 (.seg 17 (.seg 18 (.seg 19 (.seg 20 (.eff 21 [7] (.seg 22 (.eff 23 [] .last)))))))))))))))))))))))))] Tryz.func247 rfl (by kernel_rfl) rfl rfl rfl rfl (by kernel_rfl) ?_
 simp
 refine loopH_ok (ks := [0,1,2,3,10,13]) (pl := [(3,[0,0,0,6,0,0,0,96,0,0,0,1536,3840,7936,0,0,0,98304,245760,507904,1048335,2096911,4194303,8388607],(.seg 0 (.seg 1 (.seg 2 (.seg 3 (.seg 4 (.seg 5 (.seg 6 (.seg 7 (.seg 8 (.seg 9 (.seg 10 (.seg 11 (.seg 12 (.seg 13 (.seg 14 (.seg 15 (.seg 16 (.seg 17 (.seg 18 (.seg 19 (.seg 20 (.eff 21 [7] (.seg 22 (.eff 23 [] .last)))))))))))))))))))))))))]) (n0:=38) (α := {x:SwS α//x.i≤n∧x.d.size=d.size∧swpR a b (n-x.i) x.i x.d=swpR a b n 0 d∧RowAt enc H0 nx0 v x.d x.H x.nx}) (fun x=>[(10,dI x.1.i)]) (fun _ x=>x.1.H) (fun x=>x.1.nx) (fun x=>n-x.1.i) ⟨⟨0,0,d,H,nx⟩,Nat.zero_le _,rfl,rfl,hR⟩ rfl (by kernel_rfl) (Wk.sub (by simp)) ?_
 rintro ⟨⟨i, -, e,H,nx⟩,hi,hs,hd,hR⟩
 simp only at hi hs hd hR
 by_cases c1:i<n
 ·obtain ⟨p,hp⟩ : ∃ p,p=a+i:=⟨_,rfl⟩
  obtain ⟨q,hq⟩ : ∃ q,q=b+i:=⟨_,rfl⟩
  have g1:=aRows_get enc (d:=e) (i:=p) (by omega)
  have g2:=aRows_get enc (d:=e) (i:=q) (by omega)
  have w1:IntKind.i64.wrap ((a:Int)+(i:Int))=(p:Int):=by rw [int_add (by omega),hp]
  have w2:IntKind.i64.wrap ((b:Int)+(i:Int))=(q:Int):=by rw [int_add (by omega),hq]
  have l1:p<d.size:=by omega
  have l2:q<d.size:=by omega
  have l3:=aRows_len enc e
  obtain ⟨g3,g4⟩:=List.getElem?_eq_some_iff.1 g1
  obtain ⟨g5,g6⟩:=List.getElem?_eq_some_iff.1 g2
  have n1 : ¬ p=q:=by omega
  simp [c1,w1,w2,l1,l2,hR.row,g1,g2,g4,g6,l3,hs,n1]
  refine ⟨⟨i+1,0,Go.Sort.swp e p q,H.set v (some ⟨.c 3,1,aRows enc (Go.Sort.swp e p q)⟩),nx⟩,by simp only;omega,⟨by simp only;omega,by simp only;rw [Go.Sort.size_swp,hs],?_,hR.put _⟩,?_⟩
  ·simp only
   rw [← hd,show n-i=(n-(i+1))+1 by omega,swpR,hp,hq]
  ·rw [← aRows_swp enc (d:=e) (i:=p) (j:=q) (by omega) (by omega)]
   exact Wk.sub (by simp [wrap_add (show i<9223372036854775807 by omega)])
 ·obtain rfl:i=n:=by omega
  rw [Nat.sub_self] at hd
  simp [c1]
  exact ⟨hR.sol,hK _ _ (by rw [← hd];exact hR)⟩
theorem rotS_ic {H0:Hp} {nx0 v l:Nat} (c:D) (a m b:Nat) (d:Array α) (hl:d.size=l) (h1:a<m) (h2:m<b) (h3:b≤l) (hsz:l≤1000000) {H:Hp} {nx:Nat} (hR:RowAt enc H0 nx0 v d H nx) {K:D->Hp->Nat->Prop}
  (hK : ∀ H' nx',RowAt enc H0 nx0 v (rot a m b d) H' nx'->K (.tup []) H' nx'):ICall Tryz.prog 236 [.one (.own v 1 l),dI a,dI m,dI b,c] H nx K:=by
 refine fni_ok [0,1,2,3,4,10,11,20,23] [] Tryz.func236 rfl (by kernel_rfl) rfl rfl rfl rfl (by kernel_rfl) ?_
 have w1:=int_sub (a:=m) (b:=a) (by omega) (by omega)
 have w2:=int_sub (a:=b) (b:=m) (by omega) (by omega)
 have h0:rotA m (m-a+(b-m)) (m-a) (b-m) d=rot a m b d:=by unfold rot;rw [show m-a+(b-m)=b-a by omega]
 obtain ⟨i0,e1⟩ : ∃ i,i=m-a:=⟨_,rfl⟩
 obtain ⟨j0,e2⟩ : ∃ j,j=b-m:=⟨_,rfl⟩
 rw [← e1] at w1 h0
 rw [← e2] at w2 h0
 simp [w1,w2]
 refine loopH_ok (ks := [0,1,2,3,4,10,11,20,23]) (pl := []) (n0:=58) (α := {x:SwS α//0<x.i∧x.i≤m-a∧0<x.j∧x.j≤b-m∧x.d.size=l∧rotA m (x.i+x.j) x.i x.j x.d=rot a m b d∧RowAt enc H0 nx0 v x.d x.H x.nx}) (fun x=>[(10,dI x.1.i),(11,dI x.1.j)]) (fun _ x=>x.1.H) (fun x=>x.1.nx) (fun x=>x.1.i+x.1.j) ⟨⟨i0,j0,d,H,nx⟩,by simp only;omega,by simp only;omega,by simp only;omega,by simp only;omega,hl,h0,hR⟩ rfl (by kernel_rfl) (Wk.sub (by simp)) ?_
 rintro ⟨⟨i,j,e,H,nx⟩,hi,hi2,hj,hj2,hs,hd,hR⟩
 simp only at hi hi2 hj hj2 hs hd hR
 clear h0 w1 w2
 have w3:=int_sub (a:=m) (b:=i) (by omega) (by omega)
 obtain ⟨p,hp⟩ : ∃ p,p=m-i:=⟨_,rfl⟩
 rw [← hp] at w3
 by_cases c1:i=j
 ·subst c1
  rw [rot_eq hi] at hd
  simp [w3]
  refine swrS_ic c p m i e hs (by omega) (by omega) (by omega) (by omega) hR fun H' nx' hR' => ?_
  rw [hp,hd] at hR'
  simp
  exact ⟨hR'.sol,hK _ _ hR'⟩
 ·have c1' : ¬ (i:Int)=(j:Int):=by omega
  by_cases c2:j<i
  ·rw [rot_gt c2 hj] at hd
   have w4:=int_sub (a:=i) (b:=j) (by omega) (by omega)
   obtain ⟨q,hq⟩ : ∃ q,q=i-j:=⟨_,rfl⟩
   rw [← hq] at w4 hd
   simp [c1,c1',c2,w3,w4]
   refine swrS_ic c p m j e hs (by omega) (by omega) (by omega) (by omega) hR fun H' nx' hR' => ?_
   rw [hp] at hR'
   simp [w4]
   exact ⟨⟨q,j,swpR (m-i) m j 0 e,H',nx'⟩,by simp only;omega,⟨by simp only;omega,by simp only;omega,hj,hj2,by simp only;rw [size_swpR,hs],hd,hR'⟩,Wk.sub (by simp)⟩
  ·rw [rot_lt (by omega) hi] at hd
   have w4:=int_sub (a:=j) (b:=i) (by omega) (by omega)
   obtain ⟨q,hq⟩ : ∃ q,q=j-i:=⟨_,rfl⟩
   rw [← hq] at w4 hd
   have w5:=int_add (a:=m) (b:=j) (by omega)
   obtain ⟨r,hr⟩ : ∃ r,r=m+j:=⟨_,rfl⟩
   rw [← hr] at w5 hd
   have w6:=int_sub (a:=r) (b:=i) (by omega) (by omega)
   obtain ⟨t,ht⟩ : ∃ t,t=r-i:=⟨_,rfl⟩
   rw [← ht] at w6 hd
   simp [c1,c1',c2,w3,w4,w5,w6]
   refine swrS_ic c p t i e hs (by omega) (by omega) (by omega) (by omega) hR fun H' nx' hR' => ?_
   rw [hp] at hR'
   simp [w4]
   exact ⟨⟨i,q,swpR (m-i) t i 0 e,H',nx'⟩,by simp only;omega,⟨hi,hi2,by simp only;omega,by simp only;omega,by simp only;rw [size_swpR,hs],hd,hR'⟩,Wk.sub (by simp)⟩
variable (lt:α->α->Bool)
theorem insS_ic {H0:Hp} {nx0 v l:Nat} (g:FuncId) (cs:List Cap) (a b:Nat) (d:Array α) (hl:d.size=l) (h1:a≤b) (h2:b≤l) (hsz:l≤1000000) (hv:v<nx0) (hc:CmpOk enc lt g cs H0 nx0 v l) {H:Hp} {nx:Nat} (hR:RowAt enc H0 nx0 v d H nx) {K:D->Hp->Nat->Prop}
  (hK : ∀ H' nx',RowAt enc H0 nx0 v (insA lt d a b) H' nx'->K (.tup []) H' nx'):ICall Tryz.prog 212 [.one (.own v 1 l),dI a,dI b,.one (.fnp (.func g) cs)] H nx K:=by
 refine fni_ok [0,1,2,3,8,9,14,34] [(4,[0,0,3,7,15,15,15,111,239,15,15,1039,3599,7695,16383,32767,65535],(.seg 0 (.seg 1 (.seg 2 (.seg 3 (.seg 4 (.seg 5 (.seg 6 (.seg 7 (.seg 8 (.seg 9 (.seg 10 (.seg 11 (.seg 12 (.seg 13 (.eff 14 [] (.seg 15 (.seg 16 .last)))))))))))))))))),(6,[0,0,0,0,8,0,0,64,224,480,0,0,3072,7168,16355,32739,65535,131071],(.seg 0 (.seg 1 (.seg 2 (.seg 3 (.seg 4 (.seg 5 (.seg 6 (.seg 7 (.seg 8 (.seg 9 (.seg 10 (.seg 11 (.seg 12 (.seg 13 (.seg 14 (.eff 15 [4] (.seg 16 (.eff 17 [] .last)))))))))))))))))))] Tryz.func212 rfl (by kernel_rfl) rfl rfl rfl rfl (by kernel_rfl) ?_
 simp
 refine loopH_ok (ks := [0,1,2,3,8,9,14,34]) (pl := [(4,[0,0,3,7,15,15,15,111,239,15,15,1039,3599,7695,16383,32767,65535],(.seg 0 (.seg 1 (.seg 2 (.seg 3 (.seg 4 (.seg 5 (.seg 6 (.seg 7 (.seg 8 (.seg 9 (.seg 10 (.seg 11 (.seg 12 (.seg 13 (.eff 14 [] (.seg 15 (.seg 16 .last)))))))))))))))))),(6,[0,0,0,0,8,0,0,64,224,480,0,0,3072,7168,16355,32739,65535,131071],(.seg 0 (.seg 1 (.seg 2 (.seg 3 (.seg 4 (.seg 5 (.seg 6 (.seg 7 (.seg 8 (.seg 9 (.seg 10 (.seg 11 (.seg 12 (.seg 13 (.seg 14 (.eff 15 [4] (.seg 16 (.eff 17 [] .last)))))))))))))))))))]) (n0:=53) (α := {x:SwS α//a<x.i∧x.i≤b+1∧x.d.size=l∧insOuter lt a b x.i x.d=insOuter lt a b (a+1) d∧RowAt enc H0 nx0 v x.d x.H x.nx}) (fun x=>[(8,dI x.1.i)]) (fun _ x=>x.1.H) (fun x=>x.1.nx) (fun x=>b+1-x.1.i) ⟨⟨a+1,0,d,H,nx⟩,by simp only;omega,by simp only;omega,hl,rfl,hR⟩ rfl (by kernel_rfl) (Wk.sub (by simp [wrap_add (show a<9223372036854775807 by omega)])) ?_
 rintro ⟨⟨i, -, e,H,nx⟩,hi,hi2,hs,hd,hR⟩
 simp only at hi hi2 hs hd hR
 by_cases c1:i<b
 case neg =>
  simp [c1]
  refine ⟨hR.sol,hK _ _ ?_⟩
  rw [insOuter_stop lt a b i e c1] at hd
  rw [show insA lt d a b=e from hd.symm]
  exact hR
 have hgx:extP g=false:=extP_no (hc (by omega) H nx hR.nx hR.low hR.sol default default (fun _ _ _=>True) fun _ _ _ _ _ _ _=>trivial).1
 rw [insOuter_go lt a b i e c1] at hd
 simp [c1]
 refine loopH_ok (ks := [0,1,2,3,8,9,14,34]) (pl := [(4,[0,0,3,7,15,15,15,111,239,15,15,1039,3599,7695,16383,32767,65535],(.seg 0 (.seg 1 (.seg 2 (.seg 3 (.seg 4 (.seg 5 (.seg 6 (.seg 7 (.seg 8 (.seg 9 (.seg 10 (.seg 11 (.seg 12 (.seg 13 (.eff 14 [] (.seg 15 (.seg 16 .last)))))))))))))))))),(6,[0,0,0,0,8,0,0,64,224,480,0,0,3072,7168,16355,32739,65535,131071],(.seg 0 (.seg 1 (.seg 2 (.seg 3 (.seg 4 (.seg 5 (.seg 6 (.seg 7 (.seg 8 (.seg 9 (.seg 10 (.seg 11 (.seg 12 (.seg 13 (.seg 14 (.eff 15 [4] (.seg 16 (.eff 17 [] .last)))))))))))))))))))]) (n0:=53) (α := {x:SwS α//a≤x.i∧x.i≤i∧x.d.size=l∧insInner lt a x.i x.d=insInner lt a i e∧RowAt enc H0 nx0 v x.d x.H x.nx}) (fun x=>[(9,dI x.1.i)]) (fun _ x=>x.1.H) (fun x=>x.1.nx) (fun x=>x.1.i) ⟨⟨i,0,e,H,nx⟩,by simp only;omega,Nat.le_refl _,hs,rfl,hR⟩ rfl (by kernel_rfl) (Wk.sub (by simp)) ?_
 rintro ⟨⟨j, -, e2,H2,nx2⟩,hj,hj2,hs2,hd2,hR2⟩
 simp only at hj hj2 hs2 hd2 hR2
 have out:j≤a∨lt (aT e2 j) (aT e2 (j-1))=false->insOuter lt a b (i+1) e2=insOuter lt a b (a+1) d:=fun h=>by
  rw [insInner_stop lt a j e2 h] at hd2
  rw [hd2];exact hd
 by_cases c2:a<j
 case neg =>
  have hout:=out (.inl (by omega))
  simp [c1,c2]
  exact ⟨⟨i+1,0,e2,H2,nx2⟩,by simp only;omega,⟨by simp only;omega,by simp only;omega,hs2,hout,hR2⟩,Wk.sub (by simp [wrap_add (show i<9223372036854775807 by omega)])⟩
 have g1:=aRows_get enc (d:=e2) (i:=j) (by omega)
 have g2:=aRows_get enc (d:=e2) (i:=j-1) (by omega)
 obtain ⟨q,hq⟩ : ∃ q,q=j-1:=⟨_,rfl⟩
 rw [← hq] at g2 out
 have w1:IntKind.i64.wrap ((j:Int)-1)=(q:Int):=by rw [wrap_id (by omega) (by omega)];omega
 have l1:j<l:=by omega
 have l2:q<l:=by omega
 have l3:=aRows_len enc e2
 obtain ⟨g3,g4⟩:=List.getElem?_eq_some_iff.1 g1
 obtain ⟨g5,g6⟩:=List.getElem?_eq_some_iff.1 g2
 have n1 : ¬ j=q:=by omega
 simp [c1,c2,w1,l1,l2,hR2.row,g1,g2,g4,g6,l3,hs2,hgx, -extP]
 refine hc (by omega) H2 nx2 hR2.nx hR2.low hR2.sol _ _ _ fun c H3 nx3 hn3 low3 sol3 hcl => ?_
 have hR3:=hR2.mono hv hn3 low3 sol3
 by_cases c3:lt (aT e2 j) (aT e2 q)=true
 case neg =>
  have hc0 : ¬ c<0:=fun h=>c3 (hcl.1 h)
  have hout:=out (.inr (by simpa using c3))
  simp [hc0]
  exact ⟨⟨i+1,0,e2,H3,nx3⟩,by simp only;omega,⟨by simp only;omega,by simp only;omega,hs2,hout,hR3⟩,Wk.sub (by simp [wrap_add (show i<9223372036854775807 by omega)])⟩
 have hc0:c<0:=hcl.2 c3
 have hgo:insInner lt a j e2=insInner lt a q (Go.Sort.swp e2 j q):=by
  rw [hq]
  exact insInner_go lt a j e2 c2 (by rw [hq] at c3;exact c3)
 simp [hc0,w1,l1,l2,hR3.row,g1,g2,g4,g6,l3,hs2,n1]
 refine ⟨⟨q,0,Go.Sort.swp e2 j q,H3.set v (some ⟨.c 3,1,aRows enc (Go.Sort.swp e2 j q)⟩),nx3⟩,by simp only;omega,⟨by simp only;omega,by simp only;omega,by simp only;rw [Go.Sort.size_swp,hs2],?_,hR3.put _⟩,?_⟩
 ·simp only
  rw [← hd2,hgo]
 ·rw [← aRows_swp enc (d:=e2) (i:=j) (j:=q) (by omega) (by omega)]
  exact Wk.sub (by simp [w1])
theorem symQ_range {a m b t:Nat} (h1:a<m) (h2:m<b) (h3:symS a m b≤t) (h4:t<symE a m b):(a+b)/2+m-1-t<b∧t≤(a+b)/2+m-1∧t<b:=by
 obtain ⟨g1,g2,g3,g4⟩:=symS_range h1 h2
 have hq:(a+b)/2+m-b≤symS a m b:=by unfold symS;split <;> omega
 omega
end
section
theorem cutS {G R:Prop} (h:R->G) (r:R):G:=h r
variable {α:Type} [Inhabited α] {enc:α->Int} (lt:α->α->Bool)
theorem symS_ic {H0 : Hp} {nx0 v l : Nat} (g : FuncId) (cs : List Cap) (hsz : l ≤ 1000000) (hv : v < nx0) (hc : CmpOk enc lt g cs H0 nx0 v l) : ∀ (f a m b : Nat) (d : Array α) (hl : d.size = l) (h1 : a < m) (h2 : m < b) (h3 : b ≤ l) (hf : b - a ≤ f) {H : Hp} {nx : Nat} (hR : RowAt enc H0 nx0 v d H nx) {K : D → Hp → Nat → Prop}
    (hK : ∀ H' nx', RowAt enc H0 nx0 v (sym lt a m b d) H' nx' → K (.tup []) H' nx'), ICall Tryz.prog 213 [.one (.own v 1 l), dI a, dI m, dI b, .one (.fnp (.func g) cs)] H nx K := by
  intro f
  induction f with
  | zero => intro a m b d hl h1 h2 h3 hf; omega
  | succ f ih =>
  intro a m b d hl h1 h2 h3 hf H nx hR K hK
  have hgx : extP g = false := extP_no (hc (by omega) H nx hR.nx hR.low hR.sol default default (fun _ _ _ => True) fun _ _ _ _ _ _ _ => trivial).1
  have l3 := aRows_len enc d
  refine fni_ok [0,1,2,3,4,10,11,12,13,14,15,16,17,18,19,20,21,22,23,24,28,33,50,58,80,85,103,110,140,151,171,185,199,213] [(5, [0,0,0,6,14,0,0,96,224,511,1023], (.seg 0 (.seg 1 (.seg 2 (.seg 3 (.seg 4 (.seg 5 (.seg 6 (.seg 7 (.seg 8 (.eff 9 [] (.seg 10 .last)))))))))))), (11, [0,0,0,0,8,0,0,64,224,480,0,0,3072,7168,16355,32739,65535,131071], (.seg 0 (.seg 1 (.seg 2 (.seg 3 (.seg 4 (.seg 5 (.seg 6 (.seg 7 (.seg 8 (.seg 9 (.seg 10 (.seg 11 (.seg 12 (.seg 13 (.seg 14 (.eff 15 [4] (.seg 16 (.eff 17 [] .last))))))))))))))))))), (17, [0,0,0,6,14,0,0,96,224,511,1023,2047], (.seg 0 (.seg 1 (.seg 2 (.seg 3 (.seg 4 (.seg 5 (.seg 6 (.seg 7 (.seg 8 (.eff 9 [] (.seg 10 (.seg 11 .last))))))))))))), (23, [0,0,0,0,8,0,0,64,224,480,0,0,3072,7168,16355,32739,65535,131071], (.seg 0 (.seg 1 (.seg 2 (.seg 3 (.seg 4 (.seg 5 (.seg 6 (.seg 7 (.seg 8 (.seg 9 (.seg 10 (.seg 11 (.seg 12 (.seg 13 (.seg 14 (.eff 15 [4] (.seg 16 (.eff 17 [] .last))))))))))))))))))), (35, [0,0,0,0,12,30,62,0,0,384,896,2047,4095,8191], (.seg 0 (.seg 1 (.seg 2 (.seg 3 (.seg 4 (.seg 5 (.seg 6 (.seg 7 (.seg 8 (.seg 9 (.seg 10 (.eff 11 [] (.seg 12 (.seg 13 .last)))))))))))))))] Tryz.func213 rfl (by kernel_rfl) rfl rfl rfl rfl (by kernel_rfl) ?_
  have u1 := int_sub (a := m) (b := a) (by omega) (by omega)
  obtain ⟨p, hp⟩ : ∃ p, p = m - a := ⟨_, rfl⟩
  rw [← hp] at u1
  by_cases c1 : p = 1
  · have c1' : (p : Int) = 1 := by omega
    rw [sym_up lt h1 h2 (by omega)] at hK
    simp [u1, c1, c1']
    refine loopH_ok (ks := [0,1,2,3,4,10,11,12,13,14,15,16,17,18,19,20,21,22,23,24,28,33,50,58,80,85,103,110,140,151,171,185,199,213]) (pl := [(5, [0,0,0,6,14,0,0,96,224,511,1023], (.seg 0 (.seg 1 (.seg 2 (.seg 3 (.seg 4 (.seg 5 (.seg 6 (.seg 7 (.seg 8 (.eff 9 [] (.seg 10 .last)))))))))))), (11, [0,0,0,0,8,0,0,64,224,480,0,0,3072,7168,16355,32739,65535,131071], (.seg 0 (.seg 1 (.seg 2 (.seg 3 (.seg 4 (.seg 5 (.seg 6 (.seg 7 (.seg 8 (.seg 9 (.seg 10 (.seg 11 (.seg 12 (.seg 13 (.seg 14 (.eff 15 [4] (.seg 16 (.eff 17 [] .last))))))))))))))))))), (17, [0,0,0,6,14,0,0,96,224,511,1023,2047], (.seg 0 (.seg 1 (.seg 2 (.seg 3 (.seg 4 (.seg 5 (.seg 6 (.seg 7 (.seg 8 (.eff 9 [] (.seg 10 (.seg 11 .last))))))))))))), (23, [0,0,0,0,8,0,0,64,224,480,0,0,3072,7168,16355,32739,65535,131071], (.seg 0 (.seg 1 (.seg 2 (.seg 3 (.seg 4 (.seg 5 (.seg 6 (.seg 7 (.seg 8 (.seg 9 (.seg 10 (.seg 11 (.seg 12 (.seg 13 (.seg 14 (.eff 15 [4] (.seg 16 (.eff 17 [] .last))))))))))))))))))), (35, [0,0,0,0,12,30,62,0,0,384,896,2047,4095,8191], (.seg 0 (.seg 1 (.seg 2 (.seg 3 (.seg 4 (.seg 5 (.seg 6 (.seg 7 (.seg 8 (.seg 9 (.seg 10 (.eff 11 [] (.seg 12 (.seg 13 .last)))))))))))))))]) (n0 := 220) (α := {x : SwS α // m ≤ x.i ∧ x.i ≤ x.j ∧ x.j ≤ b ∧ bs (fun h => lt (aT d h) (aT d a)) x.i x.j = bs (fun h => lt (aT d h) (aT d a)) m b ∧ RowAt enc H0 nx0 v d x.H x.nx}) (fun x => [(10, dI x.1.i), (11, dI x.1.j)]) (fun _ x => x.1.H) (fun x => x.1.nx) (fun x => x.1.j - x.1.i) ⟨⟨m, b, d, H, nx⟩, Nat.le_refl _, by simp only; omega, Nat.le_refl _, rfl, hR⟩ rfl (by kernel_rfl) (Wk.sub (by simp)) ?_
    rintro ⟨⟨i, j, -, H, nx⟩, hi, hij, hj, hb, hR⟩
    simp only at hi hij hj hb hR
    by_cases c2 : i < j
    · obtain ⟨s, t, hs, ht, w1, w2, w3, w4⟩ := half_at (i := i) (j := j) (by omega)
      have g1 := aRows_get enc (d := d) (i := t) (by omega)
      have g2 := aRows_get enc (d := d) (i := a) (by omega)
      have m1 : t < l := by omega
      have m2 : a < l := by omega
      obtain ⟨g3, g4⟩ := List.getElem?_eq_some_iff.1 g1
      obtain ⟨g5, g6⟩ := List.getElem?_eq_some_iff.1 g2
      simp [c2, w1, w2, w3, w4, m1, m2, hR.row, g1, g2, g4, g6, l3, hl, hgx, -extP]
      refine hc (by omega) H nx hR.nx hR.low hR.sol _ _ _ fun c H3 nx3 hn3 low3 sol3 hcl => ?_
      have hR3 := hR.mono hv hn3 low3 sol3
      by_cases c3 : lt (aT d t) (aT d a) = true
      · have hc0 : c < 0 := hcl.2 c3
        simp [hc0]
        rw [bs_yes c2 (by rw [← ht]; exact c3), ← ht] at hb
        exact ⟨⟨t + 1, j, d, H3, nx3⟩, by simp only; omega, ⟨by simp only; omega, by simp only; omega, hj, hb, hR3⟩, Wk.sub (by simp [wrap_add (show t < 9223372036854775807 by omega)])⟩
      · have hc0 : ¬ c < 0 := fun h => c3 (hcl.1 h)
        simp [hc0]
        rw [bs_no c2 (by rw [← ht]; simpa using c3), ← ht] at hb
        exact ⟨⟨i, t, d, H3, nx3⟩, by simp only; omega, ⟨hi, by simp only; omega, by simp only; omega, hb, hR3⟩, Wk.sub (by simp)⟩
    obtain rfl : i = j := by omega
    rw [bs_stop (by omega)] at hb
    have hup : symUp lt a m b d = movU (i - 1 - a) a d := by
      unfold symUp
      rw [show bs (fun h => lt d[h]! d[a]!) m b = i from hb.symm]
    rw [hup] at hK
    clear hup hb
    have u2 := int_sub (a := i) (b := 1) (by omega) (by omega)
    rw [show ((1 : Nat) : Int) = 1 from rfl] at u2
    obtain ⟨q, hq⟩ : ∃ q, q = i - 1 := ⟨_, rfl⟩
    rw [← hq] at u2 hK
    simp [u2]
    refine loopH_ok (ks := [0,1,2,3,4,10,11,12,13,14,15,16,17,18,19,20,21,22,23,24,28,33,50,58,80,85,103,110,140,151,171,185,199,213]) (pl := [(5, [0,0,0,6,14,0,0,96,224,511,1023], (.seg 0 (.seg 1 (.seg 2 (.seg 3 (.seg 4 (.seg 5 (.seg 6 (.seg 7 (.seg 8 (.eff 9 [] (.seg 10 .last)))))))))))), (11, [0,0,0,0,8,0,0,64,224,480,0,0,3072,7168,16355,32739,65535,131071], (.seg 0 (.seg 1 (.seg 2 (.seg 3 (.seg 4 (.seg 5 (.seg 6 (.seg 7 (.seg 8 (.seg 9 (.seg 10 (.seg 11 (.seg 12 (.seg 13 (.seg 14 (.eff 15 [4] (.seg 16 (.eff 17 [] .last))))))))))))))))))), (17, [0,0,0,6,14,0,0,96,224,511,1023,2047], (.seg 0 (.seg 1 (.seg 2 (.seg 3 (.seg 4 (.seg 5 (.seg 6 (.seg 7 (.seg 8 (.eff 9 [] (.seg 10 (.seg 11 .last))))))))))))), (23, [0,0,0,0,8,0,0,64,224,480,0,0,3072,7168,16355,32739,65535,131071], (.seg 0 (.seg 1 (.seg 2 (.seg 3 (.seg 4 (.seg 5 (.seg 6 (.seg 7 (.seg 8 (.seg 9 (.seg 10 (.seg 11 (.seg 12 (.seg 13 (.seg 14 (.eff 15 [4] (.seg 16 (.eff 17 [] .last))))))))))))))))))), (35, [0,0,0,0,12,30,62,0,0,384,896,2047,4095,8191], (.seg 0 (.seg 1 (.seg 2 (.seg 3 (.seg 4 (.seg 5 (.seg 6 (.seg 7 (.seg 8 (.seg 9 (.seg 10 (.eff 11 [] (.seg 12 (.seg 13 .last)))))))))))))))]) (n0 := 220) (α := {x : SwS α // a ≤ x.i ∧ x.i ≤ q ∧ x.d.size = l ∧ movU (q - x.i) x.i x.d = movU (q - a) a d ∧ RowAt enc H0 nx0 v x.d x.H x.nx}) (fun x => [(13, dI x.1.i)]) (fun _ x => x.1.H) (fun x => x.1.nx) (fun x => q - x.1.i) ⟨⟨a, 0, d, H, nx⟩, Nat.le_refl _, by simp only; omega, hl, rfl, hR⟩ rfl (by kernel_rfl) (Wk.sub (by simp)) ?_
    clear hR
    rintro ⟨⟨k, -, e, H, nx⟩, hk, hk2, hs, hd, hR⟩
    simp only at hk hk2 hs hd hR
    by_cases c3 : k < q
    · have l3 := aRows_len enc e
      obtain ⟨k1, hk1⟩ : ∃ k1, k1 = k + 1 := ⟨_, rfl⟩
      have w1 : IntKind.i64.wrap ((k : Int) + 1) = (k1 : Int) := by rw [wrap_id (by omega) (by omega)]; omega
      have g1 := aRows_get enc (d := e) (i := k) (by omega)
      have g2 := aRows_get enc (d := e) (i := k1) (by omega)
      have m1 : k < l := by omega
      have m2 : k1 < l := by omega
      obtain ⟨g3, g4⟩ := List.getElem?_eq_some_iff.1 g1
      obtain ⟨g5, g6⟩ := List.getElem?_eq_some_iff.1 g2
      have n1 : ¬ k = k1 := by omega
      simp [c3, u2, w1, m1, m2, hR.row, g1, g2, g4, g6, l3, hs, n1]
      refine ⟨⟨k1, 0, Go.Sort.swp e k k1, H.set v (some ⟨.c 3, 1, aRows enc (Go.Sort.swp e k k1)⟩), nx⟩, by simp only; omega, ⟨by simp only; omega, by simp only; omega, by simp only; rw [size_swp, hs], ?_, hR.put _⟩, ?_⟩
      · simp only
        rw [← hd, show q - k = (q - k1) + 1 by omega, movU, hk1]
      · rw [← aRows_swp enc (d := e) (i := k) (j := k1) (by omega) (by omega)]
        exact Wk.sub (by simp [w1])
    · obtain rfl : k = q := by omega
      rw [Nat.sub_self, movU] at hd
      simp [u2]
      exact ⟨hR.sol, hK _ _ (by rw [← hd]; exact hR)⟩
  have c1' : ¬ (p : Int) = 1 := by omega
  have v1 := int_sub (a := b) (b := m) (by omega) (by omega)
  obtain ⟨r, hr⟩ : ∃ r, r = b - m := ⟨_, rfl⟩
  rw [← hr] at v1
  by_cases c2 : r = 1
  · have c2' : (r : Int) = 1 := by omega
    rw [sym_dn lt h1 h2 (by omega) (by omega)] at hK
    simp [u1, c1, c1', v1, c2, c2']
    refine loopH_ok (ks := [0,1,2,3,4,10,11,12,13,14,15,16,17,18,19,20,21,22,23,24,28,33,50,58,80,85,103,110,140,151,171,185,199,213]) (pl := [(5, [0,0,0,6,14,0,0,96,224,511,1023], (.seg 0 (.seg 1 (.seg 2 (.seg 3 (.seg 4 (.seg 5 (.seg 6 (.seg 7 (.seg 8 (.eff 9 [] (.seg 10 .last)))))))))))), (11, [0,0,0,0,8,0,0,64,224,480,0,0,3072,7168,16355,32739,65535,131071], (.seg 0 (.seg 1 (.seg 2 (.seg 3 (.seg 4 (.seg 5 (.seg 6 (.seg 7 (.seg 8 (.seg 9 (.seg 10 (.seg 11 (.seg 12 (.seg 13 (.seg 14 (.eff 15 [4] (.seg 16 (.eff 17 [] .last))))))))))))))))))), (17, [0,0,0,6,14,0,0,96,224,511,1023,2047], (.seg 0 (.seg 1 (.seg 2 (.seg 3 (.seg 4 (.seg 5 (.seg 6 (.seg 7 (.seg 8 (.eff 9 [] (.seg 10 (.seg 11 .last))))))))))))), (23, [0,0,0,0,8,0,0,64,224,480,0,0,3072,7168,16355,32739,65535,131071], (.seg 0 (.seg 1 (.seg 2 (.seg 3 (.seg 4 (.seg 5 (.seg 6 (.seg 7 (.seg 8 (.seg 9 (.seg 10 (.seg 11 (.seg 12 (.seg 13 (.seg 14 (.eff 15 [4] (.seg 16 (.eff 17 [] .last))))))))))))))))))), (35, [0,0,0,0,12,30,62,0,0,384,896,2047,4095,8191], (.seg 0 (.seg 1 (.seg 2 (.seg 3 (.seg 4 (.seg 5 (.seg 6 (.seg 7 (.seg 8 (.seg 9 (.seg 10 (.eff 11 [] (.seg 12 (.seg 13 .last)))))))))))))))]) (n0 := 220) (α := {x : SwS α // a ≤ x.i ∧ x.i ≤ x.j ∧ x.j ≤ m ∧ bs (fun h => !lt (aT d m) (aT d h)) x.i x.j = bs (fun h => !lt (aT d m) (aT d h)) a m ∧ RowAt enc H0 nx0 v d x.H x.nx}) (fun x => [(14, dI x.1.i), (15, dI x.1.j)]) (fun _ x => x.1.H) (fun x => x.1.nx) (fun x => x.1.j - x.1.i) ⟨⟨a, m, d, H, nx⟩, Nat.le_refl _, by simp only; omega, Nat.le_refl _, rfl, hR⟩ rfl (by kernel_rfl) (Wk.sub (by simp)) ?_
    rintro ⟨⟨i, j, -, H, nx⟩, hi, hij, hj, hb, hR⟩
    simp only at hi hij hj hb hR
    by_cases c3 : i < j
    · obtain ⟨s, t, hs, ht, w1, w2, w3, w4⟩ := half_at (i := i) (j := j) (by omega)
      have g1 := aRows_get enc (d := d) (i := t) (by omega)
      have g2 := aRows_get enc (d := d) (i := m) (by omega)
      have m1 : t < l := by omega
      have m2 : m < l := by omega
      obtain ⟨g3, g4⟩ := List.getElem?_eq_some_iff.1 g1
      obtain ⟨g5, g6⟩ := List.getElem?_eq_some_iff.1 g2
      simp [c3, w1, w2, w3, w4, m1, m2, hR.row, g1, g2, g4, g6, l3, hl, hgx, -extP]
      refine hc (by omega) H nx hR.nx hR.low hR.sol _ _ _ fun c H3 nx3 hn3 low3 sol3 hcl => ?_
      have hR3 := hR.mono hv hn3 low3 sol3
      by_cases c4 : lt (aT d m) (aT d t) = true
      · have hc0 : c < 0 := hcl.2 c4
        simp [hc0]
        rw [bs_no c3 (by rw [← ht]; simpa using c4), ← ht] at hb
        exact ⟨⟨i, t, d, H3, nx3⟩, by simp only; omega, ⟨hi, by simp only; omega, by simp only; omega, hb, hR3⟩, Wk.sub (by simp)⟩
      · have hc0 : ¬ c < 0 := fun h => c4 (hcl.1 h)
        simp [hc0]
        rw [bs_yes c3 (by rw [← ht]; simpa using c4), ← ht] at hb
        exact ⟨⟨t + 1, j, d, H3, nx3⟩, by simp only; omega, ⟨by simp only; omega, by simp only; omega, hj, hb, hR3⟩, Wk.sub (by simp [wrap_add (show t < 9223372036854775807 by omega)])⟩
    obtain rfl : i = j := by omega
    rw [bs_stop (by omega)] at hb
    have hdn : symDn lt a m b d = movD (m - i) m d := by
      unfold symDn
      rw [show bs (fun h => !lt d[m]! d[h]!) a m = i from hb.symm]
    rw [hdn] at hK
    clear hdn hb
    simp
    refine loopH_ok (ks := [0,1,2,3,4,10,11,12,13,14,15,16,17,18,19,20,21,22,23,24,28,33,50,58,80,85,103,110,140,151,171,185,199,213]) (pl := [(5, [0,0,0,6,14,0,0,96,224,511,1023], (.seg 0 (.seg 1 (.seg 2 (.seg 3 (.seg 4 (.seg 5 (.seg 6 (.seg 7 (.seg 8 (.eff 9 [] (.seg 10 .last)))))))))))), (11, [0,0,0,0,8,0,0,64,224,480,0,0,3072,7168,16355,32739,65535,131071], (.seg 0 (.seg 1 (.seg 2 (.seg 3 (.seg 4 (.seg 5 (.seg 6 (.seg 7 (.seg 8 (.seg 9 (.seg 10 (.seg 11 (.seg 12 (.seg 13 (.seg 14 (.eff 15 [4] (.seg 16 (.eff 17 [] .last))))))))))))))))))), (17, [0,0,0,6,14,0,0,96,224,511,1023,2047], (.seg 0 (.seg 1 (.seg 2 (.seg 3 (.seg 4 (.seg 5 (.seg 6 (.seg 7 (.seg 8 (.eff 9 [] (.seg 10 (.seg 11 .last))))))))))))), (23, [0,0,0,0,8,0,0,64,224,480,0,0,3072,7168,16355,32739,65535,131071], (.seg 0 (.seg 1 (.seg 2 (.seg 3 (.seg 4 (.seg 5 (.seg 6 (.seg 7 (.seg 8 (.seg 9 (.seg 10 (.seg 11 (.seg 12 (.seg 13 (.seg 14 (.eff 15 [4] (.seg 16 (.eff 17 [] .last))))))))))))))))))), (35, [0,0,0,0,12,30,62,0,0,384,896,2047,4095,8191], (.seg 0 (.seg 1 (.seg 2 (.seg 3 (.seg 4 (.seg 5 (.seg 6 (.seg 7 (.seg 8 (.seg 9 (.seg 10 (.eff 11 [] (.seg 12 (.seg 13 .last)))))))))))))))]) (n0 := 220) (α := {x : SwS α // i ≤ x.i ∧ x.i ≤ m ∧ x.d.size = l ∧ movD (x.i - i) x.i x.d = movD (m - i) m d ∧ RowAt enc H0 nx0 v x.d x.H x.nx}) (fun x => [(17, dI x.1.i)]) (fun _ x => x.1.H) (fun x => x.1.nx) (fun x => x.1.i) ⟨⟨m, 0, d, H, nx⟩, by simp only; omega, Nat.le_refl _, hl, rfl, hR⟩ rfl (by kernel_rfl) (Wk.sub (by simp)) ?_
    clear hR
    rintro ⟨⟨k, -, e, H, nx⟩, hk, hk2, hs, hd, hR⟩
    simp only at hk hk2 hs hd hR
    by_cases c4 : i < k
    · have l3 := aRows_len enc e
      obtain ⟨k1, hk1⟩ : ∃ k1, k1 = k - 1 := ⟨_, rfl⟩
      have w1 : IntKind.i64.wrap ((k : Int) - 1) = (k1 : Int) := by rw [wrap_id (by omega) (by omega)]; omega
      have g1 := aRows_get enc (d := e) (i := k) (by omega)
      have g2 := aRows_get enc (d := e) (i := k1) (by omega)
      have m1 : k < l := by omega
      have m2 : k1 < l := by omega
      obtain ⟨g3, g4⟩ := List.getElem?_eq_some_iff.1 g1
      obtain ⟨g5, g6⟩ := List.getElem?_eq_some_iff.1 g2
      have n1 : ¬ k = k1 := by omega
      simp [c4, w1, m1, m2, hR.row, g1, g2, g4, g6, l3, hs, n1]
      refine ⟨⟨k1, 0, Go.Sort.swp e k k1, H.set v (some ⟨.c 3, 1, aRows enc (Go.Sort.swp e k k1)⟩), nx⟩, by simp only; omega, ⟨by simp only; omega, by simp only; omega, by simp only; rw [size_swp, hs], ?_, hR.put _⟩, ?_⟩
      · simp only
        rw [← hd, show k - i = (k1 - i) + 1 by omega, movD, hk1]
      · rw [← aRows_swp enc (d := e) (i := k) (j := k1) (by omega) (by omega)]
        exact Wk.sub (by simp [w1])
    · obtain rfl : k = i := by omega
      rw [Nat.sub_self, movD] at hd
      simp
      exact ⟨hR.sol, hK _ _ (by rw [← hd]; exact hR)⟩
  have c2' : ¬ (r : Int) = 1 := by omega
  obtain ⟨s, mid, hs, hmid, w1, w2, w3, w4⟩ := half_at (i := a) (j := b) (by omega)
  have w5 := int_add (a := mid) (b := m) (by omega)
  obtain ⟨n, hn⟩ : ∃ n, n = mid + m := ⟨_, rfl⟩
  rw [← hn] at w5
  have w6 : IntKind.i64.wrap ((n : Int) - 1) = ((n - 1 : Nat) : Int) := by rw [wrap_id (by omega) (by omega)]; omega
  obtain ⟨n1, hn1⟩ : ∃ n1, n1 = n - 1 := ⟨_, rfl⟩
  rw [← hn1] at w6
  obtain ⟨q1, q2, q3, q4⟩ := symS_range h1 h2
  have qq := fun t => symQ_range (t := t) h1 h2
  have hst : symStart lt a m b d = bs (symP lt d n) (symS a m b) (symE a m b) := by rw [hn, hmid]; rfl
  have hS : (mid < m → symS a m b = n - b ∧ symE a m b = mid) ∧ (¬ mid < m → symS a m b = a ∧ symE a m b = m) := by
    constructor
    · intro h; unfold symS symE; rw [← hmid, if_pos h, if_pos h, ← hn]; exact ⟨rfl, rfl⟩
    · intro h; unfold symS symE; rw [← hmid, if_neg h, if_neg h]; exact ⟨rfl, rfl⟩
  rw [← hmid, ← hn] at qq
  generalize symS a m b = S at *
  generalize symE a m b = E at *
  have hSE : (mid < m ∧ IntKind.i64.wrap ((n : Int) - (b : Int)) = (S : Int) ∧ mid = E) ∨ (¬ mid < m ∧ a = S ∧ m = E) := by
    by_cases c : mid < m
    · obtain ⟨e1, e2⟩ := hS.1 c
      exact .inl ⟨c, by rw [int_sub (by omega) (by omega), e1], e2.symm⟩
    · obtain ⟨e1, e2⟩ := hS.2 c
      exact .inr ⟨c, e1.symm, e2.symm⟩
  clear hS
  refine cutS (R := ?Rsym) ?cutsa ?cutsb
  case cutsa =>
    intro rr
    refine hSE.elim (fun hh => ?_) (fun hh => ?_)
    · obtain ⟨c3, e1, e2⟩ := hh
      simp [u1, c1, c1', v1, c2, c2', w1, w2, w3, w4, w5, w6, c3, e1]
      refine Ev.weak (st' := ⟨220, [(0, .one (.own v 1 l)), (1, dI a), (2, dI m), (3, dI b), (4, .one (.fnp (.func g) cs)), (18, dI mid), (19, dI n), (20, dI S), (21, dI E), (22, dI n1)], H, nx⟩) ?_ (Wk.sub (by simp [e1, e2]))
      exact rr
    · obtain ⟨c3, e1, e2⟩ := hh
      simp [u1, c1, c1', v1, c2, c2', w1, w2, w3, w4, w5, w6, c3]
      refine Ev.weak (st' := ⟨220, [(0, .one (.own v 1 l)), (1, dI a), (2, dI m), (3, dI b), (4, .one (.fnp (.func g) cs)), (18, dI mid), (19, dI n), (20, dI S), (21, dI E), (22, dI n1)], H, nx⟩) ?_ (Wk.sub (by simp [e1, e2]))
      exact rr
  case cutsb =>
    refine loopH_ok (ks := [0,1,2,3,4,10,11,12,13,14,15,16,17,18,19,20,21,22,23,24,28,33,50,58,80,85,103,110,140,151,171,185,199,213]) (pl := [(5, [0,0,0,6,14,0,0,96,224,511,1023], (.seg 0 (.seg 1 (.seg 2 (.seg 3 (.seg 4 (.seg 5 (.seg 6 (.seg 7 (.seg 8 (.eff 9 [] (.seg 10 .last)))))))))))), (11, [0,0,0,0,8,0,0,64,224,480,0,0,3072,7168,16355,32739,65535,131071], (.seg 0 (.seg 1 (.seg 2 (.seg 3 (.seg 4 (.seg 5 (.seg 6 (.seg 7 (.seg 8 (.seg 9 (.seg 10 (.seg 11 (.seg 12 (.seg 13 (.seg 14 (.eff 15 [4] (.seg 16 (.eff 17 [] .last))))))))))))))))))), (17, [0,0,0,6,14,0,0,96,224,511,1023,2047], (.seg 0 (.seg 1 (.seg 2 (.seg 3 (.seg 4 (.seg 5 (.seg 6 (.seg 7 (.seg 8 (.eff 9 [] (.seg 10 (.seg 11 .last))))))))))))), (23, [0,0,0,0,8,0,0,64,224,480,0,0,3072,7168,16355,32739,65535,131071], (.seg 0 (.seg 1 (.seg 2 (.seg 3 (.seg 4 (.seg 5 (.seg 6 (.seg 7 (.seg 8 (.seg 9 (.seg 10 (.seg 11 (.seg 12 (.seg 13 (.seg 14 (.eff 15 [4] (.seg 16 (.eff 17 [] .last))))))))))))))))))), (35, [0,0,0,0,12,30,62,0,0,384,896,2047,4095,8191], (.seg 0 (.seg 1 (.seg 2 (.seg 3 (.seg 4 (.seg 5 (.seg 6 (.seg 7 (.seg 8 (.seg 9 (.seg 10 (.eff 11 [] (.seg 12 (.seg 13 .last)))))))))))))))]) (n0 := 220) (α := {x : SwS α // S ≤ x.i ∧ x.i ≤ x.j ∧ x.j ≤ E ∧ bs (symP lt d n) x.i x.j = bs (symP lt d n) S E ∧ RowAt enc H0 nx0 v d x.H x.nx}) (fun x => [(20, dI x.1.i), (21, dI x.1.j)]) (fun _ x => x.1.H) (fun x => x.1.nx) (fun x => x.1.j - x.1.i) ⟨⟨S, E, d, H, nx⟩, Nat.le_refl _, q1, Nat.le_refl _, rfl, hR⟩ rfl (by kernel_rfl) (Wk.sub (by simp)) ?_
    rintro ⟨⟨i, j, -, H, nx⟩, hi, hij, hj, hb, hR⟩
    simp only at hi hij hj hb hR
    by_cases c4 : i < j
    · obtain ⟨s', t, hs', ht, x1, x2, x3, x4⟩ := half_at (i := i) (j := j) (by omega)
      obtain ⟨y1, y2, y3⟩ := qq t (by omega) (by omega)
      have x5 := int_sub (a := n1) (b := t) (by omega) (by omega)
      obtain ⟨u, hu⟩ : ∃ u, u = n1 - t := ⟨_, rfl⟩
      rw [← hu] at x5
      have g1 := aRows_get enc (d := d) (i := t) (by omega)
      have g2 := aRows_get enc (d := d) (i := u) (by omega)
      have m1 : t < l := by omega
      have m2 : u < l := by omega
      obtain ⟨g3, g4⟩ := List.getElem?_eq_some_iff.1 g1
      obtain ⟨g5, g6⟩ := List.getElem?_eq_some_iff.1 g2
      have hp : symP lt d n t = !lt (aT d u) (aT d t) := by unfold symP aT; rw [hu, hn1]
      simp [c4, x1, x2, x3, x4, x5, m1, m2, hR.row, g1, g2, g4, g6, l3, hl, hgx, -extP]
      refine hc (by omega) H nx hR.nx hR.low hR.sol _ _ _ fun c H3 nx3 hn3 low3 sol3 hcl => ?_
      have hR3 := hR.mono hv hn3 low3 sol3
      by_cases c5 : lt (aT d u) (aT d t) = true
      · have hc0 : c < 0 := hcl.2 c5
        simp [hc0]
        rw [bs_no c4 (by rw [← ht, hp, c5]; rfl), ← ht] at hb
        exact ⟨⟨i, t, d, H3, nx3⟩, by simp only; omega, ⟨hi, by simp only; omega, by simp only; omega, hb, hR3⟩, Wk.sub (by simp)⟩
      · have hc0 : ¬ c < 0 := fun h => c5 (hcl.1 h)
        simp [hc0]
        rw [bs_yes c4 (by rw [← ht, hp]; simpa using c5), ← ht] at hb
        exact ⟨⟨t + 1, j, d, H3, nx3⟩, by simp only; omega, ⟨by simp only; omega, by simp only; omega, hj, hb, hR3⟩, Wk.sub (by simp [wrap_add (show t < 9223372036854775807 by omega)])⟩
    obtain rfl : i = j := by omega
    rw [bs_stop (by omega), ← hst] at hb
    obtain ⟨z1, z2, z3, z4, z5, z6⟩ := symStart_range lt d h1 h2
    rw [← hb, ← hmid, ← hn] at z4 z5 z6
    rw [← hb] at z1 z2 z3
    rw [← hmid] at z3
    have x6 := int_sub (a := n) (b := i) (by omega) (by omega)
    have eR : symRot lt a m b d = if i < m ∧ m < n - i then rot i m (n - i) d else d := by unfold symRot; rw [← hb, ← hmid, ← hn]
    have eL : symL lt a m b d = if a < i ∧ i < mid then sym lt a i mid (symRot lt a m b d) else symRot lt a m b d := by unfold symL; rw [← hb, ← hmid]
    have eS := sym_at lt (d := d) h1 h2 (by omega) (by omega)
    rw [← hb, ← hmid, ← hn] at eS
    rw [eS] at hK
    clear eS
    obtain ⟨en, hen⟩ : ∃ en, en = n - i := ⟨_, rfl⟩
    rw [← hen] at x6 eR hK z4 z5 z6
    have k1 : (¬ i < m ∧ ¬ i < m) ∨ (i < m ∧ ¬ m < en) ∨ (i < m ∧ m < en) := by omega
    have k2 : (¬ a < i ∧ ¬ a < i) ∨ (a < i ∧ ¬ i < mid) ∨ (a < i ∧ i < mid) := by omega
    have k3 : (¬ mid < en ∧ ¬ mid < en) ∨ (mid < en ∧ ¬ en < b) ∨ (mid < en ∧ en < b) := by omega
    have hsR := size_symRot lt a m b d
    have hsL := size_symL lt a m b d
    rw [hl] at hsR hsL
    generalize symRot lt a m b d = dR at *
    generalize symL lt a m b d = dL at *
    rcases k1 with ⟨c4, c5⟩ | ⟨c4, c5⟩ | ⟨c4, c5⟩ <;> rcases k2 with ⟨c6, c7⟩ | ⟨c6, c7⟩ | ⟨c6, c7⟩ <;> rcases k3 with ⟨c8, c9⟩ | ⟨c8, c9⟩ | ⟨c8, c9⟩ 
    all_goals simp [x6, c4, c5, c6, c7, c8, c9]
    all_goals
      first
        | (refine rotS_ic _ i m en d hl (by omega) (by omega) (by omega) hsz hR fun H1 nx1 hR1 => ?_
           rw [show rot i m en d = dR from (eR.trans (if_pos ⟨c4, c5⟩)).symm] at hR1
           simp [c6, c7, c8, c9, x6])
        | (have hR1 := hR
           rw [show d = dR from (eR.trans (if_neg (by omega))).symm] at hR1)
      first
        | (refine ih a i mid dR hsR (by omega) (by omega) (by omega) (by omega) hR1 fun H2 nx2 hR2 => ?_
           rw [show sym lt a i mid dR = dL from (eL.trans (if_pos ⟨c6, c7⟩)).symm] at hR2
           simp [c8, c9, x6])
        | (have hR2 := hR1
           rw [show dR = dL from (eL.trans (if_neg (by omega))).symm] at hR2)
      first
        | (refine ih mid en b dL hsL (by omega) (by omega) (by omega) (by omega) hR2 fun H3 nx3 hR3 => ?_
           rw [if_pos ⟨c8, c9⟩] at hK
           simp
           exact ⟨hR3.sol, hK _ _ hR3⟩)
        | (rw [if_neg (by omega)] at hK
           exact ⟨hR2.sol, hK _ _ hR2⟩)
end
section
variable {α:Type} [Inhabited α]
theorem stI_go (lt:α->α->Bool) {n a:Nat} {d:Array α} (h:a+20≤n):stI lt n (n-a) a d=stI lt n (n-(a+20)) (a+20) (insA lt d a (a+20)):=by
 obtain ⟨f,hf⟩ : ∃ f,n-a=f+1:=⟨n-a-1,by omega⟩
 rw [hf,stI,if_pos h]
 exact stI_fuel lt n _ _ _ _ (by omega) (by omega)
theorem stI_stop (lt:α->α->Bool) {n a:Nat} {d:Array α} (h : ¬ a+20≤n):stI lt n (n-a) a d=insA lt d a n:=by
 cases n-a with
 | zero=>rfl
 | succ f=>rw [stI,if_neg h]
theorem stM_go (lt:α->α->Bool) {n k a:Nat} {d:Array α} (hk:0<k) (h:a+2*k≤n):stM lt n k (n-a) a d=stM lt n k (n-(a+2*k)) (a+2*k) (sym lt a (a+k) (a+2*k) d):=by
 obtain ⟨f,hf⟩ : ∃ f,n-a=f+1:=⟨n-a-1,by omega⟩
 rw [hf,stM,if_pos h]
 exact stM_fuel lt n k hk _ _ _ _ (by omega) (by omega)
theorem stM_stop (lt:α->α->Bool) {n k a:Nat} {d:Array α} (hk:0<k) (h : ¬ a+2*k≤n):stM lt n k (n-a) a d=if a+k<n then sym lt a (a+k) n d else d:=by
 rcases hq:n-a with _ | f
 ·rw [stM,if_neg (by omega)]
 ·rw [stM,if_neg h]
theorem stL_go (lt:α->α->Bool) {n k:Nat} {d:Array α} (hk:0<k) (h:k<n):stL lt n (n-k) k d=stL lt n (n-2*k) (2*k) (stM lt n k n 0 d):=by
 obtain ⟨f,hf⟩ : ∃ f,n-k=f+1:=⟨n-k-1,by omega⟩
 rw [hf,stL,if_pos h]
 exact stL_fuel lt n _ _ _ _ (by omega) (by omega) (by omega)
theorem stL_stop (lt:α->α->Bool) {n k:Nat} {d:Array α} (h : ¬ k<n):stL lt n (n-k) k d=d:=by
 rw [show n-k=0 by omega,stL]
theorem stable_at (lt:α->α->Bool) {d:Array α} {n:Nat} (h:d.size=n):stable lt d=stL lt n (n-20) 20 (stI lt n n 0 d):=by
 unfold stable
 rw [h]
 exact stL_fuel lt n _ _ _ _ (by omega) (by omega) (by omega)
variable {enc:α->Int} (lt:α->α->Bool)
theorem staS_ic {H0:Hp} {nx0 v l:Nat} (g:FuncId) (cs:List Cap) (hsz:l≤1000000) (hv:v<nx0) (hc:CmpOk enc lt g cs H0 nx0 v l) (d:Array α) (hl:d.size=l) {H:Hp} {nx:Nat} (hR:RowAt enc H0 nx0 v d H nx) {K:D->Hp->Nat->Prop}
  (hK : ∀ H' nx',RowAt enc H0 nx0 v (stable lt d) H' nx'->K (.tup []) H' nx'):ICall Tryz.prog 160 [.one (.own v 1 l),dI l,.one (.fnp (.func g) cs)] H nx K:=by
 rw [stable_at lt hl] at hK
 refine fni_ok [0,1,2,6,7,8,9,13,30,35,54] [] Tryz.func160 rfl (by kernel_rfl) rfl rfl rfl rfl (by kernel_rfl) ?_
 simp
 refine loopH_ok (ks := [0,1,2,6,7,8,9,13,30,35,54]) (pl := []) (n0:=63) (α := {x:SwS α//x.j=x.i+20∧x.i≤l∧x.d.size=l∧stI lt l (l-x.i) x.i x.d=stI lt l l 0 d∧RowAt enc H0 nx0 v x.d x.H x.nx}) (fun x=>[(7,dI x.1.i),(8,dI x.1.j)]) (fun _ x=>x.1.H) (fun x=>x.1.nx) (fun x=>l-x.1.i) ⟨⟨0,20,d,H,nx⟩,rfl,Nat.zero_le _,hl,rfl,hR⟩ rfl (by kernel_rfl) (Wk.sub (by simp)) ?_
 clear hR
 rintro ⟨⟨a,b,e,H,nx⟩,hb,ha,hs,hd,hR⟩
 simp only at hb ha hs hd hR
 by_cases c1:b≤l
 ·rw [stI_go lt (by omega), ← hb] at hd
  have w1:IntKind.i64.wrap ((b:Int)+20)=((b+20:Nat):Int):=by rw [wrap_id (by omega) (by omega)];omega
  obtain ⟨b2,hb2⟩ : ∃ b2,b2=b+20:=⟨_,rfl⟩
  rw [← hb2] at w1
  simp [c1]
  refine insS_ic lt g cs a b e hs (by omega) c1 hsz hv hc hR fun H1 nx1 hR1 => ?_
  simp [w1]
  exact ⟨⟨b,b2,insA lt e a b,H1,nx1⟩,by simp only;omega,⟨hb2,c1,by simp only;rw [size_insA,hs],hd,hR1⟩,Wk.sub (by simp)⟩
 rw [stI_stop lt (by omega)] at hd
 simp [c1]
 refine insS_ic lt g cs a l e hs ha (Nat.le_refl _) hsz hv hc hR fun H1 nx1 hR1 => ?_
 rw [hd] at hR1
 have hs1:(stI lt l l 0 d).size=l:=by rw [size_stI,hl]
 generalize stI lt l l 0 d=d1 at *
 clear hR hd hs
 simp
 refine Ev.weak (st':=⟨_,[(0,.one (.own v 1 l)),(1,dI l),(2,.one (.fnp (.func g) cs)),(6,dI 20)],H1,nx1⟩) ?_ (Wk.sub (by simp))
 refine loopH_ok (ks := [0,1,2,6,7,8,9,13,30,35,54]) (pl := []) (n0:=63) (α := {x:SwS α//0<x.i∧x.i≤2*l+20∧x.d.size=l∧stL lt l (l-x.i) x.i x.d=stL lt l (l-20) 20 d1∧RowAt enc H0 nx0 v x.d x.H x.nx}) (fun x=>[(6,dI x.1.i)]) (fun _ x=>x.1.H) (fun x=>x.1.nx) (fun x=>l-x.1.i) ⟨⟨20,0,d1,H1,nx1⟩,by simp,by simp,hs1,rfl,hR1⟩ rfl (by kernel_rfl) (Wk.sub (by simp)) ?_
 clear hR1 hs1
 rintro ⟨⟨k, -, e,H,nx⟩,hk,hk2,hs,hd,hR⟩
 simp only at hk hk2 hs hd hR
 by_cases c2:k<l
 case neg =>
  rw [stL_stop lt c2] at hd
  simp [c2]
  exact ⟨hR.sol,hK _ _ (by rw [← hd];exact hR)⟩
 rw [stL_go lt hk c2] at hd
 have w2:IntKind.i64.wrap (2*(k:Int))=((2*k:Nat):Int):=by rw [wrap_id (by omega) (by omega)];omega
 have w3:IntKind.i64.wrap ((k:Int)*2)=((2*k:Nat):Int):=by rw [wrap_id (by omega) (by omega)];omega
 obtain ⟨k2,hk3⟩ : ∃ k2,k2=2*k:=⟨_,rfl⟩
 rw [← hk3] at w2 w3 hd
 have hsM:(stM lt l k l 0 e).size=l:=by rw [size_stM,hs]
 simp [c2,w2]
 refine loopH_ok (ks := [0,1,2,6,7,8,9,13,30,35,54]) (pl := []) (n0:=63) (α := {x:SwS α//x.j=x.i+k2∧x.i≤l∧x.d.size=l∧stM lt l k (l-x.i) x.i x.d=stM lt l k l 0 e∧RowAt enc H0 nx0 v x.d x.H x.nx}) (fun x=>[(7,dI x.1.i),(8,dI x.1.j)]) (fun _ x=>x.1.H) (fun x=>x.1.nx) (fun x=>l-x.1.i) ⟨⟨0,k2,e,H,nx⟩,by simp,Nat.zero_le _,hs,rfl,hR⟩ rfl (by kernel_rfl) (Wk.sub (by simp)) ?_
 rintro ⟨⟨a,b,e2,H2,nx2⟩,hb,ha,hs2,hd2,hR2⟩
 simp only at hb ha hs2 hd2 hR2
 have w4:=int_add (a:=a) (b:=k) (by omega)
 obtain ⟨m,hm⟩ : ∃ m,m=a+k:=⟨_,rfl⟩
 rw [← hm] at w4
 by_cases c3:b≤l
 ·rw [stM_go lt hk (by omega), ← hk3, ← hb, ← hm] at hd2
  have w5:=int_add (a:=b) (b:=k2) (by omega)
  obtain ⟨b2,hb2⟩ : ∃ b2,b2=b+k2:=⟨_,rfl⟩
  rw [← hb2] at w5
  simp [c3,w4]
  refine symS_ic lt g cs hsz hv hc l a m b e2 hs2 (by omega) (by omega) c3 (by omega) hR2 fun H3 nx3 hR3 => ?_
  simp [w2,w5]
  exact ⟨⟨b,b2,sym lt a m b e2,H3,nx3⟩,by simp only;omega,⟨hb2,c3,by simp only;rw [size_sym,hs2],hd2,hR3⟩,Wk.sub (by simp)⟩
 rw [stM_stop lt hk (by omega), ← hm] at hd2
 by_cases c4:m<l
 ·rw [if_pos c4] at hd2
  simp [c3,w4,c4]
  refine symS_ic lt g cs hsz hv hc l a m l e2 hs2 (by omega) c4 (Nat.le_refl _) (by omega) hR2 fun H3 nx3 hR3 => ?_
  rw [hd2] at hR3
  simp [w3]
  exact ⟨⟨k2,0,stM lt l k l 0 e,H3,nx3⟩,by simp only;omega,⟨by simp only;omega,by simp only;omega,hsM,hd,hR3⟩,Wk.sub (by simp)⟩
 ·rw [if_neg c4] at hd2
  rw [hd2] at hR2
  simp [c3,w4,c4,w3]
  exact ⟨⟨k2,0,stM lt l k l 0 e,H2,nx2⟩,by simp only;omega,⟨by simp only;omega,by simp only;omega,hsM,hd,hR2⟩,Wk.sub (by simp)⟩
theorem sortS_ic {H0:Hp} {nx0 v l:Nat} (g:FuncId) (cs:List Cap) (hsz:l≤1000000) (hv:v<nx0) (hc:CmpOk enc lt g cs H0 nx0 v l) (d:Array α) (hl:d.size=l) {H:Hp} {nx:Nat} (hR:RowAt enc H0 nx0 v d H nx) {K:D->Hp->Nat->Prop}
  (hK : ∀ H' nx',RowAt enc H0 nx0 v (stable lt d) H' nx'->K (.tup []) H' nx'):ICall Tryz.prog 106 [.one (.own v 1 l),.one (.fnp (.func g) cs)] H nx K:=by
 refine fni_ok [0,1] [] Tryz.func106 rfl (by kernel_rfl) rfl rfl rfl rfl (by kernel_rfl) ?_
 simp
 intro _
 refine staS_ic lt g cs hsz hv hc d hl hR fun H1 nx1 hR1 => ?_
 simp
 exact ⟨hR1.sol,hK _ _ hR1⟩
end
end
end Go.Proofs.YtbphdcffpobcbaaGreatDoor
