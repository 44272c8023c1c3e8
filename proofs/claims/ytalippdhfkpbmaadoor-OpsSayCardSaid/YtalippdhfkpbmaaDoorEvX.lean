/- Rules: loops whose heap changes; rows that are written no more; what shows less. -/
import Derived.Test.YtalippdhfkpbmaaDoorEvY
namespace Go.Proofs.YtalippdhfkpbmaaDoor
open Go.RowKit Go
theorem HpOk.frzRow {β : Base} {F : Nat → Prop} {w : World} {ι : Nms} {H : Hp} {nx n : Nat} {x : Blk} (h : HpOk β F w ι H nx) (hx : H n = some x) (hall : (x.es.all fun e => e.all C.isD) = true) :
    ∃ F', HpOk β F' w ι (H.set n none) nx ∧ Env.le ⟨F, β.B⟩ ⟨F', β.B⟩ w w ∧ ∀ l v, l ≤ x.es.length → RC ⟨F, β.B⟩ w ι (.own n x.k l) v → RD ⟨F', β.B⟩ w (.sl true ((x.es.take l).map fun e => e.map C.dt)) v := by
  obtain ⟨b, cap, p1, p2, p3, p4⟩ := h.blk n x hx
  have hd := h.drop n
  rcases Nat.eq_zero_or_pos cap with hc | hc
  · subst hc
    refine ⟨F, hd, ⟨fun _ h => h, fun _ h => h, fun _ _ => rfl, fun _ _ => rfl⟩, fun l v hl hr => ?_⟩
    obtain ⟨b', cap', q1, q2, q3, q4⟩ := hr
    rw [p1] at q1
    simp only [Option.some.injEq, Prod.mk.injEq] at q1
    obtain ⟨rfl, rfl⟩ := q1
    obtain rfl : l = 0 := by omega
    rcases q4 with ⟨-, A, rfl⟩ | ⟨h0, -⟩
    · simp only [List.take_zero, List.map_nil]
      exact RD.sl (k := 0) (fun _ _ => undef) (Nat.le_refl _) (by simp [maxLen]) (by simp) (fun _ => rfl) (fun h => by simp at h) (fun i j c hc => by simp [nth2] at hc)
    · omega
  · obtain ⟨arr, r1, r2, r3, r4⟩ := p4 hc
    obtain ⟨o1, o2, o3⟩ := h.own n b cap (by rw [hx]; simp) p1 hc
    let F' : Nat → Prop := fun q => F q ∨ q = b
    have hle : Env.le ⟨F, β.B⟩ ⟨F', β.B⟩ w w := ⟨fun _ h => .inl h, fun _ h => h, fun _ _ => rfl, fun _ _ => rfl⟩
    have hset : ∀ m, H.set n none m ≠ none → m ≠ n ∧ H m ≠ none := fun m hm => by
      by_cases e : m = n
      · subst e; simp at hm
      · exact ⟨e, by rwa [Hp.set_ne _ _ e] at hm⟩
    refine ⟨F', ⟨h.size, h.keep, fun q hq => ?_, fun q hq => ?_, fun q hq => .inl (h.F0 q hq), fun m y hm => (hd.blk m y hm).keep hle (Nms.le_refl _) fun _ _ _ _ => rfl,
        fun m q c hm hq hc' => ?_, hd.inj, h.nx, h.nm, h.io⟩, hle, fun l v hl hr => ?_⟩
    · rcases hq with hq | rfl
      · exact h.Flt q hq
      · exact o1
    · rcases hq with hq | rfl
      · exact h.Fof q hq
      · exact .inr o3
    · obtain ⟨g1, g2⟩ := hset m hm
      obtain ⟨s1, s2, s3⟩ := h.own m q c g2 hq hc'
      refine ⟨s1, fun hF => ?_, s3⟩
      rcases hF with hF | rfl
      · exact s2 hF
      · exact g1 (h.inj m n q c cap g2 (by rw [hx]; simp) hq p1 hc' hc)
    · obtain ⟨b', cap', q1, q2, q3, q4⟩ := hr
      rw [p1] at q1
      simp only [Option.some.injEq, Prod.mk.injEq] at q1
      obtain ⟨rfl, rfl⟩ := q1
      rcases q4 with ⟨h0, -⟩ | ⟨h0, rfl⟩
      · omega
      have hlen : ((x.es.take l).map fun e => e.map C.dt).length = l := by simp; omega
      have hn2 : ∀ i j c, nth2 ((x.es.take l).map fun e => e.map C.dt) i j = some c → ∃ c', nth2 x.es i j = some c' ∧ c'.isD = true ∧ c = c'.dt := fun i j c hc => by
        unfold nth2 at hc ⊢
        rw [List.getElem?_map, List.getElem?_take] at hc
        by_cases hi : i < l
        · simp only [hi, if_true] at hc
          cases he : x.es[i]? with
          | none => simp [he] at hc
          | some e =>
            simp only [he, Option.map_some, Option.bind_some, List.getElem?_map] at hc ⊢
            cases hj : e[j]? with
            | none => simp [hj] at hc
            | some c' =>
              simp only [hj, Option.map_some, Option.some.injEq] at hc
              exact ⟨c', rfl, all_isD (List.all_eq_true.1 hall e (List.mem_of_getElem? he)) hj, hc.symm⟩
        · simp [hi] at hc
      have hR : ∀ i j c, nth2 ((x.es.take l).map fun e => e.map C.dt) i j = some c → arr[i * x.k + j]? = some (arr.getD (i * x.k + j) undef) ∧ RD ⟨F', noB⟩ w c (arr.getD (i * x.k + j) undef) := fun i j c hc => by
        obtain ⟨c', g1, g2, rfl⟩ := hn2 i j c hc
        obtain ⟨v, g3, g4⟩ := r4 i j c' g1
        have : arr.getD (i * x.k + j) undef = v := by simp [Array.getD_eq_getD_getElem?, g3]
        rw [this]
        exact ⟨g3, (g4.keep hle (Nms.le_refl ι)).dtSolid g2⟩
      rw [show (Value.slice (some ⟨b, 0, none⟩) l cap) = .slice (some ⟨b, 0, none⟩) ((x.es.take l).map fun e => e.map C.dt).length cap by rw [hlen]]
      refine RD.sl (k := x.k) (fun i j => arr.getD (i * x.k + j) undef) (by rw [hlen]; exact q2) q3 (fun e he => ?_) (fun h => by cases h) (fun _ => ⟨b, 0, rfl, .inl (.inr rfl), fun i j c hc => ?_⟩) (fun i j c hc => (hR i j c hc).2)
      · obtain ⟨e', he', rfl⟩ := List.mem_map.1 he
        rw [List.length_map]; exact p3 e' (List.mem_of_mem_take he')
      · simp only [Nat.zero_add]
        exact r1.cell (hR i j c hc).1
/-- a row that is handed on for good: as data -/
theorem ICall.frz {P : Program} {f : FuncId} {ds es : List D} {H : Hp} {nx n k l : Nat} {x : Blk} {K : D → Hp → Nat → Prop} (hx : H n = some x) (hall : (x.es.all fun e => e.all C.isD) = true) (hk : x.k = k) (hl : l ≤ x.es.length)
    (h : ICall P f (ds ++ .one (.d (.sl true ((x.es.take l).map fun e => e.map C.dt))) :: es) (H.set n none) nx K) : ICall P f (ds ++ .one (.own n k l) :: es) H nx K := by
  subst hk
  refine ⟨h.1, fun β F ι w vs hg hH hvs => ?_⟩
  obtain ⟨F', g1, g2, g3⟩ := hH.frzRow hx hall
  have hvs' : RVs ⟨F', β.B⟩ w ι (ds ++ .one (.d (.sl true ((x.es.take l).map fun e => e.map C.dt))) :: es) vs := by
    clear h
    induction ds generalizing vs with
    | nil =>
      cases vs with
      | nil => simp [RVs] at hvs
      | cons v vs =>
        simp only [List.nil_append, RVs, RV] at hvs ⊢
        exact ⟨g3 l v hl hvs.1, RVs.keep g2 (Nms.le_refl _) hvs.2⟩
    | cons d ds ih =>
      cases vs with
      | nil => simp [RVs] at hvs
      | cons v vs =>
        simp only [List.cons_append, RVs] at hvs ⊢
        exact ⟨RV.keep g2 (Nms.le_refl _) hvs.1, ih vs hvs.2⟩
  refine (h.2 β F' ι w vs hg g1 hvs').mono ?_
  rintro e w' ⟨F2, ι', H', nx', d, v, e1, e2, e3, e4, e5, e6⟩
  exact ⟨F2, ι', H', nx', d, v, e1, e2, ⟨fun b hb => e3.F b (g2.F b hb), e3.B, fun b hb => e3.f b (g2.F b hb), e3.b⟩, e4, e5, e6⟩
/-- what shows less -/
def C.less (c c' : C) : Prop := c = c' ∨ (c = .d .emp ∧ ∃ S, c' = .d (.sl S []))
theorem RC.less {E : Env} {w : World} {ι : Nms} {c c' : C} {v : Value} (h : RC E w ι c v) (hc : c.less c') : RC E w ι c' v := by
  rcases hc with rfl | ⟨rfl, S, rfl⟩
  · exact h
  · have h : RD E w .emp v := h
    cases h
    exact RD.sl (k := 0) (fun _ _ => undef) (Nat.le_refl _) (by simp [maxLen]) (by simp) (fun _ => rfl) (fun h => by simp at h) (fun i j c hc => by simp [nth2] at hc)
structure Blk.less (x y : Blk) : Prop where
  t : x.t = y.t
  k : x.k = y.k
  len : x.es.length = y.es.length
  row : ∀ e ∈ y.es, e.length = y.k
  c : ∀ i j c', nth2 y.es i j = some c' → ∃ c, nth2 x.es i j = some c ∧ c.less c'
theorem HpOk.less {β : Base} {F : Nat → Prop} {w : World} {ι : Nms} {H H' : Hp} {nx : Nat} (h : HpOk β F w ι H nx) (hl : ∀ n y, H' n = some y → ∃ x, H n = some x ∧ x.less y) : HpOk β F w ι H' nx := by
  have hn : ∀ n, H' n ≠ none → H n ≠ none := fun n hn => by
    cases hy : H' n with
    | none => exact absurd hy hn
    | some y => obtain ⟨x, hx, -⟩ := hl n y hy; rw [hx]; simp
  refine ⟨h.size, h.keep, h.Flt, h.Fof, h.F0, fun n y hy => ?_, fun n b cap hH => h.own n b cap (hn n hH), fun n m b c c' h1 h2 => h.inj n m b c c' (hn n h1) (hn m h2), h.nx, h.nm, h.io⟩
  obtain ⟨x, hx, hxy⟩ := hl n y hy
  obtain ⟨b, cap, p1, p2, p3, p4⟩ := h.blk n x hx
  refine ⟨b, cap, p1, by rw [← hxy.len]; exact p2, hxy.row, fun hc => ?_⟩
  obtain ⟨arr, r1, r2, r3, r4⟩ := p4 hc
  refine ⟨arr, by rw [← hxy.t]; exact r1, by rw [← hxy.k]; exact r2, r3, fun i j c' hc' => ?_⟩
  obtain ⟨c, g1, g2⟩ := hxy.c i j c' hc'
  obtain ⟨v, g3, g4⟩ := r4 i j c g1
  exact ⟨v, by rw [← hxy.k]; exact g3, g4.less g2⟩
def D.less : D → D → Prop
  | .one c, .one c' => c.less c'
  | d, d' => d = d'
theorem RV.less {E : Env} {w : World} {ι : Nms} {d d' : D} {v : Value} (h : RV E w ι d v) (hd : d.less d') : RV E w ι d' v := by
  cases d with
  | one c => cases d' with
    | one c' => rw [RV] at h ⊢; exact RC.less h hd
    | _ => cases hd
  | _ => obtain rfl : _ = d' := hd; exact h
def Ds.less : List D → List D → Prop
  | [], [] => True
  | d :: ds, e :: es => d.less e ∧ Ds.less ds es
  | _, _ => False
theorem RVs.less {E : Env} {w : World} {ι : Nms} : ∀ {ds es : List D} {vs : List Value}, RVs E w ι ds vs → Ds.less ds es → RVs E w ι es vs
  | [], [], _, h, _ => h
  | _ :: _, _ :: _, [], h, _ => by simp [RVs] at h
  | _ :: _, _ :: _, _ :: _, h, hd => by rw [RVs] at h ⊢; exact ⟨h.1.less hd.1, RVs.less h.2 hd.2⟩
  | [], _ :: _, _, _, hd => hd.elim
  | _ :: _, [], _, _, hd => hd.elim
theorem D.less.refl (d : D) : d.less d := by cases d <;> first | exact .inl rfl | exact rfl
theorem ICall.less {P : Program} {f : FuncId} {ds es : List D} {H H' : Hp} {nx : Nat} {K : D → Hp → Nat → Prop} (hd : Ds.less ds es) (hl : ∀ n y, H' n = some y → ∃ x, H n = some x ∧ x.less y) (h : ICall P f es H' nx K) : ICall P f ds H nx K :=
  ⟨h.1, fun β F ι w vs hg hH hvs => h.2 β F ι w vs hg (hH.less hl) (hvs.less hd)⟩
theorem DPure.less {P : Program} {f : FuncId} {ds es : List D} {K : D → List Blk → Prop} (hd : Ds.less ds es) (h : DPure P f es K) : DPure P f ds K :=
  ⟨h.1, fun F w vs hF hgl hvs => h.2 F w vs hF hgl (hvs.less hd)⟩
/-- a loop whose heap changes, too -/
theorem loopS_ok {P : Program} {pl : Pls} {n0 : Nat} {ks : List Nat} {n : Nat} {tm : List (Nat × D)} {H : Hp} {nx : Nat} {K : Exit → St → Prop} {α : Type} {c : Code} (S : α → St) (m : α → Nat) (x0 : α) (hx : P.follows .mixedOrders = true) (hp : plsOk pl n0 c = true) (h0 : Wk ⟨n, tm, H, nx⟩ (S x0))
    (round : ∀ x, vc P pl n0 ks c (loopK S m x K) (S x)) : Ev P (.loop c) K ⟨n, tm, H, nx⟩ := ev_loop S m x0 h0 fun x => vc_ok hx hp (round x)
/-- temporaries and blocks forgotten -/
theorem Wk.heap {n : Nat} {tm : List (Nat × D)} {H H' : Hp} {nx : Nat} (hl : ∀ i y, H' i = some y → H i = some y) : Wk ⟨n, tm, H, nx⟩ ⟨n, tm, H', nx⟩ := fun β F ι a w h => by
  have hn : ∀ n, H' n ≠ none → H n ≠ none := fun n hn => by
    cases hy : H' n with
    | none => exact absurd hy hn
    | some y => rw [hl n y hy]; simp
  have hh := h.heap
  exact ⟨F, ι, h.good, h.defers, h.size, h.tm, ⟨hh.size, hh.keep, hh.Flt, hh.Fof, hh.F0, fun n y hy => hh.blk n y (hl n y hy), fun n b cap hH => hh.own n b cap (hn n hH), fun n m b c c' h1 h2 => hh.inj n m b c c' (hn n h1) (hn m h2), hh.nx, hh.nm, hh.io⟩⟩
/-! ### A row given up as memory of its own, wherever it stands -/
def C.fz (m : Nat) (x : Blk) : C → C
  | .own n k l => if n = m ∧ k = x.k ∧ l ≤ x.es.length then .d (.sl true ((x.es.take l).map fun e => e.map C.dt)) else .own n k l
  | c => c
def D.fz (m : Nat) (x : Blk) : D → D
  | .one c => .one (c.fz m x)
  | .agg cs => .agg (cs.map (C.fz m x))
  | d => d
def fzT (m : Nat) (x : Blk) : List (Nat × D) → List (Nat × D)
  | [] => []
  | (t, d) :: l => (t, d.fz m x) :: fzT m x l
theorem lk_fzT (m : Nat) (x : Blk) (u : Nat) : ∀ l, lk (fzT m x l) u = (lk l u).fz m x
  | [] => rfl
  | (t, d) :: l => by
    unfold fzT lk
    by_cases h : u = t
    · simp [h]
    · simp [h, lk_fzT m x u l]
def St.fzR (st : St) (m : Nat) : St := match st.H m with
  | some x => if (x.es.all fun e => e.all C.isD) = true then ⟨st.n, fzT m x st.tm, fun i => if i = m then none else (st.H i).map fun y => ⟨y.t, y.k, y.es.map fun e => e.map (C.fz m x)⟩, st.nx⟩ else st
  | none => st
theorem Wk.fzR (st : St) (m : Nat) : Wk st (st.fzR m) := fun β F ι a w h => by
  unfold St.fzR
  split
  · rename_i x hx
    split
    · rename_i hall
      obtain ⟨F', g1, g2, g3⟩ := h.heap.frzRow hx hall
      have hC : ∀ c v, RC ⟨F, β.B⟩ w ι c v → RC ⟨F', β.B⟩ w ι (c.fz m x) v := fun c v hc => by
        cases c with
        | own n k l =>
          simp only [C.fz]
          split
          · rename_i hh
            obtain ⟨rfl, rfl, hl⟩ := hh
            exact g3 l v hl hc
          · exact hc.keep g2 (Nms.le_refl _)
        | _ => exact hc.keep g2 (Nms.le_refl _)
      have hCs : ∀ {cs : List C} {vs : List Value}, RCs ⟨F, β.B⟩ w ι cs vs → RCs ⟨F', β.B⟩ w ι (cs.map (C.fz m x)) vs := by
        intro cs
        induction cs with
        | nil => intro vs h; cases vs with
          | nil => trivial
          | cons _ _ => exact h.elim
        | cons c cs ih => intro vs h; cases vs with
          | nil => exact h.elim
          | cons v vs => exact ⟨hC c v h.1, ih h.2⟩
      have hn : ∀ n, ((fun i => if i = m then none else (st.H i).map fun y => (⟨y.t, y.k, y.es.map fun e => e.map (C.fz m x)⟩ : Blk)) : Hp) n ≠ none → n ≠ m ∧ st.H n ≠ none := fun n hn => by
        simp only at hn
        split at hn
        · exact absurd rfl hn
        · rename_i e
          refine ⟨e, fun e2 => hn (by rw [e2]; rfl)⟩
      refine ⟨F', ι, h.good, h.defers, h.size, fun t => ?_, ⟨g1.size, g1.keep, g1.Flt, g1.Fof, g1.F0, fun n y hy => ?_, fun n b cap hH => g1.own n b cap (by rw [Hp.set_ne _ _ (hn n hH).1]; exact (hn n hH).2), fun i j b c c' h1 h2 => g1.inj i j b c c' (by rw [Hp.set_ne _ _ (hn i h1).1]; exact (hn i h1).2) (by rw [Hp.set_ne _ _ (hn j h2).1]; exact (hn j h2).2), g1.nx, g1.nm, g1.io⟩⟩
      · simp only [lk_fzT]
        have ht := h.tm t
        cases hl : lk st.tm t with
        | one c => rw [hl] at ht; simp only [D.fz]; rw [RV] at ht ⊢; exact hC c _ ht
        | agg cs => rw [hl] at ht; simp only [D.fz]; rw [RV] at ht ⊢; obtain ⟨xs, e1, e2⟩ := ht; exact ⟨xs, e1, hCs e2⟩
        | tup ds => rw [hl] at ht; exact ht.keep g2 (Nms.le_refl _)
        | top => simp only [D.fz]; rw [RV]; trivial
      · simp only at hy
        split at hy
        · cases hy
        · rename_i e
          cases hz : st.H n with
          | none => rw [hz] at hy; cases hy
          | some z =>
            rw [hz] at hy
            simp only [Option.map_some, Option.some.injEq] at hy
            subst hy
            obtain ⟨b, cap, p1, p2, p3, p4⟩ := h.heap.blk n z hz
            refine ⟨b, cap, p1, by simpa using p2, fun e he => ?_, fun hc => ?_⟩
            · obtain ⟨e', he', rfl⟩ := List.mem_map.1 he
              rw [List.length_map]; exact p3 e' he'
            · obtain ⟨arr, r1, r2, r3, r4⟩ := p4 hc
              refine ⟨arr, r1, r2, r3, fun i j c hj => ?_⟩
              have : ∃ c', nth2 z.es i j = some c' ∧ c = c'.fz m x := by
                unfold nth2 at hj ⊢
                simp only [List.getElem?_map] at hj
                cases hi : z.es[i]? with
                | none => simp [hi] at hj
                | some e =>
                  simp only [hi, Option.map_some, Option.bind_some, List.getElem?_map] at hj ⊢
                  cases hq : e[j]? with
                  | none => simp [hq] at hj
                  | some c' =>
                    simp only [hq, Option.map_some, Option.some.injEq] at hj
                    exact ⟨c', rfl, hj.symm⟩
              obtain ⟨c', h1, rfl⟩ := this
              obtain ⟨v, k1, k2⟩ := r4 i j c' h1
              exact ⟨v, k1, hC c' v k2⟩
    · exact ⟨F, ι, h⟩
  · exact ⟨F, ι, h⟩
end Go.Proofs.YtalippdhfkpbmaaDoor
