/- Rules: rows: append, make, literals. -/
import Derived.Test.YtalippdhfkpbmaaDoorEvN
import Derived.Deep.DeepAppendWide
namespace Go.Proofs.YtalippdhfkpbmaaDoor
open Go.RowKit Go
theorem run_append_room' {P : Program} (w : World) (t tx ty e : TypeId) (i : TypeInfo) (ht : P.underlying t = some (.slice e)) (hi : P.info? e = some i) (b sLen sCap : Nat) (x : Value) (n : Nat) (news : List Value) (hs : Src P i.size tx x n news w)
    (hroom : sLen + n ≤ sCap) (arr : Array Value) (hg : w.heap[b]? = some (.cells arr e (0, 0))) (hl : sLen * i.size + news.length ≤ arr.size) :
    (Builtin.append_ #[t, tx] ty #[.slice (some ⟨b, 0, none⟩) sLen sCap, x]).run P w = .ok (.slice (some ⟨b, 0, none⟩) (sLen + n) sCap) (w.setRow b (arr.toList.take (sLen * i.size) ++ news ++ arr.toList.drop (sLen * i.size + news.length)).toArray) := by
  have hst := run_storeCells_at (P := P) b (sLen * i.size) e news 0 arr w hg (by omega) hs.one
  simp only [Nat.add_zero] at hst
  rcases hs.kind with ⟨e', hk⟩ | hk <;> simp [Builtin.append_, run_underlying ht, run_underlying hk, sizeOf, typeInfo, hi, hs.len, hroom, hs.cells, Addr.add_lit, hst]
theorem HpOk.drop {β : Base} {F : Nat → Prop} {w : World} {ι : Nms} {H : Hp} {nx : Nat} (h : HpOk β F w ι H nx) (n : Nat) : HpOk β F w ι (H.set n none) nx := by
  have hset : ∀ m, H.set n none m ≠ none → m ≠ n ∧ H m ≠ none := fun m hm => by
    by_cases e : m = n
    · subst e; simp at hm
    · exact ⟨e, by rwa [Hp.set_ne _ _ e] at hm⟩
  refine ⟨h.size, h.keep, h.Flt, h.Fof, h.F0, fun m x hm => ?_, fun m b cap hm => h.own m b cap (hset m hm).2, fun m m' b c c' hm hm' => h.inj m m' b c c' (hset m hm).2 (hset m' hm').2, h.nx, h.nm, h.io⟩
  have := hset m (by rw [hm]; simp)
  rw [Hp.set_ne _ _ this.1] at hm
  exact h.blk m x hm
/-- a draw -/
theorem HpOk.drew {β : Base} {F : Nat → Prop} {w : World} {ι : Nms} {H : Hp} {nx : Nat} (h : HpOk β F w ι H nx) : HpOk β F w.drew ι H nx ∧ Env.le ⟨F, β.B⟩ ⟨F, β.B⟩ w w.drew := by
  have hle : Env.le ⟨F, β.B⟩ ⟨F, β.B⟩ w w.drew := ⟨fun _ h => h, fun _ h => h, fun _ _ => rfl, fun _ _ => rfl⟩
  exact ⟨⟨h.size, h.keep, h.Flt, h.Fof, h.F0, fun n x hn => (h.blk n x hn).keep hle (Nms.le_refl _) fun _ _ _ _ => rfl, h.own, h.inj, h.nx, h.nm, h.io.trans ⟨rfl, rfl, rfl⟩⟩, hle⟩
theorem nth2_append {α : Type} {xs ys : List (List α)} {i j : Nat} {c : α} (h : nth2 (xs ++ ys) i j = some c) : (i < xs.length ∧ nth2 xs i j = some c) ∨ (xs.length ≤ i ∧ nth2 ys (i - xs.length) j = some c) := by
  unfold nth2 at h ⊢
  by_cases hi : i < xs.length
  · rw [List.getElem?_append_left hi] at h
    exact .inl ⟨hi, h⟩
  · rw [List.getElem?_append_right (by omega)] at h
    exact .inr ⟨by omega, h⟩
/-- the row that stands behind an append: of name, k, elements -/
def baseOf (st : St) (d : D) : Option (Option Nat × List (List C)) := match d with
  | .one (.d .emp) => some (none, [])
  | .one (.own n k l) => (st.H n).bind fun x => if x.k = k ∧ l ≤ x.es.length then some (some n, x.es.take l) else none
  | _ => none
def dropO (H : Hp) : Option Nat → Hp
  | some n => H.set n none
  | none => H
theorem HpOk.dropO {β : Base} {F : Nat → Prop} {w : World} {ι : Nms} {H : Hp} {nx : Nat} (h : HpOk β F w ι H nx) (n : Option Nat) : HpOk β F w ι (Go.Proofs.YtalippdhfkpbmaaDoor.dropO H n) nx := by
  cases n with
  | none => exact h
  | some n => exact h.drop n
def St.row (st : St) (n : Option Nat) (x : Blk) : St := ⟨st.n, st.tm, (dropO st.H n).set st.nx (some x), st.nx + 1⟩
section
variable {P : Program} {qt : Bool} {o : Oper} {st : St} {K : St → Prop} {t : Nat}
theorem ev_append {ty tx : TypeId} {x y : Operand} {e : TypeId} {k by' : Nat} {zs : List Value} {ez : TypeId × Nat} {n : Option Nat} {es ns : List (List C)} (ho : o.op = .call { callee := .builtin .append, args := #[x, y], argTypes := #[ty, tx] })
    (he : elOf P ty = some (e, k)) (hk : 0 < k) (hby : byOf P e = some by') (hb1 : by' ≤ 1024) (hz : zeroOf P e = some zs) (hzl : zs.length = k) (hz1 : zs.all Value.oneCell' = true) (hex : elOf P tx = some ez)
    (hx : baseOf st (ev st x) = some (n, es)) (hbk : ∀ m b, n = some m → st.H m = some b → b.t = .c e ∧ b.k = k) (hy : srcOf st (ev st y) = some ns) (hns : ∀ d ∈ ns, d.length = k) (hbig : es.length + ns.length ≤ 100000000000) (ht : o.dst = some t) (hn : t < st.n)
    (hK : K ((st.row n ⟨.c e, k, es ++ ns⟩).put t (.one (.own st.nx k (es.length + ns.length))))) : EvO P qt o st K := by
  obtain ⟨hu, hsz⟩ := elOf_run he
  refine EvO.val ht hn (st.row n ⟨.c e, k, es ++ ns⟩) rfl _ hK fun β F ι a w h => ?_
  suffices hs : ∃ v F' ι' w', (execOp a.eval o).run P w = .ok (.value v) w' ∧ Holds β F' ι' (st.row n ⟨.c e, k, es ++ ns⟩) a w' ∧ RV ⟨F', β.B⟩ w' ι' (.one (.own st.nx k (es.length + ns.length))) v by
    obtain ⟨v, F', ι', w', q1, q2, q3⟩ := hs
    exact ⟨v, F', ι', w', q1, q2, q3, fun hq => by rw [ho] at hq; cases hq⟩
  obtain ⟨news, hsrc, hrel⟩ := src_ok h (h.ev y) hy hk hns (elOf_run (e := ez.1) (k := ez.2) hex).1 (P := P)
  have hnew : ι st.nx = none := h.heap.nx _ (Nat.le_refl _)
  obtain ⟨i, hi, hisz⟩ : ∃ i, P.info? e = some i ∧ i.size = k := by
    unfold szOf at hsz
    cases hq : P.info? e with
    | none => simp [hq] at hsz
    | some i => exact ⟨i, rfl, by simpa [hq] using hsz⟩
  have hiby : i.bytes = by' := by unfold byOf at hby; simpa [hi] using hby
  obtain ⟨z, hzz, hzc⟩ : ∃ z, i.zero = some z ∧ z.cells = zs.toArray := by
    unfold zeroOf at hz
    cases hq : i.zero with
    | none => simp [hi, hq] at hz
    | some z => refine ⟨z, rfl, ?_⟩; simp [hi, hq] at hz; rw [← hz]
  subst hisz
  have hrun : ∀ v u, a.eval x = v → a.eval y = u → ∀ r w', (Builtin.append_ #[ty, tx] o.type #[v, u]).run P w = .ok r w' → (execOp a.eval o).run P w = .ok (.value r) w' := fun v u h1 h2 r w' hr => by
    simp [execOp, ho, resolve, h1, h2, invoke, builtin, hr]
  have hnl := hsrc.newsLen
  -- a new row
  have grow : ∀ (A : Option Addr) (l cap : Nat) (olds : List Value), a.eval x = .slice A l cap → l = es.length → cap < l + ns.length → olds.length = l * i.size → (∀ v ∈ olds, v.oneCell' = true) → (∀ p j c, nth2 es p j = some c → ∃ v, olds[p * i.size + j]? = some v ∧ RC ⟨F, β.B⟩ w ι c v) → (∀ d ∈ es, d.length = i.size) →
      (Builtin.firstCells i.size l (.slice A l cap)).run P w.drew = .ok olds.toArray w.drew →
      ∃ v F' ι' w', (execOp a.eval o).run P w = .ok (.value v) w' ∧ Holds β F' ι' (st.row n ⟨.c e, i.size, es ++ ns⟩) a w' ∧ RV ⟨F', β.B⟩ w' ι' (.one (.own st.nx i.size (es.length + ns.length))) v := by
    intro A l cap olds hv hl hcap hol ho1 hor hek hfc
    subst hl
    have hfit : Builtin.nextslicecap (es.length + ns.length) cap * i.bytes ≤ 281474976710656 := by
      have h1 := nextslicecap_le_wide hcap
      have h2 : Builtin.nextslicecap (es.length + ns.length) cap * i.bytes ≤ ((es.length + ns.length) + (es.length + ns.length) / 4 + 192) * 1024 := Nat.mul_le_mul h1 (by omega)
      omega
    have hr := run_append_grow_src (P := P) w ty tx o.type e i z hu hi hzz A es.length cap olds hfc (a.eval y) ns.length news hsrc hcap (by omega) hfit
    have hge := grownCap_ge w (es.length + ns.length) cap e
    have hmx := grownCap_le_maxLen w (es.length + ns.length) cap e (by simp only [maxLen]; omega)
    generalize grownCap w (es.length + ns.length) cap e = c at hr hge hmx
    generalize hA : (olds ++ news).toArray ++ Builtin.zeroCells z.cells (c - (es.length + ns.length)) = arr at hr
    have hzs : z.cells.size = i.size := by rw [hzc]; simpa using hzl
    have hasz : arr.size = c * i.size := by
      rw [← hA, Array.size_append, size_zeroCells, hzs]
      simp only [List.size_toArray, List.length_append, hol, hnl, ← Nat.add_mul]
      congr 1; omega
    have harr1 : ∀ v ∈ arr, v.oneCell' = true := fun v hv => by
      rw [← hA] at hv
      rcases Array.mem_append.1 hv with hv | hv
      · rcases List.mem_append.1 (by simpa using hv) with hv | hv
        · exact ho1 v hv
        · exact hsrc.one v hv
      · unfold Builtin.zeroCells at hv
        obtain ⟨q, hq, rfl⟩ := Array.mem_map.1 hv
        have hpos : 0 < z.cells.size := by omega
        have hlt : q % z.cells.size < z.cells.size := Nat.mod_lt _ hpos
        have hmem : ∀ v ∈ z.cells, v ∈ zs := by rw [hzc]; simp
        have : z.cells[q % z.cells.size]! ∈ zs := by
          rw [getElem!_pos z.cells _ hlt]
          exact hmem _ (Array.getElem_mem hlt)
        exact List.all_eq_true.1 hz1 _ this
    obtain ⟨g1, g2⟩ := (h.heap.dropO n).drew
    have hcp : 0 < c := by omega
    obtain ⟨k1, k2, k3⟩ := g1.alloc (w' := w.drew.alloc (.cells arr e)) arr e i.size (es ++ ns) c hcp rfl ⟨rfl, rfl, rfl⟩ (by simp; omega) (fun d hd => by
      rcases List.mem_append.1 hd with hd | hd
      · exact hek d hd
      · exact hns d hd) hasz harr1 (fun p j cc hc => by
      have hkk : ∀ d ∈ es ++ ns, d.length = i.size := fun d hd => by
        rcases List.mem_append.1 hd with hd | hd
        · exact hek d hd
        · exact hns d hd
      have hc : nth2 (es ++ ns) p j = some cc := hc
      show ∃ v, arr[p * i.size + j]? = some v ∧ _
      have hlt : p < (es ++ ns).length ∧ j < i.size := nth2_lt hc hkk
      have harr : ∀ q, q < (olds ++ news).length → arr[q]? = (olds ++ news)[q]? := fun q hq => by
        rw [← hA, Array.getElem?_append_left (by simpa using hq)]; simp
      rcases nth2_append hc with ⟨hp, hc⟩ | ⟨hp, hc⟩
      · obtain ⟨v, q1, q2⟩ := hor p j cc hc
        have hq := (List.getElem?_eq_some_iff.1 q1).1
        refine ⟨v, ?_, q2.keep g2 (Nms.le_refl _)⟩
        rw [harr _ (by simp; omega), List.getElem?_append_left hq]; exact q1
      · obtain ⟨v, q1, q2⟩ := hrel _ j cc hc
        have hq := (List.getElem?_eq_some_iff.1 q1).1
        refine ⟨v, ?_, q2.keep g2 (Nms.le_refl _)⟩
        have e1 : p * i.size = es.length * i.size + (p - es.length) * i.size := by rw [← Nat.add_mul]; congr 1; omega
        rw [harr _ (by simp; omega), List.getElem?_append_right (by omega), ← q1]
        congr 1; omega)
    refine ⟨_, F, _, _, hrun _ _ hv rfl _ _ hr, ⟨h.good, h.defers, h.size, fun u => ((h.tm u).keep g2 (Nms.le_refl _)).keep k2 k3, k1⟩, ?_⟩
    rw [RV]
    exact ⟨w.drew.heap.size, c, by simp [Nms.set], hge, hmx, .inr ⟨hcp, rfl⟩⟩
  unfold baseOf at hx
  have hvx := h.ev x
  split at hx
  · rename_i hd
    simp only [Option.some.injEq, Prod.mk.injEq] at hx
    obtain ⟨rfl, rfl⟩ := hx
    rw [hd, RV] at hvx
    obtain ⟨A, hv⟩ : ∃ A, a.eval x = .slice A 0 0 := by
      generalize a.eval x = q at hvx
      cases hvx
      exact ⟨_, rfl⟩
    have hfc0 : (Builtin.firstCells i.size 0 (.slice A 0 0)).run P w.drew = .ok ([] : List Value).toArray w.drew := by
      cases A with
      | none => exact run_firstCells_none w.drew i.size 0 0 0
      | some ad => exact run_firstCells_some w.drew i.size 0 ad 0 0 [] (by simp) (fun j u hj => by simp at hj)
    by_cases hm : ns = []
    · subst hm
      obtain rfl : news = [] := List.eq_nil_of_length_eq_zero (by simpa using hnl)
      have hr : (Builtin.append_ #[ty, tx] o.type #[.slice A 0 0, a.eval y]).run P w = .ok (.slice A 0 0) w := by
        have hcells : (Builtin.firstCells i.size 0 (a.eval y)).run P w = .ok #[] w := hsrc.cells
        have hlen : ∀ w', (Builtin.lenOf (a.eval y)).run P w' = .ok 0 w' := hsrc.len
        rcases hsrc.kind with ⟨e', hk'⟩ | hk' <;> cases A <;> simp [Builtin.append_, run_underlying hu, run_underlying hk', sizeOf, typeInfo, hi, hlen, hcells, storeCells]
      obtain ⟨g1, g2⟩ := h.heap.adopt (x := ⟨.c e, i.size, []⟩) (b := 0) (cap := 0) ⟨0, 0, by simp [Nms.set], Nat.le_refl _, by simp, fun h => absurd h (by omega)⟩ (fun h => absurd h (by omega)) (fun _ _ _ _ _ h => absurd h (by omega))
      refine ⟨_, F, _, w, hrun _ _ hv rfl _ _ hr, ⟨h.good, h.defers, h.size, fun u => (h.tm u).keep ⟨fun _ h => h, fun _ h => h, fun _ _ => rfl, fun _ _ => rfl⟩ g2, g1⟩, ?_⟩
      rw [RV]
      exact ⟨0, 0, by simp [Nms.set], by simp, by simp [maxLen], .inl ⟨rfl, A, rfl⟩⟩
    · have : 0 < ns.length := List.length_pos_iff.2 hm
      exact grow A 0 0 [] hv rfl (by omega) (by simp) (fun v hv => by simp at hv) (fun p j c hc => by simp [nth2] at hc) (fun d hd => by simp at hd) hfc0
  · rename_i m k' l hd
    cases hH : st.H m with
    | none => simp [hH] at hx
    | some b =>
      simp only [hH, Option.bind_some] at hx
      split at hx
      · rename_i hcond
        obtain ⟨rfl, hl⟩ := hcond
        simp only [Option.some.injEq, Prod.mk.injEq] at hx
        obtain ⟨rfl, rfl⟩ := hx
        obtain ⟨hbt, hbk'⟩ := hbk m b rfl hH
        have hlen : (b.es.take l).length = l := by simp; omega
        rw [hd, RV] at hvx
        obtain ⟨bn, cap, p1, p2, p3, p4⟩ := hvx
        obtain ⟨bn', cap', q1, q2, q3, q4⟩ := h.heap.blk m b hH
        rw [p1] at q1
        simp only [Option.some.injEq, Prod.mk.injEq] at q1
        obtain ⟨rfl, rfl⟩ := q1
        have hek : ∀ d ∈ b.es.take l, d.length = i.size := fun d hd => by rw [← hbk']; exact q3 d (List.mem_of_mem_take hd)
        rcases p4 with ⟨h0, A, hv⟩ | ⟨h0, hv⟩
        · subst h0
          obtain rfl : l = 0 := Nat.le_zero.1 p2
          have hfc0 : (Builtin.firstCells i.size 0 (.slice A 0 0)).run P w.drew = .ok ([] : List Value).toArray w.drew := by
            cases A with
            | none => exact run_firstCells_none w.drew i.size 0 0 0
            | some ad => exact run_firstCells_some w.drew i.size 0 ad 0 0 [] (by simp) (fun j u hj => by simp at hj)
          by_cases hm : ns = []
          · subst hm
            obtain rfl : news = [] := List.eq_nil_of_length_eq_zero (by simpa using hnl)
            have hr : (Builtin.append_ #[ty, tx] o.type #[.slice A 0 0, a.eval y]).run P w = .ok (.slice A 0 0) w := by
              have hcells : (Builtin.firstCells i.size 0 (a.eval y)).run P w = .ok #[] w := hsrc.cells
              have hlen : ∀ w', (Builtin.lenOf (a.eval y)).run P w' = .ok 0 w' := hsrc.len
              rcases hsrc.kind with ⟨e', hk'⟩ | hk' <;> cases A <;> simp [Builtin.append_, run_underlying hu, run_underlying hk', sizeOf, typeInfo, hi, hlen, hcells, storeCells]
            obtain ⟨g1, g2⟩ := (h.heap.drop m).adopt (x := ⟨.c e, i.size, []⟩) (b := 0) (cap := 0) ⟨0, 0, by simp [Nms.set], Nat.le_refl _, by simp, fun h => absurd h (by omega)⟩ (fun h => absurd h (by omega)) (fun _ _ _ _ _ h => absurd h (by omega))
            refine ⟨_, F, _, w, hrun _ _ hv rfl _ _ hr, ⟨h.good, h.defers, h.size, fun u => (h.tm u).keep ⟨fun _ h => h, fun _ h => h, fun _ _ => rfl, fun _ _ => rfl⟩ g2, g1⟩, ?_⟩
            rw [RV]
            exact ⟨0, 0, by simp [Nms.set], by simp, by simp [maxLen], .inl ⟨rfl, A, rfl⟩⟩
          · have : 0 < ns.length := List.length_pos_iff.2 hm
            exact grow A 0 0 [] hv (by simp) (by omega) (by simp) (fun v hv => by simp at hv) (fun p j c hc => by simp [nth2] at hc) (fun d hd => by simp at hd) hfc0
        · obtain ⟨arr, r1, r2, r3, r4⟩ := q4 h0
          rw [hbk'] at r2 r4
          rw [hbt] at r1
          replace r1 : w.heap[bn]? = some (.cells arr e (0, 0)) := r1
          have hlk : l * i.size ≤ arr.size := by rw [r2]; exact Nat.mul_le_mul_right _ p2
          have hold : ∀ p j c, nth2 (b.es.take l) p j = some c → ∃ v, (arr.toList.take (l * i.size))[p * i.size + j]? = some v ∧ RC ⟨F, β.B⟩ w ι c v := fun p j c hc => by
            have hlt := nth2_lt hc hek
            rw [hlen] at hlt
            have hc' : nth2 b.es p j = some c := by
              unfold nth2 at hc ⊢
              rw [List.getElem?_take, if_pos hlt.1] at hc
              exact hc
            obtain ⟨u, g1, g2⟩ := r4 p j c hc'
            exact ⟨u, by rw [List.getElem?_take, if_pos (lt_mul hlt.1 hlt.2)]; simpa using g1, g2⟩
          by_cases hroom : l + ns.length ≤ cap
          · have hfit : l * i.size + news.length ≤ arr.size := by
              rw [hnl, ← Nat.add_mul, r2]; exact Nat.mul_le_mul_right _ hroom
            have hr := run_append_room' (P := P) w ty tx o.type e i hu hi bn l cap (a.eval y) ns.length news hsrc hroom arr r1 hfit
            generalize hL : arr.toList.take (l * i.size) ++ news ++ arr.toList.drop (l * i.size + news.length) = L at hr
            have hLl : L.length = arr.size := by rw [← hL]; simp; omega
            have hget : ∀ j, L[j]? = if l * i.size ≤ j ∧ j < l * i.size + news.length then news[j - l * i.size]? else arr[j]? := fun j => by
              rw [← hL, splice_get (by simpa using hfit)]; simp
            obtain ⟨g1, g2⟩ := h.heap.write (w' := w.setRow bn L.toArray) hH p1 h0 L.toArray ⟨.c e, i.size, b.es.take l ++ ns⟩ (fun b' hb' => setRow_other w bn b' _ hb') (by simp) ⟨rfl, rfl, rfl⟩ (setRow_heap w bn arr _ e _ r1)
              (by simp; omega) (fun d hd => by
                rcases List.mem_append.1 hd with hd | hd
                · exact hek d hd
                · exact hns d hd) (by simp only [List.size_toArray]; rw [hLl]; exact r2) (fun v hv => by
                have hv : v ∈ L := by simpa using hv
                obtain ⟨j, hj⟩ := List.getElem?_of_mem hv
                rw [hget] at hj
                split at hj
                · exact hsrc.one v (List.mem_of_getElem? hj)
                · exact r3 v (Array.mem_of_getElem? hj)) (fun p j c hc => by
                have hc : nth2 (b.es.take l ++ ns) p j = some c := hc
                show ∃ v, L.toArray[p * i.size + j]? = some v ∧ _
                simp only [List.getElem?_toArray, hget]
                have hkk : ∀ d ∈ b.es.take l ++ ns, d.length = i.size := fun d hd => by
                  rcases List.mem_append.1 hd with hd | hd
                  · exact hek d hd
                  · exact hns d hd
                have hlt : p < (b.es.take l ++ ns).length ∧ j < i.size := nth2_lt hc hkk
                rcases nth2_append hc with ⟨hp, hc⟩ | ⟨hp, hc⟩
                · rw [hlen] at hp
                  have hlt2 := lt_mul hp hlt.2
                  rw [if_neg (by omega)]
                  obtain ⟨v, q1, q2⟩ := hold p j c hc
                  exact ⟨v, by rw [List.getElem?_take, if_pos hlt2] at q1; simpa using q1, q2⟩
                · rw [hlen] at hp hc
                  obtain ⟨v, q1, q2⟩ := hrel _ j c hc
                  have hq := (List.getElem?_eq_some_iff.1 q1).1
                  have e1 : p * i.size = l * i.size + (p - l) * i.size := by rw [← Nat.add_mul]; congr 1; omega
                  rw [if_pos (by omega)]
                  exact ⟨v, by rw [← q1]; congr 1; omega, q2⟩)
            -- the block is handed on under the new name
            obtain ⟨c1, c2, c3, c4, c5⟩ := g1.blk m _ (Hp.set_same _ _ _)
            obtain ⟨bq, capq, cq1, cq2⟩ : ∃ bq capq, ι m = some (bq, capq) ∧ (bq = bn ∧ capq = cap) := ⟨bn, cap, p1, rfl, rfl⟩
            have hmx : m ≠ st.nx := fun e => by rw [e, hnew] at p1; cases p1
            have hblk := g1.blk m _ (Hp.set_same _ _ _)
            have hd := g1.drop m
            have hRB : RB ⟨F, β.B⟩ (w.setRow bn L.toArray) (ι.set st.nx (bn, cap)) st.nx ⟨.c e, i.size, b.es.take l ++ ns⟩ := by
              obtain ⟨b1, c1, d1, d2, d3, d4⟩ := hblk
              rw [p1] at d1
              simp only [Option.some.injEq, Prod.mk.injEq] at d1
              obtain ⟨rfl, rfl⟩ := d1
              refine ⟨bn, cap, by simp [Nms.set], d2, d3, fun hc => ?_⟩
              obtain ⟨arr', f1, f2, f3, f4⟩ := d4 hc
              exact ⟨arr', f1, f2, f3, fun p j c hj => let ⟨v, s1, s2⟩ := f4 p j c hj; ⟨v, s1, s2.keep ⟨fun _ h => h, fun _ h => h, fun _ _ => rfl, fun _ _ => rfl⟩ (Nms.le_set hnew)⟩⟩
            obtain ⟨s1, s2⟩ := hd.adopt (b := bn) (cap := cap) hRB (fun _ => by
                have := g1.own m bn cap (by simp) p1 h0
                exact this) (fun n' c hn' hb' hc' _ => by
                by_cases e' : n' = m
                · subst e'; simp at hn'
                · rw [Hp.set_ne _ _ e', Hp.set_ne _ _ e'] at hn'
                  exact e' (h.heap.inj n' m bn c cap hn' (by rw [hH]; simp) hb' p1 hc' h0))
            have hHeq : ((st.H.set m (some ⟨.c e, i.size, b.es.take l ++ ns⟩)).set m none) = st.H.set m none := by
              funext q
              by_cases hq : q = m
              · subst hq; simp
              · simp [Hp.set_ne _ _ hq]
            rw [hHeq] at s1
            refine ⟨_, F, _, _, hrun _ _ hv rfl _ _ hr, ⟨h.good, h.defers, h.size, fun u => ((h.tm u).keep g2 (Nms.le_refl _)).keep ⟨fun _ h => h, fun _ h => h, fun _ _ => rfl, fun _ _ => rfl⟩ s2, s1⟩, ?_⟩
            rw [RV]
            exact ⟨bn, cap, by simp [Nms.set], by rw [hlen]; exact hroom, p3, .inr ⟨h0, by rw [hlen]⟩⟩
          · have hfc : (Builtin.firstCells i.size l (.slice (some ⟨bn, 0, none⟩) l cap)).run P w.drew = .ok (arr.toList.take (l * i.size)).toArray w.drew :=
              run_firstCells_some w.drew i.size l ⟨bn, 0, none⟩ l cap _ (by simp; omega) (fun j u hj => by
                rw [Addr.add_mid, Nat.zero_add]
                rw [List.getElem?_take] at hj
                split at hj
                · show w.cell? _ = _
                  simp only [World.cell?, r1]; simpa using hj
                · cases hj)
            exact grow _ l cap _ hv hlen.symm (by omega) (by simp; omega) (fun v hv => r3 v (by simpa using List.mem_of_mem_take hv)) hold hek hfc
      · cases hx
  · cases hx
end
end Go.Proofs.YtalippdhfkpbmaaDoor
