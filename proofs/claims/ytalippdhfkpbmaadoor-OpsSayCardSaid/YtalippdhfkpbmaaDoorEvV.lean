/- What is left to show of a walk, computed: operations, regions, code. -/
import Derived.Test.YtalippdhfkpbmaaDoorEvS
namespace Go.Proofs.YtalippdhfkpbmaaDoor
open Go.RowKit Go
/-- no functions stand where simp would enter them -/
def putK (st : St) (o : Oper) (s' : St) (d : D) (K : St → Prop) : Prop := match o.dst with
  | some t => t < st.n ∧ K (s'.put t d)
  | none => False
def callK (st : St) (t : Option Nat) (K : St → Prop) (d : D) (fr : List Blk) : Prop := K ((st.adds fr).putO t (d.ren (· + st.nx)))
def onlyK (ks : List Nat) (K : Exit → St → Prop) (st : St) : Prop := K .normal (st.only ks)
/-- operations that only read: those that give the same in whatever world -/
def freeO : Op → Bool
  | .load .. => false
  | .lookup .. => false
  | _ => true
def vcLen (P : Program) (st : St) (x : Operand) (ty : TypeId) (K : D → Prop) : Prop := match litOf (ev st x) with
  | some (.string s) => isStr P ty = true ∧ K (.one (.d (.lit (.int .i64 s.size))))
  | _ => match elOf P ty, lenOf? (ev st x) with
    | some _, some n => n ≤ 9223372036854775807 → K (.one (.d (.lit (.int .i64 n))))
    | _, _ => False
def vcS (P : Program) (st : St) (o : Op) (K : D → Prop) : Prop := match o with
  | .move x => K (ev st x)
  | .assign x => K (ev st x)
  | .pick c x y => match ev st c with
    | .one (.d (.lit (.bool b))) => K (if b then ev st x else ev st y)
    | _ => False
  | .load ty x => match rowT P ty, rd st x with
    | some false, some cs => match cs.head? with
      | some c => K (.one c)
      | none => False
    | some true, some cs => match szOf P ty with
      | some k => k ≤ cs.length ∧ K (.agg (cs.take k))
      | none => False
    | _, _ => False
  | .nilCheck x => match ev st x, rd st x with
    | .one c, some _ => K (.one c)
    | _, _ => False
  | .fieldAddr s x f => match ev st x, fldOf P s f with
    | .one c, some (off, k) => match fieldA c off with
      | some c' => 0 < k ∧ K (.one c')
      | none => False
    | _, _ => False
  | .indexAddr ty x y => match ev st x, intOf? (ev st y) with
    | .one c, some n => match elOf P ty with
      | some (_, z) => 0 ≤ n ∧ match idxA c n.toNat z with
        | some c' => K (.one c')
        | none => False
      | none => match arrOf P ty with
        | some (m, _, k, _) => 0 ≤ n ∧ n < m ∧ match fieldA c (n.toNat * k) with
          | some c' => K (.one c')
          | none => False
        | none => False
    | _, _ => False
  | .binOp op ty x y _ => match litOf (ev st x), litOf (ev st y) with
    | some (.bool p), some (.bool q) => (op = .eql ∨ op = .neq) ∧ boolT P ty = true ∧ K (.one (.d (.lit (.bool (if op = .eql then p == q else p != q)))))
    | some u, some v => match sc op u v with
      | some r => K (.one (.d (.lit r)))
      | none => False
    | _, _ => match (aggOf (ev st x)).bind intsOf, (aggOf (ev st y)).bind intsOf with
      | some l, some m => (op = .eql ∨ op = .neq) ∧ EqI P ty l.length ∧ l.length = m.length ∧ K (.one (.d (.lit (.bool (if op = .eql then decide (l = m) else !decide (l = m))))))
      | _, _ => False
  | .unOp .not _ x => match litOf (ev st x) with
    | some (.bool b) => K (.one (.d (.lit (.bool (!b)))))
    | _ => False
  | .unOp .neg _ x => match litOf (ev st x) with
    | some (.int k n) => K (.one (.d (.lit (.int k (k.wrap (0 - n))))))
    | some (.float k n) => K (.one (.d (.lit (.float k (Op.negFloat k n)))))
    | _ => False
  | .lookup ty x y false => match mapOf st (ev st x), mapT P ty, keyD (ev st y) with
    | some (_, kt, f, _), some kt', some u => P = Tryd.prog ∧ kt' = kt ∧ Go.Maps.Keyed Tryd.prog kt ∧ KeyIn kt u ∧ K (.one (.d (.lit (.int .i64 (f u)))))
    | _, _, _ => False
  | .convert s d x => match litOf (ev st x), intT P s, intT P d with
    | some (.int k n), some k1, some k2 => k = k1 ∧ K (.one (.d (.lit (.int k2 (k2.wrap n)))))
    | _, _, _ => False
  | .extract x i => match ev st x with
    | .tup ds => match ds[i]? with
      | some d => K d
      | none => False
    | _ => False
  | .slice ty x lo hi none => match ev st x, elOf P ty with
    | .one c, some (_, z) => match lenOf? (.one c) with
      | some l => match optInt st lo 0, optInt st hi l with
        | some i, some j => 0 ≤ i ∧ i ≤ j ∧ j ≤ l ∧ (∀ S es, c = .d (.sl S es) → ∀ e ∈ es, e.length = z) ∧ match subC c i.toNat j.toNat with
          | some c' => K (.one c')
          | none => False
        | _, _ => False
      | none => False
    | _, _ => False
  | .field s x f => match ev st x, ftyOf P s f with
    | .agg cs, some (off, k, row) => match partD cs off k row with
      | some d => K d
      | none => False
    | _, _ => False
  | .index ty x y => match intOf? (ev st y) with
    | some i => match ev st x with
      | .agg cs => match arrOf P ty with
        | some (n, _, k, b) => 0 ≤ i ∧ i < n ∧ match partD cs (i.toNat * k) k b with
          | some d => K d
          | none => False
        | none => False
      | .one (.d (.lit (.string s))) => isStr P ty = true ∧ 0 ≤ i ∧ match s.data.toList[i.toNat]? with
        | some c => K (.one (.d (.lit (.int .u8 c.toNat))))
        | none => False
      | _ => False
    | none => False
  | .build ty parts => match zeroOf P ty with
    | some zs => zs.all Value.oneCell' = true ∧ match fldsOf P ty, arrOf P ty with
      | some pl, _ => match layC (fun i => pl[i]?) st parts.toList (zs.map fun v => .d (cellOf v)) with
        | some r => K (.agg r)
        | none => False
      | none, some (_, _, k, _) => match layC (fun i => some (i * k, k)) st parts.toList (zs.map fun v => .d (cellOf v)) with
        | some r => K (.agg r)
        | none => False
      | _, _ => False
    | none => False
  | .call c => match c.callee with
    | .builtin .len => match c.args.toList, c.argTypes.toList with
      | [x], [ty] => vcLen P st x ty K
      | _, _ => False
    | _ => False
  | _ => False
/-- what a reading comes to, in whatever the state shows -/
def Reading (P : Program) (o : Oper) (st : St) (K : D → Prop) : Prop := (∃ d, K d ∧ EvS P o st d (freeO o.op)) ∨ ∀ β F ι a w, ¬ Holds β F ι st a w
theorem Reading.mk {P : Program} {o : Oper} {st : St} {K : D → Prop} {d : D} {fr : Bool} (hK : K d) (h : EvS P o st d fr) (hf : freeO o.op = fr) : Reading P o st K := .inl ⟨d, hK, by rw [hf]; exact h⟩
theorem vcS_ok {P : Program} {st : St} {o : Oper} {K : D → Prop} (h : vcS P st o.op K) : Reading P o st K := by
  unfold vcS at h
  split at h
  · rename_i ho; exact .mk h (ev_move (.inl ho)) (by rw [ho]; rfl)
  · rename_i ho; exact .mk h (ev_move (.inr ho)) (by rw [ho]; rfl)
  · rename_i ho
    split at h
    · rename_i hc; exact .mk h (ev_pick ho hc) (by rw [ho]; rfl)
    · exact h.elim
  · rename_i ho
    split at h
    · rename_i cs h0 hr
      cases cs with
      | nil => exact h.elim
      | cons c cs => exact .mk h (ev_load_one ho hr h0) (by rw [ho]; rfl)
    · rename_i h0 hr
      split at h
      · rename_i hk; exact .mk h.2 (ev_load_agg ho hr h0 hk h.1) (by rw [ho]; rfl)
      · exact h.elim
    · exact h.elim
  · rename_i ho
    split at h
    · rename_i hx hr; exact .mk h (ev_nilCheck ho hx ⟨_, hr⟩) (by rw [ho]; rfl)
    · exact h.elim
  · rename_i ho
    split at h
    · rename_i hx hf
      split at h
      · rename_i hc; exact .mk h.2 (ev_fieldAddr ho hx hf h.1 hc) (by rw [ho]; rfl)
      · exact h.elim
    · exact h.elim
  · rename_i ho
    split at h
    · rename_i hx hy
      split at h
      · rename_i he
        obtain ⟨h0, h⟩ := h
        split at h
        · rename_i hc; exact .mk h (ev_indexAddr ho hx hy h0 he hc) (by rw [ho]; rfl)
        · exact h.elim
      · split at h
        · rename_i ha
          obtain ⟨h0, h1, h⟩ := h
          split at h
          · rename_i hc; exact .mk h (ev_indexArr ho hx hy ha h0 h1 hc) (by rw [ho]; rfl)
          · exact h.elim
        · exact h.elim
    · exact h.elim
  · rename_i ho
    split at h
    · rename_i hx hy
      exact .mk h.2.2 (ev_eqB ho h.1 h.2.1 hx hy) (by rw [ho]; rfl)
    · rename_i hx hy
      split at h
      · rename_i hr; exact .mk h (ev_binOp ho hx hy hr) (by rw [ho]; rfl)
      · exact h.elim
    · split at h
      · rename_i hx hy
        obtain ⟨hop, hE, hlm, h⟩ := h
        obtain ⟨cs, g1, g2⟩ := Option.bind_eq_some_iff.1 hx
        obtain ⟨ds, g3, g4⟩ := Option.bind_eq_some_iff.1 hy
        exact .mk h (ev_eqI ho hop hE g1 g3 g2 g4 rfl hlm.symm) (by rw [ho]; rfl)
      · exact h.elim
  · rename_i ho
    split at h
    · rename_i hx; exact .mk h (ev_not ho hx) (by rw [ho]; rfl)
    · exact h.elim
  · rename_i ho
    split at h
    · rename_i hx; exact .mk h (ev_neg ho hx) (by rw [ho]; rfl)
    · rename_i hx; exact .mk h (ev_negF ho hx) (by rw [ho]; rfl)
    · exact h.elim
  · rename_i ho
    split at h
    · rename_i hx ht hy
      obtain ⟨rfl, rfl, hk, hi, h⟩ := h
      exact .mk h (ev_lookup ho hx ht hy hk hi) (by rw [ho]; rfl)
    · exact h.elim
  · rename_i ho
    split at h
    · rename_i hx hs hd; obtain ⟨rfl, h⟩ := h; exact .mk h (ev_conv ho hx hs hd) (by rw [ho]; rfl)
    · exact h.elim
  · rename_i ho
    split at h
    · rename_i hx
      split at h
      · rename_i hd; exact .mk h (ev_extract ho hx hd) (by rw [ho]; rfl)
      · exact h.elim
    · exact h.elim
  · rename_i ho
    split at h
    · rename_i hx he
      split at h
      · rename_i hl
        split at h
        · rename_i hlo hhi
          obtain ⟨a1, a2, a3, a4, h⟩ := h
          split at h
          · rename_i hs; exact .mk h (ev_slice ho hx he hl hlo hhi a1 a2 a3 a4 hs) (by rw [ho]; rfl)
          · exact h.elim
        · exact h.elim
      · exact h.elim
    · exact h.elim
  · rename_i ho
    split at h
    · rename_i hx hf
      split at h
      · rename_i hd; exact .mk h (ev_field ho hx hf hd) (by rw [ho]; rfl)
      · exact h.elim
    · exact h.elim
  · rename_i ho
    split at h
    · rename_i hy
      split at h
      · rename_i hx
        split at h
        · rename_i ha
          obtain ⟨a1, a2, h⟩ := h
          split at h
          · rename_i hd; exact .mk h (ev_index ho hx hy ha a1 a2 hd) (by rw [ho]; rfl)
          · exact h.elim
        · exact h.elim
      · rename_i hx
        obtain ⟨a1, a2, h⟩ := h
        split at h
        · rename_i hc; exact .mk h (ev_indexS ho (by rw [hx]; rfl) hy a1 a2 hc) (by rw [ho]; rfl)
        · exact h.elim
      · exact h.elim
    · exact h.elim
  · rename_i ho
    split at h
    · rename_i hz
      obtain ⟨a1, h⟩ := h
      split at h
      · rename_i hf
        split at h
        · rename_i hl; exact .mk h (ev_build ho hf hz a1 hl) (by rw [ho]; rfl)
        · exact h.elim
      · rename_i hf ha
        split at h
        · rename_i hl; exact .mk h (ev_buildA ho ha hz a1 hl) (by rw [ho]; rfl)
        · exact h.elim
      · exact h.elim
    · exact h.elim
  · rename_i c ho
    obtain ⟨ce, args, tys⟩ := c
    simp only at h
    split at h
    · split at h
      · rename_i x ty hxs hts
        obtain rfl : args = #[x] := by apply Array.ext'; simpa using hxs
        obtain rfl : tys = #[ty] := by apply Array.ext'; simpa using hts
        unfold vcLen at h
        split at h
        · rename_i hx; exact .mk h.2 (ev_lenS ho h.1 hx) (by rw [ho]; rfl)
        · split at h
          · rename_i nn he hx
            by_cases hb : nn ≤ 9223372036854775807
            · exact .mk (h hb) (ev_len ho he hx) (by rw [ho]; rfl)
            · exact .inr fun β F ι a w hh => absurd (lenOf_ok (hh.ev x) hx).choose_spec.choose_spec.2 hb
          · exact h.elim
      · exact h.elim
    · exact h.elim
  · exact h.elim
theorem Reading.toO {P : Program} {qt : Bool} {o : Oper} {st : St} {K : St → Prop} {s0 : St} (hs : s0.n = st.n) (h : Reading P o st fun d => putK s0 o st d K) : EvO P qt o st K := by
  rcases h with ⟨d, hK, he⟩ | h
  · unfold putK at hK
    split at hK
    · rename_i t ht; exact he.toO ht (by rw [← hs]; exact hK.1) hK.2
    · exact hK.elim
  · exact fun β F ι a w hh => (h β F ι a w hh).elim
def putD (st : St) (o : Oper) (K : St → Prop) (d : D) : Prop := putK st o st d K
def vcApp (P : Program) (st : St) (o : Oper) (x y : Operand) (ty tx : TypeId) (K : St → Prop) : Prop := match elOf P ty, elOf P tx, baseOf st (ev st x), srcOf st (ev st y) with
  | some (e, k), some _, some (n, es), some ns => match byOf P e, zeroOf P e with
    | some bt, some zs => 0 < k ∧ bt ≤ 1024 ∧ zs.length = k ∧ zs.all Value.oneCell' = true ∧ (∀ m b, n = some m → st.H m = some b → b.t = .c e ∧ b.k = k) ∧ (∀ d ∈ ns, d.length = k) ∧ es.length + ns.length ≤ 100000000000 ∧
      putK st o (st.row n ⟨.c e, k, es ++ ns⟩) (.one (.own st.nx k (es.length + ns.length))) K
    | _, _ => False
  | _, _, _, _ => False
def vcExt (P : Program) (st : St) (o : Oper) (f : FuncId) (fs cs : List Dt) (xs : List Operand) (K : St → Prop) (L : Prop) : Prop := match ext st f xs with
  | some r => P = Tryd.prog ∧ fs = [] ∧ cs = [] ∧ putK st o st (.one (.d (.lit r))) K
  | none => L
def vcC0 (P : Program) (st : St) (o : Oper) (x : Operand) (xs : List Operand) (K : St → Prop) : Prop := match ev st x with
  | .one (.d (.fn (.func f) fs cs)) => match lends st.H (callArgs st fs cs xs) with
    | some ds => (∀ t, o.dst = some t → t < st.n) ∧ DPure P f ds (callK st o.dst K)
    | none => False
  | _ => False
/-- what can't be lent as it is: some of it may be given up as memory of the walk's own -/
def vcFz (P : Program) (st : St) (o : Oper) (x : Operand) (xs : List Operand) (K : St → Prop) : Prop := ∃ st', st'.n = st.n ∧ Wk st st' ∧ vcC0 P st' o x xs K
def vcC (P : Program) (st : St) (o : Oper) (x : Operand) (xs : List Operand) (K : St → Prop) : Prop := match ev st x with
  | .one (.d (.fn (.func f) fs cs)) => vcExt P st o f fs cs xs K <| match lends st.H (callArgs st fs cs xs) with
    | some ds => (∀ t, o.dst = some t → t < st.n) ∧ DPure P f ds (callK st o.dst K)
    | none => vcFz P st o x xs K
  | _ => False
def hasPtr : D → Bool
  | .one (.ptr _ _ _ _) => true
  | .agg cs => cs.any fun c => match c with
    | .ptr _ _ _ _ => true
    | _ => false
  | _ => false
def vcCI (P : Program) (st : St) (o : Oper) (x : Operand) (xs : List Operand) (K : St → Prop) : Prop := match ev st x with
  | .one (.d (.fn (.func f) fs cs)) => match xs.any fun x => hasPtr (ev st x) with
    | true => (∀ t, o.dst = some t → t < st.n) ∧ ICall P f (callArgs st fs cs xs) st.H st.nx (callKI st o.dst K)
    | false => vcC P st o x xs K
  | _ => False
def vcNil (P : Program) (st : St) (o : Oper) (op : BinOp) (ty : TypeId) (x : Operand) (K : St → Prop) : Prop := match ev st x, elOf P ty with
  | .one c, some _ => match lenOf? (.one c) with
    | some n => (op = .eql ∨ op = .neq) ∧ (n = 0 → putK st o st (.one (.d (.lit (.bool (decide (op = .eql)))))) K) ∧ putK st o st (.one (.d (.lit (.bool (decide (op = .neq)))))) K
    | none => False
  | _, _ => False
def isNilC : Operand → Bool
  | .const (.slice none 0 0) => true
  | _ => false
theorem isNilC_ok {x : Operand} (h : isNilC x = true) : x = .const (.slice none 0 0) := by
  unfold isNilC at h
  split at h
  · rfl
  · cases h
def vcFlt (op : BinOp) (p q : Nat) (K : D → Prop) : Prop := (∀ r, floatBits op .f64 p q = some r → K (.one (.d (.lit (.float .f64 r))))) ∧ (floatBits op .f64 p q = none → ∀ r, isNum r = false → K (.one (.d (.lit (.float .f64 r)))))
theorem putD_out {st : St} {o : Oper} {K : St → Prop} {d : D} {t : Nat} (h : putD st o K d) (ht : o.dst = some t) : K (st.put t d) := by
  unfold putD putK at h
  rw [ht] at h
  exact h.2
noncomputable def vcOp (P : Program) (qt : Bool) (st : St) (o : Oper) (K : St → Prop) : Prop := match o.op with
  | .binOp op ty x y _ => match isNilC y with
    | true => vcNil P st o op ty x K
    | false => match fltA op (litOf (ev st x)) (litOf (ev st y)) with
      | some (p, q) => vcFlt op p q (putD st o K)
      | none => vcS P st o.op (putD st o K)
  | .makeMap ty none => match mapT P ty with
    | some kt => P = Tryd.prog ∧ putK st o (st.newMap kt) (.one (.map st.nx)) K
    | none => False
  | .mapUpdate ty x y z => match mapOf st (ev st x), mapT P ty, keyD (ev st y), litOf (ev st z) with
    | some (n, kt, f, c), some kt', some u, some (.int .i64 v) => P = Tryd.prog ∧ kt' = kt ∧ Go.Maps.Keyed Tryd.prog kt ∧ KeyIn kt u ∧ (Lit.int .i64 v).wf = true ∧ c < 100000000000 ∧ o.dst = none ∧ K ⟨st.n, st.tm, st.H.set n (some ⟨.m kt (fun k => if k = u then v else f k) (c + 1), 0, []⟩), st.nx⟩
    | _, _, _, _ => False
  | .box ty x => match Dcells (ev st x) with
    | some cs => putK st o (st.newVar ty cs) (.one (.ptr st.nx cs.length 0 0)) K
    | none => False
  | .alloc ty => match zeroOf P ty with
    | some zs => zs.all Value.oneCell' = true ∧ putK st o (st.newVar ty (zs.map fun v => .d (cellOf v))) (.one (.ptr st.nx (zs.map fun v => C.d (cellOf v)).length 0 0)) K
    | none => False
  | .store ty x y => match ev st x, Dcells (ev st y), szOf P ty with
    | .one (.ptr n k i of), some cs, some z => match st.H n with
      | some b => match b.t, b.es[i]? with
        | .c bt, some e => b.k = k ∧ z = cs.length ∧ of + cs.length ≤ e.length ∧ o.dst = none ∧ K ⟨st.n, st.tm, st.H.set n (some ⟨.c bt, b.k, b.es.set i (splice e of cs)⟩), st.nx⟩
        | _, _ => False
      | none => False
    | _, _, _ => False
  | .makeFunc fn xs ys => match dsOf (st.frzs (ys.toList.flatMap fun y => ptrOf (ev st y))) xs.toList, dsOf (st.frzs (ys.toList.flatMap fun y => ptrOf (ev st y))) ys.toList with
    | some fs, some cs => putK st o (st.frzs (ys.toList.flatMap fun y => ptrOf (ev st y))) (.one (.d (.fn fn fs cs))) K
    | _, _ => False
  | .buildSlice ty len parts => match elOf P ty with
    | some (e, k) => (len = 0 → parts.toList = [] ∧ putK st o st (.one (.d .emp)) K) ∧ (0 < len → match zeroOf P e with
      | some zs => zs.length = k ∧ 0 < k ∧ zs.all Value.oneCell' = true ∧ 0 < len ∧ len * k ≤ 16777216 ∧ match layE st k parts.toList (List.replicate len (zs.map fun v => .d (cellOf v))) with
        | some r => putK st o (st.row none ⟨.c e, k, r⟩) (.one (.own st.nx k len)) K
        | none => False
      | none => False)
    | none => False
  | .makeSlice ty x y => match elOf P ty, intOf? (ev st x), intOf? (ev st y) with
    | some (e, k), some m, some m' => match zeroOf P e, byOf P e with
      | some zs, some bt => m = m' ∧ zs.length = k ∧ 0 < k ∧ zs.all Value.oneCell' = true ∧ bt ≤ 1024 ∧ 0 ≤ m ∧ m ≤ 100000000000 ∧ putK st o (st.row none ⟨.c e, k, List.replicate m.toNat (zs.map fun v => .d (cellOf v))⟩) (.one (.own st.nx k m.toNat)) K
      | _, _ => False
    | _, _, _ => False
  | .call c => match c.callee with
    | .builtin .append => match c.args.toList, c.argTypes.toList with
      | [x, y], [ty, tx] => vcApp P st o x y ty tx K
      | _, _ => False
    | .value x => match qt with
      | true => vcC P st o x c.args.toList K
      | false => vcCI P st o x c.args.toList K
    | _ => vcS P st o.op (putD st o K)
  | _ => vcS P st o.op (putD st o K)
theorem dstP_out {st s' : St} {o : Oper} {d : D} {K : St → Prop} (h : putK st o s' d K) : ∃ t, o.dst = some t ∧ t < st.n ∧ K (s'.put t d) := by
  unfold putK at h
  split at h
  · rename_i t ht; exact ⟨t, ht, h⟩
  · exact h.elim
theorem vcC0_ok {P : Program} {qt : Bool} {st : St} {o : Oper} {K : St → Prop} {x : Operand} {args : Array Operand} {tys : Array TypeId} (ho : o.op = .call { callee := .value x, args := args, argTypes := tys }) (h : vcC0 P st o x args.toList K) : EvO P qt o st K := by
  unfold vcC0 at h
  split at h
  · rename_i hx
    split at h
    · rename_i hd; exact ev_call ho hx hd h.1 h.2
    · exact h.elim
  · exact h.elim
theorem vcC_ok {P : Program} {qt : Bool} {st : St} {o : Oper} {K : St → Prop} {x : Operand} {args : Array Operand} {tys : Array TypeId} (ho : o.op = .call { callee := .value x, args := args, argTypes := tys }) (h : vcC P st o x args.toList K) : EvO P qt o st K := by
  unfold vcC at h
  split at h
  · rename_i hx
    unfold vcExt at h
    split at h
    · rename_i he
      obtain ⟨rfl, rfl, rfl, h⟩ := h
      exact Reading.toO (s0 := st) rfl (.inl ⟨_, h, by rw [show freeO o.op = true by rw [ho]; rfl]; exact ev_ext ho hx he⟩)
    split at h
    · rename_i hd; exact ev_call ho hx hd h.1 h.2
    · obtain ⟨st', -, hw, h⟩ := h
      exact (vcC0_ok ho h).weak hw
  · exact h.elim
theorem vcOp_ok {P : Program} {qt : Bool} {st : St} {o : Oper} {K : St → Prop} (h : vcOp P qt st o K) : EvO P qt o st K := by
  unfold vcOp at h
  split at h
  · rename_i op ty x y yt ho
    split at h
    · rename_i hy
      obtain rfl := isNilC_ok hy
      unfold vcNil at h
      split at h
      · rename_i hx he
        split at h
        · rename_i hl
          obtain ⟨a1, a2, a3⟩ := h
          obtain ⟨t, h1, h2, h3⟩ := dstP_out a3
          exact ev_eqNil ho a1 he hx hl h1 h2 (fun e => by
            obtain ⟨t', g1, g2, g3⟩ := dstP_out (a2 e)
            rw [h1] at g1
            cases g1
            exact g3) h3
        · exact h.elim
      · exact h.elim
    · split at h
      · rename_i p q hf
        cases hd : o.dst with
        | none =>
          exfalso
          cases hb : floatBits op .f64 p q with
          | some r => have := h.1 r hb; unfold putD putK at this; rw [hd] at this; exact this
          | none =>
            have := h.2 hb 9218868437227405313 (by decide)
            unfold putD putK at this; rw [hd] at this; exact this
        | some t =>
          have hlt : t < st.n := by
            cases hb : floatBits op .f64 p q with
            | some r => have := h.1 r hb; unfold putD putK at this; rw [hd] at this; exact this.1
            | none =>
              have := h.2 hb 9218868437227405313 (by decide)
              unfold putD putK at this; rw [hd] at this; exact this.1
          exact ev_floatA ho hf hd hlt (fun r hr => putD_out (h.1 r hr) hd) (fun hr r hn => putD_out (h.2 hr r hn) hd)
      · exact Reading.toO rfl (vcS_ok h)
  · rename_i ho
    split at h
    · rename_i ht
      obtain ⟨rfl, h⟩ := h
      obtain ⟨t, h1, h2, h3⟩ := dstP_out h
      exact ev_makeMap ho h1 h2 h3
    · exact h.elim
  · rename_i ho
    split at h
    · rename_i hx ht hy hz
      obtain ⟨rfl, rfl, hk, hi, hv, hc, hd, h⟩ := h
      exact ev_mapUpdate ho hx ht hy hz hk hi hv hc hd h
    · exact h.elim
  · rename_i ho
    split at h
    · rename_i hx; obtain ⟨t, h1, h2, h3⟩ := dstP_out h; exact ev_box ho hx h1 h2 h3
    · exact h.elim
  · rename_i ho
    split at h
    · rename_i hz; obtain ⟨h0, h⟩ := h; obtain ⟨t, h1, h2, h3⟩ := dstP_out h; exact ev_alloc ho hz h0 h1 h2 h3
    · exact h.elim
  · rename_i ho
    split at h
    · rename_i hx hy hz
      split at h
      · rename_i hb
        split at h
        · rename_i hbt he; obtain ⟨hk, rfl, hl, ht, h⟩ := h; exact ev_store ho hx hb hbt hk he hy hz hl ht h
        · exact h.elim
      · exact h.elim
    · exact h.elim
  · rename_i ho
    split at h
    · rename_i hx hy
      obtain ⟨t, h1, h2, h3⟩ := dstP_out h
      exact ((ev_makeFunc ho hx hy).toO h1 (by rw [frzs_n]; exact h2) h3).weak (Wk.frzs _ _)
    · exact h.elim
  · rename_i ty len parts ho
    split at h
    · rename_i he
      by_cases hl0 : len = 0
      · subst hl0
        obtain ⟨g1, g2⟩ := h.1 rfl
        obtain ⟨t, h1, h2, h3⟩ := dstP_out g2
        exact ev_buildSlice0 ho g1 he h1 h2 h3
      have h := h.2 (by omega)
      split at h
      · rename_i hz
        obtain ⟨a1, a2, a3, a4, a5, h⟩ := h
        split at h
        · rename_i hl; obtain ⟨t, h1, h2, h3⟩ := dstP_out h; exact ev_buildSlice ho he hz a1 a2 a3 a4 a5 hl h1 h2 h3
        · exact h.elim
      · exact h.elim
    · exact h.elim
  · rename_i ho
    split at h
    · rename_i he hx hy
      split at h
      · rename_i hz hb
        obtain ⟨rfl, a1, a2, a3, a4, a5, a6, h⟩ := h
        obtain ⟨t, h1, h2, h3⟩ := dstP_out h
        exact ev_makeSlice ho he hz a1 a2 a3 hb a4 hx hy a5 a6 h1 h2 h3
      · exact h.elim
    · exact h.elim
  · rename_i c ho
    obtain ⟨ce, args, tys⟩ := c
    simp only at h
    split at h
    · split at h
      · rename_i x y ty tx hxs hts
        obtain rfl : args = #[x, y] := by apply Array.ext'; simpa using hxs
        obtain rfl : tys = #[ty, tx] := by apply Array.ext'; simpa using hts
        unfold vcApp at h
        split at h
        · rename_i he hex hx hy
          split at h
          · rename_i hb hz
            obtain ⟨a1, a2, a3, a4, a5, a6, a7, h⟩ := h
            obtain ⟨t, h1, h2, h3⟩ := dstP_out h
            exact ev_append ho he a1 hb a2 hz a3 a4 hex hx a5 hy a6 a7 h1 h2 h3
          · exact h.elim
        · exact h.elim
      · exact h.elim
    · split at h
      · exact vcC_ok ho h
      · unfold vcCI at h
        split at h
        · rename_i hx
          split at h
          · exact ev_icall ho hx h.1 h.2
          · exact vcC_ok ho h
        · exact h.elim
    · exact Reading.toO rfl (vcS_ok h)
  · exact Reading.toO rfl (vcS_ok h)
def dstLt (n : Nat) : Option Nat → Bool
  | some t => decide (t < n)
  | none => true
theorem dstLt_iff {n : Nat} {d : Option Nat} (h : dstLt n d = true) : ∀ t, d = some t → t < n := by
  cases d with
  | none => intro t e; cases e
  | some t => intro u e; cases e; simpa [dstLt] using h
def vcL (P : Program) (l : List Oper) (K : St → Prop) : List Oper → St → Prop
  | [], st => K st
  | o :: rest, st => match o.guard with
    | none => dstLt st.n o.dst = true ∧ vcOp P false st o (vcL P l K rest)
    | some _ => match gd l st o with
      | some (x, y, d) => dstLt st.n o.dst = true ∧ (if x = y then vcOp P false (st.told d y) o (vcL P l K rest) else vcL P l K rest ((st.told d (!y)).skip o))
      | none => False
theorem EvO.mono {P : Program} {qt : Bool} {o : Oper} {st : St} {K K' : St → Prop} (h : EvO P qt o st K) (hk : ∀ st, K st → K' st) : EvO P qt o st K' := fun β F ι a w hh next Q hn => h β F ι a w hh next Q fun F' ι' st' v w' ho h1 h2 => hn F' ι' st' v w' ho h1 (hk _ h2)
theorem alt_if {x y : Bool} {A B : Prop} (h : if x = y then A else B) : (x = y → A) ∧ (x = !y → B) := by
  cases x <;> cases y <;> simp_all
theorem vcL_ok {P : Program} {l : List Oper} {K : St → Prop} : ∀ {rest : List Oper} {st : St}, vcL P l K rest st → EvL P l rest K st
  | [], st, h => evl_nil h
  | o :: rest, st, h => by
    unfold vcL at h
    split at h
    · rename_i hg
      exact evl_if (d := none) (x := true) (y := true) (by simp [gd, hg]) (dstLt_iff h.1) (fun _ => (vcOp_ok h.2).mono fun st h => vcL_ok h) (fun e => by cases e)
    · split at h
      · rename_i x y d hg
        exact evl_if hg (dstLt_iff h.1) (fun e => (vcOp_ok ((alt_if h.2).1 e)).mono fun st h => vcL_ok h) (fun e => vcL_ok ((alt_if h.2).2 e))
      · exact h.elim
end Go.Proofs.YtalippdhfkpbmaaDoor
