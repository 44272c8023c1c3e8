/- Several texts in one: Opn, CodO, Frm. -/
import Derived.Deep.Slices
import Derived.ChangeArms
import Derived.DataReads
import Derived.WideShapes
import Derived.Test.YtalippdhfkpbmaaDoorRows
import Derived.Handy
import Derived.Lay
import Derived.OpenShut
import Derived.MakeChecks
import Derived.Carry
import Derived.Test.YtalippdhfkpbmaaDoorMa
import Derived.Test.YtalippdhfkpbmaaDoorMb
import Derived.Test.YtalippdhfkpbmaaDoorMc
import Derived.Test.YtalippdhfkpbmaaDoorMd
import Derived.Test.YtalippdhfkpbmaaDoorMe
import Derived.Test.YtalippdhfkpbmaaDoorMf
import Derived.Test.YtalippdhfkpbmaaDoorMg
set_option linter.unusedSimpArgs false
set_option linter.unusedVariables false
/- Arguments opened: what a datum that came in shows, for types put together of slices, structs and plain things. -/
namespace Go.Proofs.YtalippdhfkpbmaaDoor
open Go.RowKit Go Go.Deep
/-- cells of type t that came in show an α, spelled by f -/
def Opn (P : Program) (t : TypeId) (α : Type) (f : α → List Dt) (ok : α → Prop) : Prop :=
  ∀ {H : Type} (enc : TypeId × Value → H) (W : World) (held : Bool) (cs : List Value), (∃ n x, DataW.trod enc P W 0 (fun _ => true) held n t cs = some x) →
    ∃ a, ok a ∧ ∀ E : Env, (∀ b, b < W.heap.size → E.F b) → ∀ (j : Nat) c v, (f a)[j]? = some c → cs[j]? = some v → RD E W c v
def OpnF (P : Program) (fs : List Field) (off : Nat) (α : Type) (f : α → List Dt) (ok : α → Prop) : Prop :=
  ∀ {H : Type} (enc : TypeId × Value → H) (W : World) (held : Bool) (cs : List Value), (∀ fl ∈ fs, ∃ n x, DataW.trod enc P W 0 (fun _ => true) held n fl.type ((cs.drop fl.offset).take (P.cellsOf fl.type)) = some x) →
    ∃ a, ok a ∧ ∀ E : Env, (∀ b, b < W.heap.size → E.F b) → ∀ (j : Nat) c v, (f a)[j]? = some c → cs[off + j]? = some v → RD E W c v
theorem opn_one {E : Env} {W : World} {d : Dt} {u : Value} (h : RD E W d u) (j : Nat) (c : Dt) (v : Value) (h1 : [d][j]? = some c) (h2 : [u][j]? = some v) : RD E W c v := by
  cases j with
  | zero => simp at h1 h2; subst h1 h2; exact h
  | succ j => simp at h1
variable {P : Program}
theorem opn_int {t : TypeId} (ht : P.underlying t = some (.int .i64)) : Opn P t Int (fun n => [.lit (.int .i64 n)]) (fun n => (Lit.int .i64 n).wf = true) := fun enc W held cs ⟨n, x, h⟩ => by
  obtain ⟨z, rfl, -, hw⟩ := DataW.trod_int ht h
  exact ⟨z, hw, fun E _ => opn_one (.lit rfl)⟩
theorem opn_bool {t : TypeId} (ht : P.underlying t = some .bool) : Opn P t Bool (fun n => [.lit (.bool n)]) (fun _ => True) := fun enc W held cs ⟨n, x, h⟩ => by
  obtain ⟨z, rfl, -⟩ := DataW.trod_bool ht h
  exact ⟨z, trivial, fun E _ => opn_one (.lit rfl)⟩
theorem opn_string {t : TypeId} (ht : P.underlying t = some .string) : Opn P t ByteArray (fun n => [.lit (.string n)]) (fun s => s.size ≤ maxLen) := fun enc W held cs ⟨n, x, h⟩ => by
  obtain ⟨z, rfl, -, hw⟩ := DataW.trod_string ht h
  exact ⟨z, hw, fun E _ => opn_one (.lit rfl)⟩
theorem opn_slice {t e : TypeId} {k : Nat} {α : Type} [Inhabited α] {f : α → List Dt} {ok : α → Prop} (ht : P.underlying t = some (.slice e)) (hc : P.cellsOf e = k) (h0 : 0 < k) (hk : ∀ a, (f a).length = k) (he : Opn P e α f ok) :
    Opn P t (List α) (fun l => [.sl true (l.map f)]) (fun l => ∀ a ∈ l, ok a) := fun enc W held cs ⟨n, x, h⟩ => by
  rcases open_slice ht h with ⟨rfl, -⟩ | ⟨a, len, cap, m, n', D, Pl, rfl, -, hl, hm, hmm, -, hall⟩
  · refine ⟨[], by simp, fun E _ => opn_one ?_⟩
    exact RD.sl (S := true) (es := []) (k := 0) (cap := 0) (fun _ _ => default) (Nat.le_refl _) (Nat.zero_le _) (by simp) (fun _ => rfl) (fun h => by simp at h) (fun i j c h => by simp [nth2] at h)
  · have hlm : len ≤ m := by rw [hmm]; simp; omega
    have hv : ∀ i, i < len → ∃ y : α, ok y ∧ ∀ E : Env, (∀ b, b < W.heap.size → E.F b) → ∀ (j : Nat) c, (f y)[j]? = some c → ∃ v, W.cell? ((a.add (i * k)).add j) = some v ∧ RD E W c v := fun i hi => by
      obtain ⟨cs', h1, h2⟩ := hall i (by omega)
      rw [hc] at h1
      obtain ⟨-, g1, g2⟩ := World.cells?_some h1
      obtain ⟨y, y1, y2⟩ := he enc W held cs' ⟨_, _, h2⟩
      refine ⟨y, y1, fun E hE j c hj => ?_⟩
      have hjk : j < k := by rw [← hk y]; exact (List.getElem?_eq_some_iff.1 hj).1
      have hv : cs'[j]? = some cs'[j] := List.getElem?_eq_getElem _
      exact ⟨cs'[j], by rw [g2 j hjk, hv], y2 E hE j c _ hj hv⟩
    obtain ⟨g, hg⟩ := choose_lt hv
    have hlen : ((List.range len).map g).length = len := by simp
    refine ⟨(List.range len).map g, ?_, fun E hE => opn_one ?_⟩
    · intro y hy
      obtain ⟨i, hi, rfl⟩ := List.mem_map.1 hy
      exact (hg i (List.mem_range.1 hi)).1
    have hn2 : ∀ i j c, nth2 (((List.range len).map g).map f) i j = some c → i < len ∧ (f (g i))[j]? = some c := fun i j c h => by
      by_cases hi : i < len
      · simp [nth2, hi] at h
        exact ⟨hi, h⟩
      · simp [nth2, hi] at h
    have hsp : 0 < len → a.spot = none ∧ a.block < W.heap.size := fun hp => by
      obtain ⟨cs', h1, -⟩ := hall 0 (by omega)
      rw [hc] at h1
      obtain ⟨-, g1, g2⟩ := World.cells?_some h1
      have q0 := g2 0 h0
      rw [List.getElem?_eq_getElem (by omega)] at q0
      obtain ⟨ab, ao, sp⟩ := a
      have hs := World.cell?_spot q0
      have hb := World.block_lt_of_cell? W _ q0
      cases sp with
      | none => exact ⟨rfl, by simpa [Addr.add] using hb⟩
      | some s => simp [Addr.add] at hs
    have key : ∀ i j c, nth2 (((List.range len).map g).map f) i j = some c → ∃ v, W.cell? ⟨a.block, a.off + i * k + j, none⟩ = some v ∧ ∀ E : Env, (∀ b, b < W.heap.size → E.F b) → ∃ v', W.cell? ⟨a.block, a.off + i * k + j, none⟩ = some v' ∧ RD E W c v' := fun i j c h => by
      obtain ⟨hi, hj⟩ := hn2 i j c h
      obtain ⟨s1, -⟩ := hsp (by omega)
      have e : (a.add (i * k)).add j = ⟨a.block, a.off + i * k + j, none⟩ := by
        obtain ⟨ab, ao, sp⟩ := a
        simp at s1
        subst s1
        by_cases z1 : j = 0
        · by_cases z2 : i * k = 0
          · simp [Addr.add, z1, z2]
          · simp [Addr.add, z1, z2]
        · by_cases z2 : i * k = 0
          · simp [Addr.add, z1, z2]
          · simp [Addr.add, z1, z2]
      have hq := (hg i hi).2
      obtain ⟨v, q1, -⟩ := hq ⟨fun _ => True, fun _ => True⟩ (fun _ _ => trivial) j c hj
      rw [e] at q1
      exact ⟨v, q1, fun E hE => by
        obtain ⟨v', q2, q3⟩ := hq E hE j c hj
        rw [e] at q2
        exact ⟨v', q2, q3⟩⟩
    have hX : ∀ i j c, nth2 (((List.range len).map g).map f) i j = some c → W.cell? ⟨a.block, a.off + i * k + j, none⟩ = some ((W.cell? ⟨a.block, a.off + i * k + j, none⟩).getD default) := fun i j c h => by
      obtain ⟨v, q, -⟩ := key i j c h
      rw [q]; rfl
    have hrd := RD.sl (E := E) (w := W) (S := true) (es := ((List.range len).map g).map f) (A := some a) (cap := cap) (k := k) (fun i j => (W.cell? ⟨a.block, a.off + i * k + j, none⟩).getD default)
      (by rw [List.length_map, hlen]; exact hl) hm (fun e he => by obtain ⟨y, -, rfl⟩ := List.mem_map.1 he; exact hk y) (fun h => by cases h)
      (fun hp => by
        rw [List.length_map, hlen] at hp
        obtain ⟨s1, s2⟩ := hsp hp
        exact ⟨a.block, a.off, by obtain ⟨ab, ao, sp⟩ := a; simp at s1; subst s1; rfl, .inl (hE _ s2), hX⟩)
      (fun i j c h => by
        obtain ⟨v, -, hq⟩ := key i j c h
        obtain ⟨v', q1, q2⟩ := hq E.solid hE
        rw [q1]
        exact q2)
    rw [List.length_map, hlen] at hrd
    exact hrd
theorem opnF_nil {off : Nat} : OpnF P [] off Unit (fun _ => []) (fun _ => True) := fun _ _ _ _ _ => ⟨(), trivial, fun _ _ j c v h => by simp at h⟩
theorem opnF_cons {fl : Field} {fs : List Field} {off k : Nat} {α β : Type} {f : α → List Dt} {ok : α → Prop} {g : β → List Dt} {ok' : β → Prop} (ho : fl.offset = off) (hc : P.cellsOf fl.type = k) (hk : ∀ a, (f a).length = k)
    (h1 : Opn P fl.type α f ok) (h2 : OpnF P fs (off + k) β g ok') : OpnF P (fl :: fs) off (α × β) (fun x => f x.1 ++ g x.2) (fun x => ok x.1 ∧ ok' x.2) := fun enc W held cs h => by
  obtain ⟨a, a1, a2⟩ := h1 enc W held _ (h fl (List.mem_cons_self ..))
  obtain ⟨b, b1, b2⟩ := h2 enc W held cs fun x hx => h x (List.mem_cons_of_mem _ hx)
  refine ⟨(a, b), ⟨a1, b1⟩, fun E hE j c v hj hv => ?_⟩
  simp only at hj
  by_cases hjk : j < k
  · rw [List.getElem?_append_left (by rw [hk]; exact hjk)] at hj
    refine a2 E hE j c v hj ?_
    rw [ho, hc, List.getElem?_take_of_lt hjk, List.getElem?_drop]
    exact hv
  · rw [List.getElem?_append_right (by rw [hk]; omega), hk] at hj
    refine b2 E hE (j - k) c v hj ?_
    rw [show off + k + (j - k) = off + j by omega]
    exact hv
theorem opn_struct {t : TypeId} {fs : Array Field} {α : Type} {f : α → List Dt} {ok : α → Prop} (ht : P.underlying t = some (.struct fs)) (hf : OpnF P fs.toList 0 α f ok) : Opn P t α f ok := fun enc W held cs ⟨n, x, h⟩ => by
  obtain ⟨xs, n', -, -, -, hl, hx⟩ := DataW.trod_struct ht h
  obtain ⟨a, a1, a2⟩ := hf enc W held cs fun fl hfl => by
    obtain ⟨i, hi, rfl⟩ := List.getElem_of_mem hfl
    have hi' : i < fs.size := by simpa using hi
    have := hx i fs[i] (by simp [hi'])
    rw [List.getElem?_eq_getElem (by omega)] at this
    exact ⟨n', _, by simpa using this⟩
  exact ⟨a, a1, fun E hE j c v hj hv => a2 E hE j c v hj (by rw [Nat.zero_add]; exact hv)⟩
theorem Opn.map {t : TypeId} {α β : Type} {f : α → List Dt} {ok : α → Prop} {g : β → List Dt} {ok' : β → Prop} (h : Opn P t α f ok) (e : α → β) (h1 : ∀ a, g (e a) = f a) (h2 : ∀ a, ok a → ok' (e a)) : Opn P t β g ok' := fun enc W held cs hc => by
  obtain ⟨a, a1, a2⟩ := h enc W held cs hc
  exact ⟨e a, h2 a a1, by rw [h1]; exact a2⟩
end Go.Proofs.YtalippdhfkpbmaaDoor
/- Package code: a program that came in as an argument. -/
namespace Go.Proofs.YtalippdhfkpbmaaDoor
open Go.RowKit Go
instance : Inhabited GIns := ⟨⟨0, 0, 0, 0, 0⟩⟩
instance : Inhabited GFn := ⟨⟨0, 0, false, [], []⟩⟩
instance : Inhabited GVal := ⟨⟨0, 0⟩⟩
instance : Inhabited ByteArray := ⟨⟨#[]⟩⟩
theorem opn_op {t : TypeId} (ht : Tryd.prog.underlying t = some (.int .i64)) : Opn Tryd.prog t Int (fun n => [eI n]) (fun _ => True) := Opn.map (opn_int ht) id (fun _ => rfl) (fun _ _ => trivial)
theorem opn_ins : Opn Tryd.prog 43 GIns eIns (fun _ => True) :=
  Opn.map (opn_struct Tryd.underlying43 (opnF_cons (k := 1) rfl (by kernel_rfl) (fun _ => rfl) (opn_op (by kernel_rfl)) (opnF_cons (k := 1) rfl (by kernel_rfl) (fun _ => rfl) (opn_op (by kernel_rfl)) (opnF_cons (k := 1) rfl (by kernel_rfl) (fun _ => rfl) (opn_op (by kernel_rfl)) (opnF_cons (k := 1) rfl (by kernel_rfl) (fun _ => rfl) (opn_op (by kernel_rfl)) (opnF_cons (k := 1) rfl (by kernel_rfl) (fun _ => rfl) (opn_op (by kernel_rfl)) opnF_nil))))))
    (fun x => ⟨x.1, x.2.1, x.2.2.1, x.2.2.2.1, x.2.2.2.2.1⟩) (fun _ => rfl) (fun _ _ => trivial)
theorem opn_val : Opn Tryd.prog 23 GVal eVal (fun _ => True) :=
  Opn.map (opn_struct Tryd.underlying23 (opnF_cons (k := 1) rfl (by kernel_rfl) (fun _ => rfl) (opn_op (by kernel_rfl)) (opnF_cons (k := 1) rfl (by kernel_rfl) (fun _ => rfl) (opn_op (by kernel_rfl)) opnF_nil)))
    (fun x => ⟨x.1, x.2.1⟩) (fun _ => rfl) (fun _ _ => trivial)
theorem opn_ints : Opn Tryd.prog 44 (List Int) (fun l => [.sl true (l.map eInt)]) (fun _ => True) := Opn.map (opn_slice (e := 3) (k := 1) (f := eInt) (by kernel_rfl) (by kernel_rfl) (by decide) (fun _ => rfl) (Opn.map (opn_int (by kernel_rfl)) id (fun _ => rfl) (fun _ _ => trivial) : Opn _ _ Int eInt (fun _ => True))) id (fun _ => rfl) (fun _ _ => trivial)
theorem opn_code : Opn Tryd.prog 45 (List GIns) (fun l => [.sl true (l.map eIns)]) (fun _ => True) := Opn.map (opn_slice (e := 43) (k := 5) (f := eIns) (by kernel_rfl) (by kernel_rfl) (by decide) (fun _ => rfl) opn_ins) id (fun _ => rfl) (fun _ _ => trivial)
theorem opn_fn : Opn Tryd.prog 47 GFn eFn (fun _ => True) :=
  Opn.map (opn_struct Tryd.underlying47 (opnF_cons (k := 1) rfl (by kernel_rfl) (fun _ => rfl) (opn_op (by kernel_rfl)) (opnF_cons (k := 1) rfl (by kernel_rfl) (fun _ => rfl) (opn_op (by kernel_rfl)) (opnF_cons (k := 1) rfl (by kernel_rfl) (fun _ => rfl) (opn_bool (by kernel_rfl)) (opnF_cons (k := 1) rfl (by kernel_rfl) (fun _ => rfl) opn_ints (opnF_cons (k := 1) rfl (by kernel_rfl) (fun _ => rfl) opn_code opnF_nil))))))
    (fun x => ⟨x.1, x.2.1, x.2.2.1, x.2.2.2.1, x.2.2.2.2.1⟩) (fun _ => rfl) (fun _ _ => trivial)
theorem opn_fns : Opn Tryd.prog 32 (List GFn) (fun l => [.sl true (l.map eFn)]) (fun _ => True) := Opn.map (opn_slice (e := 47) (k := 5) (f := eFn) (by kernel_rfl) (by kernel_rfl) (by decide) (fun _ => rfl) opn_fn) id (fun _ => rfl) (fun _ _ => trivial)
theorem opn_vals : Opn Tryd.prog 33 (List GVal) (fun l => [.sl true (l.map eVal)]) (fun _ => True) := Opn.map (opn_slice (e := 23) (k := 2) (f := eVal) (by kernel_rfl) (by kernel_rfl) (by decide) (fun _ => rfl) opn_val) id (fun _ => rfl) (fun _ _ => trivial)
theorem opn_texts : Opn Tryd.prog 29 (List ByteArray) (fun l => [.sl true (l.map eStr)]) (fun l => ∀ s ∈ l, s.size ≤ maxLen) := Opn.map (opn_slice (e := 9) (k := 1) (f := eStr) (by kernel_rfl) (by kernel_rfl) (by decide) (fun _ => rfl) (Opn.map (opn_string (by kernel_rfl)) id (fun _ => rfl) (fun _ h => h) : Opn _ _ ByteArray eStr (fun s => s.size ≤ maxLen))) id (fun _ => rfl) (fun _ h => h)
theorem opn_prog : Opn Tryd.prog 35 GProg eProg okP :=
  Opn.map (opn_struct Tryd.underlying35 (opnF_cons (k := 1) rfl (by kernel_rfl) (fun _ => rfl) opn_fns (opnF_cons (k := 1) rfl (by kernel_rfl) (fun _ => rfl) opn_vals (opnF_cons (k := 1) rfl (by kernel_rfl) (fun _ => rfl) opn_texts opnF_nil))))
    (fun x => ⟨x.1, x.2.1, x.2.2.1⟩) (fun _ => rfl) (fun x h => h.2.2.1)
theorem rcs_of {E : Env} {w : World} {ι : Nms} (l : List Dt) : ∀ {xs : List Value}, l.length = xs.length → (∀ (j : Nat) c v, l[j]? = some c → xs[j]? = some v → RD E w c v) → RCs E w ι (l.map .d) xs := by
  induction l with
  | nil =>
    intro xs hl _
    cases xs with
    | nil => rw [List.map_nil, RCs]; trivial
    | cons x xs => cases hl
  | cons d l ih =>
    intro xs hl h
    cases xs with
    | nil => cases hl
    | cons x xs =>
      rw [List.map_cons, RCs, RC]
      exact ⟨h 0 d x (by simp) (by simp), ih (by simpa using hl) fun j c v h1 h2 => h (j + 1) c v (by simpa using h1) (by simpa using h2)⟩
set_option maxRecDepth 20000 in
theorem prog_arg {H : Type} {enc : TypeId × Value → H} {W : World} {held : Bool} {r : Reach} {b0 : Nat} {v : Value} {d : DataW H} {ps : List MemPlace} (hval : Value.okWide Tryd.prog W r b0 35 v) (h : DataW.Trod enc Tryd.prog W 0 (fun _ => true) held 35 v d ps) :
    ∃ p : GProg, okP p ∧ ∀ (B : Nat → Prop) (ι : Nms), RV (Env.mk (fun b => b < W.heap.size) B) W ι (aD (eProg p)) v := by
  obtain ⟨cs, rfl, hsz⟩ := WideShapes.okWide_struct Tryd.underlying35 hval
  rw [show Tryd.prog.cellsOf 35 = 3 by kernel_rfl] at hsz
  obtain ⟨m, hm⟩ := h
  rw [show (Value.agg cs).cells = cs from rfl] at hm
  obtain ⟨p, p1, p2⟩ := opn_prog enc W held cs.toList ⟨m, _, hm⟩
  refine ⟨p, p1, fun B ι => ?_⟩
  rw [RV]
  exact ⟨cs, rfl, rcs_of _ (by simp [hsz]) (p2 _ fun b hb => hb)⟩
end Go.Proofs.YtalippdhfkpbmaaDoor
/- From a law's contract to its row: what a frame needs. -/
namespace Go.Proofs.YtalippdhfkpbmaaDoor
open Go.RowKit Go
theorem law_frame {f : FuncId} {ds : List D} (hD : DPure Tryd.prog f ds fun d _ => d = dB true) {W : World} {vs : List Value} (hgl : GlOk (fun b => b < W.heap.size) W) (hvs : RVs ⟨fun b => b < W.heap.size, fun b => b < W.heap.size⟩ W (fun _ => none) ds vs) :
    Calls Tryd.prog f vs.toArray W fun e w' => e = .returned (.bool true) ∧ Below W.heap.size W w' :=
  (hD.2 _ W vs (fun _ h => h) hgl hvs).mono fun e w' ⟨F', ι, d, fr, v, e1, ho, e3⟩ => by
    subst e1 e3
    have hv := ho.val
    rw [RV] at hv
    exact ⟨by rw [RD.lit_inv hv], ⟨ho.io.1, ho.io.2.2, ho.io.2.1, ho.size, ho.old⟩⟩
/-- what a laid row of plain data says of the variables -/
theorem laid_tail {P : Program} {x : String × DataW Unit} {l : List (String × DataW Unit)} {W : World} (h : laidMet P (x :: l) W) : laidMet P l W := by
  obtain ⟨ps, ⟨g, t, cs, fuel, p, q, -, -, -, -, hq, rfl⟩, hn, hc⟩ := h
  exact ⟨q, hq, (List.nodup_append.1 hn).2.1, fun b off hb => hc b off (List.mem_append_right _ hb)⟩
theorem gl_of_laid {W : World} (h : laidMetH Tryd.prog [("unicode.White_Space", Rows.laid_unicode_White_Space), ("strings.asciiSpace", Rows.laid_strings_asciiSpace)] W) : GlOk (fun b => b < W.heap.size) W := by
  rw [MakeChecks.laidMetH_plain _ _ _ (by kernel_rfl)] at h
  have h2 := laid_tail h
  have hd : Rows.laid_strings_asciiSpace (H := Unit) = Lib.tabData .u8 Lib.asciiSpaceTab := by kernel_rfl
  rw [hd] at h2
  have ht := Lib.tabIs_of_head (g := 1) (by kernel_rfl) (by kernel_rfl) (t := 93) (e := 5) (n := 256) (by kernel_rfl) (by kernel_rfl) (by kernel_rfl) (by kernel_rfl) h2
  intro g arr hm
  obtain ⟨rfl, rfl⟩ : g = 1 ∧ arr = (Lib.asciiSpaceTab.map fun z => Value.int .u8 z).toArray := by
    have := List.mem_singleton.1 hm
    cases this
    exact ⟨rfl, rfl⟩
  unfold Lib.TabIs World.var? at ht
  rw [show Tryd.prog.globalNamed "strings.asciiSpace" = some 1 by kernel_rfl] at ht
  simp only [Option.bind_some] at ht
  split at ht
  · rename_i cs t fz hw
    simp only [Option.some.injEq] at ht
    subst ht
    refine ⟨?_, t, fz, hw⟩
    exact (Array.getElem?_eq_some_iff.1 hw).1
  · cases ht
end Go.Proofs.YtalippdhfkpbmaaDoor
