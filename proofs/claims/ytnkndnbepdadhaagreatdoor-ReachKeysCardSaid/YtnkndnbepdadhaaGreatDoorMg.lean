/- Several texts in one. -/
import Derived.Deep.Slices
import Derived.ChangeArms
import Derived.DataReads
import Derived.SizedLaws
import Derived.WideShapes
import Derived.Test.YtnkndnbepdadhaaGreatDoorRows
import Derived.Handy
import Derived.Lay
import Derived.OpenShut
import Derived.MakeChecks
import Derived.Carry
import Derived.Test.YtnkndnbepdadhaaGreatDoorMd
import Derived.Test.YtnkndnbepdadhaaGreatDoorMe
import Derived.Test.YtnkndnbepdadhaaGreatDoorMf
set_option linter.unusedSimpArgs false
set_option linter.unusedVariables false
set_option maxRecDepth 100000
set_option maxHeartbeats 16000000
namespace Go.Proofs.YtnkndnbepdadhaaGreatDoor
section
open Go.RowKit Go Go.Deep
def Opn (P : Program) (t : TypeId) (α : Type) (f : α → List Dt) (ok : α → Prop) : Prop :=
  ∀ {H : Type} (enc : TypeId × Value → H) (W : World) (held : Bool) (cs : List Value), (∃ n x, DataW.trod enc P W 0 (fun _ => true) held n t cs = some x ∧ ∀ y ∈ x.1.weights P t, y ≤ reachBytes) →
    ∃ a, ok a ∧ ∀ E : Env, (∀ b, b < W.heap.size → E.F b) → ∀ (j : Nat) c v, (f a)[j]? = some c → cs[j]? = some v → RD E W c v
def OpnF (P : Program) (fs : List Field) (off : Nat) (α : Type) (f : α → List Dt) (ok : α → Prop) : Prop :=
  ∀ {H : Type} (enc : TypeId × Value → H) (W : World) (held : Bool) (cs : List Value), (∀ fl ∈ fs, ∃ n x, DataW.trod enc P W 0 (fun _ => true) held n fl.type ((cs.drop fl.offset).take (P.cellsOf fl.type)) = some x ∧ ∀ y ∈ x.1.weights P fl.type, y ≤ reachBytes) →
    ∃ a, ok a ∧ ∀ E : Env, (∀ b, b < W.heap.size → E.F b) → ∀ (j : Nat) c v, (f a)[j]? = some c → cs[off + j]? = some v → RD E W c v
theorem opn_one {E : Env} {W : World} {d : Dt} {u : Value} (h : RD E W d u) (j : Nat) (c : Dt) (v : Value) (h1 : [d][j]? = some c) (h2 : [u][j]? = some v) : RD E W c v := by
  cases j with
  | zero => simp at h1 h2; subst h1 h2; exact h
  | succ j => simp at h1
variable {P : Program}
theorem wAll_mem {H : Type} {e : TypeId} : ∀ {l : List (DataW H)} {d : DataW H}, d ∈ l → ∀ n ∈ d.weights P e, n ∈ DataW.weightsAll P e l
  | a :: l, d, hd, n, hn => by
    simp only [DataW.weightsAll, List.mem_append]
    rcases List.mem_cons.1 hd with rfl | hd
    · exact .inl hn
    · exact .inr (wAll_mem hd n hn)
  | [], _, hd, _, _ => by cases hd
theorem opn_int {t : TypeId} (ht : P.underlying t = some (.int .i64)) : Opn P t Int (fun n => [.lit (.int .i64 n)]) (fun n => (Lit.int .i64 n).wf = true) := fun enc W held cs ⟨n, x, h, hw0⟩ => by
  obtain ⟨z, rfl, -, hw⟩ := DataW.trod_int ht h
  exact ⟨z, hw, fun E _ => opn_one (.lit rfl)⟩
theorem opn_bool {t : TypeId} (ht : P.underlying t = some .bool) : Opn P t Bool (fun n => [.lit (.bool n)]) (fun _ => True) := fun enc W held cs ⟨n, x, h, hw0⟩ => by
  obtain ⟨z, rfl, -⟩ := DataW.trod_bool ht h
  exact ⟨z, trivial, fun E _ => opn_one (.lit rfl)⟩
theorem opn_string {t : TypeId} (ht : P.underlying t = some .string) : Opn P t ByteArray (fun n => [.lit (.string n)]) (fun s => s.size ≤ maxLen) := fun enc W held cs ⟨n, x, h, hw0⟩ => by
  obtain ⟨z, rfl, -, hw⟩ := DataW.trod_string ht h
  exact ⟨z, hw, fun E _ => opn_one (.lit rfl)⟩
theorem opn_sliceW {t e : TypeId} {k : Nat} {α : Type} [Inhabited α] {f : α → List Dt} {ok : α → Prop} (ht : P.underlying t = some (.slice e)) (hc : P.cellsOf e = k) (h0 : 0 < k) (hk : ∀ a, (f a).length = k) (he : Opn P e α f ok) :
    Opn P t (List α) (fun l => [.sl true (l.map f)]) (fun l => (∀ a ∈ l, ok a) ∧ l.length * P.bytesOf e ≤ reachBytes) := fun enc W held cs ⟨n, x, h, hw0⟩ => by
  rcases open_slice ht h with ⟨rfl, -⟩ | ⟨a, len, cap, m, n', D, Pl, rfl, -, hl, hm, hmm, rfl, hall⟩
  · refine ⟨[], ⟨by simp, by simp⟩, fun E _ => opn_one ?_⟩
    exact RD.sl (S := true) (es := []) (k := 0) (cap := 0) (fun _ _ => default) (Nat.le_refl _) (Nat.zero_le _) (by simp) (fun _ => rfl) (fun h => by simp at h) (fun i j c h => by simp [nth2] at h)
  · have hlm : len ≤ m := by rw [hmm]; simp; omega
    have hw1 : (len + (m - len)) * P.bytesOf e ≤ reachBytes := hw0 _ (by simp [DataW.weights, ht])
    have hw2 : ∀ i, i < len → ∀ y ∈ (D i).weights P e, y ≤ reachBytes := fun i hi y hy => hw0 y (by
      simp only [DataW.weights, ht, List.mem_cons, List.mem_append]
      exact .inr (.inl (wAll_mem (List.mem_map.2 ⟨i, List.mem_range.2 hi, rfl⟩) y hy)))
    have hw3 : len * P.bytesOf e ≤ reachBytes := Nat.le_trans (Nat.mul_le_mul_right _ (by omega)) hw1
    have hv : ∀ i, i < len → ∃ y : α, ok y ∧ ∀ E : Env, (∀ b, b < W.heap.size → E.F b) → ∀ (j : Nat) c, (f y)[j]? = some c → ∃ v, W.cell? ((a.add (i * k)).add j) = some v ∧ RD E W c v := fun i hi => by
      obtain ⟨cs', h1, h2⟩ := hall i (by omega)
      rw [hc] at h1
      obtain ⟨-, g1, g2⟩ := World.cells?_some h1
      obtain ⟨y, y1, y2⟩ := he enc W held cs' ⟨_, _, h2, hw2 i hi⟩
      refine ⟨y, y1, fun E hE j c hj => ?_⟩
      have hjk : j < k := by rw [← hk y]; exact (List.getElem?_eq_some_iff.1 hj).1
      have hv : cs'[j]? = some cs'[j] := List.getElem?_eq_getElem _
      exact ⟨cs'[j], by rw [g2 j hjk, hv], y2 E hE j c _ hj hv⟩
    obtain ⟨g, hg⟩ := choose_lt hv
    have hlen : ((List.range len).map g).length = len := by simp
    refine ⟨(List.range len).map g, ⟨?_, by rw [hlen]; exact hw3⟩, fun E hE => opn_one ?_⟩
    · intro y hy
      obtain ⟨i, hi, rfl⟩ := List.mem_map.1 hy
      exact (hg i (List.mem_range.1 hi)).1
    have hn2 : ∀ i j c, nth2 (((List.range len).map g).map f) i j = some c → i < len ∧ (f (g i))[j]? = some c := fun i j c h => by
      by_cases hi : i < len
      · simp [nth2, hi] at h
        exact ⟨hi, h⟩
      · simp [nth2, hi] at h
    have hsp : 0 < len → a.spot = none ∧ a.block < W.heap.size := fun hp => by
      obtain ⟨cs', h1, -⟩ := hall 0 (by omega)
      rw [hc] at h1
      obtain ⟨-, g1, g2⟩ := World.cells?_some h1
      have q0 := g2 0 h0
      rw [List.getElem?_eq_getElem (by omega)] at q0
      obtain ⟨ab, ao, sp⟩ := a
      have hs := World.cell?_spot q0
      have hb := World.block_lt_of_cell? W _ q0
      cases sp with
      | none => exact ⟨rfl, by simpa [Addr.add] using hb⟩
      | some s => simp [Addr.add] at hs
    have key : ∀ i j c, nth2 (((List.range len).map g).map f) i j = some c → ∃ v, W.cell? ⟨a.block, a.off + i * k + j, none⟩ = some v ∧ ∀ E : Env, (∀ b, b < W.heap.size → E.F b) → ∃ v', W.cell? ⟨a.block, a.off + i * k + j, none⟩ = some v' ∧ RD E W c v' := fun i j c h => by
      obtain ⟨hi, hj⟩ := hn2 i j c h
      obtain ⟨s1, -⟩ := hsp (by omega)
      have e : (a.add (i * k)).add j = ⟨a.block, a.off + i * k + j, none⟩ := by
        obtain ⟨ab, ao, sp⟩ := a
        simp at s1
        subst s1
        by_cases z1 : j = 0
        · by_cases z2 : i * k = 0
          · simp [Addr.add, z1, z2]
          · simp [Addr.add, z1, z2]
        · by_cases z2 : i * k = 0
          · simp [Addr.add, z1, z2]
          · simp [Addr.add, z1, z2]
      have hq := (hg i hi).2
      obtain ⟨v, q1, -⟩ := hq ⟨fun _ => True, fun _ => True⟩ (fun _ _ => trivial) j c hj
      rw [e] at q1
      exact ⟨v, q1, fun E hE => by
        obtain ⟨v', q2, q3⟩ := hq E hE j c hj
        rw [e] at q2
        exact ⟨v', q2, q3⟩⟩
    have hX : ∀ i j c, nth2 (((List.range len).map g).map f) i j = some c → W.cell? ⟨a.block, a.off + i * k + j, none⟩ = some ((W.cell? ⟨a.block, a.off + i * k + j, none⟩).getD default) := fun i j c h => by
      obtain ⟨v, q, -⟩ := key i j c h
      rw [q]; rfl
    have hrd := RD.sl (E := E) (w := W) (S := true) (es := ((List.range len).map g).map f) (A := some a) (cap := cap) (k := k) (fun i j => (W.cell? ⟨a.block, a.off + i * k + j, none⟩).getD default)
      (by rw [List.length_map, hlen]; exact hl) hm (fun e he => by obtain ⟨y, -, rfl⟩ := List.mem_map.1 he; exact hk y) (fun h => by cases h)
      (fun hp => by
        rw [List.length_map, hlen] at hp
        obtain ⟨s1, s2⟩ := hsp hp
        exact ⟨a.block, a.off, by obtain ⟨ab, ao, sp⟩ := a; simp at s1; subst s1; rfl, .inl (hE _ s2), hX⟩)
      (fun i j c h => by
        obtain ⟨v, -, hq⟩ := key i j c h
        obtain ⟨v', q1, q2⟩ := hq E.solid hE
        rw [q1]
        exact q2)
    rw [List.length_map, hlen] at hrd
    exact hrd
theorem opnF_nil {off : Nat} : OpnF P [] off Unit (fun _ => []) (fun _ => True) := fun _ _ _ _ _ => ⟨(), trivial, fun _ _ j c v h => by simp at h⟩
theorem opnF_cons {fl : Field} {fs : List Field} {off k : Nat} {α β : Type} {f : α → List Dt} {ok : α → Prop} {g : β → List Dt} {ok' : β → Prop} (ho : fl.offset = off) (hc : P.cellsOf fl.type = k) (hk : ∀ a, (f a).length = k)
    (h1 : Opn P fl.type α f ok) (h2 : OpnF P fs (off + k) β g ok') : OpnF P (fl :: fs) off (α × β) (fun x => f x.1 ++ g x.2) (fun x => ok x.1 ∧ ok' x.2) := fun enc W held cs h => by
  obtain ⟨a, a1, a2⟩ := h1 enc W held _ (h fl (List.mem_cons_self ..))
  obtain ⟨b, b1, b2⟩ := h2 enc W held cs fun x hx => h x (List.mem_cons_of_mem _ hx)
  refine ⟨(a, b), ⟨a1, b1⟩, fun E hE j c v hj hv => ?_⟩
  simp only at hj
  by_cases hjk : j < k
  · rw [List.getElem?_append_left (by rw [hk]; exact hjk)] at hj
    refine a2 E hE j c v hj ?_
    rw [ho, hc, List.getElem?_take_of_lt hjk, List.getElem?_drop]
    exact hv
  · rw [List.getElem?_append_right (by rw [hk]; omega), hk] at hj
    refine b2 E hE (j - k) c v hj ?_
    rw [show off + k + (j - k) = off + j by omega]
    exact hv
theorem opn_struct {t : TypeId} {fs : Array Field} {α : Type} {f : α → List Dt} {ok : α → Prop} (ht : P.underlying t = some (.struct fs)) (hf : OpnF P fs.toList 0 α f ok) : Opn P t α f ok := fun enc W held cs ⟨n, x, h, hw0⟩ => by
  obtain ⟨xs, n', -, rfl, -, hl, hx⟩ := DataW.trod_struct ht h
  obtain ⟨a, a1, a2⟩ := hf enc W held cs fun fl hfl => by
    obtain ⟨i, hi, rfl⟩ := List.getElem_of_mem hfl
    have hi' : i < fs.size := by simpa using hi
    have := hx i fs[i] (by simp [hi'])
    rw [List.getElem?_eq_getElem (by omega)] at this
    have hfi : fs.toList[i] = fs[i] := by simp
    refine ⟨n', xs[i]'(by omega), by simpa using this, fun y hy => hw0 y ?_⟩
    simp only [DataW.weights, ht]
    exact DataW.weights_mem_each (j := i) (t := fs.toList[i].type) (d := (xs[i]'(by omega)).1) (by rw [List.getElem?_map, List.getElem?_eq_getElem hi]; rfl) (by rw [List.getElem?_map, List.getElem?_eq_getElem (by omega)]; rfl) y hy
  exact ⟨a, a1, fun E hE j c v hj hv => a2 E hE j c v hj (by rw [Nat.zero_add]; exact hv)⟩
theorem Opn.map {t : TypeId} {α β : Type} {f : α → List Dt} {ok : α → Prop} {g : β → List Dt} {ok' : β → Prop} (h : Opn P t α f ok) (e : α → β) (h1 : ∀ a, g (e a) = f a) (h2 : ∀ a, ok a → ok' (e a)) : Opn P t β g ok' := fun enc W held cs hc => by
  obtain ⟨a, a1, a2⟩ := h enc W held cs hc
  exact ⟨e a, h2 a a1, by rw [h1]; exact a2⟩
theorem opn_slice {t e : TypeId} {k : Nat} {α : Type} [Inhabited α] {f : α → List Dt} {ok : α → Prop} (ht : P.underlying t = some (.slice e)) (hc : P.cellsOf e = k) (h0 : 0 < k) (hk : ∀ a, (f a).length = k) (he : Opn P e α f ok) :
    Opn P t (List α) (fun l => [.sl true (l.map f)]) (fun l => ∀ a ∈ l, ok a) := Opn.map (opn_sliceW ht hc h0 hk he) id (fun _ => rfl) (fun _ h => h.1)
end
section
open Go.RowKit Go
instance : Inhabited GIns := ⟨⟨0, 0, 0, 0, 0⟩⟩
instance : Inhabited GFn := ⟨⟨0, 0, false, [], []⟩⟩
instance : Inhabited GVal := ⟨⟨0, 0⟩⟩
instance : Inhabited ByteArray := ⟨⟨#[]⟩⟩
theorem opn_op {t : TypeId} (ht : Tryz.prog.underlying t = some (.int .i64)) : Opn Tryz.prog t Int (fun n => [eI n]) (fun _ => True) := Opn.map (opn_int ht) id (fun _ => rfl) (fun _ _ => trivial)
theorem opn_ins : Opn Tryz.prog 97 GIns eIns (fun _ => True) :=
  Opn.map (opn_struct Tryz.underlying97 (opnF_cons (k := 1) rfl (by kernel_rfl) (fun _ => rfl) (opn_op (by kernel_rfl)) (opnF_cons (k := 1) rfl (by kernel_rfl) (fun _ => rfl) (opn_op (by kernel_rfl)) (opnF_cons (k := 1) rfl (by kernel_rfl) (fun _ => rfl) (opn_op (by kernel_rfl)) (opnF_cons (k := 1) rfl (by kernel_rfl) (fun _ => rfl) (opn_op (by kernel_rfl)) (opnF_cons (k := 1) rfl (by kernel_rfl) (fun _ => rfl) (opn_op (by kernel_rfl)) opnF_nil))))))
    (fun x => ⟨x.1, x.2.1, x.2.2.1, x.2.2.2.1, x.2.2.2.2.1⟩) (fun _ => rfl) (fun _ _ => trivial)
theorem opn_val : Opn Tryz.prog 34 GVal eVal (fun _ => True) :=
  Opn.map (opn_struct Tryz.underlying34 (opnF_cons (k := 1) rfl (by kernel_rfl) (fun _ => rfl) (opn_op (by kernel_rfl)) (opnF_cons (k := 1) rfl (by kernel_rfl) (fun _ => rfl) (opn_op (by kernel_rfl)) opnF_nil)))
    (fun x => ⟨x.1, x.2.1⟩) (fun _ => rfl) (fun _ _ => trivial)
theorem opn_ints : Opn Tryz.prog 35 (List Int) (fun l => [.sl true (l.map eInt)]) (fun _ => True) := Opn.map (opn_slice (e := 3) (k := 1) (f := eInt) (by kernel_rfl) (by kernel_rfl) (by decide) (fun _ => rfl) (Opn.map (opn_int (by kernel_rfl)) id (fun _ => rfl) (fun _ _ => trivial) : Opn _ _ Int eInt (fun _ => True))) id (fun _ => rfl) (fun _ _ => trivial)
theorem opn_code : Opn Tryz.prog 172 (List GIns) (fun l => [.sl true (l.map eIns)]) (fun _ => True) := Opn.map (opn_slice (e := 97) (k := 5) (f := eIns) (by kernel_rfl) (by kernel_rfl) (by decide) (fun _ => rfl) opn_ins) id (fun _ => rfl) (fun _ _ => trivial)
theorem opn_fn : Opn Tryz.prog 174 GFn eFn (fun _ => True) :=
  Opn.map (opn_struct Tryz.underlying174 (opnF_cons (k := 1) rfl (by kernel_rfl) (fun _ => rfl) (opn_op (by kernel_rfl)) (opnF_cons (k := 1) rfl (by kernel_rfl) (fun _ => rfl) (opn_op (by kernel_rfl)) (opnF_cons (k := 1) rfl (by kernel_rfl) (fun _ => rfl) (opn_bool (by kernel_rfl)) (opnF_cons (k := 1) rfl (by kernel_rfl) (fun _ => rfl) opn_ints (opnF_cons (k := 1) rfl (by kernel_rfl) (fun _ => rfl) opn_code opnF_nil))))))
    (fun x => ⟨x.1, x.2.1, x.2.2.1, x.2.2.2.1, x.2.2.2.2.1⟩) (fun _ => rfl) (fun _ _ => trivial)
theorem opn_fns : Opn Tryz.prog 22 (List GFn) (fun l => [.sl true (l.map eFn)]) (fun _ => True) := Opn.map (opn_slice (e := 174) (k := 5) (f := eFn) (by kernel_rfl) (by kernel_rfl) (by decide) (fun _ => rfl) opn_fn) id (fun _ => rfl) (fun _ _ => trivial)
theorem opn_vals : Opn Tryz.prog 23 (List GVal) (fun l => [.sl true (l.map eVal)]) (fun _ => True) := Opn.map (opn_slice (e := 34) (k := 2) (f := eVal) (by kernel_rfl) (by kernel_rfl) (by decide) (fun _ => rfl) opn_val) id (fun _ => rfl) (fun _ _ => trivial)
theorem opn_texts : Opn Tryz.prog 24 (List ByteArray) (fun l => [.sl true (l.map eStr)]) (fun l => ∀ s ∈ l, s.size ≤ maxLen) := Opn.map (opn_slice (e := 9) (k := 1) (f := eStr) (by kernel_rfl) (by kernel_rfl) (by decide) (fun _ => rfl) (Opn.map (opn_string (by kernel_rfl)) id (fun _ => rfl) (fun _ h => h) : Opn _ _ ByteArray eStr (fun s => s.size ≤ maxLen))) id (fun _ => rfl) (fun _ h => h)
theorem opn_prog : Opn Tryz.prog 26 GProg eProg okP :=
  Opn.map (opn_struct Tryz.underlying26 (opnF_cons (k := 1) rfl (by kernel_rfl) (fun _ => rfl) opn_fns (opnF_cons (k := 1) rfl (by kernel_rfl) (fun _ => rfl) opn_vals (opnF_cons (k := 1) rfl (by kernel_rfl) (fun _ => rfl) opn_texts opnF_nil))))
    (fun x => ⟨x.1, x.2.1, x.2.2.1⟩) (fun _ => rfl) (fun x h => h.2.2.1)
theorem rcs_of {E : Env} {w : World} {ι : Nms} (l : List Dt) : ∀ {xs : List Value}, l.length = xs.length → (∀ (j : Nat) c v, l[j]? = some c → xs[j]? = some v → RD E w c v) → RCs E w ι (l.map .d) xs := by
  induction l with
  | nil =>
    intro xs hl _
    cases xs with
    | nil => rw [List.map_nil, RCs]; trivial
    | cons x xs => cases hl
  | cons d l ih =>
    intro xs hl h
    cases xs with
    | nil => cases hl
    | cons x xs =>
      rw [List.map_cons, RCs, RC]
      exact ⟨h 0 d x (by simp) (by simp), ih (by simpa using hl) fun j c v h1 h2 => h (j + 1) c v (by simpa using h1) (by simpa using h2)⟩
theorem prog_arg {H : Type} {enc : TypeId × Value → H} {W : World} {held : Bool} {r : Reach} {b0 : Nat} {v : Value} {d : DataW H} {ps : List MemPlace} (hval : Value.okWide Tryz.prog W r b0 26 v) (h : DataW.Trod enc Tryz.prog W 0 (fun _ => true) held 26 v d ps) (hz : ∀ y ∈ d.weights Tryz.prog 26, y ≤ reachBytes) :
    ∃ p : GProg, okP p ∧ ∀ (B : Nat → Prop) (ι : Nms), RV (Env.mk (fun b => b < W.heap.size) B) W ι (aD (eProg p)) v := by
  obtain ⟨cs, rfl, hsz⟩ := WideShapes.okWide_struct Tryz.underlying26 hval
  rw [show Tryz.prog.cellsOf 26 = 3 by kernel_rfl] at hsz
  obtain ⟨m, hm⟩ := h
  rw [show (Value.agg cs).cells = cs from rfl] at hm
  obtain ⟨p, p1, p2⟩ := opn_prog enc W held cs.toList ⟨m, _, hm, hz⟩
  refine ⟨p, p1, fun B ι => ?_⟩
  rw [RV]
  exact ⟨cs, rfl, rcs_of _ (by simp [hsz]) (p2 _ fun b hb => hb)⟩
def okFrame (f : GFrame) : Prop := f.regs.length ≤ 8796093022207
def okCell (c : GCell) : Prop := (∀ v ∈ c.vals, InI v.n) ∧ ∀ f ∈ c.frames, okFrame f
def okSt (s : GState) : Prop := (∀ t ∈ s.texts, t.size ≤ maxLen) ∧ (∀ x ∈ s.shapes, InS x) ∧ ∀ c ∈ s.cells, okCell c
theorem InI_of {n : Int} (h : (Lit.int .i64 n).wf = true) : InI n := by
  have h1 : IntKind.i64.min = -9223372036854775808 := by kernel_rfl
  have h2 : IntKind.i64.max = 9223372036854775807 := by kernel_rfl
  simp [Lit.wf, h1, h2] at h
  unfold InI
  omega
theorem opn_in {t : TypeId} (ht : Tryz.prog.underlying t = some (.int .i64)) : Opn Tryz.prog t Int (fun n => [eI n]) InI := Opn.map (opn_int ht) id (fun _ => rfl) (fun _ h => InI_of h)
theorem opn_valW : Opn Tryz.prog 34 GVal eVal (fun v => InI v.n) :=
  Opn.map (opn_struct Tryz.underlying34 (opnF_cons (k := 1) rfl (by kernel_rfl) (fun _ => rfl) (opn_op (by kernel_rfl)) (opnF_cons (k := 1) rfl (by kernel_rfl) (fun _ => rfl) (opn_in (by kernel_rfl)) opnF_nil)))
    (fun x => ⟨x.1, x.2.1⟩) (fun _ => rfl) (fun _ h => h.2.1)
theorem opn_valsW : Opn Tryz.prog 23 (List GVal) (fun l => [.sl true (l.map eVal)]) (fun l => ∀ v ∈ l, InI v.n) := Opn.map (opn_slice (e := 34) (k := 2) (f := eVal) (by kernel_rfl) (by kernel_rfl) (by decide) (fun _ => rfl) opn_valW) id (fun _ => rfl) (fun _ h => h)
theorem opn_try : Opn Tryz.prog 202 GTry eTry (fun _ => True) :=
  Opn.map (opn_struct Tryz.underlying202 (opnF_cons (k := 1) rfl (by kernel_rfl) (fun _ => rfl) (opn_op (by kernel_rfl)) (opnF_cons (k := 1) rfl (by kernel_rfl) (fun _ => rfl) (opn_op (by kernel_rfl)) opnF_nil)))
    (fun x => ⟨x.1, x.2.1⟩) (fun _ => rfl) (fun _ _ => trivial)
theorem opn_tries : Opn Tryz.prog 45 (List GTry) (fun l => [.sl true (l.map eTry)]) (fun _ => True) := Opn.map (opn_slice (e := 202) (k := 2) (f := eTry) (by kernel_rfl) (by kernel_rfl) (by decide) (fun _ => rfl) opn_try) id (fun _ => rfl) (fun _ _ => trivial)
theorem opn_regs : Opn Tryz.prog 23 (List GVal) (fun l => [.sl true (l.map eVal)]) (fun l => l.length ≤ 8796093022207) := Opn.map (opn_sliceW (e := 34) (k := 2) (f := eVal) (by kernel_rfl) (by kernel_rfl) (by decide) (fun _ => rfl) opn_val) id (fun _ => rfl) (fun l h => by
  have h1 := h.2
  rw [show Tryz.prog.bytesOf 34 = 16 by kernel_rfl] at h1
  unfold reachBytes at h1
  show l.length ≤ _
  omega)
theorem opn_frame : Opn Tryz.prog 47 GFrame eFrame okFrame :=
  Opn.map (opn_struct Tryz.underlying47 (opnF_cons (k := 1) rfl (by kernel_rfl) (fun _ => rfl) (opn_op (by kernel_rfl)) (opnF_cons (k := 1) rfl (by kernel_rfl) (fun _ => rfl) (opn_op (by kernel_rfl)) (opnF_cons (k := 1) rfl (by kernel_rfl) (fun _ => rfl) (opn_op (by kernel_rfl)) (opnF_cons (k := 1) rfl (by kernel_rfl) (fun _ => rfl) (opn_op (by kernel_rfl))
    (opnF_cons (k := 2) rfl (by kernel_rfl) (fun _ => rfl) opn_val (opnF_cons (k := 1) rfl (by kernel_rfl) (fun _ => rfl) opn_regs (opnF_cons (k := 1) rfl (by kernel_rfl) (fun _ => rfl) opn_tries opnF_nil))))))))
    (fun x => ⟨x.1, x.2.1, x.2.2.1, x.2.2.2.1, x.2.2.2.2.1, x.2.2.2.2.2.1, x.2.2.2.2.2.2.1⟩) (fun _ => rfl) (fun _ h => h.2.2.2.2.2.1)
theorem opn_frames : Opn Tryz.prog 40 (List GFrame) (fun l => [.sl true (l.map eFrame)]) (fun l => ∀ f ∈ l, okFrame f) := Opn.map (opn_slice (e := 47) (k := 8) (f := eFrame) (by kernel_rfl) (by kernel_rfl) (by decide) (fun _ => rfl) opn_frame) id (fun _ => rfl) (fun _ h => h)
theorem opn_cell : Opn Tryz.prog 53 GCell eCell okCell :=
  Opn.map (opn_struct Tryz.underlying53 (opnF_cons (k := 1) rfl (by kernel_rfl) (fun _ => rfl) (opn_op (by kernel_rfl)) (opnF_cons (k := 1) rfl (by kernel_rfl) (fun _ => rfl) (opn_op (by kernel_rfl)) (opnF_cons (k := 1) rfl (by kernel_rfl) (fun _ => rfl) opn_valsW (opnF_cons (k := 1) rfl (by kernel_rfl) (fun _ => rfl) opn_frames opnF_nil)))))
    (fun x => ⟨x.1, x.2.1, x.2.2.1, x.2.2.2.1⟩) (fun _ => rfl) (fun _ h => ⟨h.2.2.1, h.2.2.2.1⟩)
theorem opn_shape : Opn Tryz.prog 120 Shp eShape InS :=
  Opn.map (opn_struct Tryz.underlying120 (opnF_cons (k := 1) rfl (by kernel_rfl) (fun _ => rfl) (opn_in (by kernel_rfl)) (opnF_cons (k := 1) rfl (by kernel_rfl) (fun _ => rfl) (opn_in (by kernel_rfl)) opnF_nil)))
    (fun x => (x.1, x.2.1)) (fun _ => rfl) (fun _ h => ⟨h.1, h.2.1⟩)
theorem opn_thread : Opn Tryz.prog 42 GThread eThread (fun _ => True) :=
  Opn.map (opn_struct Tryz.underlying42 (opnF_cons (k := 1) rfl (by kernel_rfl) (fun _ => rfl) opn_frames (opnF_cons (k := 1) rfl (by kernel_rfl) (fun _ => rfl) (opn_op (by kernel_rfl)) (opnF_cons (k := 1) rfl (by kernel_rfl) (fun _ => rfl) (opn_op (by kernel_rfl)) (opnF_cons (k := 2) rfl (by kernel_rfl) (fun _ => rfl) opn_val opnF_nil)))))
    (fun x => ⟨x.1, x.2.1, x.2.2.1, x.2.2.2.1⟩) (fun _ => rfl) (fun _ _ => trivial)
theorem opn_end : Opn Tryz.prog 125 GEnd eEnd (fun _ => True) :=
  Opn.map (opn_struct Tryz.underlying125 (opnF_cons (k := 1) rfl (by kernel_rfl) (fun _ => rfl) (opn_op (by kernel_rfl)) (opnF_cons (k := 2) rfl (by kernel_rfl) (fun _ => rfl) opn_val opnF_nil)))
    (fun x => ⟨x.1, x.2.1⟩) (fun _ => rfl) (fun _ _ => trivial)
theorem opn_cells : Opn Tryz.prog 27 (List GCell) (fun l => [.sl true (l.map eCell)]) (fun l => ∀ c ∈ l, okCell c) := Opn.map (opn_slice (e := 53) (k := 4) (f := eCell) (by kernel_rfl) (by kernel_rfl) (by decide) (fun _ => rfl) opn_cell) id (fun _ => rfl) (fun _ h => h)
theorem opn_shapes : Opn Tryz.prog 28 (List Shp) (fun l => [.sl true (l.map eShape)]) (fun l => ∀ x ∈ l, InS x) := Opn.map (opn_slice (e := 120) (k := 2) (f := eShape) (by kernel_rfl) (by kernel_rfl) (by decide) (fun _ => rfl) opn_shape) id (fun _ => rfl) (fun _ h => h)
theorem opn_threads : Opn Tryz.prog 29 (List GThread) (fun l => [.sl true (l.map eThread)]) (fun _ => True) := Opn.map (opn_slice (e := 42) (k := 5) (f := eThread) (by kernel_rfl) (by kernel_rfl) (by decide) (fun _ => rfl) opn_thread) id (fun _ => rfl) (fun _ _ => trivial)
theorem opn_ends : Opn Tryz.prog 30 (List GEnd) (fun l => [.sl true (l.map eEnd)]) (fun _ => True) := Opn.map (opn_slice (e := 125) (k := 3) (f := eEnd) (by kernel_rfl) (by kernel_rfl) (by decide) (fun _ => rfl) opn_end) id (fun _ => rfl) (fun _ _ => trivial)
theorem opn_state : Opn Tryz.prog 32 GState eState okSt :=
  Opn.map (opn_struct Tryz.underlying32 (opnF_cons (k := 1) rfl (by kernel_rfl) (fun _ => rfl) opn_cells (opnF_cons (k := 1) rfl (by kernel_rfl) (fun _ => rfl) opn_shapes (opnF_cons (k := 1) rfl (by kernel_rfl) (fun _ => rfl) opn_texts (opnF_cons (k := 1) rfl (by kernel_rfl) (fun _ => rfl) opn_threads
    (opnF_cons (k := 1) rfl (by kernel_rfl) (fun _ => rfl) opn_ends (opnF_cons (k := 1) rfl (by kernel_rfl) (fun _ => rfl) opn_vals (opnF_cons (k := 1) rfl (by kernel_rfl) (fun _ => rfl) (opn_op (by kernel_rfl)) (opnF_cons (k := 1) rfl (by kernel_rfl) (fun _ => rfl) (opn_op (by kernel_rfl)) opnF_nil)))))))))
    (fun x => ⟨x.1, x.2.1, x.2.2.1, x.2.2.2.1, x.2.2.2.2.1, x.2.2.2.2.2.1, x.2.2.2.2.2.2.1, x.2.2.2.2.2.2.2.1⟩) (fun _ => rfl) (fun x h => ⟨h.2.2.1, h.2.1, h.1⟩)
theorem state_arg {H : Type} {enc : TypeId × Value → H} {W : World} {held : Bool} {r : Reach} {b0 : Nat} {v : Value} {d : DataW H} {ps : List MemPlace} (hval : Value.okWide Tryz.prog W r b0 32 v) (h : DataW.Trod enc Tryz.prog W 0 (fun _ => true) held 32 v d ps) (hz : ∀ y ∈ d.weights Tryz.prog 32, y ≤ reachBytes) :
    ∃ s : GState, okSt s ∧ ∀ (B : Nat → Prop) (ι : Nms), RV (Env.mk (fun b => b < W.heap.size) B) W ι (aD (eState s)) v := by
  obtain ⟨cs, rfl, hsz⟩ := WideShapes.okWide_struct Tryz.underlying32 hval
  rw [show Tryz.prog.cellsOf 32 = 8 by kernel_rfl] at hsz
  obtain ⟨m, hm⟩ := h
  rw [show (Value.agg cs).cells = cs from rfl] at hm
  obtain ⟨s, s1, s2⟩ := opn_state enc W held cs.toList ⟨m, _, hm, hz⟩
  refine ⟨s, s1, fun B ι => ?_⟩
  rw [RV]
  exact ⟨cs, rfl, rcs_of _ (by simp [hsz]) (s2 _ fun b hb => hb)⟩
theorem shapeNames1_ok (S : Bool) (L : List Shp) (hin : ∀ x ∈ L, InS x) (n : Int) {K : D → List Blk → Prop} (h : K (.one (.own 0 1 (namesQ L n).length)) [⟨.c 3, 1, iRows (namesQ L n)⟩]) :
    DPure Tryz.prog 162 [dL S (L.map eShape), dI n] K := by
  refine DPure.own 3 1 ?_
  refine fn_ok [0,1,4,17] [] Tryz.func162 rfl (by kernel_rfl) rfl rfl rfl rfl (by kernel_rfl) ?_
  simp
  refine shapeCheck_ok S L hin ?_
  have no : (faultP L ≠ 0 ∨ n < 0 ∨ (L.length : Int) ≤ n) → namesQ L n = [] := fun e => by unfold namesQ; rw [if_pos e]
  by_cases c1 : faultP L = 0
  · simp [c1]
    have emp : namesQ L n = [] → (K (D.one (C.d Dt.emp)) [] ∨ K (D.one (C.own 0 1 0)) [{ t := BT.c 3, k := 1, es := [] }]) := fun e => by
      rw [e] at h
      exact .inr (by simpa [iRows] using h)
    refine alt (fun c2 => ?_) (fun c2 => emp (no (.inr (.inl (by omega)))))
    intro _
    refine alt (fun c3 => emp (no (.inr (.inr c3)))) (fun c3 => ?_)
    obtain ⟨k, rfl⟩ : ∃ k : Nat, n = k := ⟨n.toNat, by omega⟩
    have hq : namesQ L k = namesP L k := by unfold namesQ; rw [if_neg (by rw [c1]; omega)]; rfl
    rw [hq] at h
    obtain ⟨g1, g2⟩ := faultP_ok c1
    refine names1_ok S L k (g2.2.2.ahead (by omega)) (by omega) (by omega) ?_
    simp
    exact h
  · rw [no (.inl c1)] at h
    simp [c1]
    exact .inr (by simpa [iRows] using h)
theorem any_not {α : Type} {l : List α} {p : α → Bool} : (l.any fun x => !p x) = !l.all p := by rw [List.all_eq_not_any_not]; simp
theorem celCell_ok (s : GState) (hs : ∀ x ∈ s.shapes, InS x) (hf : faultP s.shapes = 0) (c : GCell) (hc : okCell c) (hv : c.vals.length ≤ 100000) {K : D → List Blk → Prop} (h : K (dB (cellB s c)) []) : DPure Tryz.prog 80 [pS true s, aD (eCell c)] K := by
  obtain ⟨kind, num, vals, frames⟩ := c
  have hin : ∀ v ∈ vals, InI v.n := hc.1
  replace hv : vals.length ≤ 100000 := hv
  generalize hA : vals.all (fitsB s) = bA
  generalize hF : frames.all (frameFits s) = bF
  have hq : cellB s ⟨kind, num, vals, frames⟩ = (kindB s ⟨kind, num, vals, frames⟩ && decide (frames.length = framesOf ⟨kind, num, vals, frames⟩) && bA && bF) := by rw [← hA, ← hF]; rfl
  refine fn_ok [0,1,2,3,4,5,6,7,16,17,19,45,47,53,63,70,71,76,101] [(1, [0,1,3,0,8,24,56,7,255,511], (.seg 0 (.seg 1 (.seg 2 (.seg 3 (.seg 4 (.seg 5 (.seg 6 (.seg 7 (.seg 8 (.seg 9 .last))))))))))), (6, [0,1,0,4,12,28,60,124,255,511], (.seg 0 (.seg 1 (.seg 2 (.seg 3 (.seg 4 (.seg 5 (.seg 6 (.seg 7 (.eff 8 [] (.seg 9 .last))))))))))), (7, [0,1,3,7,15,3,35,99,227,3,515,2019,4067,8191,16383,32767], (.seg 0 (.seg 1 (.seg 2 (.seg 3 (.seg 4 (.seg 5 (.seg 6 (.seg 7 (.seg 8 (.seg 9 (.seg 10 (.eff 11 [2, 3, 4] (.seg 12 (.seg 13 (.seg 14 (.seg 15 .last)))))))))))))))))] Tryz.func80 rfl (by kernel_rfl) rfl rfl rfl rfl (by kernel_rfl) ?_
  by_cases e0 : kind = 0
  · subst e0
    simp
    repeat' (first | (refine alt (fun _ => ?_) (fun _ => ?_)) | (intro _) | (refine celAll_ok true s vals ?_; rw [hA]; cases bA <;> simp) | (refine containsFFr_ok true frames eFrame (fun f => aD (eFrame f)) (fun f => !frameFits s f) 167 (fun _ => by simp) rfl [] [.at_ true [.at_ true (eState s)]] (fun x => ⟨_, _, _, _, _, _, _, _, rfl, rfl⟩) (fun x _ K hK => celCell2_ok s x hK) ?_; rw [any_not, hF]; simp))
    all_goals exact kB h (by rw [hq]; clear hq hA hF; simp [kindB, framesOf, *] <;> (intros; omega))
  by_cases e1 : kind = 1
  · subst e1
    simp
    intro _ hl
    refine cwithin_ok _ _ _ ?_
    rw [wrap_id (by omega) (by omega)]
    cases hW : btw num 0 ((s.shapes.length : Int) - 1) with
    | false =>
      simp
      exact kB h (by rw [hq]; simp [kindB, hW])
    | true =>
      have hN : namesQ s.shapes num = namesP s.shapes num.toNat := by
        unfold namesQ
        simp [btw] at hW
        rw [if_neg (by rw [hf]; omega)]
      simp
      intro _
      refine shapeNames1_ok true s.shapes hs num ?_
      rw [hN]
      simp
      have hSL : shapeLen s num = (namesP s.shapes num.toNat).length := rfl
      repeat' (first | (refine alt (fun _ => ?_) (fun _ => ?_)) | (intro _) | (refine celAll_ok true s vals ?_; rw [hA]; cases bA <;> simp) | (refine containsFFr_ok true frames eFrame (fun f => aD (eFrame f)) (fun f => !frameFits s f) 167 (fun _ => by simp) rfl [] [.at_ true [.at_ true (eState s)]] (fun x => ⟨_, _, _, _, _, _, _, _, rfl, rfl⟩) (fun x _ K hK => celCell2_ok s x hK) ?_; rw [any_not, hF]; simp))
      all_goals exact kB h (by rw [hq]; clear hq hA hF; simp [kindB, framesOf, *] <;> (intros; omega))
  by_cases e2 : kind = 2
  · subst e2
    simp
    repeat' (first | (refine alt (fun _ => ?_) (fun _ => ?_)) | (intro _) | (refine celAll_ok true s vals ?_; rw [hA]; cases bA <;> simp) | (refine containsFFr_ok true frames eFrame (fun f => aD (eFrame f)) (fun f => !frameFits s f) 167 (fun _ => by simp) rfl [] [.at_ true [.at_ true (eState s)]] (fun x => ⟨_, _, _, _, _, _, _, _, rfl, rfl⟩) (fun x _ K hK => celCell2_ok s x hK) ?_; rw [any_not, hF]; simp))
    all_goals exact kB h (by rw [hq]; clear hq hA hF; simp [kindB, framesOf, *] <;> (intros; omega))
  by_cases e3 : kind = 3
  · subst e3
    simp
    repeat' (first | (refine alt (fun _ => ?_) (fun _ => ?_)) | (intro _) | (refine celAll_ok true s vals ?_; rw [hA]; cases bA <;> simp) | (refine containsFFr_ok true frames eFrame (fun f => aD (eFrame f)) (fun f => !frameFits s f) 167 (fun _ => by simp) rfl [] [.at_ true [.at_ true (eState s)]] (fun x => ⟨_, _, _, _, _, _, _, _, rfl, rfl⟩) (fun x _ K hK => celCell2_ok s x hK) ?_; rw [any_not, hF]; simp))
    all_goals exact kB h (by rw [hq]; clear hq hA hF; simp [kindB, framesOf, *] <;> (intros; omega))
  by_cases e4 : kind = 4
  · subst e4
    simp
    intro _
    refine containsFV_ok true vals eVal (fun v => aD (eVal v)) (fun v => !namesB s v 3) 163 (fun _ => by simp) rfl [] [.at_ true [.at_ true (eState s)]] (fun x => ⟨_, _, rfl, rfl⟩) (fun x _ K hK => celCell1_ok s x hK) ?_
    rw [any_not]
    generalize hC : (vals.all fun v => namesB s v 3) = bC at *
    simp
    repeat' (first | (refine alt (fun _ => ?_) (fun _ => ?_)) | (intro _) | (refine celAll_ok true s vals ?_; rw [hA]; cases bA <;> simp) | (refine containsFFr_ok true frames eFrame (fun f => aD (eFrame f)) (fun f => !frameFits s f) 167 (fun _ => by simp) rfl [] [.at_ true [.at_ true (eState s)]] (fun x => ⟨_, _, _, _, _, _, _, _, rfl, rfl⟩) (fun x _ K hK => celCell2_ok s x hK) ?_; rw [any_not, hF]; simp))
    all_goals exact kB h (by rw [hq]; clear hq hA hF; simp [kindB, framesOf, *] <;> (intros; omega))
  by_cases e5 : kind = 5
  · subst e5
    simp
    intro _
    refine cwithin_ok _ _ _ ?_
    cases hW : btw num 0 2 with
    | false =>
      simp
      repeat' (first | (refine alt (fun _ => ?_) (fun _ => ?_)) | (intro _) | fail)
      all_goals exact kB h (by rw [hq]; simp [kindB, hW])
    | true =>
      by_cases e0 : num = 0
      · subst e0
        simp
        repeat' (first | (refine alt (fun _ => ?_) (fun _ => ?_)) | (intro _) | (refine celAll_ok true s vals ?_; rw [hA]; cases bA <;> simp) | (refine containsFFr_ok true frames eFrame (fun f => aD (eFrame f)) (fun f => !frameFits s f) 167 (fun _ => by simp) rfl [] [.at_ true [.at_ true (eState s)]] (fun x => ⟨_, _, _, _, _, _, _, _, rfl, rfl⟩) (fun x _ K hK => celCell2_ok s x hK) ?_; rw [any_not, hF]; simp))
        all_goals exact kB h (by rw [hq]; clear hq hA hF; simp [kindB, framesOf, *] <;> (intros; omega))
      · simp [e0]
        repeat' (first | (refine alt (fun _ => ?_) (fun _ => ?_)) | (intro _) | (refine celAll_ok true s vals ?_; rw [hA]; cases bA <;> simp) | (refine containsFFr_ok true frames eFrame (fun f => aD (eFrame f)) (fun f => !frameFits s f) 167 (fun _ => by simp) rfl [] [.at_ true [.at_ true (eState s)]] (fun x => ⟨_, _, _, _, _, _, _, _, rfl, rfl⟩) (fun x _ K hK => celCell2_ok s x hK) ?_; rw [any_not, hF]; simp))
        all_goals exact kB h (by rw [hq]; clear hq hA hF; simp [kindB, framesOf, *] <;> (intros; omega))
  by_cases e6 : kind = 6
  · subst e6
    simp
    intro _
    refine cwithin_ok _ _ _ ?_
    generalize hW : btw num (-1) 4 = bW at *
    simp
    repeat' (first | (refine alt (fun _ => ?_) (fun _ => ?_)) | (intro _) | (refine celAll_ok true s vals ?_; rw [hA]; cases bA <;> simp) | (refine containsFFr_ok true frames eFrame (fun f => aD (eFrame f)) (fun f => !frameFits s f) 167 (fun _ => by simp) rfl [] [.at_ true [.at_ true (eState s)]] (fun x => ⟨_, _, _, _, _, _, _, _, rfl, rfl⟩) (fun x _ K hK => celCell2_ok s x hK) ?_; rw [any_not, hF]; simp))
    all_goals exact kB h (by rw [hq]; clear hq hA hF; simp [kindB, framesOf, *] <;> (intros; omega))
  by_cases e7 : kind = 7
  · subst e7
    simp
    intro _
    refine celWeak_ok true _ vals hin hv ?_
    generalize hW : weakB vals = bW at *
    simp
    repeat' (first | (refine alt (fun _ => ?_) (fun _ => ?_)) | (intro _) | (refine celAll_ok true s vals ?_; rw [hA]; cases bA <;> simp) | (refine containsFFr_ok true frames eFrame (fun f => aD (eFrame f)) (fun f => !frameFits s f) 167 (fun _ => by simp) rfl [] [.at_ true [.at_ true (eState s)]] (fun x => ⟨_, _, _, _, _, _, _, _, rfl, rfl⟩) (fun x _ K hK => celCell2_ok s x hK) ?_; rw [any_not, hF]; simp))
    all_goals exact kB h (by rw [hq]; clear hq hA hF; simp [kindB, framesOf, *] <;> (intros; omega))
  · simp [e0, e1, e2, e3, e4, e5, e6, e7]
    intro _
    exact kB h (by rw [hq]; simp [kindB, e0, e1, e2, e3, e4, e5, e6, e7])
theorem celCheck1_ok (s : GState) (x : Shp) {K : D → List Blk → Prop} (h : K (dB (!decide (x.2 < s.texts.length))) []) : DPure Tryz.prog 77 [aD (eShape x), .one (.d (.at_ true (eState s)))] K := by
  refine fn_ok [0,1,2,3] [] Tryz.func77 rfl (by kernel_rfl) rfl rfl rfl rfl (by kernel_rfl) ?_
  simp
  intro _
  exact kB h (by rw [Bool.eq_iff_iff]; simp)
theorem celCheck2_ok (s : GState) (hs : ∀ x ∈ s.shapes, InS x) (hf : faultP s.shapes = 0) (c : GCell) (hc : okCell c) (hv : c.vals.length ≤ 100000) {K : D → List Blk → Prop} (h : K (dB (!cellB s c)) []) : DPure Tryz.prog 79 [aD (eCell c), .one (.d (.at_ true (eState s)))] K := by
  refine fn_ok [0,1,2,3] [] Tryz.func79 rfl (by kernel_rfl) rfl rfl rfl rfl (by kernel_rfl) ?_
  simp
  refine celCell_ok s hs hf c hc hv ?_
  simp
  exact h
theorem celCheck3_ok (s : GState) (v : GVal) {K : D → List Blk → Prop} (h : K (dB (!saidB s v)) []) : DPure Tryz.prog 82 [aD (eVal v), .one (.d (.at_ true (eState s)))] K := by
  refine fn_ok [0,1,2,3] [] Tryz.func82 rfl (by kernel_rfl) rfl rfl rfl rfl (by kernel_rfl) ?_
  simp
  refine alt (fun c1 => ?_) (fun c1 => kB h (by simp [saidB, c1]))
  refine fits_ok true s v ?_
  simp
  exact kB h (by simp [saidB, c1])
theorem celCheck4_ok (s : GState) (e : GEnd) {K : D → List Blk → Prop} (h : K (dB (!endB s e)) []) : DPure Tryz.prog 85 [aD (eEnd e), .one (.d (.at_ true (eState s)))] K := by
  refine fn_ok [0,1,2,3] [] Tryz.func85 rfl (by kernel_rfl) rfl rfl rfl rfl (by kernel_rfl) ?_
  simp
  intro _
  refine cwithin_ok _ _ _ ?_
  rw [wrap_id (by omega) (by omega)]
  cases hW : btw e.cell 0 ((s.cells.length : Int) - 1) with
  | false =>
    simp
    exact kB h (by simp [endB, hW])
  | true =>
    simp
    refine celIs_ok true s e.fn 4 (by decide) ?_
    simp
    exact kB h (by simp [endB, hW])
theorem celCheck_ok (s : GState) (hok : okSt s) {K : D → List Blk → Prop} (h : K (dI (cellsQ wordsT s)) []) : DPure Tryz.prog 27 [aD (eState s)] K := by
  obtain ⟨ok1, ok2, ok3⟩ := hok
  refine fn_ok [0,1,2,3,4,9,26,30,34] [] Tryz.func27 rfl (by kernel_rfl) rfl rfl rfl rfl (by kernel_rfl) ?_
  simp
  refine ICall.ofPure (es := [pS false s]) (by simp) ?_
  refine celLarge_ok false s ?_
  cases hL : heapLarge s with
  | true =>
    have : cellsQ wordsT s = 2 := by unfold cellsQ; rw [if_pos hL]
    rw [this] at h
    simp
    exact h
  | false =>
  simp
  refine shapeCheck_ok true s.shapes ok2 ?_
  by_cases hF : faultP s.shapes = 0
  case neg =>
    have : cellsQ wordsT s = faultP s.shapes := by unfold cellsQ; rw [if_neg (by rw [hL]; simp), if_pos hF]
    rw [this] at h
    simp [hF]
    exact h
  have bad : (¬ (wordsB wordsT s.texts = true ∧ s.shapes.all (fun x => decide (x.2 < s.texts.length)) = true ∧ s.cells.all (cellB s) = true ∧ s.said.all (saidB s) = true ∧ s.ends.all (endB s) = true)) → K (dI 3) [] := fun e => by
    have : cellsQ wordsT s = 3 := by unfold cellsQ; rw [if_neg (by rw [hL]; simp), if_neg (by simpa using hF), if_neg e]
    rw [this] at h; exact h
  have good : (wordsB wordsT s.texts = true ∧ s.shapes.all (fun x => decide (x.2 < s.texts.length)) = true ∧ s.cells.all (cellB s) = true ∧ s.said.all (saidB s) = true ∧ s.ends.all (endB s) = true) → K (dI 0) [] := fun e => by
    have : cellsQ wordsT s = 0 := by unfold cellsQ; rw [if_neg (by rw [hL]; simp), if_neg (by simpa using hF), if_pos e]
    rw [this] at h; exact h
  clear h
  have hlen : s.texts.length ≤ 300 ∧ ∀ c ∈ s.cells, c.vals.length ≤ 100000 := by
    simp only [heapLarge, Bool.or_eq_false_iff, decide_eq_false_iff_not, List.any_eq_false] at hL
    refine ⟨by omega, fun c hc => ?_⟩
    have := hL.2 c hc
    simp only [manyB, Bool.and_eq_true, Bool.or_eq_true, decide_eq_true_eq, Bool.not_eq_true', decide_eq_false_iff_not] at this
    omega
  simp [hF]
  refine celTexts_ok true s.texts ok1 (by omega) ?_
  generalize wordsB wordsT s.texts = b1 at bad good ⊢
  cases b1 with
  | false =>
    simp
    exact bad (by simp)
  | true =>
  simp
  refine containsFSh_ok true s.shapes eShape (fun x => aD (eShape x)) (fun x => !decide (x.2 < s.texts.length)) 77 (fun _ => by simp) rfl [] [.at_ true (eState s)] (fun x => ⟨_, _, rfl, rfl⟩) (fun x _ K hK => celCheck1_ok s x hK) ?_
  rw [any_not]
  generalize (s.shapes.all fun x => decide (x.2 < s.texts.length)) = b2 at bad good ⊢
  cases b2 with
  | false =>
    simp
    exact bad (by simp)
  | true =>
  simp
  refine containsFCe_ok true s.cells eCell (fun c => aD (eCell c)) (fun c => !cellB s c) 79 (fun _ => by simp) rfl [] [.at_ true (eState s)] (fun x => ⟨_, _, _, _, rfl, rfl⟩) (fun x hx K hK => celCheck2_ok s ok2 hF x (ok3 x hx) (hlen.2 x hx) hK) ?_
  rw [any_not]
  generalize s.cells.all (cellB s) = b3 at bad good ⊢
  cases b3 with
  | false =>
    simp
    exact bad (by simp)
  | true =>
  simp
  refine containsFV_ok true s.said eVal (fun v => aD (eVal v)) (fun v => !saidB s v) 82 (fun _ => by simp) rfl [] [.at_ true (eState s)] (fun x => ⟨_, _, rfl, rfl⟩) (fun x _ K hK => celCheck3_ok s x hK) ?_
  rw [any_not]
  generalize s.said.all (saidB s) = b4 at bad good ⊢
  cases b4 with
  | false =>
    simp
    exact bad (by simp)
  | true =>
  simp
  refine containsFEn_ok true s.ends eEnd (fun e => aD (eEnd e)) (fun e => !endB s e) 85 (fun _ => by simp) rfl [] [.at_ true (eState s)] (fun x => ⟨_, _, _, rfl, rfl⟩) (fun x _ K hK => celCheck4_ok s x hK) ?_
  rw [any_not]
  generalize s.ends.all (endB s) = b5 at bad good ⊢
  cases b5 with
  | false =>
    simp
    exact bad (by simp)
  | true =>
    simp
    exact good (by simp)
theorem stCheck1_ok (t : GThread) {K : D → List Blk → Prop} (h : K (dB (decide (30 < t.frames.length))) []) : DPure Tryz.prog 62 [aD (eThread t)] K := by
  refine fn_ok [0,1,2] [] Tryz.func62 rfl (by kernel_rfl) rfl rfl rfl rfl (by kernel_rfl) ?_
  simp
  intro _
  exact kB h (by rw [Bool.eq_iff_iff]; simp; omega)
theorem heap_large {s : GState} (h : cellsQ wordsT s = 0) : s.cells.length ≤ 300 ∧ s.cells.all (cellB s) = true := by
  unfold cellsQ at h
  split at h
  · cases h
  · rename_i h1
    split at h
    · rename_i h2; exact absurd h h2
    split at h
    · rename_i h3
      simp only [heapLarge, Bool.not_eq_true, Bool.or_eq_false_iff, decide_eq_false_iff_not] at h1
      exact ⟨by omega, h3.2.2.1⟩
    · cases h
theorem stCheck_ok (p : GProg) (hp : okP p) (s : GState) (hs : okSt s) {K : D → List Blk → Prop} (h : K (dI (stateQ wordsT p s)) []) : DPure Tryz.prog 24 [aD (eProg p), aD (eState s)] K := by
  refine fn_ok [0,1,2,3,4,5,6,7,11,16,26,44] [] Tryz.func24 rfl (by kernel_rfl) rfl rfl rfl rfl (by kernel_rfl) ?_
  simp
  refine ⟨_, rfl, Wk.refl _, ?_⟩
  simp [vcC0]
  refine check_ok p hp ?_
  by_cases c1 : checkQ wordsT p = 0
  case neg =>
    have : stateQ wordsT p s = checkQ wordsT p := by unfold stateQ; rw [if_pos c1]
    rw [this] at h
    simp [c1]
    exact h
  simp [c1]
  refine celCheck_ok s hs ?_
  by_cases c2 : cellsQ wordsT s = 0
  case neg =>
    have : stateQ wordsT p s = cellsQ wordsT s := by unfold stateQ; rw [if_neg (by rw [c1]; simp), if_pos c2]
    rw [this] at h
    simp [c2]
    exact h
  have h3 : stateQ wordsT p s = if stateLarge s = true then 2 else if stateB p s = true then 0 else 3 := by unfold stateQ; rw [if_neg (by rw [c1]; simp), if_neg (by rw [c2]; simp)]
  rw [h3] at h
  clear h3
  obtain ⟨l1, l2⟩ := heap_large c2
  simp [c2]
  intro _
  by_cases c3 : 5 < s.threads.length
  · rw [if_pos (by simp [stateLarge, c3])] at h
    have c3' : ¬ (s.threads.length : Int) ≤ 5 := by omega
    simp [c3']
    exact h
  have c3' : (s.threads.length : Int) ≤ 5 := by omega
  simp [c3']
  refine containsFTh_ok true s.threads eThread (fun x => aD (eThread x)) (fun t => decide (30 < t.frames.length)) 62 (fun _ => by simp) rfl [] [] (fun x => ⟨_, _, _, _, _, rfl, rfl⟩) (fun x _ K hK => stCheck1_ok x hK) ?_
  cases c4 : s.threads.any fun t => decide (30 < t.frames.length) with
  | true =>
    rw [if_pos (by simp [stateLarge, c4])] at h
    simp
    exact h
  | false =>
  rw [if_neg (by simp [stateLarge, c4, c3])] at h
  have hfs : ∀ t ∈ s.threads, t.frames.length ≤ 30 := fun t ht => by
    have := List.any_eq_false.1 c4 t ht
    simpa using this
  simp
  refine all_ok p (large_lt (check_zero c1).1).1 (fun f hf => ⟨(fn_in c1 hf).2.2.1, (fn_in c1 hf).2.2.2.1⟩) ?_
  simp
  refine ⟨⟨45, [(42, .one (.ptr 3 7 0 0))], (Hp.none.set 2 (some ⟨.m 3 (seenG []) 0, 0, []⟩)).set 3 (some ⟨.c 111, 7, [lookRow p s 2]⟩), 4⟩, rfl, (Wk.sub (by simp)).trans (Wk.deep (fun n => n = 1) (fun t => DRel.refl _) ?_), ?_⟩
  · intro i y hy
    by_cases e3 : i = 3
    · subst e3
      simp at hy
      subst hy
      refine ⟨by simp, _, rfl, ⟨rfl, rfl, by simp, by simp [lookRow], fun i j c' hc => ?_⟩⟩
      match i, j with
      | 0, 0 => simp [nth2, lookRow] at hc ⊢; exact .inl hc.symm
      | 0, 1 => simp [nth2, lookRow] at hc ⊢; exact .inl hc.symm
      | 0, 2 => simp [nth2, lookRow] at hc ⊢; exact .inl hc.symm
      | 0, 3 =>
        simp [nth2, lookRow] at hc ⊢
        subst hc
        refine .inr ⟨_, rfl, Shw.ptr (fun j => .d ((eState s).getD j .emp)) rfl rfl rfl (fun j d hd => ?_) (fun j d hd => ?_)⟩
        · match j with
          | 0 => rfl
          | 1 => rfl
          | 2 => rfl
          | 3 => rfl
          | 4 => rfl
          | 5 => rfl
          | 6 => rfl
          | 7 => rfl
          | j + 8 => simp at hd
        · have hm := List.mem_of_getElem? hd
          rw [show (eState s).getD j .emp = d by rw [List.getD_eq_getElem?_getD]; exact congrArg (·.getD .emp) hd]
          refine .d ?_
          simp at hm
          rcases hm with rfl | rfl | rfl | rfl | rfl | rfl | rfl | rfl <;> simp
      | 0, 4 => simp [nth2, lookRow] at hc ⊢; exact .inl hc.symm
      | 0, 5 => simp [nth2, lookRow] at hc ⊢; exact .inl hc.symm
      | 0, 6 => simp [nth2, lookRow] at hc ⊢; exact .inl hc.symm
      | 0, j + 7 => simp [nth2, lookRow] at hc
      | i + 1, j => simp [nth2, lookRow] at hc
    · by_cases e2 : i = 2
      · subst e2
        simp at hy
        subst hy
        exact ⟨by simp, _, rfl, ⟨by rw [seenG_nil], rfl, by simp, by simp, fun i j c' hc => by simp [nth2] at hc⟩⟩
      · simp [e3, e2] at hy
  simp [vcCI0]
  refine lright_ok p c1 s (by omega) l2 (by omega) hfs (nL := 3) (nG := 2) ?_ (by simp) (by simp) fun H' nx' hS' => ?_
  · refine HSol.set (HSol.set (fun i x hx => by simp [Hp.none] at hx) (by simp)) (by simp [lookRow])
  cases c5 : stateB p s with
  | true =>
    rw [if_pos c5] at h
    simp
    exact h
  | false =>
    rw [if_neg (by rw [c5]; simp)] at h
    simp
    exact h
theorem ordersB_same {p p' : GProg} (h1 : p.fns.map (·.caught) = p'.fns.map (·.caught)) (h2 : p.consts.length = p'.consts.length) (h3 : p.texts.length = p'.texts.length) (f : GFn) : ordersB p f = ordersB p' f := by
  unfold ordersB
  congr 1
  funext k
  exact orderB_congr h1 h2 h3 rfl rfl rfl rfl _ _
theorem functionB_same {p p' : GProg} (h1 : p.fns.map (·.caught) = p'.fns.map (·.caught)) (h2 : p.consts.length = p'.consts.length) (h3 : p.texts.length = p'.texts.length) (f : GFn) : functionB p f = functionB p' f := by
  unfold functionB
  rw [ordersB_same h1 h2 h3]
theorem check_mk {p : GProg} (h1 : largeB p = false) (h2 : tablesB wordsT p = true) (h3 : firstB p = true) (h4 : ∀ f ∈ p.fns, functionB p f = true) : checkQ wordsT p = 0 := by
  rw [check_fns h1 h2 h3, if_neg]
  simp only [List.any_eq_true, not_exists, not_and]
  intro f hf
  rw [h4 f hf]
  simp
def deadFn (f : GFn) (m : Nat) : GFn := ⟨f.params, f.regs, f.gen, f.caught, f.code.set m endIns⟩
theorem deadFn_ok {p p' : GProg} (h1 : p.fns.map (·.caught) = p'.fns.map (·.caught)) (h2 : p.consts.length = p'.consts.length) (h3 : p.texts.length = p'.texts.length) {f : GFn} {m : Nat} (h : functionB p f = true) (hs : (triesQ f).seen.getD m false = false) : functionB p' (deadFn f m) = true := by
  simp only [functionB, Bool.and_eq_true, Bool.not_eq_true'] at h ⊢
  obtain ⟨⟨h4, h5⟩, h6⟩ := h
  have hl : f.code.length = (deadFn f m).code.length := by simp [deadFn]
  have hne : ∀ k, k ≠ m → f.code.getD k dIns = (deadFn f m).code.getD k dIns := fun k hk => by
    simp only [deadFn, getD_set]
    rw [if_neg (by omega)]
  refine ⟨⟨h4, ?_⟩, by rw [triesQ_other (goesAll_of h5) hl m hne hs]; exact h6⟩
  unfold ordersB at h5 ⊢
  rw [List.all_eq_true] at h5 ⊢
  intro k hk
  rw [← hl] at hk
  have h7 := h5 k hk
  rw [← orderB_congr h1 h2 h3 (f := f) (f' := deadFn f m) rfl rfl rfl hl]
  by_cases e : k = m
  · subst e
    have hk' : k < f.code.length := List.mem_range.1 hk
    have : (deadFn f k).code.getD k dIns = endIns := by simp [deadFn, getD_set, hk']
    rw [this]
    exact end_order p f k
  · rw [← hne k e]; exact h7
theorem dead_check {f0 : GFn} {fs : List GFn} {cs : List GVal} {ts : List ByteArray} (h : checkQ wordsT ⟨f0 :: fs, cs, ts⟩ = 0) {m : Nat} (hs : (triesQ f0).seen.getD m false = false) : checkQ wordsT ⟨deadFn f0 m :: fs, cs, ts⟩ = 0 := by
  obtain ⟨h1, h2, h3, h4⟩ := check_zero h
  have hc : (⟨f0 :: fs, cs, ts⟩ : GProg).fns.map (·.caught) = (⟨deadFn f0 m :: fs, cs, ts⟩ : GProg).fns.map (·.caught) := rfl
  refine check_mk ?_ h2 h3 fun f hf => ?_
  · rw [← h1]; simp [largeB, fnLargeB, deadFn]
  · rcases List.mem_cons.1 hf with rfl | hf
    · exact deadFn_ok hc rfl rfl (h4 f0 (List.mem_cons_self ..)) hs
    · rw [← functionB_same hc rfl rfl]
      exact h4 f (List.mem_cons_of_mem _ hf)
theorem constBad_more {p p' : GProg} (h : p.texts.length ≤ p'.texts.length) {v : GVal} (hb : constBadB p v = false) : constBadB p' v = false := by
  simp only [constBadB, Bool.or_eq_false_iff, Bool.and_eq_false_iff, decide_eq_false_iff_not] at hb ⊢
  refine ⟨hb.1, hb.2.imp id fun h2 => ?_⟩
  omega
theorem tables_more {p p' : GProg} {xs : List ByteArray} {cs : List GVal} (h : tablesB wordsT p = true) (ht : p'.texts = p.texts ++ xs) (hn : (p.texts ++ xs).Nodup) (hc : p'.consts = p.consts ++ cs) (hcs : ∀ v ∈ cs, constBadB p' v = false) : tablesB wordsT p' = true := by
  simp only [tablesB, Bool.and_eq_true, decide_eq_true_eq, Bool.not_eq_true', List.any_eq_false] at h ⊢
  obtain ⟨⟨h1, h2⟩, h3⟩ := h
  refine ⟨⟨?_, by rw [ht]; exact hn⟩, fun v hv => ?_⟩
  · rw [ht]
    have hl : wordsT.length ≤ p.texts.length := by
      have := congrArg List.length h1
      rw [List.length_take] at this; omega
    rw [List.take_append_of_le_length hl]; exact h1
  · rw [hc] at hv
    have : constBadB p' v = false := by
      rcases List.mem_append.1 hv with hv | hv
      · exact constBad_more (p := p) (by rw [ht]; simp) (by simpa using h3 v hv)
      · exact hcs v hv
    rw [this]; simp
theorem more_ok {p p' : GProg} {f f' : GFn} (h : functionB p f = true) (hf : f.regs ≤ f'.regs) (hg : f.gen = f'.gen) (hc : f.caught = f'.caught) (hp : f.params = f'.params) (hk : f.code = f'.code) (hr : f'.regs ≤ 100000)
    (h1 : p.consts.length ≤ p'.consts.length) (h2 : p.texts.length ≤ p'.texts.length) (h3 : p.fns.length ≤ p'.fns.length) (hs : ∀ k, k < p.fns.length → (p'.fns.getD k ⟨0, 0, false, [], []⟩).caught = (p.fns.getD k ⟨0, 0, false, [], []⟩).caught)
    (b1 : p'.consts.length ≤ 100000) (b2 : p'.texts.length ≤ 100000) (b3 : p'.fns.length ≤ 100000) : functionB p' f' = true := by
  have h0 := h
  simp only [functionB, Bool.and_eq_true, Bool.not_eq_true', Bool.or_eq_false_iff, decide_eq_false_iff_not] at h0
  exact functionB_more ⟨h1, h2, h3, hs, hf, by omega, hg, hc, hk, b1, b2, b3, hr⟩ hp h
theorem large_iff {p : GProg} : largeB p = false ↔ p.fns.length ≤ 60 ∧ p.consts.length ≤ 200 ∧ p.texts.length ≤ 200 ∧ (∀ t ∈ p.texts, t.size ≤ 200) ∧ ∀ f ∈ p.fns, f.code.length ≤ 600 ∧ f.regs ≤ 60 := by
  unfold largeB fnLargeB
  simp only [Bool.or_eq_false_iff, decide_eq_false_iff_not, List.any_eq_false, Bool.or_eq_true, decide_eq_true_eq]
  constructor
  · rintro ⟨⟨⟨⟨a, b⟩, c⟩, d⟩, e⟩
    exact ⟨by omega, by omega, by omega, fun t ht => by have := d t ht; omega, fun f hf => by have := e f hf; omega⟩
  · rintro ⟨a, b, c, d, e⟩
    exact ⟨⟨⟨⟨by omega, by omega⟩, by omega⟩, fun t ht => by have := d t ht; omega⟩, fun f hf => by have := e f hf; omega⟩
def seventySeven : GVal := ⟨2, 77⟩
theorem more_const {f0 : GFn} {fs : List GFn} {cs : List GVal} {ts : List ByteArray} (h : checkQ wordsT ⟨f0 :: fs, cs, ts⟩ = 0) (hb : cs.length ≤ 190) : checkQ wordsT ⟨f0 :: fs, cs ++ [seventySeven], ts⟩ = 0 := by
  obtain ⟨h1, h2, h3, h4⟩ := check_zero h
  have hl := large_iff.1 h1
  simp only [] at hl
  refine check_mk (large_iff.2 ⟨hl.1, by simp; omega, hl.2.2.1, hl.2.2.2⟩) (tables_more (p := ⟨f0 :: fs, cs, ts⟩) (xs := []) (cs := [seventySeven]) h2 (by simp) ?_ rfl fun v hv => ?_) h3 fun f hf => ?_
  · simp only [tablesB, Bool.and_eq_true, decide_eq_true_eq] at h2
    simpa using h2.1.2
  · obtain rfl := List.mem_singleton.1 hv
    simp [constBadB, seventySeven, rightB]
  · have hr := hl.2.2.2.2 f hf
    exact more_ok (h4 f hf) (Int.le_refl _) rfl rfl rfl rfl (by omega) (by simp) (Nat.le_refl _) (Nat.le_refl _) (fun _ _ => rfl) (by simp; omega) (by show ts.length ≤ _; omega) (by show (f0 :: fs).length ≤ _; omega)
theorem more_text {f0 : GFn} {fs : List GFn} {cs : List GVal} {ts : List ByteArray} (h : checkQ wordsT ⟨f0 :: fs, cs, ts⟩ = 0) (hb : ts.length ≤ 190) {w : ByteArray} (hw : w.size ≤ 200) (hn : ¬ w ∈ ts) : checkQ wordsT ⟨f0 :: fs, cs, ts ++ [w]⟩ = 0 := by
  obtain ⟨h1, h2, h3, h4⟩ := check_zero h
  have hl := large_iff.1 h1
  simp only [] at hl
  refine check_mk (large_iff.2 ⟨hl.1, hl.2.1, by simp; omega, fun t ht => ?_, hl.2.2.2.2⟩) (tables_more (p := ⟨f0 :: fs, cs, ts⟩) (xs := [w]) (cs := []) h2 rfl ?_ (by simp) fun v hv => by cases hv) h3 fun f hf => ?_
  · rcases List.mem_append.1 ht with ht | ht
    · exact hl.2.2.2.1 t ht
    · obtain rfl := List.mem_singleton.1 ht; exact hw
  · simp only [tablesB, Bool.and_eq_true, decide_eq_true_eq] at h2
    refine List.nodup_append.2 ⟨h2.1.2, by simp, fun a ha b hb => ?_⟩
    obtain rfl := List.mem_singleton.1 hb
    rintro rfl
    exact hn ha
  · have hr := hl.2.2.2.2 f hf
    exact more_ok (h4 f hf) (Int.le_refl _) rfl rfl rfl rfl (by omega) (Nat.le_refl _) (by simp) (Nat.le_refl _) (fun _ _ => rfl) (by show cs.length ≤ _; omega) (by simp; omega) (by show (f0 :: fs).length ≤ _; omega)
def moreReg (f : GFn) : GFn := ⟨f.params, f.regs + 1, f.gen, f.caught, f.code⟩
theorem more_reg {f0 : GFn} {fs : List GFn} {cs : List GVal} {ts : List ByteArray} (h : checkQ wordsT ⟨f0 :: fs, cs, ts⟩ = 0) (hb : f0.regs ≤ 50) : checkQ wordsT ⟨moreReg f0 :: fs, cs, ts⟩ = 0 := by
  obtain ⟨h1, h2, h3, h4⟩ := check_zero h
  have hl := large_iff.1 h1
  simp only [] at hl
  have hs : ∀ k, k < (⟨f0 :: fs, cs, ts⟩ : GProg).fns.length → ((⟨moreReg f0 :: fs, cs, ts⟩ : GProg).fns.getD k ⟨0, 0, false, [], []⟩).caught = ((⟨f0 :: fs, cs, ts⟩ : GProg).fns.getD k ⟨0, 0, false, [], []⟩).caught := fun k _ => by
    cases k <;> rfl
  refine check_mk (large_iff.2 ⟨hl.1, hl.2.1, hl.2.2.1, hl.2.2.2.1, fun f hf => ?_⟩) h2 h3 fun f hf => ?_
  · rcases List.mem_cons.1 hf with rfl | hf
    · exact ⟨(hl.2.2.2.2 f0 (List.mem_cons_self ..)).1, by simp only [moreReg]; omega⟩
    · exact hl.2.2.2.2 f (List.mem_cons_of_mem _ hf)
  · rcases List.mem_cons.1 hf with rfl | hf
    · exact more_ok (f := f0) (f' := moreReg f0) (p := ⟨f0 :: fs, cs, ts⟩) (h4 f0 (List.mem_cons_self ..)) (by simp only [moreReg]; omega) rfl rfl rfl rfl (by simp only [moreReg]; omega) (Nat.le_refl _) (Nat.le_refl _) (Nat.le_refl _) hs (by show cs.length ≤ _; omega) (by show ts.length ≤ _; omega) (by show (f0 :: fs).length ≤ _; omega)
    · have hr := hl.2.2.2.2 f (List.mem_cons_of_mem _ hf)
      exact more_ok (p := ⟨f0 :: fs, cs, ts⟩) (h4 f (List.mem_cons_of_mem _ hf)) (Int.le_refl _) rfl rfl rfl rfl (by omega) (Nat.le_refl _) (Nat.le_refl _) (Nat.le_refl _) hs (by show cs.length ≤ _; omega) (by show ts.length ≤ _; omega) (by show (f0 :: fs).length ≤ _; omega)
def oneFn : GFn := ⟨0, 1, false, [], [⟨28, 0, 0, 0, 0⟩]⟩
theorem oneFn_ok (p : GProg) : functionB p oneFn = true := by
  have h1 : (triesQ oneFn).bad = false := by kernel_rfl
  have hf : formA 28 = (114, 45, 45) := by kernel_rfl
  have hw : wr 0 = 0 := by kernel_rfl
  unfold functionB
  rw [h1]
  simp [oneFn, ordersB, orderB, isOp, hf, nameB, orderK, btw, hw]
theorem more_fn {f0 : GFn} {fs : List GFn} {cs : List GVal} {ts : List ByteArray} (h : checkQ wordsT ⟨f0 :: fs, cs, ts⟩ = 0) (hb : fs.length ≤ 50) : checkQ wordsT ⟨f0 :: (fs ++ [oneFn]), cs, ts⟩ = 0 := by
  obtain ⟨h1, h2, h3, h4⟩ := check_zero h
  have hl := large_iff.1 h1
  simp only [] at hl
  have hs : ∀ k, k < (⟨f0 :: fs, cs, ts⟩ : GProg).fns.length → ((⟨f0 :: (fs ++ [oneFn]), cs, ts⟩ : GProg).fns.getD k ⟨0, 0, false, [], []⟩).caught = ((⟨f0 :: fs, cs, ts⟩ : GProg).fns.getD k ⟨0, 0, false, [], []⟩).caught := fun k hk => by
    have hk : k < (f0 :: fs).length := hk
    show (((f0 :: fs) ++ [oneFn]).getD k ⟨0, 0, false, [], []⟩).caught = ((f0 :: fs).getD k ⟨0, 0, false, [], []⟩).caught
    rw [List.getD_eq_getElem?_getD, List.getD_eq_getElem?_getD, List.getElem?_append_left hk]
  have hc : ∀ f ∈ (f0 :: (fs ++ [oneFn])), f ∈ f0 :: fs ∨ f = oneFn := fun f hf => by
    rw [← List.cons_append] at hf
    rcases List.mem_append.1 hf with hf | hf
    · exact .inl hf
    · exact .inr (List.mem_singleton.1 hf)
  refine check_mk (large_iff.2 ⟨by simp; omega, hl.2.1, hl.2.2.1, hl.2.2.2.1, fun f hf => ?_⟩) h2 h3 fun f hf => ?_
  · rcases hc f hf with hf | rfl
    · exact hl.2.2.2.2 f hf
    · simp [oneFn]
  · rcases hc f hf with hf | rfl
    · have hr := hl.2.2.2.2 f hf
      exact more_ok (p := ⟨f0 :: fs, cs, ts⟩) (h4 f hf) (Int.le_refl _) rfl rfl rfl rfl (by omega) (Nat.le_refl _) (Nat.le_refl _) (by simp) hs (by show cs.length ≤ _; omega) (by show ts.length ≤ _; omega) (by simp; omega)
    · exact oneFn_ok _
def noS : GState := ⟨[], [], [], [], [], [], 0, 0⟩
theorem start_shw (p : GProg) {H : Hp} {a b c d e g : Nat} (ha : H a = some ⟨.c 53, 4, [[.d (eI 4), .d (eI 0), .d .emp, .d .emp]]⟩) (hb : H b = some ⟨.c 120, 2, [[.d (eI (-1)), .d (eI (-1))]]⟩)
    (hc : H c = some ⟨.c 9, 1, p.texts.map fun t => [.d (eS t)]⟩) (hd : H d = some ⟨.c 42, 5, [[.own e 8 1, .d (eI 0), .d (eI 0), .d (eI 0), .d (eI 0)]]⟩)
    (he : H e = some ⟨.c 47, 8, [[.d (eI 0), .d (eI 0), .d (eI (-1)), .d (eI (-1)), .d (eI 5), .d (eI 0), .own g 2 (fnAt p 0).regs.toNat, .d .emp]]⟩) (hg : H g = some ⟨.c 34, 2, List.replicate (fnAt p 0).regs.toNat [.d (eI 0), .d (eI 0)]⟩)
    (n1 : a ≠ 1 ∧ b ≠ 1 ∧ c ≠ 1 ∧ d ≠ 1 ∧ e ≠ 1 ∧ g ≠ 1) :
    CsRel H (fun i => i ≠ 1) [.own a 4 1, .own b 2 1, .own c 1 p.texts.length, .own d 5 1, .d .emp, .d .emp, .d (eI 0), .d (eI 0)] ((eState (startS p)).map .d) := by
  obtain ⟨na, nb, nc, nd, ne, ng⟩ := n1
  have s0 : ∀ n, Shw H (fun i => i ≠ 1) (.d (eI n)) (eI n) := fun n => .d rfl
  have hregs : Shw H (fun i => i ≠ 1) (.own g 2 (fnAt p 0).regs.toNat) (.sl true ((firstFrame p).regs.map eVal)) := by
    refine Shw.row ng hg rfl (by simp [firstFrame]) (by simp [firstFrame, nilV]) (by simp) (by simp)
  have hfr : Shw H (fun i => i ≠ 1) (.own e 8 1) (.sl true ([firstFrame p].map eFrame)) := Shw.rows ne he rfl (by simp) ⟨⟨s0 _, s0 _, s0 _, s0 _, s0 _, s0 _, hregs, .emp, trivial⟩, trivial⟩
  have hth : Shw H (fun i => i ≠ 1) (.own d 5 1) (.sl true ((startS p).threads.map eThread)) := Shw.rows nd hd rfl (by simp) ⟨⟨hfr, s0 _, s0 _, s0 _, s0 _, trivial⟩, trivial⟩
  have hce : Shw H (fun i => i ≠ 1) (.own a 4 1) (.sl true ((startS p).cells.map eCell)) := Shw.rows na ha rfl (by simp) ⟨⟨s0 _, s0 _, .emp, .emp, trivial⟩, trivial⟩
  have hsh : Shw H (fun i => i ≠ 1) (.own b 2 1) (.sl true ((startS p).shapes.map eShape)) := Shw.rows nb hb rfl (by simp [startS]) ⟨⟨s0 _, s0 _, trivial⟩, trivial⟩
  have htx : Shw H (fun i => i ≠ 1) (.own c 1 p.texts.length) (.sl true ((startS p).texts.map eStr)) := by
    refine Shw.row nc hc rfl (by simp [startS]) (by simp [startS]) (by simp) (by simp)
  exact ⟨.inr ⟨_, rfl, hce⟩, .inr ⟨_, rfl, hsh⟩, .inr ⟨_, rfl, htx⟩, .inr ⟨_, rfl, hth⟩, .inr ⟨_, rfl, .emp⟩, .inr ⟨_, rfl, .emp⟩, .inl rfl, .inl rfl, trivial⟩
theorem no_shw {H : Hp} {N : Nat → Prop} : CsRel H N [.d .emp, .d .emp, .d .emp, .d .emp, .d .emp, .d .emp, .d (eI 0), .d (eI 0)] ((eState noS).map .d) :=
  ⟨.inr ⟨_, rfl, .emp⟩, .inr ⟨_, rfl, .emp⟩, .inr ⟨_, rfl, .emp⟩, .inr ⟨_, rfl, .emp⟩, .inr ⟨_, rfl, .emp⟩, .inr ⟨_, rfl, .emp⟩, .inl rfl, .inl rfl, trivial⟩
theorem start_fin (p : GProg) {K : D → List Blk → Prop} (h1 : K (.tup [aD (eState (startS p)), dI 0]) []) {tm : List (Nat × D)} {H : Hp} {nx a b c d e g : Nat} (hm : H 1 = some ⟨.c 32, 8, [[.own a 4 1, .own b 2 1, .own c 1 p.texts.length, .own d 5 1, .d .emp, .d .emp, .d (eI 0), .d (eI 0)]]⟩)
    (ha : H a = some ⟨.c 53, 4, [[.d (eI 4), .d (eI 0), .d .emp, .d .emp]]⟩) (hb : H b = some ⟨.c 120, 2, [[.d (eI (-1)), .d (eI (-1))]]⟩)
    (hc : H c = some ⟨.c 9, 1, p.texts.map fun t => [.d (eS t)]⟩) (hd : H d = some ⟨.c 42, 5, [[.own e 8 1, .d (eI 0), .d (eI 0), .d (eI 0), .d (eI 0)]]⟩)
    (he : H e = some ⟨.c 47, 8, [[.d (eI 0), .d (eI 0), .d (eI (-1)), .d (eI (-1)), .d (eI 5), .d (eI 0), .own g 2 (fnAt p 0).regs.toNat, .d .emp]]⟩) (hg : H g = some ⟨.c 34, 2, List.replicate (fnAt p 0).regs.toNat [.d (eI 0), .d (eI 0)]⟩)
    (n1 : a ≠ 1 ∧ b ≠ 1 ∧ c ≠ 1 ∧ d ≠ 1 ∧ e ≠ 1 ∧ g ≠ 1) (ht : keepT tm [2, 3] = [(2, .one (.ptr 1 8 0 0)), (3, dI 0)]) : ∃ st', Wk ⟨32, tm, H, nx⟩ st' ∧ retP Tryz.prog [.cell 2 32, .tmp 3] K st' := by
  refine ⟨_, Wk.row1 hm (by simp) (start_shw p ha hb hc hd he hg n1) (tm' := [(2, .one (.ptr 1 8 0 0)), (3, dI 0)]) ht, ?_⟩
  simp
  exact h1
theorem stStart_ok (p : GProg) (hp : okP p) {K : D → List Blk → Prop} (h0 : checkQ wordsT p ≠ 0 → K (.tup [aD (eState noS), dI (checkQ wordsT p)]) []) (h1 : checkQ wordsT p = 0 → K (.tup [aD (eState (startS p)), dI 0]) []) : DPure Tryz.prog 55 [aD (eProg p)] K := by
  refine fnw_ok [0,1,2,3,4,5,9] [(5, [0,1,0,4,0,16,48,0,128,384,896,2047,4095,8191], (.seg 0 (.seg 2 (.seg 4 (.seg 5 (.seg 7 (.fork 1 [2, 4, 5, 7] (.fork 3 [0, 4, 5, 7] (.fork 6 [0, 2, 7] (.eff 8 [0, 2, 4, 5] (.seg 9 (.eff 10 [0, 2, 4, 5] (.seg 11 (.eff 12 [] (.seg 13 .last)))))) (.eff 8 [0, 2, 4, 5] (.seg 9 (.fork 6 [0, 2, 7, 9] (.eff 10 [0, 2, 4, 5] (.seg 11 (.eff 12 [] (.seg 13 .last)))) (.eff 10 [0, 2, 4, 5] (.eff 6 [0, 2, 7, 9] (.seg 11 (.eff 12 [] (.seg 13 .last))))))))) (.fork 6 [0, 2, 7] (.fork 3 [0, 4, 5, 7] (.eff 8 [0, 2, 4, 5] (.seg 9 (.eff 10 [0, 2, 4, 5] (.seg 11 (.eff 12 [] (.seg 13 .last)))))) (.eff 8 [0, 2, 4, 5] (.seg 9 (.fork 3 [0, 4, 5, 7, 9] (.eff 10 [0, 2, 4, 5] (.seg 11 (.eff 12 [] (.seg 13 .last)))) (.eff 10 [0, 2, 4, 5] (.eff 3 [0, 4, 5, 7, 9] (.seg 11 (.eff 12 [] (.seg 13 .last))))))))) (.eff 8 [0, 2, 4, 5] (.seg 9 (.fork 3 [0, 4, 5, 7, 9] (.fork 6 [0, 2, 7, 9] (.eff 10 [0, 2, 4, 5] (.seg 11 (.eff 12 [] (.seg 13 .last)))) (.eff 10 [0, 2, 4, 5] (.eff 6 [0, 2, 7, 9] (.seg 11 (.eff 12 [] (.seg 13 .last)))))) (.fork 6 [0, 2, 7, 9] (.fork 3 [0, 4, 5, 7, 9] (.eff 10 [0, 2, 4, 5] (.seg 11 (.eff 12 [] (.seg 13 .last)))) (.eff 10 [0, 2, 4, 5] (.eff 3 [0, 4, 5, 7, 9] (.seg 11 (.eff 12 [] (.seg 13 .last)))))) (.eff 10 [0, 2, 4, 5] (.fork 3 [0, 4, 5, 7, 9] (.eff 6 [0, 2, 7, 9] (.seg 11 (.eff 12 [] (.seg 13 .last)))) (.eff 6 [0, 2, 7, 9] (.eff 3 [0, 4, 5, 7, 9] (.seg 11 (.eff 12 [] (.seg 13 .last))))))))))))) (.fork 3 [0, 4, 5, 7] (.fork 1 [2, 4, 5, 7] (.fork 6 [0, 2, 7] (.eff 8 [0, 2, 4, 5] (.seg 9 (.eff 10 [0, 2, 4, 5] (.seg 11 (.eff 12 [] (.seg 13 .last)))))) (.eff 8 [0, 2, 4, 5] (.seg 9 (.fork 6 [0, 2, 7, 9] (.eff 10 [0, 2, 4, 5] (.seg 11 (.eff 12 [] (.seg 13 .last)))) (.eff 10 [0, 2, 4, 5] (.eff 6 [0, 2, 7, 9] (.seg 11 (.eff 12 [] (.seg 13 .last))))))))) (.fork 6 [0, 2, 7] (.fork 1 [2, 4, 5, 7] (.eff 8 [0, 2, 4, 5] (.seg 9 (.eff 10 [0, 2, 4, 5] (.seg 11 (.eff 12 [] (.seg 13 .last)))))) (.eff 8 [0, 2, 4, 5] (.seg 9 (.fork 1 [2, 4, 5, 7, 9] (.eff 10 [0, 2, 4, 5] (.seg 11 (.eff 12 [] (.seg 13 .last)))) (.eff 10 [0, 2, 4, 5] (.eff 1 [2, 4, 5, 7, 9] (.seg 11 (.eff 12 [] (.seg 13 .last))))))))) (.eff 8 [0, 2, 4, 5] (.seg 9 (.fork 1 [2, 4, 5, 7, 9] (.fork 6 [0, 2, 7, 9] (.eff 10 [0, 2, 4, 5] (.seg 11 (.eff 12 [] (.seg 13 .last)))) (.eff 10 [0, 2, 4, 5] (.eff 6 [0, 2, 7, 9] (.seg 11 (.eff 12 [] (.seg 13 .last)))))) (.fork 6 [0, 2, 7, 9] (.fork 1 [2, 4, 5, 7, 9] (.eff 10 [0, 2, 4, 5] (.seg 11 (.eff 12 [] (.seg 13 .last)))) (.eff 10 [0, 2, 4, 5] (.eff 1 [2, 4, 5, 7, 9] (.seg 11 (.eff 12 [] (.seg 13 .last)))))) (.eff 10 [0, 2, 4, 5] (.fork 1 [2, 4, 5, 7, 9] (.eff 6 [0, 2, 7, 9] (.seg 11 (.eff 12 [] (.seg 13 .last)))) (.eff 6 [0, 2, 7, 9] (.eff 1 [2, 4, 5, 7, 9] (.seg 11 (.eff 12 [] (.seg 13 .last))))))))))))) (.fork 6 [0, 2, 7] (.fork 1 [2, 4, 5, 7] (.fork 3 [0, 4, 5, 7] (.eff 8 [0, 2, 4, 5] (.seg 9 (.eff 10 [0, 2, 4, 5] (.seg 11 (.eff 12 [] (.seg 13 .last)))))) (.eff 8 [0, 2, 4, 5] (.seg 9 (.fork 3 [0, 4, 5, 7, 9] (.eff 10 [0, 2, 4, 5] (.seg 11 (.eff 12 [] (.seg 13 .last)))) (.eff 10 [0, 2, 4, 5] (.eff 3 [0, 4, 5, 7, 9] (.seg 11 (.eff 12 [] (.seg 13 .last))))))))) (.fork 3 [0, 4, 5, 7] (.fork 1 [2, 4, 5, 7] (.eff 8 [0, 2, 4, 5] (.seg 9 (.eff 10 [0, 2, 4, 5] (.seg 11 (.eff 12 [] (.seg 13 .last)))))) (.eff 8 [0, 2, 4, 5] (.seg 9 (.fork 1 [2, 4, 5, 7, 9] (.eff 10 [0, 2, 4, 5] (.seg 11 (.eff 12 [] (.seg 13 .last)))) (.eff 10 [0, 2, 4, 5] (.eff 1 [2, 4, 5, 7, 9] (.seg 11 (.eff 12 [] (.seg 13 .last))))))))) (.eff 8 [0, 2, 4, 5] (.seg 9 (.fork 1 [2, 4, 5, 7, 9] (.fork 3 [0, 4, 5, 7, 9] (.eff 10 [0, 2, 4, 5] (.seg 11 (.eff 12 [] (.seg 13 .last)))) (.eff 10 [0, 2, 4, 5] (.eff 3 [0, 4, 5, 7, 9] (.seg 11 (.eff 12 [] (.seg 13 .last)))))) (.fork 3 [0, 4, 5, 7, 9] (.fork 1 [2, 4, 5, 7, 9] (.eff 10 [0, 2, 4, 5] (.seg 11 (.eff 12 [] (.seg 13 .last)))) (.eff 10 [0, 2, 4, 5] (.eff 1 [2, 4, 5, 7, 9] (.seg 11 (.eff 12 [] (.seg 13 .last)))))) (.eff 10 [0, 2, 4, 5] (.fork 1 [2, 4, 5, 7, 9] (.eff 3 [0, 4, 5, 7, 9] (.seg 11 (.eff 12 [] (.seg 13 .last)))) (.eff 3 [0, 4, 5, 7, 9] (.eff 1 [2, 4, 5, 7, 9] (.seg 11 (.eff 12 [] (.seg 13 .last))))))))))))) (.eff 8 [0, 2, 4, 5] (.seg 9 (.fork 1 [2, 4, 5, 7, 9] (.fork 3 [0, 4, 5, 7, 9] (.fork 6 [0, 2, 7, 9] (.eff 10 [0, 2, 4, 5] (.seg 11 (.eff 12 [] (.seg 13 .last)))) (.eff 10 [0, 2, 4, 5] (.eff 6 [0, 2, 7, 9] (.seg 11 (.eff 12 [] (.seg 13 .last)))))) (.fork 6 [0, 2, 7, 9] (.fork 3 [0, 4, 5, 7, 9] (.eff 10 [0, 2, 4, 5] (.seg 11 (.eff 12 [] (.seg 13 .last)))) (.eff 10 [0, 2, 4, 5] (.eff 3 [0, 4, 5, 7, 9] (.seg 11 (.eff 12 [] (.seg 13 .last)))))) (.eff 10 [0, 2, 4, 5] (.fork 3 [0, 4, 5, 7, 9] (.eff 6 [0, 2, 7, 9] (.seg 11 (.eff 12 [] (.seg 13 .last)))) (.eff 6 [0, 2, 7, 9] (.eff 3 [0, 4, 5, 7, 9] (.seg 11 (.eff 12 [] (.seg 13 .last))))))))) (.fork 3 [0, 4, 5, 7, 9] (.fork 1 [2, 4, 5, 7, 9] (.fork 6 [0, 2, 7, 9] (.eff 10 [0, 2, 4, 5] (.seg 11 (.eff 12 [] (.seg 13 .last)))) (.eff 10 [0, 2, 4, 5] (.eff 6 [0, 2, 7, 9] (.seg 11 (.eff 12 [] (.seg 13 .last)))))) (.fork 6 [0, 2, 7, 9] (.fork 1 [2, 4, 5, 7, 9] (.eff 10 [0, 2, 4, 5] (.seg 11 (.eff 12 [] (.seg 13 .last)))) (.eff 10 [0, 2, 4, 5] (.eff 1 [2, 4, 5, 7, 9] (.seg 11 (.eff 12 [] (.seg 13 .last)))))) (.eff 10 [0, 2, 4, 5] (.fork 1 [2, 4, 5, 7, 9] (.eff 6 [0, 2, 7, 9] (.seg 11 (.eff 12 [] (.seg 13 .last)))) (.eff 6 [0, 2, 7, 9] (.eff 1 [2, 4, 5, 7, 9] (.seg 11 (.eff 12 [] (.seg 13 .last))))))))) (.fork 6 [0, 2, 7, 9] (.fork 1 [2, 4, 5, 7, 9] (.fork 3 [0, 4, 5, 7, 9] (.eff 10 [0, 2, 4, 5] (.seg 11 (.eff 12 [] (.seg 13 .last)))) (.eff 10 [0, 2, 4, 5] (.eff 3 [0, 4, 5, 7, 9] (.seg 11 (.eff 12 [] (.seg 13 .last)))))) (.fork 3 [0, 4, 5, 7, 9] (.fork 1 [2, 4, 5, 7, 9] (.eff 10 [0, 2, 4, 5] (.seg 11 (.eff 12 [] (.seg 13 .last)))) (.eff 10 [0, 2, 4, 5] (.eff 1 [2, 4, 5, 7, 9] (.seg 11 (.eff 12 [] (.seg 13 .last)))))) (.eff 10 [0, 2, 4, 5] (.fork 1 [2, 4, 5, 7, 9] (.eff 3 [0, 4, 5, 7, 9] (.seg 11 (.eff 12 [] (.seg 13 .last)))) (.eff 3 [0, 4, 5, 7, 9] (.eff 1 [2, 4, 5, 7, 9] (.seg 11 (.eff 12 [] (.seg 13 .last))))))))) (.eff 10 [0, 2, 4, 5] (.fork 1 [2, 4, 5, 7, 9] (.fork 3 [0, 4, 5, 7, 9] (.eff 6 [0, 2, 7, 9] (.seg 11 (.eff 12 [] (.seg 13 .last)))) (.eff 6 [0, 2, 7, 9] (.eff 3 [0, 4, 5, 7, 9] (.seg 11 (.eff 12 [] (.seg 13 .last)))))) (.fork 3 [0, 4, 5, 7, 9] (.fork 1 [2, 4, 5, 7, 9] (.eff 6 [0, 2, 7, 9] (.seg 11 (.eff 12 [] (.seg 13 .last)))) (.eff 6 [0, 2, 7, 9] (.eff 1 [2, 4, 5, 7, 9] (.seg 11 (.eff 12 [] (.seg 13 .last)))))) (.eff 6 [0, 2, 7, 9] (.fork 1 [2, 4, 5, 7, 9] (.eff 3 [0, 4, 5, 7, 9] (.seg 11 (.eff 12 [] (.seg 13 .last)))) (.eff 3 [0, 4, 5, 7, 9] (.eff 1 [2, 4, 5, 7, 9] (.seg 11 (.eff 12 [] (.seg 13 .last))))))))))))))))))))))))] Tryz.func55 rfl (by kernel_rfl) rfl rfl rfl rfl (by kernel_rfl) ?_
  simp
  refine ⟨_, rfl, Wk.refl _, ?_⟩
  simp [vcC0]
  refine check_ok p hp ?_
  by_cases c1 : checkQ wordsT p = 0
  case neg =>
    simp [c1]
    refine ⟨_, Wk.row1 (m := 1) rfl (by simp) no_shw (tm' := [(2, .one (.ptr 1 8 0 0)), (3, dI (checkQ wordsT p))]) (by simp), ?_⟩
    simp
    exact h0 c1
  obtain ⟨f1, f2, f3, f4⟩ := start_fns c1
  have hfa : p.fns[0] = fnAt p 0 := by simp [fnAt, List.getD_eq_getElem?_getD, List.getElem?_eq_getElem f1]
  simp [c1, f1, hfa]
  have fr := fn_zero f4
  have fin := @start_fin p K (h1 c1)
  have hreg : (fnAt p 0).regs ≤ 60 := by
    have := ((large_iff.1 (check_zero c1).1).2.2.2.2 _ (List.getElem_mem f1)).2
    rw [hfa] at this; exact this
  have htl := (large_iff.1 (check_zero c1).1).2.2.1
  refine ⟨by omega, by omega, ?_⟩
  repeat' (first | (refine cloneS_ok true (p.texts.map eStr) (by simp) (by simp) (by simp; omega) ?_; simp) | (with_reducible refine And.intro ?_ ?_))
  all_goals (exact fin rfl rfl rfl rfl rfl rfl rfl (by decide) rfl)
def thrAt (s : GState) (n : Int) : GThread := s.threads.getD n.toNat ⟨[], 0, 0, ⟨0, 0⟩⟩
def canB (s : GState) (t : GThread) : Bool := if t.state = 0 then true else if t.state = 1 then decide ((cellAt s t.on).num = -1) else if t.state = 2 then decide ((thrAt s t.on).state = 3) || decide ((thrAt s t.on).state = 4) else false
theorem thr_get {s : GState} {n : Int} (h0 : 0 ≤ n) (h : n < s.threads.length) : s.threads[n.toNat]? = some (thrAt s n) := by
  unfold thrAt; rw [List.getD_eq_getElem?_getD, List.getElem?_eq_getElem (by omega)]; rfl
theorem can_ok (S : Bool) (s : GState) (n : Nat) (hn : n < s.threads.length) (ht : onB s (thrAt s n) = true) {K : D → List Blk → Prop} (h : K (dB (canB s (thrAt s n))) []) : DPure Tryz.prog 192 [pS S s, dI n] K := by
  refine fn_ok [0,1,4,5,6,15,16,18,30] [(6, [0,1,3,7,0,16,63,127,255,511,1023], (.seg 0 (.seg 1 (.seg 2 (.seg 3 (.seg 4 (.seg 5 (.seg 6 (.seg 7 (.seg 8 (.seg 9 (.seg 10 .last)))))))))))), (8, [0,1,3,7,0,16,63,127,255,511], (.seg 0 (.seg 1 (.seg 2 (.seg 3 (.seg 4 (.seg 5 (.seg 6 (.seg 7 (.seg 8 (.seg 9 .last)))))))))))] Tryz.func192 rfl (by kernel_rfl) rfl rfl rfl rfl (by kernel_rfl) ?_
  have hg := thr_get (s := s) (n := (n : Int)) (by omega) (by omega)
  rw [Int.toNat_natCast] at hg
  have hg2 := (List.getElem?_eq_some_iff.1 hg).2
  generalize thrAt s n = t at *
  by_cases c0 : t.state = 0
  · simp [hn, hg2, c0]
    simp [canB, c0] at h
    exact h
  by_cases c1 : t.state = 1
  · simp [onB, c1, namesB] at ht
    have hc := cell_get (s := s) ht.1.1 (by omega)
    have hce := cellAt_eq (s := s) ht.1.1 (by omega)
    simp [hn, hg2, c0, c1, ht]
    simp [canB, c1, hce] at h
    exact h
  by_cases c2 : t.state = 2
  · simp [onB, c2] at ht
    have hc := thr_get (s := s) ht.1 (by omega)
    have hc2 := (List.getElem?_eq_some_iff.1 hc).2
    simp [hn, hg2, c0, c1, c2, ht, hc]
    simp [canB, c2] at h
    rw [hc2]
    refine alt (fun d => ?_) (fun d => ?_)
    · simpa [d] using h
    · simpa [d] using h
  simp [hn, hg2, c0, c1, c2]
  simp [canB, c0, c1, c2] at h
  exact h
def readyK (s : GState) (k : Nat) : List Nat := (List.range k).filter fun i => canB s (thrAt s i)
theorem readyK_next {s : GState} {k : Nat} : readyK s (k + 1) = readyK s k ++ if canB s (thrAt s k) = true then [k] else [] := by
  unfold readyK
  rw [List.range_succ, List.filter_append]
  congr 1
  by_cases h : canB s (thrAt s k) = true <;> simp [h]
theorem readyK_len {s : GState} {k : Nat} : (readyK s k).length ≤ k := by
  have := List.length_filter_le (fun i : Nat => canB s (thrAt s i)) (List.range k)
  rw [List.length_range] at this; exact this
def nats (l : List Nat) : List (List Dt) := l.map fun k : Nat => [eI (k : Int)]
abbrev nRows (l : List Nat) : List (List C) := l.map fun k : Nat => [.d (eI (k : Int))]
noncomputable def readyQ (p : GProg) (s : GState) : List Nat := if stateQ wordsT p s = 0 then readyK s s.threads.length else []
structure RyS where
  k : Nat
  nx : Nat
theorem threads_on {p : GProg} {s : GState} (h : stateQ wordsT p s = 0) {k : Nat} (hk : k < s.threads.length) : onB s (thrAt s k) = true ∧ s.threads.length ≤ 5 := by
  unfold stateQ at h
  split at h
  · rename_i h2; exact absurd h h2
  split at h
  · rename_i h2; exact absurd h h2
  split at h
  · cases h
  rename_i hl
  split at h
  · rename_i h2
    obtain ⟨-, -, h3, -⟩ := state_iff.1 h2
    have h4 : thrAt s k = s.threads[k] := by simp [thrAt, List.getD_eq_getElem?_getD, List.getElem?_eq_getElem hk]
    have := (thread_iff.1 (List.all_eq_true.1 h3 _ (List.getElem_mem hk))).2.2.2.2.1
    rw [h4]
    simp [stateLarge] at hl
    exact ⟨this, by omega⟩
  · cases h
instance : DecidableEq GVal := fun a b => decidable_of_iff (a.kind = b.kind ∧ a.n = b.n) (by cases a; cases b; simp)
instance : DecidableEq GFrame := fun a b => decidable_of_iff (a.fn = b.fn ∧ a.at_ = b.at_ ∧ a.to = b.to ∧ a.gen = b.gen ∧ a.self = b.self ∧ a.regs = b.regs ∧ a.tries = b.tries) (by cases a; cases b; simp)
instance : DecidableEq GCell := fun a b => decidable_of_iff (a.kind = b.kind ∧ a.num = b.num ∧ a.vals = b.vals ∧ a.frames = b.frames) (by cases a; cases b; simp)
instance : DecidableEq GThread := fun a b => decidable_of_iff (a.frames = b.frames ∧ a.state = b.state ∧ a.on = b.on ∧ a.val = b.val) (by cases a; cases b; simp)
instance : DecidableEq GEnd := fun a b => decidable_of_iff (a.cell = b.cell ∧ a.fn = b.fn) (by cases a; cases b; simp)
instance : DecidableEq GState := fun a b => decidable_of_iff (a.cells = b.cells ∧ a.shapes = b.shapes ∧ a.texts = b.texts ∧ a.threads = b.threads ∧ a.ends = b.ends ∧ a.said = b.said ∧ a.asked = b.asked ∧ a.steps = b.steps) (by cases a; cases b; simp)
theorem equalV_ok (S T : Bool) (L M : List GVal) {K : D → List Blk → Prop} (h : K (dB (decide (L = M))) []) : DPure Tryz.prog 67 [dL S (L.map eVal), dL T (M.map eVal)] K := by
  refine fn_ok [0,1,4,5,10,12,13,14,24] [(6, [0,0,3,7,0,0,48,112,255], (.seg 0 (.seg 1 (.seg 2 (.seg 3 (.seg 4 (.seg 5 (.seg 6 (.seg 7 (.seg 8 .last))))))))))] Tryz.func67 rfl (by kernel_rfl) rfl rfl rfl rfl (by kernel_rfl) ?_
  simp
  intro hl hm
  refine alt (fun he => ?_) (fun hne => kB h (by simp; rintro rfl; exact hne rfl))
  have he : L.length = M.length := by omega
  intro _
  refine loop_ok (ks := [0,1,4,5,10,12,13,14,24]) (pl := [(6, [0,0,3,7,0,0,48,112,255], (.seg 0 (.seg 1 (.seg 2 (.seg 3 (.seg 4 (.seg 5 (.seg 6 (.seg 7 (.seg 8 .last))))))))))]) (n0 := 26) (fun x : {k : Nat // k ≤ L.length ∧ L.take k = M.take k} => [(13, dI x.1)]) (fun x => L.length - x.1) ⟨0, by simp⟩ rfl (by kernel_rfl) (Wk.sub (by simp)) ?_
  rintro ⟨k, hk, ht⟩
  by_cases h1 : k < L.length
  · have h2 : k < M.length := by omega
    simp [h1, h2]
    refine alt (fun hne => kB h (by simp; rintro rfl; simp at hne)) (fun hc => ?_); simp at hc; obtain ⟨e1, e2⟩ := hc
    exact ⟨k + 1, by omega, ⟨by omega, take_eq_succ ht h1 h2 (by cases hx : L[k]; cases hy : M[k]; simp_all)⟩, Wk.sub (by simp [wrap_add (show k < 9223372036854775807 by omega)])⟩
  · simp [h1]
    obtain rfl : k = L.length := by omega
    rw [List.take_length, he, List.take_length] at ht
    exact kB h (by simpa using ht)
theorem equalSh_ok (S T : Bool) (L M : List Shp) {K : D → List Blk → Prop} (h : K (dB (decide (L = M))) []) : DPure Tryz.prog 69 [dL S (L.map eShape), dL T (M.map eShape)] K := by
  refine fn_ok [0,1,4,5,10,12,13,14,24] [(6, [0,0,3,7,0,0,48,112,255], (.seg 0 (.seg 1 (.seg 2 (.seg 3 (.seg 4 (.seg 5 (.seg 6 (.seg 7 (.seg 8 .last))))))))))] Tryz.func69 rfl (by kernel_rfl) rfl rfl rfl rfl (by kernel_rfl) ?_
  simp
  intro hl hm
  refine alt (fun he => ?_) (fun hne => kB h (by simp; rintro rfl; exact hne rfl))
  have he : L.length = M.length := by omega
  intro _
  refine loop_ok (ks := [0,1,4,5,10,12,13,14,24]) (pl := [(6, [0,0,3,7,0,0,48,112,255], (.seg 0 (.seg 1 (.seg 2 (.seg 3 (.seg 4 (.seg 5 (.seg 6 (.seg 7 (.seg 8 .last))))))))))]) (n0 := 26) (fun x : {k : Nat // k ≤ L.length ∧ L.take k = M.take k} => [(13, dI x.1)]) (fun x => L.length - x.1) ⟨0, by simp⟩ rfl (by kernel_rfl) (Wk.sub (by simp)) ?_
  rintro ⟨k, hk, ht⟩
  by_cases h1 : k < L.length
  · have h2 : k < M.length := by omega
    simp [h1, h2]
    refine alt (fun hne => kB h (by simp; rintro rfl; simp at hne)) (fun hc => ?_); simp at hc; obtain ⟨e1, e2⟩ := hc
    exact ⟨k + 1, by omega, ⟨by omega, take_eq_succ ht h1 h2 (by exact Prod.ext e1 e2)⟩, Wk.sub (by simp [wrap_add (show k < 9223372036854775807 by omega)])⟩
  · simp [h1]
    obtain rfl : k = L.length := by omega
    rw [List.take_length, he, List.take_length] at ht
    exact kB h (by simpa using ht)
@[simp] theorem eqiEnd : EqI Tryz.prog 125 3 := by
  intro x y l m w hl hm
  obtain ⟨a0, a1, a2, rfl⟩ : ∃ a0 a1 a2, l = [a0, a1, a2] := by match l, hl with | [a0, a1, a2], _ => exact ⟨a0, a1, a2, rfl⟩
  obtain ⟨b0, b1, b2, rfl⟩ : ∃ b0 b1 b2, m = [b0, b1, b2] := by match m, hm with | [b0, b1, b2], _ => exact ⟨b0, b1, b2, rfl⟩
  constructor <;> (simp [go_sem]; by_cases h0 : a0 = b0 <;> by_cases h1 : a1 = b1 <;> by_cases h2 : a2 = b2 <;> simp [h0, h1, h2])
theorem equalE_ok (S T : Bool) (L M : List GEnd) {K : D → List Blk → Prop} (h : K (dB (decide (L = M))) []) : DPure Tryz.prog 72 [dL S (L.map eEnd), dL T (M.map eEnd)] K := by
  refine fn_ok [0,1,4,5,10,12,13,14,24] [(6, [0,0,3,7,0,0,48,112,255], (.seg 0 (.seg 1 (.seg 2 (.seg 3 (.seg 4 (.seg 5 (.seg 6 (.seg 7 (.seg 8 .last))))))))))] Tryz.func72 rfl (by kernel_rfl) rfl rfl rfl rfl (by kernel_rfl) ?_
  simp
  intro hl hm
  refine alt (fun he => ?_) (fun hne => kB h (by simp; rintro rfl; exact hne rfl))
  have he : L.length = M.length := by omega
  intro _
  refine loop_ok (ks := [0,1,4,5,10,12,13,14,24]) (pl := [(6, [0,0,3,7,0,0,48,112,255], (.seg 0 (.seg 1 (.seg 2 (.seg 3 (.seg 4 (.seg 5 (.seg 6 (.seg 7 (.seg 8 .last))))))))))]) (n0 := 26) (fun x : {k : Nat // k ≤ L.length ∧ L.take k = M.take k} => [(13, dI x.1)]) (fun x => L.length - x.1) ⟨0, by simp⟩ rfl (by kernel_rfl) (Wk.sub (by simp)) ?_
  rintro ⟨k, hk, ht⟩
  by_cases h1 : k < L.length
  · have h2 : k < M.length := by omega
    simp [h1, h2]
    refine alt (fun hne => kB h (by simp; rintro rfl; simp at hne)) (fun hc => ?_); simp at hc; obtain ⟨e1, e2, e3⟩ := hc
    exact ⟨k + 1, by omega, ⟨by omega, take_eq_succ ht h1 h2 (by cases hx : L[k]; rename_i xx xf; cases xf; cases hy : M[k]; rename_i yy yf; cases yf; simp_all)⟩, Wk.sub (by simp [wrap_add (show k < 9223372036854775807 by omega)])⟩
  · simp [h1]
    obtain rfl : k = L.length := by omega
    rw [List.take_length, he, List.take_length] at ht
    exact kB h (by simpa using ht)
theorem frames1_ok (x y : GFrame) {K : D → List Blk → Prop} (h : K (dB (decide (x = y))) []) : DPure Tryz.prog 154 [aD (eFrame x), aD (eFrame y)] K := by
  obtain ⟨a1, a2, a3, a4, ⟨a5, a6⟩, a7, a8⟩ := x
  obtain ⟨b1, b2, b3, b4, ⟨b5, b6⟩, b7, b8⟩ := y
  refine fn_ok [0,1,2,3,4] [] Tryz.func154 rfl (by kernel_rfl) rfl rfl rfl rfl (by kernel_rfl) ?_
  simp
  refine alt (fun e1 => ?_) (fun e1 => kB h (by simp [e1]))
  refine alt (fun e2 => ?_) (fun e2 => kB h (by simp [e2]))
  refine alt (fun e3 => ?_) (fun e3 => kB h (by simp [e3]))
  refine alt (fun e4 => ?_) (fun e4 => kB h (by simp [e4]))
  refine alt (fun e5 => ?_) (fun e5 => kB h (by simp; intros; simp_all))
  refine equalV_ok true true a7 b7 ?_
  by_cases e7 : a7 = b7
  case neg =>
    simp [e7]
    exact kB h (by simp [e7])
  simp [e7]
  refine equalT_ok true true a8 b8 ?_
  simp
  exact kB h (by simp [e1, e2, e3, e4, e5, e7])
theorem eqfFr_ok (S T : Bool) (L M : List GFrame) {K : D → List Blk → Prop} (h : K (dB (decide (L = M))) []) : DPure Tryz.prog 153 [dL S (L.map eFrame), dL T (M.map eFrame), .one (.d (.fn (.func 154) [] []))] K := by
  refine fn_ok [0,1,2,6,7,8,9,14,15,16,17,18,30] [] Tryz.func153 rfl (by kernel_rfl) rfl rfl rfl rfl (by kernel_rfl) ?_
  simp
  intro hl hm
  refine alt (fun he => ?_) (fun hne => kB h (by simp; rintro rfl; exact hne rfl))
  have he : L.length = M.length := by omega
  intro _
  refine loopH_ok (ks := [0,1,2,6,7,8,9,14,15,16,17,18,30]) (pl := []) (n0 := 32) (α := {x : Nat × Nat // x.1 ≤ L.length ∧ L.take x.1 = M.take x.1}) (fun x => [(17, dI x.1.1)]) (fun H _ => H) (fun x => x.1.2) (fun x => L.length - x.1.1) ⟨(0, 0), by simp⟩ rfl (by kernel_rfl) (Wk.sub (by simp)) ?_
  rintro ⟨⟨k, m⟩, hk, ht⟩
  simp only at hk ht
  by_cases h1 : k < L.length
  · have h2 : k < M.length := by omega
    simp [h1, h2]
    refine frames1_ok L[k] M[k] ?_
    by_cases c : L[k] = M[k]
    · simp [c]
      exact ⟨k + 1, by omega, ⟨by omega, take_eq_succ ht h1 h2 c⟩, m + 2, (Wk.sub (by simp [wrap_add (show k < 9223372036854775807 by omega)])).trans (Wk.heap fun i y hy => by simp [Hp.none] at hy)⟩
    · simp [c]
      exact kB h (by simp; intro e; subst e; exact c rfl)
  · obtain rfl : k = L.length := by omega
    simp
    rw [List.take_length, he, List.take_length] at ht
    exact kB h (by simpa using ht)
theorem frames_ok (S T : Bool) (x y : List GFrame) {K : D → List Blk → Prop} (h : K (dB (decide (x = y))) []) : DPure Tryz.prog 68 [dL S (x.map eFrame), dL T (y.map eFrame)] K := by
  refine fn_ok [0,1,4] [] Tryz.func68 rfl (by kernel_rfl) rfl rfl rfl rfl (by kernel_rfl) ?_
  simp
  refine eqfFr_ok S T x y ?_
  simpa using h
theorem same1_ok (x y : GCell) {K : D → List Blk → Prop} (h : K (dB (decide (x = y))) []) : DPure Tryz.prog 66 [aD (eCell x), aD (eCell y)] K := by
  obtain ⟨a1, a2, a3, a4⟩ := x
  obtain ⟨b1, b2, b3, b4⟩ := y
  refine fn_ok [0,1,2,3,4] [] Tryz.func66 rfl (by kernel_rfl) rfl rfl rfl rfl (by kernel_rfl) ?_
  simp
  refine alt (fun e1 => ?_) (fun e1 => kB h (by simp [e1]))
  refine alt (fun e2 => ?_) (fun e2 => kB h (by simp [e2]))
  refine equalV_ok true true a3 b3 ?_
  by_cases e3 : a3 = b3
  case neg =>
    simp [e3]
    exact kB h (by simp [e3])
  simp [e3]
  refine frames_ok true true a4 b4 ?_
  simp
  exact kB h (by simp [e1, e2, e3])
theorem same2_ok (x y : GThread) {K : D → List Blk → Prop} (h : K (dB (decide (x = y))) []) : DPure Tryz.prog 71 [aD (eThread x), aD (eThread y)] K := by
  obtain ⟨a1, a2, a3, ⟨a4, a5⟩⟩ := x
  obtain ⟨b1, b2, b3, ⟨b4, b5⟩⟩ := y
  refine fn_ok [0,1,2,3,4] [] Tryz.func71 rfl (by kernel_rfl) rfl rfl rfl rfl (by kernel_rfl) ?_
  simp
  refine alt (fun e1 => ?_) (fun e1 => kB h (by simp [e1]))
  refine alt (fun e2 => ?_) (fun e2 => kB h (by simp [e2]))
  refine alt (fun e3 => ?_) (fun e3 => kB h (by simp; intros; simp_all))
  refine frames_ok true true a1 b1 ?_
  simp
  exact kB h (by simp [e1, e2, e3])
theorem eqfCe_ok (S T : Bool) (L M : List GCell) {K : D → List Blk → Prop} (h : K (dB (decide (L = M))) []) : DPure Tryz.prog 65 [dL S (L.map eCell), dL T (M.map eCell), .one (.d (.fn (.func 66) [] []))] K := by
  refine fn_ok [0,1,2,6,7,8,9,14,15,16,17,18,30] [] Tryz.func65 rfl (by kernel_rfl) rfl rfl rfl rfl (by kernel_rfl) ?_
  simp
  intro hl hm
  refine alt (fun he => ?_) (fun hne => kB h (by simp; rintro rfl; exact hne rfl))
  have he : L.length = M.length := by omega
  intro _
  refine loopH_ok (ks := [0,1,2,6,7,8,9,14,15,16,17,18,30]) (pl := []) (n0 := 32) (α := {x : Nat × Nat // x.1 ≤ L.length ∧ L.take x.1 = M.take x.1}) (fun x => [(17, dI x.1.1)]) (fun H _ => H) (fun x => x.1.2) (fun x => L.length - x.1.1) ⟨(0, 0), by simp⟩ rfl (by kernel_rfl) (Wk.sub (by simp)) ?_
  rintro ⟨⟨k, m⟩, hk, ht⟩
  simp only at hk ht
  by_cases h1 : k < L.length
  · have h2 : k < M.length := by omega
    simp [h1, h2]
    refine same1_ok L[k] M[k] ?_
    by_cases c : L[k] = M[k]
    · simp [c]
      exact ⟨k + 1, by omega, ⟨by omega, take_eq_succ ht h1 h2 c⟩, m + 2, (Wk.sub (by simp [wrap_add (show k < 9223372036854775807 by omega)])).trans (Wk.heap fun i y hy => by simp [Hp.none] at hy)⟩
    · simp [c]
      exact kB h (by simp; intro e; subst e; exact c rfl)
  · obtain rfl : k = L.length := by omega
    simp
    rw [List.take_length, he, List.take_length] at ht
    exact kB h (by simpa using ht)
theorem eqfTh_ok (S T : Bool) (L M : List GThread) {K : D → List Blk → Prop} (h : K (dB (decide (L = M))) []) : DPure Tryz.prog 70 [dL S (L.map eThread), dL T (M.map eThread), .one (.d (.fn (.func 71) [] []))] K := by
  refine fn_ok [0,1,2,6,7,8,9,14,15,16,17,18,30] [] Tryz.func70 rfl (by kernel_rfl) rfl rfl rfl rfl (by kernel_rfl) ?_
  simp
  intro hl hm
  refine alt (fun he => ?_) (fun hne => kB h (by simp; rintro rfl; exact hne rfl))
  have he : L.length = M.length := by omega
  intro _
  refine loopH_ok (ks := [0,1,2,6,7,8,9,14,15,16,17,18,30]) (pl := []) (n0 := 32) (α := {x : Nat × Nat // x.1 ≤ L.length ∧ L.take x.1 = M.take x.1}) (fun x => [(17, dI x.1.1)]) (fun H _ => H) (fun x => x.1.2) (fun x => L.length - x.1.1) ⟨(0, 0), by simp⟩ rfl (by kernel_rfl) (Wk.sub (by simp)) ?_
  rintro ⟨⟨k, m⟩, hk, ht⟩
  simp only at hk ht
  by_cases h1 : k < L.length
  · have h2 : k < M.length := by omega
    simp [h1, h2]
    refine same2_ok L[k] M[k] ?_
    by_cases c : L[k] = M[k]
    · simp [c]
      exact ⟨k + 1, by omega, ⟨by omega, take_eq_succ ht h1 h2 c⟩, m + 2, (Wk.sub (by simp [wrap_add (show k < 9223372036854775807 by omega)])).trans (Wk.heap fun i y hy => by simp [Hp.none] at hy)⟩
    · simp [c]
      exact kB h (by simp; intro e; subst e; exact c rfl)
  · obtain rfl : k = L.length := by omega
    simp
    rw [List.take_length, he, List.take_length] at ht
    exact kB h (by simpa using ht)
theorem same_ok (x y : GState) {K : D → List Blk → Prop} (h : K (dB (decide (x = y))) []) : DPure Tryz.prog 25 [aD (eState x), aD (eState y)] K := by
  obtain ⟨a1, a2, a3, a4, a5, a6, a7, a8⟩ := x
  obtain ⟨b1, b2, b3, b4, b5, b6, b7, b8⟩ := y
  refine fn_ok [0,1,2,3,4] [] Tryz.func25 rfl (by kernel_rfl) rfl rfl rfl rfl (by kernel_rfl) ?_
  simp
  refine eqfCe_ok true true a1 b1 ?_
  by_cases e1 : a1 = b1
  case neg =>
    simp [e1]
    exact kB h (by simp [e1])
  simp [e1]
  refine equalSh_ok true true a2 b2 ?_
  by_cases e2 : a2 = b2
  case neg =>
    simp [e2]
    exact kB h (by simp [e2])
  simp [e2]
  refine equalS_ok true true a3 b3 ?_
  by_cases e3 : a3 = b3
  case neg =>
    simp [e3]
    exact kB h (by simp [e3])
  simp [e3]
  refine eqfTh_ok true true a4 b4 ?_
  by_cases e4 : a4 = b4
  case neg =>
    simp [e4]
    exact kB h (by simp [e4])
  simp [e4]
  refine equalE_ok true true a5 b5 ?_
  by_cases e5 : a5 = b5
  case neg =>
    simp [e5]
    exact kB h (by simp [e5])
  simp [e5]
  refine equalV_ok true true a6 b6 ?_
  by_cases e6 : a6 = b6
  case neg =>
    simp [e6]
    exact kB h (by simp [e6])
  simp [e6]
  refine alt (fun e7 => ?_) (fun e7 => kB h (by simp [e7]))
  exact kB h (by simp [e1, e2, e3, e4, e5, e6, e7])
theorem num_ok (n : Int) {K : D → List Blk → Prop} (h : K (aD [eI 2, eI n]) []) : DPure Tryz.prog 116 [dI n] K := by
  refine fn_ok [0,2] [] Tryz.func116 rfl (by kernel_rfl) rfl rfl rfl rfl (by kernel_rfl) ?_
  simp
  exact h
theorem small_ok (l : List GIns) {K : D → List Blk → Prop} (h : K (.agg [.own 0 5 1, .own 1 2 1, .own 2 1 wordsT.length]) [⟨.c 174, 5, [[.d (eI 0), .d (eI 3), .d (eB false), .d .emp, .d (.sl true (l.map eIns))]]⟩, ⟨.c 34, 2, [[.d (eI 2), .d (eI 1)]]⟩, ⟨.c 9, 1, wordsT.map fun s => [.d (eS s)]⟩]) :
    DPure Tryz.prog 54 [dL true (l.map eIns)] K := by
  refine fn_ok [0,2] [] Tryz.func54 rfl (by kernel_rfl) rfl rfl rfl rfl (by kernel_rfl) ?_
  simp
  refine num_ok 1 ?_
  simp
  refine words_ok ?_
  simp
  exact h
def smallP (l : List GIns) : GProg := ⟨[⟨0, 3, false, [], l⟩], [⟨2, 1⟩], wordsT⟩
theorem Wk.prog3 {n nx : Nat} {tm : List (Nat × D)} {H : Hp} {a b c : Nat} {x x' y z : Blk} (hx : H a = some x) (hxx : x.less x') (hy : H b = some y) (hz : H c = some z) (hab : b ≠ a) (hac : c ≠ a) (hbc : c ≠ b)
    (ix : ∀ e ∈ x'.es, ∀ c ∈ e, c.isD = true) (iy : ∀ e ∈ y.es, ∀ c ∈ e, c.isD = true) (iz : ∀ e ∈ z.es, ∀ c ∈ e, c.isD = true) : Wk ⟨n, tm, H, nx⟩ ⟨n, fzT c z (fzT b y (fzT a x' tm)), Hp.none, nx⟩ :=
  (Wk.less1 hx hxx).trans ((Wk.fz (Hp.set_same _ _ _) ix).trans ((Wk.fz (fzH_id hab (by rw [Hp.set_ne _ _ hab]; exact hy) iy) iy).trans ((Wk.fz (fzH_id hbc (fzH_id hac (by rw [Hp.set_ne _ _ hac]; exact hz) iz) iz) iz).trans (Wk.heap fun i y hy => by simp [Hp.none] at hy))))
theorem Wk.fz0 {n nx : Nat} {tm : List (Nat × D)} {H : Hp} {a : Nat} {x : Blk} (hx : H a = some x) (ix : ∀ e ∈ x.es, ∀ c ∈ e, c.isD = true) : Wk ⟨n, tm, H, nx⟩ ⟨n, fzT a x tm, Hp.none, nx⟩ :=
  (Wk.fz hx ix).trans (Wk.heap fun i y hy => by simp [Hp.none] at hy)
theorem isD_one {e : List Dt} (h : (e.all Dt.solidT) = true) : ∀ d ∈ [e.map C.d], ∀ c ∈ d, c.isD = true := by
  intro d hd c hc
  simp only [List.mem_singleton] at hd
  subst hd
  obtain ⟨x, hx, rfl⟩ := List.mem_map.1 hc
  exact List.all_eq_true.1 h x hx
theorem isD_words (l : List ByteArray) : ∀ d ∈ (l.map fun s => [C.d (eS s)]), ∀ c ∈ d, c.isD = true := by
  intro d hd c hc
  obtain ⟨s, _, rfl⟩ := List.mem_map.1 hd
  simp only [List.mem_singleton] at hc
  subst hc
  rfl
theorem small_less (l : List GIns) : (⟨.c 174, 5, [[.d (eI 0), .d (eI 3), .d (eB false), .d .emp, .d (.sl true (l.map eIns))]]⟩ : Blk).less ⟨.c 174, 5, [[.d (eI 0), .d (eI 3), .d (eB false), .d (.sl true []), .d (.sl true (l.map eIns))]]⟩ := by
  refine ⟨rfl, rfl, rfl, by simp, fun i j c' h => ?_⟩
  match i, j with
  | 0, 0 => exact ⟨_, rfl, .inl (Option.some.inj h)⟩
  | 0, 1 => exact ⟨_, rfl, .inl (Option.some.inj h)⟩
  | 0, 2 => exact ⟨_, rfl, .inl (Option.some.inj h)⟩
  | 0, 3 => exact ⟨_, rfl, .inr ⟨rfl, true, (Option.some.inj h).symm⟩⟩
  | 0, 4 => exact ⟨_, rfl, .inl (Option.some.inj h)⟩
  | 0, _ + 5 => simp [nth2] at h
  | _ + 1, _ => simp [nth2] at h
theorem okS (l : List GIns) (h : l.length ≤ 600) : okP (smallP l) := by
  have : ∀ s ∈ wordsT, s.size ≤ maxLen := by
    simp only [wordsT, List.forall_mem_cons]
    repeat' apply And.intro
    all_goals first | decide | (intro x hx; cases hx)
  exact this
theorem stStart_ic (p : GProg) (hp : okP p) {H : Hp} {nx : Nat} {K : D → Hp → Nat → Prop} (h0 : checkQ wordsT p ≠ 0 → K (.tup [aD (eState noS), dI (checkQ wordsT p)]) H nx) (h1 : checkQ wordsT p = 0 → K (.tup [aD (eState (startS p)), dI 0]) H nx) : ICall Tryz.prog 55 [aD (eProg p)] H nx K :=
  ICall.ofPure (es := [aD (eProg p)]) (by simp) (stStart_ok p hp h0 h1)
theorem small2_ok (l : List GIns) {K : D → List Blk → Prop} (h : K (aD (eProg (smallP l))) []) : DPure Tryz.prog 54 [dL true (l.map eIns)] K := by
  refine DPure.give (small_ok l ⟨_, ?_, h⟩)
  rw [DShw]
  refine ⟨⟨_, rfl, Shw.rows trivial rfl (by simp [smallP]) (by simp [smallP]) ⟨⟨.d rfl, .d rfl, .d rfl, .emp, .d rfl, trivial⟩, trivial⟩⟩, ⟨_, rfl, Shw.rows trivial rfl (by simp [smallP]) (by simp [smallP]) ⟨⟨.d rfl, .d rfl, trivial⟩, trivial⟩⟩, ⟨_, rfl, ?_⟩, trivial⟩
  exact Shw.row trivial rfl rfl (by simp [smallP]) (by simp [smallP]) (by simp [smallP]) (by simp [smallP])
theorem equalI_ok (S T : Bool) (L M : List Int) {K : D → List Blk → Prop} (h : K (dB (decide (L = M))) []) : DPure Tryz.prog 26 [dL S (L.map (fun n => [eI n])), dL T (M.map (fun n => [eI n]))] K := by
  refine fn_ok [0,1,4,5,10,12,13,14,24] [(6, [0,0,3,7,0,0,48,112,255], (.seg 0 (.seg 1 (.seg 2 (.seg 3 (.seg 4 (.seg 5 (.seg 6 (.seg 7 (.seg 8 .last))))))))))] Tryz.func26 rfl (by kernel_rfl) rfl rfl rfl rfl (by kernel_rfl) ?_
  simp
  intro hl hm
  refine alt (fun he => ?_) (fun hne => kB h (by simp; rintro rfl; exact hne rfl))
  have he : L.length = M.length := by omega
  intro _
  refine loop_ok (ks := [0,1,4,5,10,12,13,14,24]) (pl := [(6, [0,0,3,7,0,0,48,112,255], (.seg 0 (.seg 1 (.seg 2 (.seg 3 (.seg 4 (.seg 5 (.seg 6 (.seg 7 (.seg 8 .last))))))))))]) (n0 := 26) (fun x : {k : Nat // k ≤ L.length ∧ L.take k = M.take k} => [(13, dI x.1)]) (fun x => L.length - x.1) ⟨0, by simp⟩ rfl (by kernel_rfl) (Wk.sub (by simp)) ?_
  rintro ⟨k, hk, ht⟩
  by_cases h1 : k < L.length
  · have h2 : k < M.length := by omega
    simp [h1, h2]
    refine alt (fun e1 => ?_) (fun hne => kB h (by simp; rintro rfl; simp at hne))
    exact ⟨k + 1, by omega, ⟨by omega, take_eq_succ ht h1 h2 (by exact e1)⟩, Wk.sub (by simp [wrap_add (show k < 9223372036854775807 by omega)])⟩
  · simp [h1]
    obtain rfl : k = L.length := by omega
    rw [List.take_length, he, List.take_length] at ht
    exact kB h (by simpa using ht)
theorem fine_ok (S : Bool) (l : List Int) {K : D → List Blk → Prop} (h : K (dB (l.all fun n => decide (n = 0))) []) : DPure Tryz.prog 23 [dL S (l.map fun n => [eI n])] K := by
  refine fn_ok [0,2,4,5,6,7,8,12] [] Tryz.func23 rfl (by kernel_rfl) rfl rfl rfl rfl (by kernel_rfl) ?_
  simp
  intro _
  refine loop_ok (ks := [0,2,4,5,6,7,8,12]) (pl := []) (n0 := 14) (fun x : {k : Nat // k ≤ l.length ∧ ∀ x ∈ l.take k, x = 0} => [(7, dI x.1)]) (fun x => l.length - x.1) ⟨0, by simp⟩ rfl (by kernel_rfl) (Wk.sub (by simp)) ?_
  rintro ⟨k, hk, ht⟩
  by_cases h1 : k < l.length
  · simp [h1]
    refine alt (fun e => ?_) (fun e => kB h (by rw [List.all_eq_false.2]; exact ⟨_, List.getElem_mem h1, by simpa using e⟩))
    refine ⟨k + 1, by omega, ⟨by omega, fun x hx => ?_⟩, Wk.sub (by simp [wrap_add (show k < 9223372036854775807 by omega)])⟩
    rw [List.take_succ_eq_append_getElem h1] at hx
    rcases List.mem_append.1 hx with hx | hx
    · exact ht x hx
    · rw [List.mem_singleton.1 hx]; exact e
  · simp [h1]
    obtain rfl : k = l.length := by omega
    rw [List.take_length] at ht
    exact kB h (by rw [List.all_eq_true.2]; exact fun x hx => by simp [ht x hx])
def livP : GProg := smallP [⟨28, 0, 0, 0, 0⟩]
def badS : GState := ⟨[⟨4, 0, [], []⟩], [(-1, -1)], wordsT, [⟨[⟨0, 1, 0, 0, ⟨0, 0⟩, [], []⟩], 0, 0, ⟨0, 0⟩⟩], [], [], 0, 0⟩
theorem livP_ok : checkQ wordsT livP = 0 := by kernel_rfl
theorem liv_state : stateQ wordsT livP (startS livP) = 0 := start_ok livP_ok
theorem liv_ready : readyQ livP (startS livP) = [0] := by rw [readyQ, if_pos liv_state]; rfl
theorem bad_state : stateQ wordsT livP badS = 3 := by
  have h1 : cellsQ wordsT badS = 0 := start_heap livP_ok
  have h2 : stateB livP badS = false := by kernel_rfl
  unfold stateQ
  rw [if_neg (by rw [livP_ok]; simp), if_neg (by rw [h1]; simp), if_neg (by simp [stateLarge, badS]), if_neg (by rw [h2]; simp)]
theorem okSt_start {p : GProg} (h : okP p) : okSt (startS p) := by
  refine ⟨h, ?_, ?_⟩
  · intro x hx
    simp [startS] at hx
    subst hx
    simp [InS, InI]
  · intro c hc
    simp [startS] at hc
    subst hc
    exact ⟨fun v hv => by simp at hv, fun f hf => by simp at hf⟩
def livRow (c : C) : List C := [.d (.sl true ((startS livP).cells.map eCell)), .d (.sl true ((startS livP).shapes.map eShape)), .d (.sl true ((startS livP).texts.map eStr)), c, .d (.sl true ((startS livP).ends.map eEnd)), .d (.sl true ((startS livP).said.map eVal)), .d (eI (startS livP).asked), .d (eI (startS livP).steps)]
theorem bad_rel {H : Hp} (h4 : H 4 = some ⟨.c 47, 8, [[.d (eI 0), .d (eI 1), .d (eI 0), .d (eI 0), .d (eI 0), .d (eI 0), .d .emp, .d .emp]]⟩) (h5 : H 5 = some ⟨.c 42, 5, [[.own 4 8 1, .d (eI 0), .d (eI 0), .d (eI 0), .d (eI 0)]]⟩) :
    CsRel H (fun i => i = 4 ∨ i = 5) (livRow (.own 5 5 1)) ((eState badS).map .d) := by
  refine ⟨.inl rfl, .inl rfl, .inl rfl, .inr ⟨_, rfl, ?_⟩, .inl rfl, .inl rfl, .inl rfl, .inl rfl, trivial⟩
  refine Shw.rows (.inr rfl) h5 rfl (by simp [badS]) ⟨⟨?_, .d rfl, .d rfl, .d rfl, .d rfl, trivial⟩, trivial⟩
  exact Shw.rows (.inl rfl) h4 rfl (by simp) ⟨⟨.d rfl, .d rfl, .d rfl, .d rfl, .d rfl, .d rfl, .emp, .emp, trivial⟩, trivial⟩
theorem okSt_bad : okSt badS := by
  refine ⟨okS [] (by decide), ?_, ?_⟩
  · intro x hx
    simp [badS] at hx
    subst hx
    simp [InS, InI]
  · intro c hc
    simp [badS] at hc
    subst hc
    exact ⟨fun v hv => by simp at hv, fun f hf => by simp at hf⟩
def withMore (s : GState) (cs : List GCell) (ts : List ByteArray) : GState := ⟨s.cells ++ cs, s.shapes, s.texts ++ ts, s.threads, s.ends, s.said, s.asked, s.steps⟩
section
variable {s : GState} {cs : List GCell} {ts : List ByteArray}
theorem cellAt_more {n : Int} (h0 : 0 ≤ n) (h : n < s.cells.length) : cellAt (withMore s cs ts) n = cellAt s n := by
  unfold cellAt withMore
  rw [List.getD_eq_getElem?_getD, List.getD_eq_getElem?_getD, List.getElem?_append_left (by omega)]
theorem right_pos {k n : Int} (h : rightB k n = true) (hk : k = 4 ∨ k = 5) : 0 ≤ n := by
  unfold rightB at h
  rw [if_neg (by omega), if_neg (by omega), if_neg (by omega), if_neg (by omega), if_pos hk] at h
  simpa using h
theorem fits_more {v : GVal} (h : fitsB s v = true) : fitsB (withMore s cs ts) v = true := by
  simp only [fitsB, Bool.and_eq_true] at h ⊢
  refine ⟨h.1, ?_⟩
  have h2 := h.2
  by_cases e4 : v.kind = 4
  · rw [if_pos e4] at h2 ⊢
    simp [withMore] at h2 ⊢; omega
  rw [if_neg e4] at h2 ⊢
  by_cases e5 : v.kind = 5
  · rw [if_pos e5] at h2 ⊢
    have hp := right_pos h.1 (.inr e5)
    simp only [Bool.and_eq_true, decide_eq_true_eq] at h2 ⊢
    refine ⟨by simp [withMore]; omega, ?_⟩
    rw [cellAt_more hp h2.1]; exact h2.2
  · rw [if_neg e5]
theorem names_more {v : GVal} {k : Int} (h : namesB s v k = true) : namesB (withMore s cs ts) v k = true := by
  simp only [namesB, Bool.and_eq_true, decide_eq_true_eq] at h ⊢
  obtain ⟨⟨⟨h1, h2⟩, h3⟩, h4⟩ := h
  exact ⟨⟨⟨h1, h2⟩, by simp [withMore]; omega⟩, by rw [cellAt_more h2 h3]; exact h4⟩
theorem names_at {v : GVal} {k : Int} (h : namesB s v k = true) : cellAt (withMore s cs ts) v.n = cellAt s v.n := by
  simp only [namesB, Bool.and_eq_true, decide_eq_true_eq] at h
  exact cellAt_more h.1.1.2 h.1.2
theorem all_mono {α : Type} {l : List α} {p q : α → Bool} (h : l.all p = true) (hpq : ∀ x ∈ l, p x = true → q x = true) : l.all q = true := by
  rw [List.all_eq_true] at h ⊢
  exact fun x hx => hpq x hx (h x hx)
theorem kind_more {c : GCell} (h : kindB s c = true) : kindB (withMore s cs ts) c = true := by
  unfold kindB at h ⊢
  by_cases e4 : c.kind = 4
  · rw [if_neg (by omega), if_neg (by omega), if_neg (by omega), if_neg (by omega), if_pos e4] at h ⊢
    simp only [Bool.and_eq_true] at h ⊢
    exact ⟨h.1, all_mono h.2 fun v _ => names_more⟩
  · by_cases e0 : c.kind = 0
    · rw [if_pos e0] at h ⊢; exact h
    rw [if_neg e0] at h ⊢
    by_cases e1 : c.kind = 1
    · rw [if_pos e1] at h ⊢; exact h
    rw [if_neg e1] at h ⊢
    by_cases e2 : c.kind = 2
    · rw [if_pos e2] at h ⊢; exact h
    rw [if_neg e2] at h ⊢
    by_cases e3 : c.kind = 3
    · rw [if_pos e3] at h ⊢; exact h
    rw [if_neg e3, if_neg e4] at h ⊢
    exact h
theorem frameFits_more {f : GFrame} (h : frameFits s f = true) : frameFits (withMore s cs ts) f = true := by
  simp only [frameFits, Bool.and_eq_true] at h ⊢
  exact ⟨all_mono h.1 fun v _ => fits_more, fits_more h.2⟩
theorem cell_more {c : GCell} (h : cellB s c = true) : cellB (withMore s cs ts) c = true := by
  simp only [cellB, Bool.and_eq_true] at h ⊢
  obtain ⟨⟨⟨h1, h2⟩, h3⟩, h4⟩ := h
  exact ⟨⟨⟨kind_more h1, h2⟩, all_mono h3 fun v _ => fits_more⟩, all_mono h4 fun f _ => frameFits_more⟩
theorem frame_more {p : GProg} {f : GFrame} (h : frameB p s f = true) : frameB p (withMore s cs ts) f = true := by
  simp only [frameB, Bool.and_eq_true] at h ⊢
  obtain ⟨⟨⟨⟨⟨⟨⟨⟨⟨h1, h2⟩, h3⟩, h4⟩, h5⟩, h6⟩, h7⟩, h8⟩, h9⟩, h10⟩ := h
  exact ⟨⟨⟨⟨⟨⟨⟨⟨⟨h1, h2⟩, names_more h3⟩, by rw [names_at h3]; exact h4⟩, h5⟩, h6⟩, h7⟩, h8⟩, h9⟩, all_mono h10 fun v _ => fits_more⟩
theorem saved_more {p : GProg} {f : GFrame} (h : savedB p s f = true) : savedB p (withMore s cs ts) f = true := by
  simp only [savedB, Bool.and_eq_true] at h ⊢
  obtain ⟨⟨⟨⟨h1, h2⟩, h3⟩, h4⟩, h5⟩ := h
  exact ⟨⟨⟨⟨frame_more h1, h2⟩, h3⟩, h4⟩, h5⟩
theorem heap_more {p : GProg} {c : GCell} (h : heapB p s c = true) : heapB p (withMore s cs ts) c = true := by
  unfold heapB at h ⊢
  by_cases e4 : c.kind = 4
  · rw [if_pos e4] at h ⊢; exact h
  rw [if_neg e4] at h ⊢
  by_cases e5 : c.kind = 5
  · rw [if_pos e5] at h ⊢
    simp only [Bool.or_eq_true] at h ⊢
    exact h.imp id saved_more
  · rw [if_neg e5]
theorem stack_more {p : GProg} {fs : List GFrame} {k : Nat} (h : stackB p s fs k = true) : stackB p (withMore s cs ts) fs k = true := by
  unfold stackB at h ⊢
  simp only [Bool.and_eq_true] at h ⊢
  obtain ⟨⟨⟨h1, h2⟩, h3⟩, h4⟩ := h
  refine ⟨⟨⟨frame_more h1, h2⟩, h3⟩, ?_⟩
  by_cases hg : (fnAt p (fs.getD k dFrame).fn).gen = true
  · rw [if_pos hg] at h4 ⊢
    simp only [Bool.and_eq_true] at h4 ⊢
    obtain ⟨⟨⟨a1, a2⟩, a3⟩, a4⟩ := h4
    exact ⟨⟨⟨a1, a2⟩, names_more a3⟩, by have := names_at (cs := cs) (ts := ts) a3; simp only at this; rw [this]; exact a4⟩
  · rw [if_neg hg] at h4 ⊢; exact h4
theorem on_more {t : GThread} (h : onB s t = true) : onB (withMore s cs ts) t = true := by
  unfold onB at h ⊢
  by_cases e1 : t.state = 1
  · rw [if_pos e1] at h ⊢; exact names_more h
  · rw [if_neg e1] at h ⊢; exact h
theorem thread_more {p : GProg} {t : GThread} (h : threadB p s t = true) : threadB p (withMore s cs ts) t = true := by
  simp only [threadB, Bool.and_eq_true] at h ⊢
  obtain ⟨⟨⟨⟨⟨h1, h2⟩, h3⟩, h4⟩, h5⟩, h6⟩ := h
  exact ⟨⟨⟨⟨⟨h1, h2⟩, fits_more h3⟩, h4⟩, on_more h5⟩, all_mono h6 fun k _ => stack_more⟩
end
theorem cellsQ_iff {ws : List ByteArray} {s : GState} : cellsQ ws s = 0 ↔ heapLarge s = false ∧ faultP s.shapes = 0 ∧ wordsB ws s.texts = true ∧ s.shapes.all (fun x => decide (x.2 < s.texts.length)) = true ∧ s.cells.all (cellB s) = true ∧ s.said.all (saidB s) = true ∧ s.ends.all (endB s) = true := by
  unfold cellsQ
  by_cases h1 : heapLarge s = true
  · rw [if_pos h1, h1]; simp
  rw [if_neg h1]
  by_cases h2 : faultP s.shapes = 0
  · rw [if_neg (by simpa using h2)]
    by_cases h3 : wordsB ws s.texts = true ∧ s.shapes.all (fun x => decide (x.2 < s.texts.length)) = true ∧ s.cells.all (cellB s) = true ∧ s.said.all (saidB s) = true ∧ s.ends.all (endB s) = true
    · rw [if_pos h3]; exact ⟨fun _ => ⟨by simpa using h1, h2, h3⟩, fun _ => rfl⟩
    · rw [if_neg h3]; exact ⟨fun h => by simp at h, fun h => absurd h.2.2 h3⟩
  · rw [if_pos (by simpa using h2)]; exact ⟨fun h => absurd h h2, fun h => absurd h.2.1 h2⟩
theorem stateQ_iff {ws : List ByteArray} {p : GProg} {s : GState} : stateQ ws p s = 0 ↔ checkQ ws p = 0 ∧ cellsQ ws s = 0 ∧ stateLarge s = false ∧ stateB p s = true := by
  unfold stateQ
  by_cases h1 : checkQ ws p = 0
  · rw [if_neg (by simpa using h1)]
    by_cases h2 : cellsQ ws s = 0
    · rw [if_neg (by simpa using h2)]
      by_cases h3 : stateLarge s = true
      · rw [if_pos h3, h3]; simp
      · rw [if_neg h3]
        by_cases h4 : stateB p s = true
        · rw [if_pos h4]; exact ⟨fun _ => ⟨h1, h2, by simpa using h3, h4⟩, fun _ => rfl⟩
        · rw [if_neg h4]; exact ⟨fun h => by simp at h, fun h => absurd h.2.2.2 h4⟩
    · rw [if_pos (by simpa using h2)]; exact ⟨fun h => absurd h h2, fun h => absurd h.2.1 h2⟩
  · rw [if_pos (by simpa using h1)]; exact ⟨fun h => absurd h h1, fun h => absurd h.1 h1⟩
def selfCell (n : Nat) : GCell := ⟨2, 0, [⟨5, n⟩], []⟩
theorem more_cells {s : GState} {t : ByteArray} (h : cellsQ wordsT s = 0) (h1 : s.cells.length < 300) (h2 : s.texts.length < 300) (h3 : t.size ≤ 200) (h4 : ¬ t ∈ s.texts) : cellsQ wordsT (withMore s [selfCell s.cells.length] [t]) = 0 := by
  rw [cellsQ_iff] at h ⊢
  obtain ⟨a1, a2, a3, a4, a5, a6, a7⟩ := h
  refine ⟨?_, a2, ?_, ?_, ?_, ?_, ?_⟩
  · simp only [heapLarge, Bool.or_eq_false_iff, decide_eq_false_iff_not] at a1 ⊢
    obtain ⟨⟨⟨⟨⟨b1, b2⟩, b3⟩, b4⟩, b5⟩, b6⟩ := a1
    refine ⟨⟨⟨⟨⟨by simp [withMore]; omega, by simp [withMore]; omega⟩, b3⟩, b4⟩, ?_⟩, ?_⟩
    · simp only [withMore, List.any_append, b5, Bool.false_or]; simp; omega
    · simp only [withMore, List.any_append, b6, Bool.false_or]; simp [manyB, selfCell]
  · simp only [wordsB, Bool.and_eq_true, decide_eq_true_eq] at a3 ⊢
    have hl : wordsT.length ≤ s.texts.length := by have := congrArg List.length a3.1; rw [List.length_take] at this; omega
    refine ⟨by simp only [withMore]; rw [List.take_append_of_le_length hl]; exact a3.1, ?_⟩
    simp only [withMore]
    refine List.nodup_append.2 ⟨a3.2, by simp, fun a ha b hb => ?_⟩
    obtain rfl := List.mem_singleton.1 hb
    rintro rfl
    exact h4 ha
  · exact all_mono a4 fun x _ hx => by simp [withMore] at hx ⊢; omega
  · simp only [withMore, List.all_append, Bool.and_eq_true]
    refine ⟨all_mono a5 fun c _ hc => cell_more hc, ?_⟩
    simp only [List.all_cons, List.all_nil, Bool.and_true]
    have hc : cellAt (withMore s [selfCell s.cells.length] [t]) (s.cells.length : Int) = selfCell s.cells.length := by
      unfold cellAt withMore
      rw [Int.toNat_natCast, List.getD_eq_getElem?_getD, List.getElem?_append_right (Nat.le_refl _)]
      simp
    have hf : fitsB (withMore s [selfCell s.cells.length] [t]) ⟨5, s.cells.length⟩ = true := by
      simp only [fitsB, hc]
      simp [rightB, withMore, selfCell]
      omega
    show cellB (withMore s [selfCell s.cells.length] [t]) (selfCell s.cells.length) = true
    generalize withMore s [selfCell s.cells.length] [t] = S at *
    have he : cellB S (selfCell s.cells.length) = (kindB S (selfCell s.cells.length) && decide ((selfCell s.cells.length).frames.length = framesOf (selfCell s.cells.length)) && (fitsB S ⟨5, s.cells.length⟩ && true) && true) := rfl
    rw [he, hf]
    simp [kindB, framesOf, selfCell]
  · exact all_mono a6 fun v _ hv => by
      simp only [saidB, Bool.and_eq_true] at hv ⊢
      exact ⟨hv.1, fits_more hv.2⟩
  · exact all_mono a7 fun e _ he => by
      simp only [endB, Bool.and_eq_true] at he ⊢
      refine ⟨?_, names_more he.2⟩
      have := he.1
      simp [btw, withMore] at this ⊢; omega
theorem more_state {p : GProg} {s : GState} {t : ByteArray} (h : stateQ wordsT p s = 0) (h1 : s.cells.length < 300) (h2 : s.texts.length < 300) (h3 : t.size ≤ 200) (h4 : ¬ t ∈ s.texts) : stateQ wordsT p (withMore s [selfCell s.cells.length] [t]) = 0 := by
  rw [stateQ_iff] at h ⊢
  obtain ⟨a1, a2, a3, a4⟩ := h
  refine ⟨a1, more_cells a2 h1 h2 h3 h4, a3, ?_⟩
  simp only [stateB, Bool.and_eq_true] at a4 ⊢
  obtain ⟨⟨⟨⟨b1, b2⟩, b3⟩, b4⟩, b5⟩ := a4
  refine ⟨⟨⟨⟨?_, ?_⟩, all_mono b3 fun t _ => thread_more⟩, b4⟩, ?_⟩
  · simp only [beginsB, Bool.and_eq_true, decide_eq_true_eq] at b1 ⊢
    obtain ⟨⟨⟨c1, c2⟩, c3⟩, c4⟩ := b1
    refine ⟨⟨⟨?_, c2⟩, c3⟩, c4⟩
    simp only [withMore]
    have hl : p.texts.length ≤ s.texts.length := by have := congrArg List.length c1; rw [List.length_take] at this; omega
    rw [List.take_append_of_le_length hl]; exact c1
  · simp only [withMore, List.all_append, Bool.and_eq_true]
    exact ⟨all_mono b2 fun c _ hc => heap_more hc, by simp [heapB, selfCell]⟩
  · unfold goesB at b5 ⊢
    rw [List.all_eq_true] at b5 ⊢
    intro k hk
    by_cases hks : k < s.cells.length
    · have := b5 k (List.mem_range.2 hks)
      rw [cellAt_more (by omega) (by omega)]
      exact this
    · have hk' : k = s.cells.length := by have := List.mem_range.1 hk; simp [withMore] at this; omega
      subst hk'
      have hc : cellAt (withMore s [selfCell s.cells.length] [t]) (s.cells.length : Int) = selfCell s.cells.length := by
        unfold cellAt withMore
        rw [Int.toNat_natCast, List.getD_eq_getElem?_getD, List.getElem?_append_right (Nat.le_refl _)]
        simp
      rw [hc]
      simp [selfCell]
def dThread : GThread := ⟨[], 0, 0, ⟨0, 0⟩⟩
def turnF (f : GFrame) (reg : Nat) (v : GVal) : GFrame := ⟨f.fn, f.at_, f.to, f.gen, f.self, f.regs.set reg v, f.tries⟩
def turnT (t : GThread) (reg : Nat) (v : GVal) : GThread := ⟨t.frames.set (t.frames.length - 1) (turnF (t.frames.getD (t.frames.length - 1) dFrame) reg v), t.state, t.on, t.val⟩
def turnS (s : GState) (th reg : Nat) (v : GVal) : GState := ⟨s.cells, s.shapes, s.texts, s.threads.set th (turnT (s.threads.getD th dThread) reg v), s.ends, s.said, s.asked, s.steps⟩
section
variable {p : GProg} {s : GState} {th reg : Nat} {v : GVal}
theorem frame_turn {f : GFrame} (hv : fitsB s v = true) (h : frameB p s f = true) : frameB p s (turnF f reg v) = true := by
  simp only [frameB, Bool.and_eq_true] at h ⊢
  obtain ⟨⟨⟨⟨⟨⟨⟨⟨⟨h1, h2⟩, h3⟩, h4⟩, h5⟩, h6⟩, h7⟩, h8⟩, h9⟩, h10⟩ := h
  refine ⟨⟨⟨⟨⟨⟨⟨⟨⟨h1, h2⟩, h3⟩, h4⟩, by simpa [turnF] using h5⟩, h6⟩, h7⟩, h8⟩, h9⟩, ?_⟩
  rw [List.all_eq_true] at h10 ⊢
  intro x hx
  rcases List.mem_or_eq_of_mem_set hx with hx | rfl
  · exact h10 x hx
  · exact hv
theorem turn_get {fs : List GFrame} {j k : Nat} : (fs.set j (turnF (fs.getD j dFrame) reg v)).getD k dFrame = if j = k ∧ j < fs.length then turnF (fs.getD k dFrame) reg v else fs.getD k dFrame := by
  rw [getD_set]
  by_cases h : j = k ∧ j < fs.length
  · rw [if_pos h, if_pos h, h.1]
  · rw [if_neg h, if_neg h]
theorem turn_len {fs : List GFrame} {j k : Nat} : ((fs.set j (turnF (fs.getD j dFrame) reg v)).getD k dFrame).regs.length = (fs.getD k dFrame).regs.length := by
  rw [turn_get]; split <;> simp [turnF]
theorem stack_turn {fs : List GFrame} {j k : Nat} (hv : fitsB s v = true) (h : stackB p s fs k = true) : stackB p (turnS s th reg v) (fs.set j (turnF (fs.getD j dFrame) reg v)) k = true := by
  unfold stackB at h ⊢
  simp only [Bool.and_eq_true] at h ⊢
  obtain ⟨⟨⟨h1, h2⟩, h3⟩, h4⟩ := h
  rw [turn_len (k := k - 1)]
  rw [turn_get]
  by_cases e : j = k ∧ j < fs.length
  · rw [if_pos e]
    exact ⟨⟨⟨frame_turn hv h1, h2⟩, h3⟩, h4⟩
  · rw [if_neg e]
    exact ⟨⟨⟨h1, h2⟩, h3⟩, h4⟩
theorem gens_turn {fs : List GFrame} {j : Nat} (hj : j < fs.length) : gensF p (fs.set j (turnF (fs.getD j dFrame) reg v)) = gensF p fs := by
  unfold gensF
  induction fs generalizing j with
  | nil => simp at hj
  | cons f fs ih =>
    cases j with
    | zero =>
      simp only [List.set_cons_zero, List.getD_cons_zero, List.filter_cons]
      rw [show (turnF f reg v).fn = f.fn from rfl]
      split <;> rfl
    | succ j =>
      simp only [List.set_cons_succ, List.getD_cons_succ, List.filter_cons]
      have := ih (j := j) (by simpa using hj)
      split
      · simp only [List.map_cons, this]
      · exact this
theorem thread_turn (hv : fitsB s v = true) {t : GThread} (h : threadB p s t = true) : threadB p (turnS s th reg v) t = true := by
  simp only [threadB, Bool.and_eq_true] at h ⊢
  obtain ⟨⟨⟨⟨⟨h1, h2⟩, h3⟩, h4⟩, h5⟩, h6⟩ := h
  refine ⟨⟨⟨⟨⟨h1, h2⟩, h3⟩, h4⟩, ?_⟩, h6⟩
  unfold onB at h5 ⊢
  have : (turnS s th reg v).threads.length = s.threads.length := by simp [turnS]
  rw [this]; exact h5
theorem thread_turned (hv : fitsB s v = true) {t : GThread} (hf : t.frames ≠ []) (h : threadB p s t = true) : threadB p (turnS s th reg v) (turnT t reg v) = true := by
  have h' := thread_turn (th := th) (reg := reg) hv h
  simp only [threadB, Bool.and_eq_true] at h h' ⊢
  obtain ⟨⟨⟨⟨⟨h1, h2⟩, h3⟩, h4⟩, -⟩, h6⟩ := h
  obtain ⟨⟨-, h5⟩, -⟩ := h'
  refine ⟨⟨⟨⟨⟨?_, h2⟩, h3⟩, h4⟩, h5⟩, ?_⟩
  · have e1 : decide ((turnT t reg v).frames = []) = decide (t.frames = []) := by
      have : (turnT t reg v).frames ≠ [] := by simpa [turnT] using hf
      rw [decide_eq_false this, decide_eq_false hf]
    rw [e1]; exact h1
  · have : (turnT t reg v).frames.length = t.frames.length := by simp [turnT]
    rw [this]
    exact all_mono h6 fun k _ hk => stack_turn hv hk
theorem turn_mem {t : GThread} (h : t ∈ (turnS s th reg v).threads) : t ∈ s.threads ∨ (th < s.threads.length ∧ t = turnT (s.threads.getD th dThread) reg v) := by
  simp only [turnS] at h
  by_cases hl : th < s.threads.length
  · rcases List.mem_or_eq_of_mem_set h with h | h
    · exact .inl h
    · exact .inr ⟨hl, h⟩
  · rw [List.set_eq_of_length_le (by omega)] at h
    exact .inl h
theorem flat_set {α β : Type} {l : List α} {f : α → List β} {i : Nat} {x d : α} (h : f x = f (l.getD i d)) : (l.set i x).flatMap f = l.flatMap f := by
  induction l generalizing i with
  | nil => rfl
  | cons a l ih =>
    cases i with
    | zero => simp only [List.set_cons_zero, List.flatMap_cons, List.getD_cons_zero] at h ⊢; rw [h]
    | succ i => simp only [List.set_cons_succ, List.flatMap_cons, List.getD_cons_succ] at h ⊢; rw [ih h]
theorem gensS_turn (hf : (s.threads.getD th dThread).frames ≠ []) : gensS p (turnS s th reg v) = gensS p s := by
  unfold gensS turnS
  refine flat_set (d := dThread) ?_
  exact gens_turn (by have := List.length_pos_iff.2 hf; omega)
theorem turn_state (h : stateQ wordsT p s = 0) (hv : fitsB s v = true) (hf : (s.threads.getD th dThread).frames ≠ []) : stateQ wordsT p (turnS s th reg v) = 0 := by
  have hth : th < s.threads.length := by
    by_cases hl : th < s.threads.length
    · exact hl
    · rw [List.getD_eq_getElem?_getD, List.getElem?_eq_none (by omega)] at hf
      exact absurd rfl hf
  have hin : s.threads.getD th dThread ∈ s.threads := by rw [List.getD_eq_getElem?_getD, List.getElem?_eq_getElem hth]; exact List.getElem_mem hth
  rw [stateQ_iff] at h ⊢
  obtain ⟨a1, a2, a3, a4⟩ := h
  refine ⟨a1, a2, ?_, ?_⟩
  · simp only [stateLarge, Bool.or_eq_false_iff, decide_eq_false_iff_not, List.any_eq_false, decide_eq_true_eq] at a3 ⊢
    refine ⟨by simpa [turnS] using a3.1, fun t ht => ?_⟩
    rcases turn_mem ht with ht | ⟨-, rfl⟩
    · exact a3.2 t ht
    · simpa [turnT] using a3.2 _ hin
  · simp only [stateB, Bool.and_eq_true, decide_eq_true_eq] at a4 ⊢
    obtain ⟨⟨⟨⟨b1, b2⟩, b3⟩, b4⟩, b5⟩ := a4
    refine ⟨⟨⟨⟨?_, b2⟩, ?_⟩, by rw [gensS_turn hf]; exact b4⟩, ?_⟩
    · simp only [beginsB, Bool.and_eq_true, Bool.not_eq_true', decide_eq_false_iff_not] at b1 ⊢
      refine ⟨b1.1, fun e => b1.2 ?_⟩
      simpa [turnS] using e
    · rw [List.all_eq_true] at b3 ⊢
      intro t ht
      rcases turn_mem ht with ht | ⟨-, rfl⟩
      · exact thread_turn hv (b3 t ht)
      · exact thread_turned hv hf (b3 _ hin)
    · unfold goesB at b5 ⊢
      rw [gensS_turn hf]; exact b5
end
theorem RsS.app {H : Hp} {N : Nat → Prop} {b d : List (List Dt)} : ∀ {a c : List (List C)}, RsS H N a b → RsS H N c d → RsS H N (a ++ c) (b ++ d) := by
  induction b with
  | nil => intro a c h1 h2; cases a with
    | nil => exact h2
    | cons _ _ => exact h1.elim
  | cons e es ih => intro a c h1 h2; cases a with
    | nil => exact h1.elim
    | cons x xs => exact ⟨h1.1, ih h1.2 h2⟩
theorem CsS.dat {H : Hp} {N : Nat → Prop} : ∀ {l : List Dt}, (∀ d ∈ l, d.solidT = true) → CsS H N (l.map .d) l
  | [], _ => trivial
  | d :: l, h => ⟨.d (h d (List.mem_cons_self ..)), CsS.dat fun x hx => h x (List.mem_cons_of_mem _ hx)⟩
theorem RsS.dat {H : Hp} {N : Nat → Prop} {α : Type} {e : α → List Dt} (he : ∀ x, ∀ d ∈ e x, d.solidT = true) : ∀ {l : List α}, RsS H N (l.map fun x => (e x).map .d) (l.map e)
  | [] => trivial
  | x :: l => ⟨CsS.dat (he x), RsS.dat he (l := l)⟩
theorem rowsLen {α : Type} {f : α → List Dt} {k : Nat} (h : ∀ x, (f x).length = k) {l : List α} : ∀ e ∈ l.map f, e.length = k := fun e he => by
  obtain ⟨x, -, rfl⟩ := List.mem_map.1 he; exact h x
theorem CsRel.dat {H : Hp} {N : Nat → Prop} (l : List C) : CsRel H N l l := CsRel.refl l
theorem cloneCe_ok (S : Bool) (es : List (List Dt)) (hk : ∀ e ∈ es, e.length = 4) (hs : ∀ e ∈ es, ∀ x ∈ e, x.solidT = true) (hl : es.length ≤ 100000000000) {K : D → List Blk → Prop} (h : K (.one (.own 0 4 es.length)) [⟨.c 53, 4, es.map fun e => e.map .d⟩]) :
    DPure Tryz.prog 21 [dL S es] K := by
  refine DPure.own 53 4 ?_
  refine fn_ok [0,2,4] [] Tryz.func21 rfl (by kernel_rfl) rfl rfl rfl rfl (by kernel_rfl) ?_
  have hk' : ∀ d ∈ es.map (fun e => e.map C.d), d.length = 4 := fun d hd => by
    obtain ⟨e, he, rfl⟩ := List.mem_map.1 hd
    simpa using hk e he
  simp [Function.comp_def, hl]
  refine ⟨fun e => ?_, fun e he => hk e he, ?_⟩
  · subst e; exact .inr (by simpa using h)
  · rw [if_pos fun e he x hx => hs e he x hx]
    exact h
theorem cloneTh_ok (S : Bool) (es : List (List Dt)) (hk : ∀ e ∈ es, e.length = 5) (hs : ∀ e ∈ es, ∀ x ∈ e, x.solidT = true) (hl : es.length ≤ 100000000000) {K : D → List Blk → Prop} (h : K (.one (.own 0 5 es.length)) [⟨.c 42, 5, es.map fun e => e.map .d⟩]) :
    DPure Tryz.prog 18 [dL S es] K := by
  refine DPure.own 42 5 ?_
  refine fn_ok [0,2,4] [] Tryz.func18 rfl (by kernel_rfl) rfl rfl rfl rfl (by kernel_rfl) ?_
  have hk' : ∀ d ∈ es.map (fun e => e.map C.d), d.length = 5 := fun d hd => by
    obtain ⟨e, he, rfl⟩ := List.mem_map.1 hd
    simpa using hk e he
  simp [Function.comp_def, hl]
  refine ⟨fun e => ?_, fun e he => hk e he, ?_⟩
  · subst e; exact .inr (by simpa using h)
  · rw [if_pos fun e he x hx => hs e he x hx]
    exact h
theorem cloneFr_ok (S : Bool) (es : List (List Dt)) (hk : ∀ e ∈ es, e.length = 8) (hs : ∀ e ∈ es, ∀ x ∈ e, x.solidT = true) (hl : es.length ≤ 100000000000) {K : D → List Blk → Prop} (h : K (.one (.own 0 8 es.length)) [⟨.c 47, 8, es.map fun e => e.map .d⟩]) :
    DPure Tryz.prog 19 [dL S es] K := by
  refine DPure.own 47 8 ?_
  refine fn_ok [0,2,4] [] Tryz.func19 rfl (by kernel_rfl) rfl rfl rfl rfl (by kernel_rfl) ?_
  have hk' : ∀ d ∈ es.map (fun e => e.map C.d), d.length = 8 := fun d hd => by
    obtain ⟨e, he, rfl⟩ := List.mem_map.1 hd
    simpa using hk e he
  simp [Function.comp_def, hl]
  refine ⟨fun e => ?_, fun e he => hk e he, ?_⟩
  · subst e; exact .inr (by simpa using h)
  · rw [if_pos fun e he x hx => hs e he x hx]
    exact h
theorem cloneSh_ok (S : Bool) (es : List (List Dt)) (hk : ∀ e ∈ es, e.length = 2) (hs : ∀ e ∈ es, ∀ x ∈ e, x.solidT = true) (hl : es.length ≤ 100000000000) {K : D → List Blk → Prop} (h : K (.one (.own 0 2 es.length)) [⟨.c 120, 2, es.map fun e => e.map .d⟩]) :
    DPure Tryz.prog 137 [dL S es] K := by
  refine DPure.own 120 2 ?_
  refine fn_ok [0,2,4] [] Tryz.func137 rfl (by kernel_rfl) rfl rfl rfl rfl (by kernel_rfl) ?_
  have hk' : ∀ d ∈ es.map (fun e => e.map C.d), d.length = 2 := fun d hd => by
    obtain ⟨e, he, rfl⟩ := List.mem_map.1 hd
    simpa using hk e he
  simp [Function.comp_def, hl]
  refine ⟨fun e => ?_, fun e he => hk e he, ?_⟩
  · subst e; exact .inr (by simpa using h)
  · rw [if_pos fun e he x hx => hs e he x hx]
    exact h
theorem cloneEn_ok (S : Bool) (es : List (List Dt)) (hk : ∀ e ∈ es, e.length = 3) (hs : ∀ e ∈ es, ∀ x ∈ e, x.solidT = true) (hl : es.length ≤ 100000000000) {K : D → List Blk → Prop} (h : K (.one (.own 0 3 es.length)) [⟨.c 125, 3, es.map fun e => e.map .d⟩]) :
    DPure Tryz.prog 138 [dL S es] K := by
  refine DPure.own 125 3 ?_
  refine fn_ok [0,2,4] [] Tryz.func138 rfl (by kernel_rfl) rfl rfl rfl rfl (by kernel_rfl) ?_
  have hk' : ∀ d ∈ es.map (fun e => e.map C.d), d.length = 3 := fun d hd => by
    obtain ⟨e, he, rfl⟩ := List.mem_map.1 hd
    simpa using hk e he
  simp [Function.comp_def, hl]
  refine ⟨fun e => ?_, fun e he => hk e he, ?_⟩
  · subst e; exact .inr (by simpa using h)
  · rw [if_pos fun e he x hx => hs e he x hx]
    exact h
theorem str_arg {H : Type} {enc : TypeId × Value → H} {W : World} {held : Bool} {r : Reach} {b0 : Nat} {v : Value} {d : DataW H} {ps : List MemPlace} (hval : Value.okWide Tryz.prog W r b0 9 v) (h : DataW.Trod enc Tryz.prog W 0 (fun _ => true) held 9 v d ps) :
    ∃ x : ByteArray, x.size ≤ maxLen ∧ v = .string x := by
  obtain ⟨x, rfl⟩ := WideShapes.okWide_string Tryz.underlying9 hval
  obtain ⟨m, hm⟩ := h
  obtain ⟨x', e, -, hx⟩ := DataW.trod_string Tryz.underlying9 hm
  simp [Value.cells] at e
  subst e
  exact ⟨x, hx, rfl⟩
theorem refTo_ok (n : Int) {K : D → List Blk → Prop} (h : K (aD [eI 5, eI n]) []) : DPure Tryz.prog 56 [dI n] K := by
  refine fn_ok [0,2] [] Tryz.func56 rfl (by kernel_rfl) rfl rfl rfl rfl (by kernel_rfl) ?_
  simp
  exact h
theorem more_rel (s : GState) (x : ByteArray) {H : Hp} (h4 : H 4 = some ⟨.c 34, 2, [[.d (eI 5), .d (eI s.cells.length)]]⟩) (h6 : H 6 = some ⟨.c 53, 4, (s.cells.map fun c => (eCell c).map .d) ++ [[.d (eI 2), .d (eI 0), .own 4 2 1, .d .emp]]⟩)
    (h9 : H 9 = some ⟨.c 9, 1, (s.texts.map fun t => (eStr t).map .d) ++ [[.d (eS x)]]⟩) :
    CsRel H (fun i => i = 4 ∨ i = 6 ∨ i = 9) [.own 6 4 (s.cells.length + 1), .d (.sl true (s.shapes.map eShape)), .own 9 1 (s.texts.length + 1), .d (.sl true (s.threads.map eThread)), .d (.sl true (s.ends.map eEnd)), .d (.sl true (s.said.map eVal)), .d (eI s.asked), .d (eI s.steps)] ((eState (withMore s [selfCell s.cells.length] [x])).map .d) := by
  refine ⟨.inr ⟨_, rfl, ?_⟩, .inl rfl, .inr ⟨_, rfl, ?_⟩, .inl rfl, .inl rfl, .inl rfl, .inl rfl, .inl rfl, trivial⟩
  · refine Shw.rows (.inr (.inl rfl)) h6 (by simp [withMore]) (rowsLen (f := eCell) fun _ => rfl) ?_
    show RsS _ _ _ ((s.cells ++ [selfCell s.cells.length]).map eCell)
    rw [List.map_append]
    refine RsS.app (RsS.dat (by simp)) ⟨⟨.d rfl, .d rfl, ?_, .emp, trivial⟩, trivial⟩
    exact Shw.rows (.inl rfl) h4 rfl (by simp [selfCell]) ⟨⟨.d rfl, .d rfl, trivial⟩, trivial⟩
  · refine Shw.rows (.inr (.inr rfl)) h9 (by simp [withMore]) (rowsLen (f := eStr) fun _ => rfl) ?_
    show RsS _ _ _ ((s.texts ++ [x]).map eStr)
    rw [List.map_append]
    exact RsS.app (RsS.dat (by simp)) ⟨⟨.d rfl, trivial⟩, trivial⟩
theorem law_frame {f : FuncId} {ds : List D} (hD : DPure Tryz.prog f ds fun d _ => d = dB true) {W : World} {vs : List Value} (hgl : GlOk (fun b => b < W.heap.size) W) (hvs : RVs ⟨fun b => b < W.heap.size, fun b => b < W.heap.size⟩ W (fun _ => none) ds vs) :
    Calls Tryz.prog f vs.toArray W fun e w' => e = .returned (.bool true) ∧ Below W.heap.size W w' :=
  (hD.2 _ W vs (fun _ h => h) hgl hvs).mono fun e w' ⟨F', ι, d, fr, v, e1, ho, e3⟩ => by
    subst e1 e3
    have hv := ho.val
    rw [RV] at hv
    exact ⟨by rw [RD.lit_inv hv], ⟨ho.io.1, ho.io.2.2, ho.io.2.1, ho.size, ho.old⟩⟩
theorem laid_tail {P : Program} {x : String × DataW Unit} {l : List (String × DataW Unit)} {W : World} (h : laidMet P (x :: l) W) : laidMet P l W := by
  obtain ⟨ps, ⟨g, t, cs, fuel, p, q, -, -, -, -, hq, rfl⟩, hn, hc⟩ := h
  exact ⟨q, hq, (List.nodup_append.1 hn).2.1, fun b off hb => hc b off (List.mem_append_right _ hb)⟩
theorem gl_of_laid {W : World} (h : laidMetH Tryz.prog [("unicode.White_Space", Rows.laid_unicode_White_Space), ("strings.asciiSpace", Rows.laid_strings_asciiSpace)] W) : GlOk (fun b => b < W.heap.size) W := by
  rw [MakeChecks.laidMetH_plain _ _ _ (by kernel_rfl)] at h
  have h2 := laid_tail h
  have hd : Rows.laid_strings_asciiSpace (H := Unit) = Lib.tabData .u8 Lib.asciiSpaceTab := by kernel_rfl
  rw [hd] at h2
  have ht := Lib.tabIs_of_head (g := 1) (by kernel_rfl) (by kernel_rfl) (t := 296) (e := 5) (n := 256) (by kernel_rfl) (by kernel_rfl) (by kernel_rfl) (by kernel_rfl) h2
  intro g arr hm
  obtain ⟨rfl, rfl⟩ : g = 1 ∧ arr = (Lib.asciiSpaceTab.map fun z => Value.int .u8 z).toArray := by
    have := List.mem_singleton.1 hm
    cases this
    exact ⟨rfl, rfl⟩
  unfold Lib.TabIs World.var? at ht
  rw [show Tryz.prog.globalNamed "strings.asciiSpace" = some 1 by kernel_rfl] at ht
  simp only [Option.bind_some] at ht
  split at ht
  · rename_i cs t fz hw
    simp only [Option.some.injEq] at ht
    subst ht
    refine ⟨?_, t, fz, hw⟩
    exact (Array.getElem?_eq_some_iff.1 hw).1
  · cases ht
end
end Go.Proofs.YtnkndnbepdadhaaGreatDoor
