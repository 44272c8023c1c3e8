/- Cells told apart from memory: what a value shows, which blocks a walk owns, and that it stays so. -/
import Derived.Test.YtalippdhfkpbmaaDoorPlanT
import Derived.Test.YtalippdhfkpbmaaDoorProg
import Derived.Maps.OwnSet
import Derived.Maps.OwnOps
import Derived.DeepKeys4
import Derived.Lib.LaidTab
import Derived.Lib.Space
import Derived.WalkKit
import Derived.ProofKit
import Derived.Deep.AppendSrc
import Derived.Deep.MidRow
import Derived.Laws.CopyRow
namespace Go.Proofs.YtalippdhfkpbmaaDoor
open Go.RowKit Go
inductive Dt where
  | lit (v : Value)
  | emp
  | sl (S : Bool) (es : List (List Dt))
  | at_ (S : Bool) (cs : List Dt)
  | fn (f : Fn) (fst cap : List Dt)
def nth2 {α : Type} (es : List (List α)) (i j : Nat) : Option α := (es[i]?).bind (·[j]?)
/-- The blocks that may be read: F for good, B for now. -/
structure Env where
  F : Nat → Prop
  B : Nat → Prop
def Env.ok (E : Env) (S : Bool) (b : Nat) : Prop := E.F b ∨ (S = false ∧ E.B b)
def Env.solid (E : Env) : Env := ⟨E.F, fun _ => False⟩
/-- Value v shows datum d in memory w. -/
inductive RD : Env → World → Dt → Value → Prop
  | lit {E w v} (h : v.oneCell' = true) : RD E w (.lit v) v
  | emp {E w A} : RD E w .emp (.slice A 0 0)
  | sl {E : Env} {w : World} {S : Bool} {es : List (List Dt)} {A : Option Addr} {cap k : Nat} (X : Nat → Nat → Value) (h1 : es.length ≤ cap) (h2 : cap ≤ maxLen) (hk : ∀ e ∈ es, e.length = k) (h3 : A = none → cap = 0)
      (h4 : 0 < es.length → ∃ b o, A = some ⟨b, o, none⟩ ∧ E.ok S b ∧ ∀ i j c, nth2 es i j = some c → w.cell? ⟨b, o + i * k + j, none⟩ = some (X i j))
      (h5 : ∀ i j c, nth2 es i j = some c → RD E.solid w c (X i j)) : RD E w (.sl S es) (.slice A es.length cap)
  | at_ {E : Env} {w : World} {S : Bool} {cs : List Dt} {b o : Nat} (X : Nat → Value) (h4 : E.ok S b) (hc : ∀ (j : Nat) c, cs[j]? = some c → w.cell? ⟨b, o + j, none⟩ = some (X j))
      (h5 : ∀ (j : Nat) c, cs[j]? = some c → RD E.solid w c (X j)) : RD E w (.at_ S cs) (.pointer (some ⟨b, o, none⟩))
  | fn {E : Env} {w : World} {f : Fn} {fs cs : List Dt} {xs ys : Array Value} (l1 : xs.size = fs.length) (l2 : ys.size = cs.length)
      (h1 : ∀ (j : Nat) c x, fs[j]? = some c → xs[j]? = some x → RD E w c x) (h2 : ∀ (j : Nat) c x, cs[j]? = some c → ys[j]? = some x → RD E w c x) : RD E w (.fn f fs cs) (.func f xs ys)
theorem RD.one {E : Env} {w : World} {d : Dt} {v : Value} (h : RD E w d v) : v.oneCell' = true := by
  cases h with
  | lit h => exact h
  | _ => rfl
/-- E' may read whatever E may, and all of that is as it was. -/
structure Env.le (E E' : Env) (w w' : World) : Prop where
  F : ∀ b, E.F b → E'.F b
  B : ∀ b, E.B b → E'.B b
  f : ∀ b, E.F b → w'.heap[b]? = w.heap[b]?
  b : ∀ b, E.B b → w'.heap[b]? = w.heap[b]?
theorem Env.le.solid {E E' : Env} {w w' : World} (h : E.le E' w w') : E.solid.le E'.solid w w' := ⟨h.F, fun _ h => h, h.f, fun _ h => h.elim⟩
theorem Env.le.ok {E E' : Env} {w w' : World} (h : E.le E' w w') {S : Bool} {b : Nat} (ho : E.ok S b) : E'.ok S b ∧ w'.heap[b]? = w.heap[b]? := by
  rcases ho with h0 | ⟨h0, h1⟩
  · exact ⟨.inl (h.F b h0), h.f b h0⟩
  · exact ⟨.inr ⟨h0, h.B b h1⟩, h.b b h1⟩
theorem cell_block {w w' : World} {b : Nat} (h : w'.heap[b]? = w.heap[b]?) (o : Nat) : w'.cell? ⟨b, o, none⟩ = w.cell? ⟨b, o, none⟩ := by
  simp only [World.cell?, h]
theorem RD.keep {E : Env} {w : World} {d : Dt} {v : Value} (h : RD E w d v) : ∀ {E' : Env} {w' : World}, E.le E' w w' → RD E' w' d v := by
  induction h with
  | lit h => intro _ _ _; exact .lit h
  | emp => intro _ _ _; exact .emp
  | sl X h1 h2 hk h3 h4 h5 ih =>
    intro E' w' hle
    refine .sl X h1 h2 hk h3 (fun h0 => ?_) (fun i j c hc => ih i j c hc hle.solid)
    obtain ⟨b, o, ha, ho, hc⟩ := h4 h0
    exact ⟨b, o, ha, (hle.ok ho).1, fun i j c h => by rw [cell_block (hle.ok ho).2]; exact hc i j c h⟩
  | at_ X h4 hc h5 ih =>
    intro E' w' hle
    exact .at_ X (hle.ok h4).1 (fun j c h => by rw [cell_block (hle.ok h4).2]; exact hc j c h) (fun j c h => ih j c h hle.solid)
  | fn l1 l2 h1 h2 i1 i2 =>
    intro E' w' hle
    exact .fn l1 l2 (fun j c x hc hx => i1 j c x hc hx hle) (fun j c x hc hx => i2 j c x hc hx hle)
/-! ### Cells of the walk's own -/
inductive C where
  | d (x : Dt)
  | own (n k l : Nat)
  | ptr (n k i o : Nat)
  | map (n : Nat)
  | any
abbrev Nms := Nat → Option (Nat × Nat)
def RC (E : Env) (w : World) (ι : Nms) : C → Value → Prop
  | .d x, v => RD E w x v
  | .own n _ l, v => ∃ b cap, ι n = some (b, cap) ∧ l ≤ cap ∧ cap ≤ maxLen ∧ ((cap = 0 ∧ ∃ A, v = .slice A 0 0) ∨ (0 < cap ∧ v = .slice (some ⟨b, 0, none⟩) l cap))
  | .ptr n k i o, v => ∃ b cap, ι n = some (b, cap) ∧ 0 < cap ∧ v = .pointer (some ⟨b, i * k + o, none⟩)
  | .map n, v => ∃ b cap, ι n = some (b, cap) ∧ 0 < cap ∧ v = .map (some b)
  | .any, v => v.oneCell' = true
theorem RC.one {E : Env} {w : World} {ι : Nms} {c : C} {v : Value} (h : RC E w ι c v) : v.oneCell' = true := by
  cases c with
  | d x => exact RD.one h
  | own n k l => obtain ⟨b, cap, -, -, -, h⟩ := h; rcases h with ⟨-, A, rfl⟩ | ⟨-, rfl⟩ <;> rfl
  | ptr n k i o => obtain ⟨b, cap, -, -, rfl⟩ := h; rfl
  | map n => obtain ⟨b, cap, -, -, rfl⟩ := h; rfl
  | any => exact h
def Nms.le (ι ι' : Nms) : Prop := ∀ n x, ι n = some x → ι' n = some x
theorem RC.keep {E E' : Env} {w w' : World} {ι ι' : Nms} {c : C} {v : Value} (h : RC E w ι c v) (hle : E.le E' w w') (hi : Nms.le ι ι') : RC E' w' ι' c v := by
  cases c with
  | d x => exact RD.keep h hle
  | own n k l => obtain ⟨b, cap, h1, h2⟩ := h; exact ⟨b, cap, hi _ _ h1, h2⟩
  | ptr n k i o => obtain ⟨b, cap, h1, h2⟩ := h; exact ⟨b, cap, hi _ _ h1, h2⟩
  | map n => obtain ⟨b, cap, h1, h2⟩ := h; exact ⟨b, cap, hi _ _ h1, h2⟩
  | any => exact h
/-- A value in a temporary. -/
inductive D where
  | one (c : C)
  | agg (cs : List C)
  | tup (ds : List D)
  | top
def RCs (E : Env) (w : World) (ι : Nms) : List C → List Value → Prop
  | [], [] => True
  | c :: cs, v :: vs => RC E w ι c v ∧ RCs E w ι cs vs
  | _, _ => False
mutual
def RV (E : Env) (w : World) (ι : Nms) : D → Value → Prop
  | .one c, v => RC E w ι c v
  | .agg cs, v => ∃ xs : Array Value, v = .agg xs ∧ RCs E w ι cs xs.toList
  | .tup ds, v => ∃ xs : Array Value, v = .tuple xs ∧ RVs E w ι ds xs.toList
  | .top, _ => True
def RVs (E : Env) (w : World) (ι : Nms) : List D → List Value → Prop
  | [], [] => True
  | d :: ds, v :: vs => RV E w ι d v ∧ RVs E w ι ds vs
  | _, _ => False
end
theorem RCs.keep {E E' : Env} {w w' : World} {ι ι' : Nms} (hle : E.le E' w w') (hi : Nms.le ι ι') : ∀ {cs : List C} {vs : List Value}, RCs E w ι cs vs → RCs E' w' ι' cs vs
  | [], [], _ => trivial
  | _ :: _, _ :: _, h => ⟨h.1.keep hle hi, RCs.keep hle hi h.2⟩
mutual
theorem RV.keep {E E' : Env} {w w' : World} {ι ι' : Nms} (hle : E.le E' w w') (hi : Nms.le ι ι') : ∀ {d : D} {v : Value}, RV E w ι d v → RV E' w' ι' d v
  | .one _, _, h => by rw [RV] at h ⊢; exact RC.keep h hle hi
  | .agg _, _, h => by rw [RV] at h ⊢; obtain ⟨xs, h1, h2⟩ := h; exact ⟨xs, h1, RCs.keep hle hi h2⟩
  | .tup _, _, h => by rw [RV] at h ⊢; obtain ⟨xs, h1, h2⟩ := h; exact ⟨xs, h1, RVs.keep hle hi h2⟩
  | .top, _, _ => by rw [RV]; trivial
theorem RVs.keep {E E' : Env} {w w' : World} {ι ι' : Nms} (hle : E.le E' w w') (hi : Nms.le ι ι') : ∀ {ds : List D} {vs : List Value}, RVs E w ι ds vs → RVs E' w' ι' ds vs
  | [], [], _ => by rw [RVs]; trivial
  | _ :: _, _ :: _, h => by rw [RVs] at h ⊢; exact ⟨RV.keep hle hi h.1, RVs.keep hle hi h.2⟩
  | [], _ :: _, h => by simp [RVs] at h
  | _ :: _, [], h => by simp [RVs] at h
end
theorem RCs.len {E : Env} {w : World} {ι : Nms} : ∀ {cs : List C} {vs : List Value}, RCs E w ι cs vs → vs.length = cs.length
  | [], [], _ => rfl
  | _ :: _, _ :: _, h => by simp [RCs.len h.2]
theorem RCs.get {E : Env} {w : World} {ι : Nms} : ∀ {cs : List C} {vs : List Value}, RCs E w ι cs vs → ∀ {j : Nat} {c : C}, cs[j]? = some c → ∃ v, vs[j]? = some v ∧ RC E w ι c v
  | _ :: _, v :: _, h, 0, c, hc => by simp only [List.getElem?_cons_zero, Option.some.injEq] at hc; subst hc; exact ⟨v, rfl, h.1⟩
  | _ :: _, _ :: _, h, j + 1, c, hc => RCs.get h.2 (by simpa using hc)
  | [], _, _, j, c, hc => by simp at hc
theorem RCs.mk {E : Env} {w : World} {ι : Nms} : ∀ {cs : List C} {vs : List Value}, vs.length = cs.length → (∀ (j : Nat) c v, cs[j]? = some c → vs[j]? = some v → RC E w ι c v) → RCs E w ι cs vs
  | [], [], _, _ => trivial
  | [], _ :: _, h, _ => by simp at h
  | _ :: _, [], h, _ => by simp at h
  | c :: cs, v :: vs, h, hr => ⟨hr 0 c v rfl rfl, RCs.mk (by simpa using h) fun j c' v' hc hv => hr (j + 1) c' v' (by simpa using hc) (by simpa using hv)⟩
theorem RCs.one {E : Env} {w : World} {ι : Nms} : ∀ {cs : List C} {vs : List Value}, RCs E w ι cs vs → ∀ v ∈ vs, v.oneCell' = true
  | _ :: _, _ :: _, h, v, hv => by
    rcases List.mem_cons.1 hv with rfl | hv
    · exact h.1.one
    · exact RCs.one h.2 v hv
  | [], [], _, v, hv => by simp at hv
/-! ### Blocks of the walk's own -/
/-- what a block is: cells of a type, or a map with whole numbers -/
inductive BT where
  | c (t : TypeId)
  | m (kt : TypeId) (f : Value → Int) (n : Nat)
/-- Block b is a map in which key k has f k; what is not there has 0; at most n have been put. -/
def MapIs (w : World) (b : Nat) (kt : TypeId) (f : Value → Int) (n : Nat) : Prop :=
  ∃ (D : DataW Unit) (m : Nat), m ≤ n ∧ w.ownsMap Tryd.prog kt (plainElem Tryd.prog 3) b m D ∧ ∀ k kl, keyOf Tryd.prog kt k = some kl → D.atKey kl (.lit (.int .i64 0)) = .lit (.int .i64 (f k))
def BlkIs (w : World) (b : Nat) (arr : Array Value) : BT → Prop
  | .c t => w.heap[b]? = some (.cells arr t (0, 0))
  | .m kt f n => arr = #[] ∧ MapIs w b kt f n
theorem MapIs.keep {w w' : World} {b n : Nat} {kt : TypeId} {f : Value → Int} (h : MapIs w b kt f n) (hw : w'.heap[b]? = w.heap[b]?) : MapIs w' b kt f n := by
  obtain ⟨D, m, h1, hD, h2⟩ := h
  refine ⟨D, m, h1, ?_, h2⟩
  obtain ⟨es, cl, he, rest⟩ := hD
  exact ⟨es, cl, hw.trans he, rest⟩
theorem BlkIs.keep {w w' : World} {b : Nat} {arr : Array Value} {t : BT} (h : BlkIs w b arr t) (hw : w'.heap[b]? = w.heap[b]?) : BlkIs w' b arr t := by
  cases t with
  | c t => exact hw.trans h
  | m kt f n => exact ⟨h.1, h.2.keep hw⟩
theorem BlkIs.cells {w : World} {b : Nat} {arr : Array Value} {t : BT} (h : BlkIs w b arr t) {j : Nat} {v : Value} (hj : arr[j]? = some v) : ∃ t', t = .c t' ∧ w.heap[b]? = some (.cells arr t' (0, 0)) := by
  cases t with
  | c t => exact ⟨t, rfl, h⟩
  | m kt f n => rw [h.1] at hj; simp at hj
theorem BlkIs.cell {w : World} {b : Nat} {arr : Array Value} {t : BT} (h : BlkIs w b arr t) {j : Nat} {v : Value} (hj : arr[j]? = some v) : w.cell? ⟨b, j, none⟩ = some v := by
  obtain ⟨t', -, h⟩ := h.cells hj
  simp [World.cell?, h, hj]
structure Blk where
  t : BT
  k : Nat
  es : List (List C)
def RB (E : Env) (w : World) (ι : Nms) (n : Nat) (x : Blk) : Prop := ∃ b cap, ι n = some (b, cap) ∧ x.es.length ≤ cap ∧ (∀ e ∈ x.es, e.length = x.k) ∧
  (0 < cap → ∃ arr : Array Value, BlkIs w b arr x.t ∧ arr.size = cap * x.k ∧ (∀ v ∈ arr, v.oneCell' = true) ∧ ∀ i j c, nth2 x.es i j = some c → ∃ v, arr[i * x.k + j]? = some v ∧ RC E w ι c v)
abbrev Hp := Nat → Option Blk
def Hp.none : Hp := fun _ => Option.none
def Hp.set (H : Hp) (n : Nat) (x : Option Blk) : Hp := fun m => if m = n then x else H m
@[simp] theorem Hp.set_same (H : Hp) (n : Nat) (x : Option Blk) : H.set n x n = x := by simp [Hp.set]
theorem Hp.set_ne (H : Hp) {n m : Nat} (x : Option Blk) (h : m ≠ n) : H.set n x m = H m := by simp [Hp.set, h]
/-- Where a walk began: its world, the blocks that it was handed to own, those that stay for good. -/
structure Base where
  w0 : World
  N0 : Nat → Prop
  F0 : Nat → Prop
  ι0 : Nms := fun _ => none
def Base.B (β : Base) : Nat → Prop := fun b => b < β.w0.heap.size ∧ ¬ β.N0 b
/-- package-level variables that hold for good what they hold -/
def glb : List (Nat × Array Value) := [(1, (Lib.asciiSpaceTab.map fun z => Value.int .u8 z).toArray)]
def GlOk (F : Nat → Prop) (w : World) : Prop := ∀ g arr, (g, arr) ∈ glb → F g ∧ ∃ t fz, w.heap[g]? = some (.cells arr t fz)
structure Base.good (β : Base) : Prop where
  gl : GlOk β.F0 β.w0
  lt : ∀ b, β.F0 b → b < β.w0.heap.size
  no : ∀ b, β.F0 b → ¬ β.N0 b
/-- nothing was told to the outside -/
def SameIo (w w' : World) : Prop := w'.os = w.os ∧ w'.output = w.output ∧ w'.tape = w.tape
theorem SameIo.refl (w : World) : SameIo w w := ⟨rfl, rfl, rfl⟩
theorem SameIo.trans {w1 w2 w3 : World} (h : SameIo w1 w2) (g : SameIo w2 w3) : SameIo w1 w3 := ⟨g.1.trans h.1, g.2.1.trans h.2.1, g.2.2.trans h.2.2⟩
structure HpOk (β : Base) (F : Nat → Prop) (w : World) (ι : Nms) (H : Hp) (nx : Nat) : Prop where
  size : β.w0.heap.size ≤ w.heap.size
  keep : ∀ b, b < β.w0.heap.size → ¬ β.N0 b → w.heap[b]? = β.w0.heap[b]?
  Flt : ∀ b, F b → b < w.heap.size
  Fof : ∀ b, F b → β.F0 b ∨ β.N0 b ∨ β.w0.heap.size ≤ b
  F0 : ∀ b, β.F0 b → F b
  blk : ∀ n x, H n = some x → RB ⟨F, β.B⟩ w ι n x
  own : ∀ n b cap, H n ≠ Option.none → ι n = some (b, cap) → 0 < cap → b < w.heap.size ∧ ¬ F b ∧ (β.N0 b ∨ β.w0.heap.size ≤ b)
  inj : ∀ n m b c c', H n ≠ Option.none → H m ≠ Option.none → ι n = some (b, c) → ι m = some (b, c') → 0 < c → 0 < c' → n = m
  nx : ∀ n, nx ≤ n → ι n = Option.none
  nm : Nms.le β.ι0 ι
  io : SameIo β.w0 w
theorem HpOk.gl {β : Base} {F : Nat → Prop} {w : World} {ι : Nms} {H : Hp} {nx : Nat} (h : HpOk β F w ι H nx) (hg : β.good) : GlOk F w := fun g arr hm => by
  obtain ⟨h1, t, fz, h2⟩ := hg.gl g arr hm
  exact ⟨h.F0 g h1, t, fz, by rw [h.keep g (hg.lt g h1) (hg.no g h1)]; exact h2⟩
end Go.Proofs.YtalippdhfkpbmaaDoor
