/- A region whose order is drawn, walked once along a plan: what reads is run as early as may be, what acts in the order that the edges force; behind each act the readings that may still come later are shown to give what they gave. For every region of whatever program. -/
import Derived.Orders
import Derived.Tactics
import Derived.Below
namespace Go.Proofs.YtalippdhfkpbmaaDoor
open Go.RowKit

def dstOf (ops : Array Oper) (i : Nat) : Option Tmp := (ops[i]?).bind (·.dst)

/-- What o leaves in state a, in world w, without turning it. -/
def YV (P : Program) (ops : Array Oper) (o : Oper) (a : Act) (w : World) (x : Value) : Prop :=
  (Region.wanted o (yielded ops a.tmps) = true ∧ ((execOp a.eval o).run P w = .ok (.value x) w ∨ ((execOp a.eval o).run P w = .ok .skip w ∧ x = undef))) ∨
  (Region.wanted o (yielded ops a.tmps) = false ∧ x = undef)

def slotOf (a : Act) (o : Oper) : Value := match o.dst with | some d => a.tmps.getD d undef | none => undef

def pendOk (P : Program) (ops : Array Oper) (a : Act) (w : World) : List Nat → Prop
  | [] => True
  | i :: l => (∀ o, ops[i]? = some o → Region.wanted o (yielded ops a.tmps) = true → (execOp a.eval o).run P w = .ok (.value (slotOf a o)) w) ∧ pendOk P ops a w l

inductive Plan where
  | last
  | seg (i : Nat) (p : Plan)
  | eff (j : Nat) (pend : List Nat) (p : Plan)
  | fork (j : Nat) (pend : List Nat) (p rest : Plan)

def nthOp : List Oper → Nat → Option Oper
  | [], _ => none
  | o :: _, 0 => some o
  | _ :: l, n + 1 => nthOp l n
theorem nthOp_eq : ∀ (l : List Oper) (i : Nat), nthOp l i = l.toArray[i]?
  | [], i => by simp [nthOp]
  | o :: l, 0 => by simp [nthOp]
  | o :: l, n + 1 => by simp [nthOp, nthOp_eq l n]

def Plan.wp (P : Program) (ops : Array Oper) (Q : Exit → Act → World → Prop) : Plan → Act → World → Prop
  | .last, a, w => Q .normal a w
  | .seg i p, a, w => ∀ o, ops[i]? = some o → ∀ Q' : Exit → Act → World → Prop, (∀ a', Plan.wp P ops Q p a' w → Q' .normal a' w) → wpList P ops Q' [o] a w
  | .eff j pend p, a, w => ∀ o, ops[j]? = some o → ∀ Q' : Exit → Act → World → Prop, (∀ a' w', pendOk P ops a' w' pend → Plan.wp P ops Q p a' w' → Q' .normal a' w') → wpList P ops Q' [o] a w
  | .fork j pend p rest, a, w => (∀ o, ops[j]? = some o → ∀ Q' : Exit → Act → World → Prop, (∀ a' w', pendOk P ops a' w' pend → Plan.wp P ops Q p a' w' → Q' .normal a' w') → wpList P ops Q' [o] a w) ∧ Plan.wp P ops Q rest a w

section steps
variable {P : Program} {l : List Oper} {Q : Exit → Act → World → Prop} {a : Act} {w : World}
theorem plan_last (h : Q .normal a w) : Plan.wp P l.toArray Q .last a w := h
theorem plan_seg {i : Nat} {p : Plan} {o : Oper} (ho : nthOp l i = some o)
    (h : ∀ Q' : Exit → Act → World → Prop, (∀ a', Plan.wp P l.toArray Q p a' w → Q' .normal a' w) → wpList P l.toArray Q' [o] a w) : Plan.wp P l.toArray Q (.seg i p) a w := by
  intro o' ho' Q' hQ'
  rw [nthOp_eq] at ho
  rw [ho] at ho'
  cases ho'
  exact h Q' hQ'
theorem plan_eff {j : Nat} {pend : List Nat} {p : Plan} {o : Oper} (ho : nthOp l j = some o)
    (h : ∀ Q' : Exit → Act → World → Prop, (∀ a' w', pendOk P l.toArray a' w' pend → Plan.wp P l.toArray Q p a' w' → Q' .normal a' w') → wpList P l.toArray Q' [o] a w) : Plan.wp P l.toArray Q (.eff j pend p) a w := by
  intro o' ho' Q' hQ'
  rw [nthOp_eq] at ho
  rw [ho] at ho'
  cases ho'
  exact h Q' hQ'
theorem plan_eff0 {j : Nat} {p : Plan} {o : Oper} (ho : nthOp l j = some o)
    (h : ∀ Q' : Exit → Act → World → Prop, (∀ a' w', Plan.wp P l.toArray Q p a' w' → Q' .normal a' w') → wpList P l.toArray Q' [o] a w) : Plan.wp P l.toArray Q (.eff j [] p) a w :=
  plan_eff ho (fun Q' hQ' => h Q' (fun a' w' hp => hQ' a' w' trivial hp))
theorem plan_fork {j : Nat} {pend : List Nat} {p rest : Plan} (h1 : Plan.wp P l.toArray Q (.eff j pend p) a w) (h2 : Plan.wp P l.toArray Q rest a w) :
    Plan.wp P l.toArray Q (.fork j pend p rest) a w := ⟨h1, h2⟩
theorem pend_nil : pendOk P l.toArray a w [] := trivial
theorem pend_cons {i : Nat} {pend : List Nat} {o : Oper} {x : Value} (ho : nthOp l i = some o) (hx : slotOf a o = x) (h : (execOp a.eval o).run P w = .ok (.value x) w)
    (hr : pendOk P l.toArray a w pend) : pendOk P l.toArray a w (i :: pend) := by
  refine ⟨fun o' ho' _ => ?_, hr⟩
  rw [nthOp_eq] at ho
  rw [ho] at ho'
  cases ho'
  rw [hx]; exact h
theorem pend_unwanted {i : Nat} {pend : List Nat} {o : Oper} (ho : nthOp l i = some o) (h : Region.wanted o (yielded l.toArray a.tmps) = false)
    (hr : pendOk P l.toArray a w pend) : pendOk P l.toArray a w (i :: pend) := by
  refine ⟨fun o' ho' hw => ?_, hr⟩
  rw [nthOp_eq] at ho
  rw [ho] at ho'
  cases ho'
  rw [h] at hw
  cases hw
end steps

/-! ### What a plan must meet, by looking -/
def depsIn (D : List Nat) (o : Oper) : Bool := o.after.toList.all fun e => !Region.binds .any e || D.contains e.on
def ancOk (ops : Array Oper) (T : List Nat) : Bool := (List.range ops.size).all fun i => (List.range ops.size).all fun k =>
  !((T.getD i 0).testBit k) || match ops[i]? with
    | some o => o.after.toList.any fun e => Region.binds .any e && decide (e.on < i) && (e.on == k || (T.getD e.on 0).testBit k)
    | none => false
def ancB (T : List Nat) (k i : Nat) : Bool := (T.getD i 0).testBit k
def ownOk (ops : Array Oper) : Bool := (List.range ops.size).all fun i => (List.range ops.size).all fun k =>
  i == k || match dstOf ops i with
    | some d => dstOf ops k != some d
    | none => true
def readsOk (ops : Array Oper) (T : List Nat) : Bool := (List.range ops.size).all fun i => match ops[i]? with
  | some o => (o.looksAt ops).all fun t => (List.range ops.size).all fun k => k == i || dstOf ops k != some t || ancB T k i || ancB T i k
  | none => true
def plainOp : Op → Bool
  | .select .. | .defer .. | .go .. => false
  | _ => true
def backOk (ops : Array Oper) : Bool := (List.range ops.size).all fun i => match ops[i]? with
  | some o => o.after.toList.all (fun e => !Region.binds .any e || decide (e.on < i)) && plainOp o.op
  | none => true
def valOp : Op → Bool
  | .move _ | .assign _ | .pick .. | .alloc _ | .box .. | .build .. | .buildSlice .. | .load .. | .store .. | .binOp .. | .unOp .. | .convert .. | .makeInterface .. | .makeFunc .. | .makeMap .. | .makeSlice .. | .slice ..
  | .fieldAddr .. | .field .. | .indexAddr .. | .index .. | .lookup .. | .extract .. | .nilCheck .. => true
  | .call { callee := .builtin b, .. } => match b with | .len | .cap | .min | .max => true | _ => false
  | _ => false
def freeOp : Op → Bool
  | .move _ | .assign _ | .pick .. | .extract .. => true
  | _ => false
def pendNeeds (ops : Array Oper) (T : List Nat) (D E : List Nat) (j : Nat) (pend : List Nat) : Bool :=
  D.all fun i => E.contains i || ancB T i j || match ops[i]? with
    | some o => freeOp o.op || (pend.contains i && (o.looksAt ops).all fun t => (List.range ops.size).all fun k => dstOf ops k != some t || ancB T k i)
    | none => false
def effOk (ops : Array Oper) (T : List Nat) (D E : List Nat) (j : Nat) (pend : List Nat) : Bool :=
  !D.contains j && (match ops[j]? with | some o => depsIn D o | none => false) && pendNeeds ops T D E j pend
def Plan.ok (ops : Array Oper) (T : List Nat) : List Nat → List Nat → List Nat → Plan → Bool
  | D, _, alts, .last => alts.isEmpty && (List.range ops.size).all (D.contains ·)
  | D, E, alts, .seg i p => alts.isEmpty && !D.contains i && (match ops[i]? with | some o => depsIn D o && valOp o.op && o.dst.isSome | none => false) && Plan.ok ops T (i :: D) E [] p
  | D, E, alts, .eff j pend p => effOk ops T D E j pend && ((List.range ops.size).all fun i => i == j || D.contains i || alts.contains i || (List.range ops.size).any fun k => !D.contains k && ancB T k i) && Plan.ok ops T (j :: D) (j :: E) [] p
  | D, E, alts, .fork j pend p rest => effOk ops T D E j pend && Plan.ok ops T (j :: D) (j :: E) [] p && (match rest with | .eff .. | .fork .. => true | _ => false) && Plan.ok ops T D E (j :: alts) rest
def planOk (l : List Oper) (T : List Nat) (p : Plan) : Bool :=
  ancOk l.toArray T && ownOk l.toArray && readsOk l.toArray T && backOk l.toArray && Plan.ok l.toArray T [] [] [] p
end Go.Proofs.YtalippdhfkpbmaaDoor
