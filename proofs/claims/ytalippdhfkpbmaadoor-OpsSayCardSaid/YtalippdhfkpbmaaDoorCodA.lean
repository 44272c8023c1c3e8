/- Package code: data, and what an order names. -/
import Derived.Test.YtalippdhfkpbmaaDoorLibB
namespace Go.Proofs.YtalippdhfkpbmaaDoor
open Go.RowKit Go
structure GIns where
  op : Int
  a : Int
  b : Int
  c : Int
  line : Int
def eIns (i : GIns) : List Dt := [eI i.op, eI i.a, eI i.b, eI i.c, eI i.line]
structure GFn where
  params : Int
  regs : Int
  gen : Bool
  caught : List Int
  code : List GIns
def eInt (n : Int) : List Dt := [eI n]
def eFn (f : GFn) : List Dt := [eI f.params, eI f.regs, eB f.gen, .sl true (f.caught.map eInt), .sl true (f.code.map eIns)]
structure GVal where
  kind : Int
  n : Int
def eVal (v : GVal) : List Dt := [eI v.kind, eI v.n]
def eStr (s : ByteArray) : List Dt := [eS s]
structure GProg where
  fns : List GFn
  consts : List GVal
  texts : List ByteArray
def eProg (p : GProg) : List Dt := [.sl true (p.fns.map eFn), .sl true (p.consts.map eVal), .sl true (p.texts.map eStr)]
attribute [simp] eIns eFn eInt eVal eStr eProg
abbrev aD (l : List Dt) : D := .agg (l.map .d)
def btw (n lo hi : Int) : Bool := decide (lo ≤ n) && decide (n ≤ hi)
theorem within_ok (n lo hi : Int) {K : D → List Blk → Prop} (h : K (dB (btw n lo hi)) []) : DPure Tryd.prog 81 [dI n, dI lo, dI hi] K := by
  refine fn_ok [0,1,2,6] [] Tryd.func81 rfl (by kernel_rfl) rfl rfl rfl rfl (by kernel_rfl) ?_
  simp
  refine alt (fun h1 => kB h (by simp [btw]; omega)) (fun h1 => kB h (by simp [btw]; omega))
theorem between_ok (n lo hi : Int) {K : D → List Blk → Prop} (h : K (dB (btw n lo hi)) []) : DPure Tryd.prog 27 [dI n, dI lo, dI hi] K := by
  refine fn_ok [0,1,2,6] [] Tryd.func27 rfl (by kernel_rfl) rfl rfl rfl rfl (by kernel_rfl) ?_
  simp
  refine alt (fun h1 => kB h (by simp [btw]; omega)) (fun h1 => kB h (by simp [btw]; omega))
/-- struct look -/
abbrev aLook (p : GProg) (f : GFn) : D := aD (eProg p ++ eFn f)
theorem reg_ok (p : GProg) (f : GFn) (n : Int) {K : D → List Blk → Prop} (h : K (dB (btw n 0 (IntKind.i64.wrap (f.regs - 1)))) []) : DPure Tryd.prog 83 [aLook p f, dI n] K := by
  refine fn_ok [0,1,2,4] [] Tryd.func83 rfl (by kernel_rfl) rfl rfl rfl rfl (by kernel_rfl) ?_
  simp
  refine within_ok _ _ _ ?_
  simp
  exact h
end Go.Proofs.YtalippdhfkpbmaaDoor
