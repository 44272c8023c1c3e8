/- Several texts in one. -/
import Derived.Test.YtomhiphiogbbiaaGreatDoorMke
import Derived.Test.YtomhiphiogbbiaaGreatDoorMkg
set_option linter.unusedSimpArgs false
set_option linter.unusedVariables false
set_option maxRecDepth 100000
set_option maxHeartbeats 16000000
namespace Go.Proofs.YtomhiphiogbbiaaGreatDoor
open Go.RowKit Go

structure KyS2 where
  k : Nat
  H : Hp
  nx : Nat
  q : Nat
structure KyI (M : Hp) (n0 : Nat) (Q : List Int) (x : KyS2) : Prop where
  k : x.k ≤ Q.length
  q : n0 ≤ x.q ∧ x.q < x.nx
  blk : x.H x.q = some (valBlk ((Q.take x.k).map fun n => ⟨4, n⟩))
  low : ∀ i, i < n0 → x.H i = M i
  sol : HSol x.H

structure KkI (M : Hp) (n0 m : Nat) (x : HcS) : Prop where
  k : x.k ≤ m
  le : n0 ≤ x.nx
  low : ∀ i, i < n0 → x.H i = M i
  sol : HSol x.H
end Go.Proofs.YtomhiphiogbbiaaGreatDoor
