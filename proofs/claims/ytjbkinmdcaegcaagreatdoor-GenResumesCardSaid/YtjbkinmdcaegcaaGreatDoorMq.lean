/- Several texts in one. -/
import Derived.Test.YtjbkinmdcaegcaaGreatDoorMf
import Derived.Test.YtjbkinmdcaegcaaGreatDoorMg
import Derived.Test.YtjbkinmdcaegcaaGreatDoorMo
set_option linter.unusedSimpArgs false
set_option linter.unusedVariables false
set_option maxRecDepth 100000
set_option maxHeartbeats 16000000
namespace Go.Proofs.YtjbkinmdcaegcaaGreatDoor
open Go.RowKit Go

def evRow (e : GEvent) : List C := (eEvent e).map .d
structure DoS where
  k : Nat
  H : Hp
  cs : List GCell
  CR : List (List C)
  TR : List (List C)
structure DoI (H0 : Hp) (N : Nat → Prop) (th nC nT nF : Nat) (fs : List GFrame) (cs0 : List GCell) (ts : List GThread) (w : GVal) (x : DoS) : Prop where
  hk : x.k ≤ fs.length
  catch_ : catchN fs x.k = catchN fs fs.length
  done : doneL (dropG fs x.k) x.cs = doneL (dropG fs fs.length) cs0
  len : x.cs.length = cs0.length
  ce : CeAt x.H N nC x.cs x.CR
  th : ThAt x.H N th nT nF ts ⟨fs.take x.k, 0, 0, w⟩ x.TR
  low : ∀ i, i ≠ nC → i ≠ nT → x.H i = H0 i
  sol : HSol x.H

theorem CsS.at_ {H : Hp} {N : Nat → Prop} {n k : Nat} {t : BT} {cs : List C} {ds : List Dt} (hx : H n = some ⟨t, k, [cs]⟩) (hn : N n) (h : CsS H N cs ds) : Shw H N (.ptr n k 0 0) (.at_ true ds) := by
  refine .ptr (fun j => (cs[j]?).getD .any) hn hx rfl (fun j d hd => ?_) (fun j d hd => ?_)
  · obtain ⟨c, h1, -⟩ := (CsS.get h).2 j d hd
    simp [nth2, h1]
  · obtain ⟨c, h1, h2⟩ := (CsS.get h).2 j d hd
    simpa [h1] using h2
theorem CsS.csShw {H : Hp} {N : Nat → Prop} : ∀ {cs : List C} {ds : List Dt}, CsS H N cs ds → CsShw H N cs (ds.map .d)
  | [], [], _ => trivial
  | _ :: _, _ :: _, h => ⟨⟨_, rfl, h.1⟩, CsS.csShw h.2⟩
  | [], _ :: _, h => h.elim
  | _ :: _, [], h => h.elim
end Go.Proofs.YtjbkinmdcaegcaaGreatDoor
