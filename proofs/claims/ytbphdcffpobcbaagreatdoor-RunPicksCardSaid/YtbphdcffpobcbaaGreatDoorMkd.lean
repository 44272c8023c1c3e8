/- Several texts in one. -/
import Derived.Test.YtbphdcffpobcbaaGreatDoorMg
import Derived.Test.YtbphdcffpobcbaaGreatDoorMs
import Derived.Test.YtbphdcffpobcbaaGreatDoorMka
import Derived.Test.YtbphdcffpobcbaaGreatDoorMkc
set_option linter.unusedSimpArgs false
set_option linter.unusedVariables false
set_option maxRecDepth 100000
set_option maxHeartbeats 16000000
namespace Go.Proofs.YtbphdcffpobcbaaGreatDoor
open Go.RowKit Go

structure SizedM (s : GState) : Prop where
  cells : s.cells.length ≤ 300
  shapes : s.shapes.length ≤ 100
  texts : s.texts.length ≤ 300
  threads : s.threads.length ≤ 2513227452471
  ends : s.ends.length ≤ 100
  said : s.said.length ≤ 200
  cell : ∀ c ∈ s.cells, c.vals.length ≤ 8796093022207 ∧ c.frames.length ≤ 1466015503701 ∧ ∀ f ∈ c.frames, f.regs.length ≤ 8796093022207 ∧ f.tries.length ≤ 8796093022207
  thread : ∀ t ∈ s.threads, t.frames.length ≤ 1466015503701 ∧ ∀ f ∈ t.frames, f.regs.length ≤ 8796093022207 ∧ f.tries.length ≤ 8796093022207
def okFrameW (f : GFrame) : Prop := f.regs.length ≤ 8796093022207 ∧ f.tries.length ≤ 8796093022207
def okFramesW (l : List GFrame) : Prop := l.length ≤ 1466015503701 ∧ ∀ f ∈ l, okFrameW f
def okThreads (l : List GThread) : Prop := l.length ≤ 2513227452471 ∧ ∀ t ∈ l, okFramesW t.frames
structure OkW (s : GState) : Prop where
  ok : okSt s
  cells : ∀ c ∈ s.cells, okFramesW c.frames
  threads : okThreads s.threads
theorem dat_shw {H : Hp} {s : GState} {n : Nat} (hn : H n = some ⟨.c 29, 8, [(eState s).map .d]⟩) : CsShw H (fun _ => True) [.ptr n 8 0 0] [.d (.at_ true (eState s))] := ⟨⟨_, rfl, CsS.atP hn trivial (CsS.dat (by simp))⟩, trivial⟩
end Go.Proofs.YtbphdcffpobcbaaGreatDoor
