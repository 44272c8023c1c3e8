/- Several texts in one. -/
import Derived.Test.YtnkndnbepdadhaaGreatDoorMe
import Derived.Test.YtnkndnbepdadhaaGreatDoorMs
set_option linter.unusedSimpArgs false
set_option linter.unusedVariables false
set_option maxRecDepth 100000
set_option maxHeartbeats 16000000
namespace Go.Proofs.YtnkndnbepdadhaaGreatDoor
open Go.RowKit Go
def valsF (f : GFrame) : List GVal := f.self :: f.regs ++ (if 0 ≤ f.gen then [⟨5, f.gen⟩] else [])
def valsC (c : GCell) : List GVal := c.vals ++ c.frames.flatMap valsF
def valsT (t : GThread) : List GVal := t.frames.flatMap valsF ++ (t.val :: (if t.state = 1 then [⟨5, t.on⟩] else []))
def valsS (s : GState) : List GVal := s.threads.flatMap valsT ++ s.ends.map (·.fn)
inductive Got (s : GState) : Nat → Prop
  | root {v : GVal} : v ∈ valsS s → v.kind = 5 → Got s v.n.toNat
  | kid {m : Nat} {v : GVal} : Got s m → (cellAt s m).kind ≠ 7 → v ∈ valsC (cellAt s m) → v.kind = 5 → Got s v.n.toNat
  | key {m k : Nat} : Got s m → (cellAt s m).kind = 7 → 2 * k + 1 < (cellAt s m).vals.length → Got s (valAt (cellAt s m).vals (2 * k)).n.toNat → (valAt (cellAt s m).vals (2 * k + 1)).kind = 5 → Got s (valAt (cellAt s m).vals (2 * k + 1)).n.toNat
def In (n : Nat) (v : GVal) : Prop := v.kind = 5 → 0 ≤ v.n ∧ v.n < n
structure GoodS (s : GState) : Prop where
  root : ∀ v ∈ valsS s, In s.cells.length v
  kid : ∀ m, m < s.cells.length → ∀ v ∈ valsC (cellAt s m), In s.cells.length v
  weak : ∀ m, m < s.cells.length → (cellAt s m).kind = 7 → (cellAt s m).vals.length % 2 = 0 ∧ ∀ k, 2 * k < (cellAt s m).vals.length → (valAt (cellAt s m).vals (2 * k)).kind = 5
  vl : ∀ m, m < s.cells.length → (cellAt s m).vals.length ≤ 1000
structure RW where
  seen : List Bool
  todo : List Int
  weak : List Int
def RW.at_ (w : RW) (n : Nat) : Bool := w.seen.getD n false
def RW.un (w : RW) : Nat := w.seen.count false
def comeV (w : RW) (v : GVal) : RW := if v.kind = 5 ∧ w.at_ v.n.toNat = false then ⟨w.seen.set v.n.toNat true, w.todo ++ [v.n], w.weak⟩ else w
def comeL (w : RW) (l : List GVal) : RW := l.foldl comeV w
theorem comeL_nil (w : RW) : comeL w [] = w := rfl
theorem comeL_one (w : RW) (v : GVal) : comeL w [v] = comeV w v := rfl
theorem comeL_app (w : RW) (a b : List GVal) : comeL w (a ++ b) = comeL (comeL w a) b := List.foldl_append
theorem comeL_snoc (w : RW) (a : List GVal) (v : GVal) : comeL w (a ++ [v]) = comeV (comeL w a) v := by rw [comeL_app]; rfl
theorem comeV_len (w : RW) (v : GVal) : (comeV w v).seen.length = w.seen.length := by unfold comeV; split <;> simp
theorem comeV_weak (w : RW) (v : GVal) : (comeV w v).weak = w.weak := by unfold comeV; split <;> rfl
theorem count_set : ∀ (l : List Bool) (n : Nat), n < l.length → l.getD n false = false → (l.set n true).count false + 1 = l.count false
  | [], _, h, _ => absurd h (by simp)
  | a :: l, 0, _, h => by
    simp at h; subst h; simp
  | a :: l, n + 1, h, hg => by
    have := count_set l n (by simpa using h) (by simpa using hg)
    simp only [List.set_cons_succ, List.count_cons]
    omega
theorem comeV_sum {w : RW} {v : GVal} (h : In w.seen.length v) : (comeV w v).todo.length + (comeV w v).un = w.todo.length + w.un := by
  unfold comeV
  split
  · rename_i e
    have hb := h e.1
    have := count_set w.seen v.n.toNat (by omega) e.2
    simp only [RW.un, List.length_append, List.length_cons, List.length_nil]
    omega
  · rfl
theorem comeV_at {w : RW} {v : GVal} (h : In w.seen.length v) (n : Nat) : (comeV w v).at_ n = true ↔ w.at_ n = true ∨ (v.kind = 5 ∧ v.n.toNat = n) := by
  unfold comeV
  split
  · rename_i e
    have hb := h e.1
    simp only [RW.at_, List.getD_eq_getElem?_getD]
    by_cases q : v.n.toNat = n
    · subst q
      rw [List.getElem?_set_self (by omega)]
      simp [e.1]
    · rw [List.getElem?_set_ne q]
      simp [q]
  · rename_i e
    constructor
    · exact .inl
    · rintro (q | ⟨q, rfl⟩)
      · exact q
      · cases z : w.at_ v.n.toNat with
        | true => rfl
        | false => exact absurd ⟨q, z⟩ e
theorem comeL_len : ∀ (l : List GVal) (w : RW), (comeL w l).seen.length = w.seen.length
  | [], _ => rfl
  | v :: l, w => (comeL_len l (comeV w v)).trans (comeV_len w v)
theorem comeL_weak : ∀ (l : List GVal) (w : RW), (comeL w l).weak = w.weak
  | [], _ => rfl
  | v :: l, w => (comeL_weak l (comeV w v)).trans (comeV_weak w v)
theorem comeL_sum : ∀ (l : List GVal) (w : RW), (∀ v ∈ l, In w.seen.length v) → (comeL w l).todo.length + (comeL w l).un = w.todo.length + w.un
  | [], _, _ => rfl
  | v :: l, w, h => (comeL_sum l (comeV w v) fun x hx => by rw [comeV_len]; exact h x (List.mem_cons_of_mem _ hx)).trans (comeV_sum (h v List.mem_cons_self))
theorem comeL_at : ∀ (l : List GVal) (w : RW), (∀ v ∈ l, In w.seen.length v) → ∀ n, (comeL w l).at_ n = true ↔ w.at_ n = true ∨ ∃ v ∈ l, v.kind = 5 ∧ v.n.toNat = n
  | [], _, _, n => by simp [comeL_nil]
  | v :: l, w, h, n => by
    have e : comeL w (v :: l) = comeL (comeV w v) l := rfl
    rw [e, comeL_at l (comeV w v) (fun x hx => by rw [comeV_len]; exact h x (List.mem_cons_of_mem _ hx)) n, comeV_at (h v List.mem_cons_self)]
    simp only [List.mem_cons, exists_eq_or_imp, or_assoc]
theorem comeV_todo (w : RW) (v : GVal) : ∃ a, (comeV w v).todo = w.todo ++ a ∧ ∀ x ∈ a, v.kind = 5 ∧ v.n = x := by
  unfold comeV
  split
  · rename_i e
    exact ⟨[v.n], rfl, by simp [e.1]⟩
  · exact ⟨[], by simp, by simp⟩
theorem comeL_todo : ∀ (l : List GVal) (w : RW), ∃ a, (comeL w l).todo = w.todo ++ a ∧ ∀ x ∈ a, ∃ v ∈ l, v.kind = 5 ∧ v.n = x
  | [], w => ⟨[], by simp [comeL_nil], by simp⟩
  | v :: l, w => by
    obtain ⟨a, e1, e2⟩ := comeV_todo w v
    obtain ⟨b, e3, e4⟩ := comeL_todo l (comeV w v)
    refine ⟨a ++ b, ?_, fun x hx => ?_⟩
    · have e : comeL w (v :: l) = comeL (comeV w v) l := rfl
      rw [e, e3, e1, List.append_assoc]
    · rcases List.mem_append.1 hx with hx | hx
      · exact ⟨v, List.mem_cons_self, e2 x hx⟩
      · obtain ⟨u, q1, q2⟩ := e4 x hx
        exact ⟨u, List.mem_cons_of_mem _ q1, q2⟩
theorem comeV_new {w : RW} {v : GVal} (h : In w.seen.length v) {n : Nat} (h1 : (comeV w v).at_ n = true) (h2 : w.at_ n = false) : (n : Int) ∈ (comeV w v).todo := by
  rcases (comeV_at h n).1 h1 with q | ⟨q, rfl⟩
  · rw [h2] at q; cases q
  · have hb := h q
    unfold comeV
    rw [if_pos ⟨q, h2⟩]
    simp
    omega
theorem comeL_new : ∀ (l : List GVal) (w : RW), (∀ v ∈ l, In w.seen.length v) → ∀ n, (comeL w l).at_ n = true → w.at_ n = false → (n : Int) ∈ (comeL w l).todo
  | [], w, _, n, h1, h2 => by rw [comeL_nil, h2] at h1; cases h1
  | v :: l, w, h, n, h1, h2 => by
    have e : comeL w (v :: l) = comeL (comeV w v) l := rfl
    have hi : ∀ x ∈ l, In (comeV w v).seen.length x := fun x hx => by rw [comeV_len]; exact h x (List.mem_cons_of_mem _ hx)
    rw [e] at h1 ⊢
    cases z : (comeV w v).at_ n with
    | false => exact comeL_new l _ hi n h1 z
    | true =>
      obtain ⟨a, e3, _⟩ := comeL_todo l (comeV w v)
      rw [e3]
      exact List.mem_append_left _ (comeV_new (h v List.mem_cons_self) z h2)
structure RI (s : GState) (w : RW) : Prop where
  len : w.seen.length = s.cells.length
  rch : ∀ n, w.at_ n = true → Got s n
  todo : ∀ x ∈ w.todo, 0 ≤ x ∧ w.at_ x.toNat = true
  weak : ∀ x ∈ w.weak, 0 ≤ x ∧ w.at_ x.toNat = true ∧ (cellAt s x).kind = 7
  done : ∀ n : Nat, w.at_ n = true → (n : Int) ∈ w.todo ∨ ((cellAt s n).kind = 7 ∧ (n : Int) ∈ w.weak) ∨ ((cellAt s n).kind ≠ 7 ∧ ∀ v ∈ valsC (cellAt s n), v.kind = 5 → w.at_ v.n.toNat = true)
  sum : w.weak.length + w.todo.length + w.un ≤ s.cells.length
theorem RW.at_lt {w : RW} {n : Nat} (h : w.at_ n = true) : n < w.seen.length := by
  simp only [RW.at_, List.getD_eq_getElem?_getD] at h
  by_cases q : n < w.seen.length
  · exact q
  · rw [List.getElem?_eq_none (by omega)] at h; simp at h
theorem RI.come {s : GState} {w : RW} (h : RI s w) (l : List GVal) (hl : ∀ v ∈ l, In s.cells.length v) (hr : ∀ v ∈ l, v.kind = 5 → Got s v.n.toNat) : RI s (comeL w l) := by
  have hi : ∀ v ∈ l, In w.seen.length v := by rw [h.len]; exact hl
  have mono : ∀ n, w.at_ n = true → (comeL w l).at_ n = true := fun n hn => (comeL_at l w hi n).2 (.inl hn)
  obtain ⟨a, e1, e2⟩ := comeL_todo l w
  refine ⟨(comeL_len l w).trans h.len, fun n hn => ?_, fun x hx => ?_, fun x hx => ?_, fun n hn => ?_, ?_⟩
  · rcases (comeL_at l w hi n).1 hn with q | ⟨v, q1, q2, rfl⟩
    · exact h.rch n q
    · exact hr v q1 q2
  · rw [e1] at hx
    rcases List.mem_append.1 hx with hx | hx
    · exact ⟨(h.todo x hx).1, mono _ (h.todo x hx).2⟩
    · obtain ⟨v, q1, q2, q3⟩ := e2 x hx
      subst q3
      exact ⟨(hl v q1 q2).1, (comeL_at l w hi _).2 (.inr ⟨v, q1, q2, rfl⟩)⟩
  · rw [comeL_weak] at hx
    obtain ⟨q1, q2, q3⟩ := h.weak x hx
    exact ⟨q1, mono _ q2, q3⟩
  · cases z : w.at_ n with
    | false => exact .inl (comeL_new l w hi n hn z)
    | true =>
      rcases h.done n z with q | ⟨q1, q2⟩ | ⟨q1, q2⟩
      · exact .inl (by rw [e1]; exact List.mem_append_left _ q)
      · exact .inr (.inl ⟨q1, by rw [comeL_weak]; exact q2⟩)
      · exact .inr (.inr ⟨q1, fun v hv hk => mono _ (q2 v hv hk)⟩)
  · have := comeL_sum l w hi
    have := h.sum
    rw [comeL_weak]
    omega
theorem RI.step {s : GState} {w : RW} (hg : GoodS s) (h : RI s w) {a : List Int} {n : Int} (e : w.todo = a ++ [n]) :
    0 ≤ n ∧ n < s.cells.length ∧ ((cellAt s n).kind = 7 → RI s ⟨w.seen, a, w.weak ++ [n]⟩) ∧ ((cellAt s n).kind ≠ 7 → RI s (comeL ⟨w.seen, a, w.weak⟩ (valsC (cellAt s n)))) := by
  obtain ⟨h0, h1⟩ := h.todo n (by rw [e]; simp)
  have hlt : n.toNat < s.cells.length := h.len ▸ RW.at_lt h1
  have hnn : ((n.toNat : Nat) : Int) = n := Int.toNat_of_nonneg h0
  have hsum := h.sum
  rw [e, List.length_append] at hsum
  simp only [List.length_cons, List.length_nil] at hsum
  refine ⟨h0, by omega, fun hk => ⟨h.len, h.rch, fun x hx => h.todo x (by rw [e]; exact List.mem_append_left _ hx), fun x hx => ?_, fun m hm => ?_, ?_⟩, fun hk => ?_⟩
  · rcases List.mem_append.1 hx with hx | hx
    · exact h.weak x hx
    · simp at hx; subst hx; exact ⟨h0, h1, hk⟩
  · rcases h.done m hm with q | ⟨q1, q2⟩ | q
    · rw [e] at q
      rcases List.mem_append.1 q with q | q
      · exact .inl q
      · simp at q
        exact .inr (.inl ⟨by rw [q]; exact hk, by simp [q]⟩)
    · exact .inr (.inl ⟨q1, List.mem_append_left _ q2⟩)
    · exact .inr (.inr q)
  · show (w.weak ++ [n]).length + a.length + w.un ≤ _
    simp only [List.length_append, List.length_cons, List.length_nil]
    omega
  · have hl : ∀ v ∈ valsC (cellAt s n), In s.cells.length v := by have := hg.kid n.toNat hlt; rw [hnn] at this; exact this
    have hi : ∀ v ∈ valsC (cellAt s n), In (RW.mk w.seen a w.weak).seen.length v := by rw [show (RW.mk w.seen a w.weak).seen.length = s.cells.length from h.len]; exact hl
    have hat : ∀ m, (RW.mk w.seen a w.weak).at_ m = w.at_ m := fun _ => rfl
    have mono : ∀ m, w.at_ m = true → (comeL ⟨w.seen, a, w.weak⟩ (valsC (cellAt s n))).at_ m = true := fun m hm => (comeL_at _ _ hi m).2 (.inl hm)
    obtain ⟨b, e1, e2⟩ := comeL_todo (valsC (cellAt s n)) ⟨w.seen, a, w.weak⟩
    refine ⟨(comeL_len _ _).trans h.len, fun m hm => ?_, fun x hx => ?_, fun x hx => ?_, fun m hm => ?_, ?_⟩
    · rcases (comeL_at _ _ hi m).1 hm with q | ⟨v, q1, q2, rfl⟩
      · exact h.rch m q
      · exact Got.kid (h.rch _ h1) (by rw [hnn]; exact hk) (by rw [hnn]; exact q1) q2
    · rw [e1] at hx
      rcases List.mem_append.1 hx with hx | hx
      · have := h.todo x (by rw [e]; exact List.mem_append_left _ hx)
        exact ⟨this.1, mono _ this.2⟩
      · obtain ⟨v, q1, q2, q3⟩ := e2 x hx
        subst q3
        exact ⟨(hl v q1 q2).1, (comeL_at _ _ hi _).2 (.inr ⟨v, q1, q2, rfl⟩)⟩
    · rw [comeL_weak] at hx
      obtain ⟨q1, q2, q3⟩ := h.weak x hx
      exact ⟨q1, mono _ q2, q3⟩
    · cases z : w.at_ m with
      | false => exact .inl (comeL_new _ _ hi m hm z)
      | true =>
        rcases h.done m z with q | ⟨q1, q2⟩ | ⟨q1, q2⟩
        · rw [e] at q
          rcases List.mem_append.1 q with q | q
          · exact .inl (by rw [e1]; exact List.mem_append_left _ q)
          · simp at q
            exact .inr (.inr ⟨by rw [q]; exact hk, fun v hv hk2 => (comeL_at _ _ hi _).2 (.inr ⟨v, by rw [← q]; exact hv, hk2, rfl⟩)⟩)
        · exact .inr (.inl ⟨q1, by rw [comeL_weak]; exact q2⟩)
        · exact .inr (.inr ⟨q1, fun v hv hk => mono _ (q2 v hv hk)⟩)
    · have := comeL_sum _ _ hi
      rw [comeL_weak]
      have e3 : (RW.mk w.seen a w.weak).todo.length = a.length := rfl
      have e4 : (RW.mk w.seen a w.weak).un = w.un := rfl
      have e5 : (RW.mk w.seen a w.weak).weak = w.weak := rfl
      rw [e3, e4] at this
      rw [e5]
      omega
def shut (s : GState) (w : RW) (n : Int) (j : Nat) : Prop := ∀ k, k < j → 2 * k + 1 < (cellAt s n).vals.length → w.at_ (valAt (cellAt s n).vals (2 * k)).n.toNat = true → (valAt (cellAt s n).vals (2 * k + 1)).kind = 5 → w.at_ (valAt (cellAt s n).vals (2 * k + 1)).n.toNat = true
theorem RI.all {s : GState} {w : RW} (h : RI s w) (ht : w.todo = []) (hr : ∀ v ∈ valsS s, v.kind = 5 → w.at_ v.n.toNat = true) (hw : ∀ n ∈ w.weak, ∀ j, shut s w n j) (n : Nat) : w.at_ n = true ↔ Got s n := by
  refine ⟨h.rch n, fun hn => ?_⟩
  induction hn with
  | root hv hk => exact hr _ hv hk
  | @kid m v hm h7 hv hk ih =>
    rcases h.done m ih with q | ⟨q1, _⟩ | ⟨_, q2⟩
    · rw [ht] at q; cases q
    · exact absurd q1 h7
    · exact q2 v hv hk
  | @key m k hm h7 hl hk5 hkey ih1 ih2 =>
    rcases h.done m ih1 with q | ⟨_, q2⟩ | ⟨q1, _⟩
    · rw [ht] at q; cases q
    · exact hw _ q2 (k + 1) k (by omega) hl ih2 hkey
    · exact absurd h7 q1
structure WN where
  e : Nat
  t : Nat
  k : Nat
def walkRow (xS : Dt) (N : WN) (w : RW) : List C := [.d xS, .own N.e 1 w.seen.length, .own N.t 1 w.todo.length, .own N.k 1 w.weak.length]
def boolRows (l : List Bool) : List (List C) := l.map fun b => [.d (eB b)]
def intRows (l : List Int) : List (List C) := l.map fun b => [.d (eI b)]
structure WAt (H : Hp) (nW : Nat) (xS : Dt) (N : WN) (w : RW) : Prop where
  blk : H nW = some ⟨.c 185, 4, [walkRow xS N w]⟩
  seen : H N.e = some ⟨.c 4, 1, boolRows w.seen⟩
  todo : ∃ r, H N.t = some ⟨.c 3, 1, intRows (w.todo ++ r)⟩
  weak : H N.k = some ⟨.c 3, 1, intRows w.weak⟩
  sx : xS.solidT = true
  ne1 : nW ≠ N.e
  ne2 : nW ≠ N.t
  ne3 : nW ≠ N.k
  ne4 : N.e ≠ N.t
  ne5 : N.e ≠ N.k
  ne6 : N.t ≠ N.k
theorem WAt.low {H G : Hp} {nW : Nat} {xS : Dt} {N : WN} {w : RW} (h : WAt H nW xS N w) (h1 : G nW = H nW) (h2 : G N.e = H N.e) (h3 : G N.t = H N.t) (h4 : G N.k = H N.k) : WAt G nW xS N w :=
  ⟨h1.trans h.blk, h2.trans h.seen, h3 ▸ h.todo, h4.trans h.weak, h.sx, h.ne1, h.ne2, h.ne3, h.ne4, h.ne5, h.ne6⟩
theorem WAt.come1 {H HF : Hp} {nW : Nat} {xS : Dt} {N : WN} {w : RW} {q : Nat} (h : WAt H nW xS N w) (hq : q < w.seen.length) (c : w.at_ q = false) {nT : Nat}
    (h1 : HF nW = some ⟨.c 185, 4, [[.d xS, .own N.e 1 w.seen.length, .own nT 1 (w.todo.length + 1), .own N.k 1 w.weak.length]]⟩) (h2 : HF N.e = some ⟨.c 4, 1, (boolRows w.seen).set q [.d (eB true)]⟩)
    (h3 : HF nT = some ⟨.c 3, 1, intRows w.todo ++ [[.d (eI q)]]⟩) (h4 : HF N.k = H N.k) (n1 : nW ≠ nT) (n2 : N.e ≠ nT) (n3 : nT ≠ N.k) : WAt HF nW xS ⟨N.e, nT, N.k⟩ (comeV w ⟨5, q⟩) := by
  have e : comeV w ⟨5, q⟩ = ⟨w.seen.set q true, w.todo ++ [(q : Int)], w.weak⟩ := by rw [comeV, if_pos ⟨rfl, by simpa using c⟩]; simp
  rw [e]
  refine ⟨?_, ?_, ⟨[], ?_⟩, h4.trans h.weak, h.sx, h.ne1, n1, h.ne3, n2, h.ne5, n3⟩
  · rw [h1, walkRow]; simp
  · rw [h2, boolRows, boolRows, List.map_set]
  · rw [h3]; simp [intRows]
structure CmS where
  k : Nat
  H : Hp
  nx : Nat
  N : WN
structure CmI (H : Hp) (nx nW : Nat) (xS : Dt) (N : WN) (w : RW) (l : List GVal) (x : CmS) : Prop where
  k : x.k ≤ l.length
  le : nx ≤ x.nx
  at_ : WAt x.H nW xS x.N (comeL w (l.take x.k))
  low : ∀ i, i < nx → i ≠ nW → i ≠ N.e → i ≠ N.t → x.H i = H i
  sol : HSol x.H
  e : x.N.e = N.e
  kk : x.N.k = N.k
  t : x.N.t = N.t ∨ nx ≤ x.N.t
  lt : x.N.t < x.nx
theorem rcCome_ok (l : List GVal) (w : RW) {nW : Nat} {xS : Dt} {N : WN} {H : Hp} {nx : Nat} (hSol : HSol H) (hW : WAt H nW xS N w) (hl : ∀ v ∈ l, In w.seen.length v) (hb : w.todo.length + w.un ≤ 1000) {K : D → Hp → Nat → Prop}
    (h : ∀ H' nx' N', nx ≤ nx' → HSol H' → WAt H' nW xS N' (comeL w l) → (∀ i, i < nx → i ≠ nW → i ≠ N.e → i ≠ N.t → H' i = H i) → N'.e = N.e → N'.k = N.k → (N'.t = N.t ∨ nx ≤ N'.t) → N'.t < nx' → K (.tup []) H' nx') :
    ICall Tryz.prog 132 [.one (.ptr nW 4 0 0), .one (.d (.sl true (l.map eVal)))] H nx K := by
  refine ICall.fresh (by kernel_rfl) fun hfr => ?_
  have p1 := fresh_lt hfr hW.blk
  have p2 := fresh_lt hfr hW.seen
  have p3 : N.t < nx := by obtain ⟨r, e⟩ := hW.todo; exact fresh_lt hfr e
  have p4 := fresh_lt hfr hW.weak
  refine fni_ok [0,1,5,6,7,8,9,25] [(3, [0,1,3,7,15,31,63,127,15,271,1023,2047,4095,8191], (.seg 0 (.seg 1 (.seg 2 (.seg 3 (.seg 4 (.seg 5 (.seg 6 (.seg 7 (.seg 8 (.seg 9 (.seg 10 (.seg 11 (.seg 12 (.seg 13 .last))))))))))))))), (4, [0,1,3,7,0,16,63,127], (.seg 0 (.seg 1 (.seg 2 (.seg 3 (.seg 4 (.seg 5 (.seg 6 (.eff 7 [] .last))))))))), (5, [0,0,2,6,14,0,32,96,254,511,1023,2047], (.seg 0 (.seg 1 (.seg 2 (.seg 3 (.seg 4 (.seg 5 (.seg 6 (.eff 7 [2, 3, 4] (.eff 8 [] (.seg 9 (.seg 10 (.eff 11 [] .last)))))))))))))] Tryz.func132 rfl (by kernel_rfl) rfl rfl rfl rfl (by kernel_rfl) ?_
  simp
  intro hlen
  refine loopH_ok (ks := [0,1,5,6,7,8,9,25]) (pl := [(3, [0,1,3,7,15,31,63,127,15,271,1023,2047,4095,8191], (.seg 0 (.seg 1 (.seg 2 (.seg 3 (.seg 4 (.seg 5 (.seg 6 (.seg 7 (.seg 8 (.seg 9 (.seg 10 (.seg 11 (.seg 12 (.seg 13 .last))))))))))))))), (4, [0,1,3,7,0,16,63,127], (.seg 0 (.seg 1 (.seg 2 (.seg 3 (.seg 4 (.seg 5 (.seg 6 (.eff 7 [] .last))))))))), (5, [0,0,2,6,14,0,32,96,254,511,1023,2047], (.seg 0 (.seg 1 (.seg 2 (.seg 3 (.seg 4 (.seg 5 (.seg 6 (.eff 7 [2, 3, 4] (.eff 8 [] (.seg 9 (.seg 10 (.eff 11 [] .last)))))))))))))]) (n0 := 45) (α := {x : CmS // CmI H nx nW xS N w l x}) (fun x => [(8, dI x.1.k)]) (fun _ x => x.1.H) (fun x => x.1.nx) (fun x => l.length - x.1.k) ⟨⟨0, H, nx, N⟩, ⟨Nat.zero_le _, Nat.le_refl _, by simpa [comeL_nil] using hW, fun _ _ _ _ _ => rfl, hSol, rfl, rfl, .inl rfl, p3⟩⟩ rfl (by kernel_rfl) (Wk.sub (by simp)) ?_
  rintro ⟨⟨k, H2, nx2, N2⟩, hI⟩
  obtain ⟨hk, hn, hA, hlow, hsol, hE, hK, hT, hTl⟩ := hI
  simp only at hk hn hA hlow hsol hE hK hT hTl
  by_cases h1 : k < l.length
  case neg =>
    simp [h1]
    obtain rfl : k = l.length := by omega
    rw [List.take_length] at hA
    exact ⟨hsol, h _ _ _ hn hsol hA hlow hE hK hT hTl⟩
  have hnext : comeL w (l.take (k + 1)) = comeV (comeL w (l.take k)) l[k] := by
    rw [List.take_succ_eq_append_getElem h1, comeL_snoc]
  have hv := hl l[k] (List.getElem_mem h1)
  have hi : ∀ v ∈ l.take k, In w.seen.length v := fun v hv => hl v (List.mem_of_mem_take hv)
  have hlen2 := comeL_len (l.take k) w
  have hsum := comeL_sum (l.take k) w hi
  obtain ⟨W, hWe⟩ : ∃ W, W = comeL w (l.take k) := ⟨_, rfl⟩
  rw [← hWe] at hA hnext hlen2 hsum
  rw [← hlen2] at hv
  simp [h1]
  obtain ⟨v, hve⟩ : ∃ v, v = l[k] := ⟨_, rfl⟩
  simp only [← hve] at hv hnext ⊢
  have bW := hA.blk
  have bE := hA.seen
  obtain ⟨r, bT⟩ := hA.todo
  rw [walkRow] at bW
  have e0 := hA.ne1
  have e1 := hA.ne2
  have e2 := hA.ne3
  have e3 := hA.ne4
  have e4 := hA.ne5
  have e5 := hA.ne6
  have f0 : ¬ nW = nx2 := by omega
  have f1 : ¬ N2.e = nx2 := by omega
  have f2 : ¬ N2.t = nx2 := by omega
  have f3 : ¬ N2.k = nx2 := by omega
  have solV : HSol (H2.set nx2 (some ⟨.c 34, 2, [[.d (eI v.kind), .d (eI v.n)]]⟩)) := hsol.set (by simp)
  have skip : comeV W v = W → CmI H nx nW xS N w l ⟨k + 1, H2.set nx2 (some ⟨.c 34, 2, [[.d (eI v.kind), .d (eI v.n)]]⟩), nx2 + 1, N2⟩ := fun e => ⟨by simp; omega, by simp; omega, by
    rw [hnext, e]
    exact hA.low (Hp.set_ne _ _ f0) (Hp.set_ne _ _ f1) (Hp.set_ne _ _ f2) (Hp.set_ne _ _ f3), fun i i0 i1 i2 i3 => Eq.trans (Hp.set_ne _ _ (by omega)) (hlow i i0 i1 i2 i3), solV, hE, hK, hT, by simp; omega⟩
  by_cases c1 : v.kind = 5
  case neg =>
    have es : comeV W v = W := by rw [comeV, if_neg fun e => c1 e.1]
    simp [c1]
    exact ⟨_, by simp only; omega, skip es, Wk.sub (by simp [wrap_add (show k < 9223372036854775807 by omega)])⟩
  obtain ⟨v0, v1⟩ := hv c1
  obtain ⟨vk, q⟩ := v
  obtain ⟨q, rfl⟩ : ∃ q' : Nat, q = q' := ⟨q.toNat, by simp at v0; omega⟩
  simp only at c1 v0 v1
  subst c1
  have hq : q < W.seen.length := by omega
  have g1 : (boolRows W.seen)[q]? = some [.d (eB W.seen[q])] := by rw [boolRows, List.getElem?_map, List.getElem?_eq_getElem hq]; rfl
  have g2 : W.at_ q = W.seen[q] := by simp [RW.at_, List.getD_eq_getElem?_getD, hq]
  have g3 : (boolRows W.seen).set q [.d (eB true)] = boolRows (W.seen.set q true) := by rw [boolRows, boolRows, List.map_set]
  obtain ⟨g4, g5⟩ := List.getElem?_eq_some_iff.1 g1
  cases c2 : W.seen[q] with
  | true =>
    have es : comeV W ⟨5, q⟩ = W := by rw [comeV, if_neg fun e => by have := e.2; rw [Int.toNat_natCast, g2, c2] at this; cases this]
    rw [c2] at g5 g1
    simp [f0, f1, f2, f3, bW, bE, g1, g4, g5, hq]
    exact ⟨_, by simp only; omega, skip es, Wk.sub (by simp [wrap_add (show k < 9223372036854775807 by omega)])⟩
  | false =>
    rw [c2] at g5 g1
    have f4 : ¬ nx2 = nW := by omega
    have f5 : ¬ nx2 = N2.e := by omega
    have f6 : ¬ nx2 = N2.t := by omega
    have f7 : ¬ nW = nx2 + 1 := by omega
    have f8 : ¬ N2.e = nx2 + 1 := by omega
    have f9 : ¬ N2.t = nx2 + 1 := by omega
    have e6 : ¬ N2.t = N2.e := fun e => e3 e.symm
    have t1 : (intRows (W.todo ++ r)).take W.todo.length = intRows W.todo := by simp [intRows]
    have t2 : W.todo.length ≤ (intRows (W.todo ++ r)).length := by simp [intRows]
    have t4 : (intRows W.todo).length = W.todo.length := by simp [intRows]
    have f10 : ¬ nW = nx2 + 1 + 1 := by omega
    have f11 : ¬ N2.e = nx2 + 1 + 1 := by omega
    have f12 : ¬ N2.k = nx2 + 1 + 1 := by omega
    simp [f0, f1, f2, f3, f4, f5, f6, f7, f8, f9, e0, e1, e2, e3, e6, bW, bE, bT, g1, g4, g5, hq, t1, t2, t4, f10, f11, f12]
    refine ⟨?_, .inl (by omega), ⟨k + 1, (((((H2.set nx2 (some ⟨.c 34, 2, [[.d (eI 5), .d (eI q)]]⟩)).set N2.e (some ⟨.c 4, 1, (boolRows W.seen).set q [.d (eB true)]⟩)).set (nx2 + 1) (some ⟨.c 3, 1, [[.d (eI q)]]⟩)).set N2.t none).set (nx2 + 1 + 1) (some ⟨.c 3, 1, intRows W.todo ++ [[.d (eI q)]]⟩)).set nW (some ⟨.c 185, 4, [[.d xS, .own N2.e 1 W.seen.length, .own (nx2 + 1 + 1) 1 (W.todo.length + 1), .own N2.k 1 W.weak.length]]⟩), nx2 + 1 + 1 + 1, ⟨N2.e, nx2 + 1 + 1, N2.k⟩⟩, by simp only; omega, ⟨by simp only; omega, by simp only; omega, ?_, fun i i0 i1 i2 i3 => ?_, ?_, hE, hK, .inr (by simp only; omega), by simp only; omega⟩, Wk.sub (by simp [wrap_add (show k < 9223372036854775807 by omega)])⟩
    · rintro m b rfl
      rw [if_neg (by omega), if_neg e6, if_neg f2, bT]
      intro e
      cases e
      exact ⟨rfl, rfl⟩
    · rw [hnext]
      dsimp only
      refine hA.come1 hq (by rw [g2, c2]) (Hp.set_same _ _ _) ?_ ?_ ?_ f10 f11 (fun e => f12 e.symm)
      · rw [Hp.set_ne _ _ (fun e => e0 e.symm), Hp.set_ne _ _ f11, Hp.set_ne _ _ e3, Hp.set_ne _ _ f8, Hp.set_same]
      · rw [Hp.set_ne _ _ (fun e => f10 e.symm), Hp.set_same]
      · rw [Hp.set_ne _ _ (fun e => e2 e.symm), Hp.set_ne _ _ f12, Hp.set_ne _ _ (fun e => e5 e.symm), Hp.set_ne _ _ (by omega), Hp.set_ne _ _ (fun e => e4 e.symm), Hp.set_ne _ _ f3]
    · dsimp only
      rcases hT with hT | hT
      · rw [Hp.set_ne _ _ i1, Hp.set_ne _ _ (by omega), Hp.set_ne _ _ (by omega), Hp.set_ne _ _ (by omega), Hp.set_ne _ _ (by omega), Hp.set_ne _ _ (by omega)]; exact hlow i i0 i1 i2 i3
      · rw [Hp.set_ne _ _ i1, Hp.set_ne _ _ (by omega), Hp.set_ne _ _ (by omega), Hp.set_ne _ _ (by omega), Hp.set_ne _ _ (by omega), Hp.set_ne _ _ (by omega)]; exact hlow i i0 i1 i2 i3
    · dsimp only
      repeat' (first | exact hsol | refine HSol.none ?_ | refine HSol.set ?_ ?_)
      · simp
      · dsimp only
        rw [g3]
        exact solMap _ _ fun _ => rfl
      · simp
      · dsimp only
        rw [show intRows W.todo ++ [[C.d (eI q)]] = intRows (W.todo ++ [(q : Int)]) by simp [intRows]]
        exact solMap _ _ fun _ => rfl
      · simp [hA.sx]
theorem WAt.out {H : Hp} {nW : Nat} {xS : Dt} {N : WN} {w : RW} {nx i : Nat} (h : WAt H nW xS N w) (hi : H i = none) : i ≠ nW ∧ i ≠ N.e ∧ i ≠ N.t ∧ i ≠ N.k := by
  refine ⟨?_, ?_, ?_, ?_⟩
  · rintro rfl; rw [h.blk] at hi; cases hi
  · rintro rfl; rw [h.seen] at hi; cases hi
  · rintro rfl; obtain ⟨r, e⟩ := h.todo; rw [e] at hi; cases hi
  · rintro rfl; rw [h.weak] at hi; cases hi
theorem rcCome1_ok (v : GVal) (w : RW) {nW nA : Nat} {xS : Dt} {N : WN} {H : Hp} {nx : Nat} (hSol : HSol H) (hA : H nA = some ⟨.c 34, 2, [[.d (eI v.kind), .d (eI v.n)]]⟩) (hW : WAt H nW xS N w) (d1 : nW ≠ nA) (d2 : N.e ≠ nA) (d3 : N.t ≠ nA) (d4 : N.k ≠ nA) (hl : In w.seen.length v) (hb : w.todo.length + w.un ≤ 1000) {K : D → Hp → Nat → Prop}
    (h : ∀ H' nx' N', nx ≤ nx' → HSol H' → WAt H' nW xS N' (comeV w v) → (∀ i, i < nx → i ≠ nW → i ≠ N.e → i ≠ N.t → i ≠ nA → H' i = H i) → N'.e = N.e → N'.k = N.k → (N'.t = N.t ∨ nx ≤ N'.t) → N'.t < nx' → K (.tup []) H' nx') :
    ICall Tryz.prog 132 [.one (.ptr nW 4 0 0), .one (.own nA 2 1)] H nx K := by
  refine ICall.frz (ds := [.one (.ptr nW 4 0 0)]) (es := []) hA (by simp [C.isD]) rfl (by simp) ?_
  have e : ((([[.d (eI v.kind), .d (eI v.n)]] : List (List C)).take 1).map fun e => e.map C.dt) = [v].map eVal := rfl
  rw [e]
  exact rcCome_ok [v] w (HSol.none hSol) (hW.low (Hp.set_ne _ _ d1) (Hp.set_ne _ _ d2) (Hp.set_ne _ _ d3) (Hp.set_ne _ _ d4)) (by simpa using hl) hb fun H' nx' N' h1 h2 h3 h4 h5 h6 h7 h8 => h H' nx' N' h1 h2 h3 (fun i i0 i1 i2 i3 i4 => (h4 i i0 i1 i2 i3).trans (Hp.set_ne _ _ i4)) h5 h6 h7 h8
structure FmI (H : Hp) (nx nW : Nat) (xS : Dt) (N : WN) (w : RW) (l : List GFrame) (x : CmS) : Prop where
  k : x.k ≤ l.length
  le : nx ≤ x.nx
  at_ : WAt x.H nW xS x.N (comeL w ((l.take x.k).flatMap valsF))
  low : ∀ i, i < nx → i ≠ nW → i ≠ N.e → i ≠ N.t → x.H i = H i
  sol : HSol x.H
  e : x.N.e = N.e
  kk : x.N.k = N.k
  t : x.N.t = N.t ∨ nx ≤ x.N.t
  lt : x.N.t < x.nx
theorem rcFrames_ok (l : List GFrame) (w : RW) {nW : Nat} {xS : Dt} {N : WN} {H : Hp} {nx : Nat} (hSol : HSol H) (hW : WAt H nW xS N w) (hl : ∀ v ∈ l.flatMap valsF, In w.seen.length v) (hb : w.todo.length + w.un ≤ 1000) {K : D → Hp → Nat → Prop}
    (h : ∀ H' nx' N', nx ≤ nx' → HSol H' → WAt H' nW xS N' (comeL w (l.flatMap valsF)) → (∀ i, i < nx → i ≠ nW → i ≠ N.e → i ≠ N.t → H' i = H i) → N'.e = N.e → N'.k = N.k → (N'.t = N.t ∨ nx ≤ N'.t) → N'.t < nx' → K (.tup []) H' nx') :
    ICall Tryz.prog 131 [.one (.ptr nW 4 0 0), .one (.d (.sl true (l.map eFrame)))] H nx K := by
  refine ICall.fresh (by kernel_rfl) fun hfr => ?_
  have p1 := fresh_lt hfr hW.blk
  have p2 := fresh_lt hfr hW.seen
  have p3 : N.t < nx := by obtain ⟨r, e⟩ := hW.todo; exact fresh_lt hfr e
  have p4 := fresh_lt hfr hW.weak
  refine fni_ok [0,1,5,6,7,8,9,23] [] Tryz.func131 rfl (by kernel_rfl) rfl rfl rfl rfl (by kernel_rfl) ?_
  simp
  intro hlen
  refine loopH_ok (ks := [0,1,5,6,7,8,9,23]) (pl := []) (n0 := 31) (α := {x : CmS // FmI H nx nW xS N w l x}) (fun x => [(8, dI x.1.k)]) (fun _ x => x.1.H) (fun x => x.1.nx) (fun x => l.length - x.1.k) ⟨⟨0, H, nx, N⟩, ⟨Nat.zero_le _, Nat.le_refl _, by simpa [comeL_nil] using hW, fun _ _ _ _ _ => rfl, hSol, rfl, rfl, .inl rfl, p3⟩⟩ rfl (by kernel_rfl) (Wk.sub (by simp)) ?_
  rintro ⟨⟨k, H2, nx2, N2⟩, hI⟩
  obtain ⟨hk, hn, hA, hlow, hsol, hE, hK, hT, hTl⟩ := hI
  simp only at hk hn hA hlow hsol hE hK hT hTl
  by_cases h1 : k < l.length
  case neg =>
    simp [h1]
    obtain rfl : k = l.length := by omega
    rw [List.take_length] at hA
    exact ⟨hsol, h _ _ _ hn hsol hA hlow hE hK hT hTl⟩
  have hi : ∀ v ∈ (l.take k).flatMap valsF, In w.seen.length v := fun v hv => by
    obtain ⟨f, q1, q2⟩ := List.mem_flatMap.1 hv
    exact hl v (List.mem_flatMap.2 ⟨f, List.mem_of_mem_take q1, q2⟩)
  have hlen2 := comeL_len ((l.take k).flatMap valsF) w
  have hsum := comeL_sum ((l.take k).flatMap valsF) w hi
  have hnext : comeL w ((l.take (k + 1)).flatMap valsF) = comeL (comeL w ((l.take k).flatMap valsF)) (valsF l[k]) := by
    rw [List.take_succ_eq_append_getElem h1, List.flatMap_append, comeL_app]; simp
  have hv : ∀ v ∈ valsF l[k], In w.seen.length v := fun v hv => hl v (List.mem_flatMap.2 ⟨_, List.getElem_mem h1, hv⟩)
  obtain ⟨W, hWe⟩ : ∃ W, W = comeL w ((l.take k).flatMap valsF) := ⟨_, rfl⟩
  rw [← hWe] at hA hnext hlen2 hsum
  rw [← hlen2] at hv
  simp [h1]
  obtain ⟨f, hfe⟩ : ∃ f, f = l[k] := ⟨_, rfl⟩
  simp only [← hfe] at hv hnext ⊢
  have w1 : W.todo.length + W.un ≤ 1000 := by omega
  have q1 : nW < nx2 := by omega
  have q2 : N2.e < nx2 := by omega
  have q4 : N2.k < nx2 := by omega
  have sol1 : HSol (H2.set nx2 (some ⟨.c 47, 8, [(eFrame f).map C.d]⟩)) := hsol.set (by simp)
  refine rcCome1_ok f.self W (xS := xS) (N := N2) ?_ ?_ (hA.low ?_ ?_ ?_ ?_) ?_ ?_ ?_ ?_ (hv _ (by simp [valsF])) w1 (fun H3 nx3 N3 n3 sol3 A3 low3 E3 K3 T3 L3 => ?_)
  · repeat' (first | exact hsol | refine HSol.set ?_ (by simp))
  · simp
  · rw [Hp.set_ne _ _ (by omega), Hp.set_ne _ _ (by omega)]
  · rw [Hp.set_ne _ _ (by omega), Hp.set_ne _ _ (by omega)]
  · rw [Hp.set_ne _ _ (by omega), Hp.set_ne _ _ (by omega)]
  · rw [Hp.set_ne _ _ (by omega), Hp.set_ne _ _ (by omega)]
  · omega
  · omega
  · omega
  · omega
  have b3 := low3 nx2 (by omega) (by omega) (by omega) (by omega) (by omega)
  rw [Hp.set_ne _ _ (by omega), Hp.set_same] at b3
  have w2 := comeV_sum (hv f.self (by simp [valsF]))
  have len3 := comeV_len W f.self
  simp [b3]
  refine rcCome_ok f.regs (comeV W f.self) (xS := xS) (N := N3) sol3 A3 (fun v hv2 => by rw [len3]; exact hv v (by simp [valsF, hv2])) (by omega) (fun H4 nx4 N4 n4 sol4 A4 low4 E4 K4 T4 L4 => ?_)
  have b4 := low4 nx2 (by omega) (by omega) (by omega) (by omega)
  rw [b3] at b4
  have w3 := comeL_sum f.regs (comeV W f.self) (fun v hv2 => by rw [len3]; exact hv v (by simp [valsF, hv2]))
  have len4 := comeL_len f.regs (comeV W f.self)
  have low5 : ∀ i, i < nx → i ≠ nW → i ≠ N.e → i ≠ N.t → H4 i = H i := fun i i0 i1 i2 i3 => by
    rw [low4 i (by omega) i1 (by omega) (by omega), low3 i (by omega) i1 (by omega) (by omega) (by omega), Hp.set_ne _ _ (by omega), Hp.set_ne _ _ (by omega)]
    exact hlow i i0 i1 i2 i3
  by_cases c1 : 0 ≤ f.gen
  case neg =>
    have e : comeL W (valsF f) = comeL (comeV W f.self) f.regs := by rw [valsF, if_neg c1, List.append_nil]; rfl
    simp [b4, c1]
    exact ⟨⟨k + 1, H4, nx4, N4⟩, by simp only; omega, ⟨by simp only; omega, by simp only; omega, by rw [hnext, e]; exact A4, low5, sol4, by simp only; omega, by simp only; omega, by simp only; omega, by simp only; omega⟩, Wk.sub (by simp [wrap_add (show k < 9223372036854775807 by omega)])⟩
  have e : comeL W (valsF f) = comeV (comeL (comeV W f.self) f.regs) ⟨5, f.gen⟩ := by rw [valsF, if_pos c1, comeL_app]; rfl
  simp [b4, c1]
  refine rcCome1_ok ⟨5, f.gen⟩ (comeL (comeV W f.self) f.regs) (xS := xS) (N := N4) ?_ ?_ (A4.low ?_ ?_ ?_ ?_) ?_ ?_ ?_ ?_ (by rw [len4, len3]; exact hv _ (by simp [valsF, c1])) (by omega) (fun H6 nx6 N6 n6 sol6 A6 low6 E6 K6 T6 L6 => ?_)
  · exact sol4.set (by simp)
  · simp
  · rw [Hp.set_ne _ _ (by omega)]
  · rw [Hp.set_ne _ _ (by omega)]
  · rw [Hp.set_ne _ _ (by omega)]
  · rw [Hp.set_ne _ _ (by omega)]
  · omega
  · omega
  · omega
  · omega
  simp
  exact ⟨⟨k + 1, H6, nx6, N6⟩, by simp only; omega, ⟨by simp only; omega, by simp only; omega, by rw [hnext, e]; exact A6, fun i i0 i1 i2 i3 => by
    dsimp only
    rw [low6 i (by omega) i1 (by omega) (by omega) (by omega), Hp.set_ne _ _ (by omega)]
    exact low5 i i0 i1 i2 i3, sol6, by simp only; omega, by simp only; omega, by simp only; omega, by simp only; omega⟩, Wk.sub (by simp [wrap_add (show k < 9223372036854775807 by omega)])⟩
structure WPo (H : Hp) (nx nW : Nat) (N : WN) (H' : Hp) (nx' : Nat) (N' : WN) : Prop where
  le : nx ≤ nx'
  sol : HSol H'
  low : ∀ i, i < nx → i ≠ nW → i ≠ N.e → i ≠ N.t → i ≠ N.k → H' i = H i
  e : N'.e = N.e
  t : N'.t = N.t ∨ nx ≤ N'.t
  k : N'.k = N.k ∨ nx ≤ N'.k
  tl : N'.t < nx'
  kl : N'.k < nx'
theorem comeL_un {l : List GVal} {w : RW} (h : ∀ v ∈ l, In w.seen.length v) : (comeL w l).un ≤ w.un := by
  have h1 := comeL_sum l w h
  obtain ⟨a, e, _⟩ := comeL_todo l w
  rw [e, List.length_append] at h1
  omega
theorem comeL_mono {l : List GVal} {w : RW} (h : ∀ v ∈ l, In w.seen.length v) {n : Nat} (hn : w.at_ n = true) : (comeL w l).at_ n = true := (comeL_at l w h n).2 (.inl hn)
theorem orT {a b c n m : Nat} (h1 : b = a ∨ n ≤ b) (h2 : c = b ∨ m ≤ c) (h : n ≤ m) : c = a ∨ n ≤ c := by
  rcases h2 with rfl | h2
  · exact h1
  · exact .inr (Nat.le_trans h h2)
theorem orN {a b n i : Nat} (h1 : b = a ∨ n ≤ b) (h2 : i < n) (h : i ≠ a) : i ≠ b := by
  rcases h1 with rfl | h1
  · exact h
  · omega
structure AlS where
  H : Hp
  nx : Nat
  N : WN
  w : RW
structure AlI (s : GState) (H : Hp) (nx nW : Nat) (xS : Dt) (N : WN) (w : RW) (x : AlS) : Prop where
  po : WPo H nx nW N x.H x.nx x.N
  at_ : WAt x.H nW xS x.N x.w
  ri : RI s x.w
  mono : ∀ n, w.at_ n = true → x.w.at_ n = true
  un : x.w.un ≤ w.un
theorem rcAll_ok (s : GState) (hg : GoodS s) (hs : s.cells.length ≤ 1000) (w : RW) (hR : RI s w) {nW : Nat} {N : WN} {H : Hp} {nx : Nat} (hSol : HSol H) (hW : WAt H nW (.at_ true (eState s)) N w) {K : D → Hp → Nat → Prop}
    (h : ∀ H' nx' N' w', WPo H nx nW N H' nx' N' → WAt H' nW (.at_ true (eState s)) N' w' → RI s w' → (∀ n, w.at_ n = true → w'.at_ n = true) → w'.un ≤ w.un → w'.todo = [] → K (.tup []) H' nx') :
    ICall Tryz.prog 133 [.one (.ptr nW 4 0 0)] H nx K := by
  refine ICall.fresh (by kernel_rfl) fun hfr => ?_
  have p1 := fresh_lt hfr hW.blk
  have p2 := fresh_lt hfr hW.seen
  have p3 : N.t < nx := by obtain ⟨r, e⟩ := hW.todo; exact fresh_lt hfr e
  have p4 := fresh_lt hfr hW.weak
  refine fni_ok [0,2,3,9,48] [(1, [0,1,3,7,0,16,48,112,240,496,1023,2047,4095], (.seg 0 (.seg 1 (.seg 2 (.seg 3 (.seg 4 (.seg 5 (.seg 6 (.seg 7 (.seg 8 (.seg 9 (.seg 10 (.seg 11 (.seg 12 .last)))))))))))))), (2, [0,0,2,6,14,0,32,96,224,480,992,2046,4095,8191,16383], (.seg 0 (.seg 1 (.seg 2 (.seg 3 (.seg 4 (.seg 5 (.seg 6 (.seg 7 (.seg 8 (.seg 9 (.seg 10 (.seg 11 (.seg 12 (.seg 13 (.eff 14 [] .last))))))))))))))))] Tryz.func133 rfl (by kernel_rfl) rfl rfl rfl rfl (by kernel_rfl) ?_
  simp
  refine loopH_ok (ks := [0,2,3,9,48]) (pl := [(1, [0,1,3,7,0,16,48,112,240,496,1023,2047,4095], (.seg 0 (.seg 1 (.seg 2 (.seg 3 (.seg 4 (.seg 5 (.seg 6 (.seg 7 (.seg 8 (.seg 9 (.seg 10 (.seg 11 (.seg 12 .last)))))))))))))), (2, [0,0,2,6,14,0,32,96,224,480,992,2046,4095,8191,16383], (.seg 0 (.seg 1 (.seg 2 (.seg 3 (.seg 4 (.seg 5 (.seg 6 (.seg 7 (.seg 8 (.seg 9 (.seg 10 (.seg 11 (.seg 12 (.seg 13 (.eff 14 [] .last))))))))))))))))]) (n0 := 67) (α := {x : AlS // AlI s H nx nW (.at_ true (eState s)) N w x}) (fun x => []) (fun _ x => x.1.H) (fun x => x.1.nx) (fun x => x.1.w.todo.length + x.1.w.un) ⟨⟨H, nx, N, w⟩, ⟨⟨Nat.le_refl _, hSol, fun _ _ _ _ _ _ => rfl, rfl, .inl rfl, .inl rfl, p3, p4⟩, hW, hR, fun _ h => h, Nat.le_refl _⟩⟩ rfl (by kernel_rfl) (Wk.sub (by simp)) ?_
  rintro ⟨⟨H2, nx2, N2, W⟩, hI⟩
  obtain ⟨⟨le2, sol2, low2, E2, T2, K2, tl2, kl2⟩, hA, hRI, hmono, hun⟩ := hI
  simp only at le2 sol2 low2 E2 T2 K2 tl2 kl2 hA hRI hmono hun
  have bW := hA.blk
  have bE := hA.seen
  obtain ⟨r, bT⟩ := hA.todo
  have bK := hA.weak
  rw [walkRow] at bW
  have hsum := hRI.sum
  by_cases h1 : W.todo = []
  · simp [bW, h1]
    exact ⟨sol2, h _ _ _ _ ⟨le2, sol2, low2, E2, T2, K2, tl2, kl2⟩ hA hRI hmono hun h1⟩
  obtain ⟨a, n, e⟩ : ∃ a n, W.todo = a ++ [n] := ⟨_, _, (List.dropLast_concat_getLast h1).symm⟩
  obtain ⟨n0, n1, stepW, stepC⟩ := hRI.step hg e
  obtain ⟨m, rfl⟩ : ∃ m : Nat, n = m := ⟨n.toNat, by omega⟩
  have hm : m < s.cells.length := by omega
  have hcell : cellAt s m = s.cells[m] := by simp [cellAt, List.getD_eq_getElem?_getD, hm]
  have hlen : W.todo.length = a.length + 1 := by rw [e]; simp
  have t1 : (intRows (W.todo ++ r))[a.length]? = some [.d (eI m)] := by rw [e]; simp [intRows]
  obtain ⟨t2, t3⟩ := List.getElem?_eq_some_iff.1 t1
  have hw0 : IntKind.i64.wrap ((a.length : Int)) = (a.length : Int) := wrap_id (by omega) (by omega)
  have d1 : ¬ nW = nx2 := by omega
  have d3 : ¬ N2.k = nx2 := by omega
  have d4 : ¬ nW = N2.k := hA.ne3
  have d5 : ¬ N2.k = nW := fun e => d4 e.symm
  have d6 : ¬ nW = nx2 + 1 := by omega
  have d7 : ¬ N2.k = nx2 + 1 := by omega
  have d8 : ¬ nx2 = nW := by omega
  have d9 : ¬ nW = nx2 + 1 + 1 := by omega
  have k1 : (intRows W.weak).take W.weak.length = intRows W.weak := by simp [intRows]
  have k2 : (intRows W.weak).length = W.weak.length := by simp [intRows]
  rw [hcell] at stepW stepC
  simp [bW, bT, hlen, hw0, t1, t2, t3, d1, hm]
  intro hlt
  by_cases c7 : s.cells[m].kind = 7
  · simp [c7, bW, bT, bK, hlen, hw0, t1, t2, t3, d1, d3, d4, d5, d6, d7, d8, d9, hm, k1, k2]
    have e1 := hA.ne1
    have e2 := hA.ne2
    have e4 := hA.ne4
    have e5 := hA.ne5
    have e6 := hA.ne6
    have hun2 : (RW.mk W.seen a (W.weak ++ [(m : Int)])).un = W.un := rfl
    refine ⟨by omega, ?_, .inl (by omega), ⟨(((((H2.set nW (some ⟨.c 185, 4, [[.d (.at_ true (eState s)), .own N2.e 1 W.seen.length, .own N2.t 1 a.length, .own N2.k 1 W.weak.length]]⟩)).set nx2 (some ⟨.c 53, 4, [[.d (eI 7), .d (eI s.cells[m].num), .d (.sl true (s.cells[m].vals.map eVal)), .d (.sl true (s.cells[m].frames.map eFrame))]]⟩)).set (nx2 + 1) (some ⟨.c 3, 1, [[.d (eI m)]]⟩)).set N2.k none).set (nx2 + 1 + 1) (some ⟨.c 3, 1, intRows W.weak ++ [[.d (eI m)]]⟩)).set nW (some ⟨.c 185, 4, [[.d (.at_ true (eState s)), .own N2.e 1 W.seen.length, .own N2.t 1 a.length, .own (nx2 + 1 + 1) 1 (W.weak.length + 1)]]⟩), nx2 + 1 + 1 + 1, ⟨N2.e, N2.t, nx2 + 1 + 1⟩, ⟨W.seen, a, W.weak ++ [(m : Int)]⟩⟩, by simp only [hun2]; omega, ⟨⟨by simp only; omega, ?_, fun i i0 i1 i2 i3 i4 => ?_, E2, T2, .inr (by simp only; omega), by simp only; omega, by simp only; omega⟩, ⟨?_, ?_, ⟨(m : Int) :: r, ?_⟩, ?_, hA.sx, e1, e2, by simp only; omega, e4, by simp only; omega, by simp only; omega⟩, stepW c7, hmono, by simp only [hun2]; omega⟩, Wk.sub (by simp)⟩
    · rintro z b rfl
      rw [if_neg d7, if_neg d3, if_neg d5, bK]
      intro e
      cases e
      exact ⟨rfl, rfl⟩
    · dsimp only
      repeat' (first | exact sol2 | refine HSol.none ?_ | refine HSol.set ?_ ?_)
      · simp
      · simp
      · simp
      · dsimp only
        rw [show intRows W.weak ++ [[C.d (eI m)]] = intRows (W.weak ++ [(m : Int)]) by simp [intRows]]
        exact solMap _ _ fun _ => rfl
      · simp
    · dsimp only
      rw [Hp.set_ne _ _ i1, Hp.set_ne _ _ (by omega), Hp.set_ne _ _ (by omega), Hp.set_ne _ _ (by omega), Hp.set_ne _ _ (by omega), Hp.set_ne _ _ i1]
      exact low2 i i0 i1 i2 i3 i4
    · dsimp only
      rw [Hp.set_same, walkRow]
      simp
    · dsimp only
      rw [Hp.set_ne _ _ (fun e => e1 e.symm), Hp.set_ne _ _ (by omega), Hp.set_ne _ _ e5, Hp.set_ne _ _ (by omega), Hp.set_ne _ _ (by omega), Hp.set_ne _ _ (fun e => e1 e.symm)]
      exact bE
    · dsimp only
      rw [Hp.set_ne _ _ (fun e => e2 e.symm), Hp.set_ne _ _ (by omega), Hp.set_ne _ _ e6, Hp.set_ne _ _ (by omega), Hp.set_ne _ _ (by omega), Hp.set_ne _ _ (fun e => e2 e.symm), bT, e]
      simp [intRows]
    · dsimp only
      rw [Hp.set_ne _ _ (by omega), Hp.set_same]
      simp [intRows]
  · simp [c7, bW, bT, bK, hlen, hw0, t1, t2, t3, d1, d3, d4, d5, d6, d7, d8, d9, hm, k1, k2]
    refine ⟨by omega, ?_⟩
    have e1 := hA.ne1
    have e2 := hA.ne2
    have hin : ∀ v ∈ valsC s.cells[m], In W.seen.length v := by
      have := hg.kid m hm
      rw [show cellAt s (m : Int) = s.cells[m] from hcell] at this
      rw [hRI.len]; exact this
    have hR3 := stepC c7
    have un1 : (RW.mk W.seen a W.weak).un = W.un := rfl
    have A1 : WAt ((H2.set nW (some ⟨.c 185, 4, [[.d (.at_ true (eState s)), .own N2.e 1 W.seen.length, .own N2.t 1 a.length, .own N2.k 1 W.weak.length]]⟩)).set nx2 (some ⟨.c 53, 4, [[.d (eI s.cells[m].kind), .d (eI s.cells[m].num), .d (.sl true (s.cells[m].vals.map eVal)), .d (.sl true (s.cells[m].frames.map eFrame))]]⟩)) nW (.at_ true (eState s)) N2 ⟨W.seen, a, W.weak⟩ := by
      refine ⟨?_, ?_, ⟨(m : Int) :: r, ?_⟩, ?_, hA.sx, e1, e2, hA.ne3, hA.ne4, hA.ne5, hA.ne6⟩
      · rw [Hp.set_ne _ _ (by omega), Hp.set_same, walkRow]
      · rw [Hp.set_ne _ _ (by omega), Hp.set_ne _ _ (fun e => e1 e.symm)]; exact bE
      · rw [Hp.set_ne _ _ (by omega), Hp.set_ne _ _ (fun e => e2 e.symm), bT, e]; simp [intRows]
      · rw [Hp.set_ne _ _ (by omega), Hp.set_ne _ _ d5]; exact bK
    refine rcCome_ok s.cells[m].vals ⟨W.seen, a, W.weak⟩ (xS := .at_ true (eState s)) (N := N2) ?_ A1 (fun v hv => hin v (by simp [valsC, hv])) (by simp only [un1]; omega) (fun H3 nx3 N3 n3 sol3 A3 low3 E3 K3 T3 L3 => ?_)
    · exact (sol2.set (by simp)).set (by simp)
    have b3 := low3 nx2 (by omega) (by omega) (by omega) (by omega)
    rw [Hp.set_same] at b3
    simp [b3]
    have len3 := comeL_len s.cells[m].vals ⟨W.seen, a, W.weak⟩
    have sum3 := comeL_sum s.cells[m].vals ⟨W.seen, a, W.weak⟩ (fun v hv => hin v (by simp [valsC, hv]))
    have sum4 := comeL_sum (valsC s.cells[m]) ⟨W.seen, a, W.weak⟩ hin
    have un4 := comeL_un (w := ⟨W.seen, a, W.weak⟩) hin
    have mono4 : ∀ n, W.at_ n = true → (comeL ⟨W.seen, a, W.weak⟩ (valsC s.cells[m])).at_ n = true := fun n hn => comeL_mono (w := ⟨W.seen, a, W.weak⟩) hin (n := n) hn
    have ec : comeL ⟨W.seen, a, W.weak⟩ (valsC s.cells[m]) = comeL (comeL ⟨W.seen, a, W.weak⟩ s.cells[m].vals) (s.cells[m].frames.flatMap valsF) := by rw [valsC, comeL_app]
    have todo1 : (RW.mk W.seen a W.weak).todo.length = a.length := rfl
    have seen1 : (RW.mk W.seen a W.weak).seen.length = W.seen.length := rfl
    rw [todo1, un1] at sum3 sum4
    rw [un1] at un4
    rw [seen1] at len3
    obtain ⟨X, hX⟩ : ∃ X, X = comeL ⟨W.seen, a, W.weak⟩ s.cells[m].vals := ⟨_, rfl⟩
    obtain ⟨Y, hY⟩ : ∃ Y, Y = comeL ⟨W.seen, a, W.weak⟩ (valsC s.cells[m]) := ⟨_, rfl⟩
    rw [← hX] at A3 len3 sum3
    rw [← hX, ← hY] at ec
    rw [← hY] at sum4 un4 mono4 hR3
    clear hX hY
    refine rcFrames_ok s.cells[m].frames X (xS := .at_ true (eState s)) (N := N3) sol3 A3 (fun v hv => by rw [len3]; exact hin v (by rw [valsC]; exact List.mem_append_right _ hv)) (by omega) (fun H4 nx4 N4 n4 sol4 A4 low4 E4 K4 T4 L4 => ?_)
    rw [← ec] at A4
    simp
    have h1 : Y.todo.length + Y.un < W.todo.length + W.un := by rw [sum4, hlen]; exact Nat.add_lt_add_right (Nat.lt_succ_self _) _
    have h2 : Y.un ≤ w.un := Nat.le_trans un4 hun
    have h3a : nx ≤ nx3 := Nat.le_trans le2 (Nat.le_trans (Nat.le_succ _) n3)
    have h3 : nx ≤ nx4 := Nat.le_trans h3a n4
    have h4 : N4.t = N.t ∨ nx ≤ N4.t := orT (orT T2 T3 (Nat.le_trans le2 (Nat.le_succ _))) T4 h3a
    have hk4 : N4.k = N2.k := K4.trans K3
    have h5 : N4.k = N.k ∨ nx ≤ N4.k := by rw [hk4]; exact K2
    have h6 : N4.k < nx4 := by rw [hk4]; exact Nat.lt_of_lt_of_le kl2 (Nat.le_trans (Nat.le_succ _) (Nat.le_trans n3 n4))
    have h7 : N4.e = N.e := E4.trans (E3.trans E2)
    have h8 : ∀ i, i < nx → i ≠ nW → i ≠ N.e → i ≠ N.t → i ≠ N.k → H4 i = H i := fun i i0 i1 i2 i3 i4 => by
      have j2 : i ≠ N2.e := by rw [E2]; exact i2
      have j3 : i ≠ N2.t := orN T2 i0 i3
      have j4 : i ≠ N3.e := by rw [E3]; exact j2
      have j5 : i ≠ N3.t := orN T3 (Nat.lt_of_lt_of_le i0 (Nat.le_trans le2 (Nat.le_succ _))) j3
      have j6 : i < nx2 := Nat.lt_of_lt_of_le i0 le2
      rw [low4 i (Nat.lt_of_lt_of_le i0 h3a) i1 j4 j5, low3 i (Nat.lt_succ_of_lt j6) i1 j2 j3, Hp.set_ne _ _ (Nat.ne_of_lt j6), Hp.set_ne _ _ i1]
      exact low2 i i0 i1 i2 i3 i4
    exact ⟨⟨H4, nx4, N4, Y⟩, h1, ⟨⟨h3, sol4, h8, h7, h4, h5, L4, h6⟩, A4, hR3, fun n hn => mono4 n (hmono n hn), h2⟩, Wk.sub (by simp)⟩
structure KsI (s : GState) (H : Hp) (nx nW : Nat) (xS : Dt) (N : WN) (w : RW) (P : Prop) (x : AlS) : Prop where
  po : WPo H nx nW N x.H x.nx x.N
  kk : x.N.k = N.k
  at_ : WAt x.H nW xS x.N x.w
  ri : RI s x.w
  mono : ∀ n, w.at_ n = true → x.w.at_ n = true
  wk : x.w.weak = w.weak
  sum : x.w.todo.length + x.w.un = w.todo.length + w.un
  shut : x.w.todo = [] → x.w.seen = w.seen ∧ P
theorem WPo.trans {H H2 H3 : Hp} {nx nx2 nx3 nW : Nat} {N N2 N3 : WN} (a : WPo H nx nW N H2 nx2 N2) (b : WPo H2 nx2 nW N2 H3 nx3 N3) : WPo H nx nW N H3 nx3 N3 := by
  obtain ⟨a1, a2, a3, a4, a5, a6, a7, a8⟩ := a
  obtain ⟨b1, b2, b3, b4, b5, b6, b7, b8⟩ := b
  refine ⟨Nat.le_trans a1 b1, b2, fun i i0 i1 i2 i3 i4 => ?_, b4.trans a4, orT a5 b5 a1, orT a6 b6 a1, b7, b8⟩
  rw [b3 i (Nat.lt_of_lt_of_le i0 a1) i1 (by rw [a4]; exact i2) (orN a5 i0 i3) (orN a6 i0 i4)]
  exact a3 i i0 i1 i2 i3 i4
def allShut (s : GState) (w : RW) (i : Nat) : Prop := ∀ k, k < i → ∀ n, w.weak[k]? = some n → ∀ j, shut s w n j
structure KmS extends AlS where
  k : Nat
structure KyS extends AlS where
  more : Bool
structure KyI (s : GState) (H : Hp) (nx nW : Nat) (xS : Dt) (N : WN) (w : RW) (x : KyS) : Prop where
  po : WPo H nx nW N x.H x.nx x.N
  at_ : WAt x.H nW xS x.N x.w
  ri : RI s x.w
  mono : ∀ n, w.at_ n = true → x.w.at_ n = true
  todo : x.w.todo = []
  shut : x.more = false → allShut s x.w x.w.weak.length
theorem rcKeys_ok (s : GState) (hg : GoodS s) (hs : s.cells.length ≤ 1000) (w : RW) (hR : RI s w) (h0 : w.todo = []) {nW : Nat} {N : WN} {H : Hp} {nx : Nat} (hSol : HSol H) (hW : WAt H nW (.at_ true (eState s)) N w) {K : D → Hp → Nat → Prop}
    (h : ∀ H' nx' N' w', WPo H nx nW N H' nx' N' → WAt H' nW (.at_ true (eState s)) N' w' → RI s w' → (∀ n, w.at_ n = true → w'.at_ n = true) → w'.todo = [] → allShut s w' w'.weak.length → K (.tup []) H' nx') :
    ICall Tryz.prog 134 [.one (.ptr nW 4 0 0)] H nx K := by
  refine ICall.fresh (by kernel_rfl) fun hfr => ?_
  have p1 := fresh_lt hfr hW.blk
  have p2 := fresh_lt hfr hW.seen
  have p3 : N.t < nx := by obtain ⟨r, e⟩ := hW.todo; exact fresh_lt hfr e
  have p4 := fresh_lt hfr hW.weak
  refine fni_ok [0,2,4,5,6,7,11,12,13,14,31,44,59] [(10, [0,1,3,7,0,0,48,112,240,511,1023], (.seg 0 (.seg 1 (.seg 2 (.seg 3 (.seg 4 (.seg 5 (.seg 6 (.seg 7 (.seg 8 (.seg 9 (.seg 10 .last))))))))))))] Tryz.func134 rfl (by kernel_rfl) rfl rfl rfl rfl (by kernel_rfl) ?_
  simp
  refine loopH_ok (ks := [0,2,4,5,6,7,11,12,13,14,31,44,59]) (pl := [(10, [0,1,3,7,0,0,48,112,240,511,1023], (.seg 0 (.seg 1 (.seg 2 (.seg 3 (.seg 4 (.seg 5 (.seg 6 (.seg 7 (.seg 8 (.seg 9 (.seg 10 .last))))))))))))]) (n0 := 62) (α := {x : KyS // KyI s H nx nW (.at_ true (eState s)) N w x}) (fun x => [(2, dB x.1.more)]) (fun _ x => x.1.H) (fun x => x.1.nx) (fun x => if x.1.more then x.1.w.un + 1 else 0) ⟨⟨⟨H, nx, N, w⟩, true⟩, ⟨⟨Nat.le_refl _, hSol, fun _ _ _ _ _ _ => rfl, rfl, .inl rfl, .inl rfl, p3, p4⟩, hW, hR, fun _ h => h, h0, fun e => by cases e⟩⟩ rfl (by kernel_rfl) (Wk.sub (by simp)) ?_
  rintro ⟨⟨⟨H2, nx2, N2, W⟩, more⟩, hI⟩
  obtain ⟨⟨le2, sol2, low2, E2, T2, K2, tl2, kl2⟩, hA, hRI, hmono, htodo, hshut⟩ := hI
  simp only at le2 sol2 low2 E2 T2 K2 tl2 kl2 hA hRI hmono htodo hshut
  have bW := hA.blk
  have bK := hA.weak
  rw [walkRow] at bW
  cases more with
  | false =>
    simp
    exact ⟨sol2, h _ _ _ _ ⟨le2, sol2, low2, E2, T2, K2, tl2, kl2⟩ hA hRI hmono htodo (hshut rfl)⟩
  | true =>
  simp [bW]
  intro hlen
  have hwl : W.weak.length ≤ 1000 := by have := hRI.sum; omega
  have pW := hA.blk
  refine loopH_ok (ks := [0,2,4,5,6,7,11,12,13,14,31,44,59]) (pl := [(10, [0,1,3,7,0,0,48,112,240,511,1023], (.seg 0 (.seg 1 (.seg 2 (.seg 3 (.seg 4 (.seg 5 (.seg 6 (.seg 7 (.seg 8 (.seg 9 (.seg 10 .last))))))))))))]) (n0 := 62) (α := {x : KmS // KsI s H2 nx2 nW (.at_ true (eState s)) N2 W (allShut s W x.k) x.toAlS ∧ x.k ≤ W.weak.length}) (fun x => [(13, dI x.1.k)]) (fun _ x => x.1.H) (fun x => x.1.nx) (fun x => W.weak.length - x.1.k) ⟨⟨⟨H2, nx2, N2, W⟩, 0⟩, ⟨⟨Nat.le_refl _, sol2, fun _ _ _ _ _ _ => rfl, rfl, .inl rfl, .inl rfl, tl2, kl2⟩, rfl, hA, hRI, fun _ h => h, rfl, rfl, fun _ => ⟨rfl, fun k hk => absurd hk (Nat.not_lt_zero _)⟩⟩, Nat.zero_le _⟩ rfl (by kernel_rfl) (Wk.sub (by simp)) ?_
  rintro ⟨⟨⟨H3, nx3, N3, W3⟩, i⟩, ⟨⟨le3, sol3, low3, E3, T3, K3, tl3, kl3⟩, kk3, A3, R3, mono3, wk3, sum3, shut3⟩, hi⟩
  simp only at le3 sol3 low3 E3 T3 K3 tl3 kl3 kk3 A3 R3 mono3 wk3 sum3 shut3 hi
  by_cases h1 : i < W.weak.length
  case neg =>
    obtain rfl : i = W.weak.length := by omega
    have bW3 := A3.blk
    rw [walkRow] at bW3
    by_cases h2 : W3.todo = []
    · simp [bW3, h2]
      obtain ⟨g1, g2⟩ := shut3 h2
      have hat : ∀ n, W3.at_ n = W.at_ n := fun n => by rw [RW.at_, RW.at_, g1]
      refine ⟨⟨⟨H3, nx3, N3, W3⟩, false⟩, by simp, ⟨WPo.trans ⟨le2, sol2, low2, E2, T2, K2, tl2, kl2⟩ ⟨le3, sol3, low3, E3, T3, K3, tl3, kl3⟩, A3, R3, fun n hn => mono3 n (hmono n hn), h2, fun _ k hk n hn j => ?_⟩, Wk.sub (by simp)⟩
      simp only at hk hn ⊢
      rw [wk3] at hk hn
      have := g2 k hk n hn j
      unfold shut at this ⊢
      simp only [hat]
      exact this
    · have h3 : 0 < W3.todo.length := List.length_pos_iff.2 h2
      simp [bW3, h3]
      intro _
      refine rcAll_ok s hg hs W3 R3 sol3 A3 (fun H4 nx4 N4 W4 po4 A4 R4 mono4 un4 t4 => ?_)
      simp
      exact ⟨⟨⟨H4, nx4, N4, W4⟩, true⟩, by simp only [if_true]; rw [htodo] at sum3; simp only [List.length_nil] at sum3; clear h1 hi; omega, ⟨WPo.trans ⟨le2, sol2, low2, E2, T2, K2, tl2, kl2⟩ (WPo.trans ⟨le3, sol3, low3, E3, T3, K3, tl3, kl3⟩ po4), A4, R4, fun n hn => mono4 n (mono3 n (hmono n hn)), t4, fun e => by cases e⟩, Wk.sub (by simp)⟩
  obtain ⟨n0, n1, n7⟩ := R3.weak W.weak[i] (by rw [wk3]; exact List.getElem_mem h1)
  obtain ⟨m, hme⟩ : ∃ m : Nat, W.weak[i] = (m : Int) := ⟨W.weak[i].toNat, by omega⟩
  rw [hme] at n0 n1 n7
  rw [Int.toNat_natCast] at n1
  have hm : m < s.cells.length := R3.len ▸ RW.at_lt n1
  have hcell : cellAt s m = s.cells[m] := by simp [cellAt, List.getD_eq_getElem?_getD, hm]
  have hmW : W.at_ m = true := by
    have := (hRI.weak W.weak[i] (List.getElem_mem h1)).2.1
    rwa [hme, Int.toNat_natCast] at this
  obtain ⟨hev, hkey⟩ := hg.weak m hm n7
  have hvl := hg.vl m hm
  rw [hcell] at hev hkey n7 hvl
  have bW3 := A3.blk
  have bK3 := A3.weak
  rw [walkRow] at bW3
  rw [kk3, wk3] at bK3
  have t1 : (intRows W.weak)[i]? = some [.d (eI m)] := by rw [intRows, List.getElem?_map, List.getElem?_eq_getElem h1, hme]; rfl
  obtain ⟨t2, t3⟩ := List.getElem?_eq_some_iff.1 t1
  simp [h1, bW3, bK3, t1, t2, t3, hm]
  have hkid : ∀ v ∈ s.cells[m].vals, In s.cells.length v := fun v hv => hg.kid m hm v (by rw [show cellAt s (m : Int) = s.cells[m] from hcell]; exact List.mem_append_left _ hv)
  obtain ⟨vs, hvs⟩ : ∃ vs, vs = s.cells[m].vals := ⟨_, rfl⟩
  rw [← hvs] at hev hkey hkid hvl
  simp only [← hvs]
  refine loopH_ok (ks := [0,2,4,5,6,7,11,12,13,14,31,44,59]) (pl := [(10, [0,1,3,7,0,0,48,112,240,511,1023], (.seg 0 (.seg 1 (.seg 2 (.seg 3 (.seg 4 (.seg 5 (.seg 6 (.seg 7 (.seg 8 (.seg 9 (.seg 10 .last))))))))))))]) (n0 := 62) (α := {x : KmS // KsI s H2 nx2 nW (.at_ true (eState s)) N2 W (allShut s W i ∧ shut s W m (x.k / 2)) x.toAlS ∧ x.k % 2 = 0 ∧ x.k ≤ vs.length}) (fun x => [(6, dI x.1.k)]) (fun _ x => x.1.H) (fun x => x.1.nx) (fun x => vs.length - x.1.k) ⟨⟨⟨H3, nx3, N3, W3⟩, 0⟩, ⟨⟨le3, sol3, low3, E3, T3, K3, tl3, kl3⟩, kk3, A3, R3, mono3, wk3, sum3, fun e => ⟨(shut3 e).1, (shut3 e).2, fun k hk => absurd hk (by simp)⟩⟩, rfl, Nat.zero_le _⟩ rfl (by kernel_rfl) (Wk.sub (by simp)) ?_
  rintro ⟨⟨⟨H3, nx3, N3, W3⟩, q⟩, ⟨⟨le3, sol3, low3, E3, T3, K3, tl3, kl3⟩, kk3, A3, R3, mono3, wk3, sum3, shut3⟩, hq, hql⟩
  simp only at le3 sol3 low3 E3 T3 K3 tl3 kl3 kk3 A3 R3 mono3 wk3 sum3 shut3 hq hql
  have hcv : (cellAt s (m : Int)).vals = vs := by rw [hcell]; exact hvs.symm
  by_cases h2 : q < vs.length
  case neg =>
    obtain rfl : q = vs.length := by omega
    simp
    intro _
    refine ⟨⟨⟨H3, nx3, N3, W3⟩, i + 1⟩, by simp only; omega, ⟨⟨⟨le3, sol3, low3, E3, T3, K3, tl3, kl3⟩, kk3, A3, R3, mono3, wk3, sum3, fun e => ⟨(shut3 e).1, fun k hk n hn j k' hk' hl => ?_⟩⟩, by simp only; omega⟩, Wk.sub (by simp [wrap_add (show i < 9223372036854775807 by omega)])⟩
    have hk : k < i + 1 := hk
    rcases Nat.lt_or_ge k i with hki | hki
    · exact (shut3 e).2.1 k hki n hn j k' hk' hl
    · obtain rfl : k = i := by omega
      rw [List.getElem?_eq_getElem h1, hme, Option.some.injEq] at hn
      subst hn
      have h9 : 2 * k' + 1 < vs.length := by rw [← hcv]; exact hl
      exact (shut3 e).2.2 k' (by omega) hl
  obtain ⟨j, rfl⟩ : ∃ j, q = 2 * j := ⟨q / 2, by omega⟩
  have hj2 : 2 * j / 2 = j := by omega
  rw [hj2] at shut3
  have hl1 : 2 * j + 1 < vs.length := by omega
  have v1 : valAt vs (2 * j) = vs[2 * j] := by simp [valAt, List.getD_eq_getElem?_getD, h2]
  have v2 : valAt vs (2 * j + 1) = vs[2 * j + 1] := by simp [valAt, List.getD_eq_getElem?_getD, hl1]
  have k5 := hkey j h2
  rw [v1] at k5
  obtain ⟨k0, k1⟩ := hkid _ (List.getElem_mem h2) k5
  have hin := hkid _ (List.getElem_mem hl1)
  have hG : Got s vs[2 * j].n.toNat → vs[2 * j + 1].kind = 5 → Got s vs[2 * j + 1].n.toNat := fun g1 g2 => by
    have := Got.key (s := s) (m := m) (k := j) (R3.rch m (mono3 m hmW)) (by rw [hcell]; exact n7) (by rw [hcv]; exact hl1)
    rw [hcv, v1, v2] at this
    exact this g1 g2
  have hnext : ∀ W4 : RW, (W4.todo = [] → W3.todo = [] ∧ W4.seen = W3.seen ∧ (W3.at_ vs[2 * j].n.toNat = true → vs[2 * j + 1].kind = 5 → W3.at_ vs[2 * j + 1].n.toNat = true)) → W4.todo = [] → W4.seen = W.seen ∧ allShut s W i ∧ shut s W m (j + 1) := fun W4 h4 e4 => by
    obtain ⟨a1, a2, a3⟩ := h4 e4
    obtain ⟨b1, b2, b3⟩ := shut3 a1
    have hat : ∀ n, W3.at_ n = W.at_ n := fun n => by rw [RW.at_, RW.at_, b1]
    refine ⟨a2.trans b1, b2, fun k hk hl g1 g2 => ?_⟩
    rcases Nat.lt_or_ge k j with hkj | hkj
    · exact b3 k hkj hl g1 g2
    · obtain rfl : k = j := by omega
      rw [hcv, v1, ← hat] at g1
      rw [hcv, v2] at g2 ⊢
      rw [← hat]
      exact a3 g1 g2
  obtain ⟨key, hke⟩ : ∃ key, key = vs[2 * j] := ⟨_, rfl⟩
  obtain ⟨val, hve⟩ : ∃ val, val = vs[2 * j + 1] := ⟨_, rfl⟩
  have bW3 := A3.blk
  have bE3 := A3.seen
  rw [walkRow] at bW3
  simp only [← hke, ← hve] at k5 k0 k1 hin hG hnext
  obtain ⟨kk, x⟩ := key
  simp only at k5 k0 k1 hG hnext
  subst k5
  obtain ⟨x, rfl⟩ : ∃ x' : Nat, x = x' := ⟨x.toNat, by omega⟩
  simp only [Int.toNat_natCast] at hG hnext
  have hx : x < W3.seen.length := by rw [R3.len]; omega
  have g1 : (boolRows W3.seen)[x]? = some [.d (eB W3.seen[x])] := by rw [boolRows, List.getElem?_map, List.getElem?_eq_getElem hx]; rfl
  have g2 : W3.at_ x = W3.seen[x] := by simp [RW.at_, List.getD_eq_getElem?_getD, hx]
  obtain ⟨g4, g5⟩ := List.getElem?_eq_some_iff.1 g1
  have hvk : vs[2 * j]? = some ⟨5, x⟩ := by rw [List.getElem?_eq_getElem h2, ← hke]
  have hvv : vs[2 * j + 1]? = some val := by rw [List.getElem?_eq_getElem hl1, ← hve]
  obtain ⟨q, hqe⟩ : ∃ q, q = 2 * j := ⟨_, rfl⟩
  have hvk1 : vs[q] = ⟨5, x⟩ := by simp only [hqe]; exact hke.symm
  rw [← hqe] at h2 hl1 hvk hvv hq hql
  simp only [← hqe]
  have hvv1 : vs[q + 1] = val := by simp only [hqe]; exact hve.symm
  have hw1 : IntKind.i64.wrap ((q : Int) + 1) = (q : Int) + 1 := wrap_id (by omega) (by omega)
  have hw2 : IntKind.i64.wrap ((q : Int) + 2) = ((q + 2 : Nat) : Int) := by rw [wrap_id (by omega) (by omega)]; simp
  have hqj : (q + 2) / 2 = j + 1 := by omega
  cases c2 : W3.seen[x] with
  | false =>
    rw [c2] at g5 g1 g2
    simp [h2, hvk1, bW3, bE3, g1, g4, g5, hx]
    intro _
    exact ⟨⟨⟨H3, nx3, N3, W3⟩, q + 2⟩, by simp only; omega, ⟨⟨⟨le3, sol3, low3, E3, T3, K3, tl3, kl3⟩, kk3, A3, R3, mono3, wk3, sum3, by simp only [hqj]; exact hnext W3 fun e => ⟨e, rfl, fun g => by rw [g2] at g; cases g⟩⟩, by simp only; omega, by simp only; omega⟩, Wk.sub (by simp [hw2])⟩
  | true =>
    rw [c2] at g5 g1 g2
    simp [h2, hvk1, bW3, bE3, g1, g4, g5, hx, hw1, hl1, hvv1]
    intro _
    refine ⟨by omega, ?_⟩
    have n1 : nW < nx3 := by omega
    have n2 : N3.e < nx3 := by omega
    have n4 : N3.k < nx3 := by omega
    have sum0 := R3.sum
    refine rcCome1_ok val W3 (xS := .at_ true (eState s)) (N := N3) ?_ ?_ (A3.low ?_ ?_ ?_ ?_) ?_ ?_ ?_ ?_ (by rw [R3.len]; exact hin) (by omega) (fun H6 nx6 N6 n6 sol6 A6 low6 E6 K6 T6 L6 => ?_)
    · exact sol3.set (by simp)
    · simp
    · rw [Hp.set_ne _ _ (by omega)]
    · rw [Hp.set_ne _ _ (by omega)]
    · rw [Hp.set_ne _ _ (by omega)]
    · rw [Hp.set_ne _ _ (by omega)]
    · omega
    · omega
    · omega
    · omega
    simp
    have hRI6 : RI s (comeV W3 val) := R3.come [val] (by simpa using hin) (by simpa using hG ((R3.rch x g2)))
    have hsum6 := comeV_sum (w := W3) (v := val) (by rw [R3.len]; exact hin)
    exact ⟨⟨⟨H6, nx6, N6, comeV W3 val⟩, q + 2⟩, by simp only; omega, ⟨⟨WPo.trans ⟨le3, sol3, low3, E3, T3, K3, tl3, kl3⟩ ⟨by dsimp only; omega, sol6, fun i i0 i1 i2 i3 i4 => by
        dsimp only
        rw [low6 i (by omega) i1 i2 i3 (by omega), Hp.set_ne _ _ (by omega)], E6, by simp only; omega, .inl K6, by simp only; omega, by simp only; omega⟩, K6.trans kk3, A6, hRI6, fun n hn => (comeV_at (w := W3) (v := val) (by rw [R3.len]; exact hin) n).2 (.inl (mono3 n hn)), (comeV_weak W3 val).trans wk3, hsum6.trans sum3, by
          simp only [hqj]
          refine hnext (comeV W3 val) fun e => ?_
          by_cases c5 : val.kind = 5 ∧ W3.at_ val.n.toNat = false
          · rw [comeV, if_pos c5] at e
            simp at e
          · have e6 : comeV W3 val = W3 := by rw [comeV, if_neg c5]
            rw [e6] at e ⊢
            refine ⟨e, rfl, fun _ h5 => ?_⟩
            cases z : W3.at_ val.n.toNat with
            | true => rfl
            | false => exact absurd ⟨h5, z⟩ c5⟩, by simp only; omega, by simp only; omega⟩, Wk.sub (by simp [hw2])⟩
end Go.Proofs.YtnkndnbepdadhaaGreatDoor
