/- append onto a row of the call's own, whatever slice the new ones come from. -/
import Derived.Test.YtalippdhfkpbmaaSl
import Derived.Test.YtalippdhfkpbmaaChecked
import Derived.BigFrame
namespace Go.Proofs.Ytalippdhfkpbmaa
open Go.RowKit
@[go_sem] theorem run_eql_slice_nil' {P : Program} (w : World) (t e : TypeId) (a : Option Addr) (l c : Nat) (h : P.underlying t = some (.slice e)) : (binOp .eql t (.slice a l c) (.slice none 0 0)).run P w = .ok (.bool a.isNone) w := by
  simp [binOp, run_equal_slice_nil w t e a l c h]
theorem own_ge {w : World} {base : Nat} {e : TypeId} {k : Nat} {v : Value} {n : Nat} {xs : List Value} (h : w.ownsRow base e k v n xs) : ∀ j, v.ownBlock = some j → base ≤ j := fun j hj => (h.lt j hj).1
theorem wpList_app {P : Program} {w : World} {ops : Array Oper} {rest : List Oper} {o : Oper} {a : Act} {Q : Exit → Act → World → Prop} (hg : Region.wanted o (yielded ops a.tmps) = true) (s x : Operand) (t : TypeId)
    (ho : o.op = .call { callee := .builtin .append, args := #[s, x], argTypes := #[t, t] })
    {base : Nat} {e : TypeId} {z : Value} {size bytes : Nat} (ht : P.underlying t = some (.slice e)) (hi : (P.info? e).map (fun i => (i.zero, i.size, i.bytes)) = some (some z, size, bytes))
    (hzs : z.cells.size = size) (hsz : 0 < size) (hby : bytes ≤ 1024)
    {v : Value} {n : Nat} {xs : List Value} (hs : a.eval s = v) (hown : w.ownsRow base e size v n xs)
    {u : Value} {m : Nat} {news : List Value} (hx : a.eval x = u) (hl : Lies w u m size news) (h1 : ∀ y ∈ news, y.oneCell' = true)
    (hbig : n + m ≤ 100000000000) (hbase : base ≤ w.heap.size)
    (hK : ∀ v' w', w'.ownsRow base e size v' (n + m) (xs ++ news) → Below base w w' → w.grownBy w' v.ownBlock → wpList P ops Q rest (a.put o.dst v') w') : wpList P ops Q (o :: rest) a w := by
  obtain ⟨i, hi, hz0, hz1, hz2⟩ := info_parts hi
  obtain ⟨A, cap, rfl, hcap, hmx, hlen, hA0, hA⟩ := hl
  have hb47 : (n + m) * bytes ≤ 140737488355328 := Nat.le_trans (Nat.mul_le_mul hbig hby) (by omega)
  cases A with
  | none =>
    obtain ⟨rfl, rfl⟩ := hA0 rfl
    obtain rfl : news = [] := List.eq_nil_of_length_eq_zero (by simpa using hlen)
    refine BigFrame.wpList_want hg fun K hK' => ?_
    have hrun := run_append_owned_none (P := P) (w := w) base t o.type e i size ht hi v n xs hown
    unfold Oper.wp
    simp [execOp, ho, resolve, invoke, builtin, hs, hx, hrun, Result.andThen]
    exact hK' _ _ (hK v w (by simpa using hown) (Below.refl _ _) (World.grownBy.refl _ _))
  | some ad =>
    refine BigFrame.wpList_want hg fun K hK' => wp_append_own w s x t ho base e i z size bytes ht hi hz0 hz1 hz2 hzs hsz v n xs hs hown ad m cap news hx hlen ?_ h1 (by simp only [maxLen]; omega) hb47 hbase ?_
    · intro j y hy
      have hm : 0 < m := by
        rcases Nat.eq_zero_or_pos m with h0 | h0
        · subst h0; have : news = [] := List.eq_nil_of_length_eq_zero (by simpa using hlen)
          subst this; simp at hy
        · exact h0
      obtain ⟨b, o, he, -, hc⟩ := hA hm
      obtain rfl := Option.some.inj he
      rw [Addr.add_lit]
      exact hc j y hy
    · intro v' w' hown' hgr _
      exact hK' _ _ (hK v' w' hown' ((Below.refl base w).grown hgr hbase (own_ge hown)) hgr)
theorem ints_one (L : List Int) : ∀ y ∈ ints L, y.oneCell' = true := by
  intro y hy
  obtain ⟨x, _, rfl⟩ := List.mem_map.1 hy
  rfl
theorem duos_one : ∀ (L : List (Int × Int)), ∀ y ∈ duos L, y.oneCell' = true
  | [], y, hy => by simp [duos] at hy
  | p :: L, y, hy => by
    simp only [duos, List.mem_cons] at hy
    rcases hy with rfl | rfl | hy
    · rfl
    · rfl
    · exact duos_one L y hy
theorem ints_join (L M : List Int) : ints L ++ ints M = ints (L ++ M) := by simp [ints]
/-- A row of whole numbers of the call's own. -/
def OwnInts (w : World) (base : Nat) (v : Value) (L : List Int) : Prop := w.ownsRow base 3 1 v L.length (ints L)
/-- A row of shapes of the call's own. -/
def OwnDuos (w : World) (base : Nat) (v : Value) (L : List (Int × Int)) : Prop := w.ownsRow base 29 2 v L.length (duos L)
theorem OwnInts.lies {w : World} {base : Nat} {v : Value} {L : List Int} (h : OwnInts w base v L) : Ints w v L := Lies.owned h
theorem OwnDuos.lies {w : World} {base : Nat} {v : Value} {L : List (Int × Int)} (h : OwnDuos w base v L) : Duos w v L := Lies.owned h
theorem OwnInts.keep {w w' : World} {base : Nat} {v : Value} {L : List Int} (h : OwnInts w base v L) (hb : Below w.heap.size w w') : OwnInts w' base v L := owns_keep h hb
theorem OwnDuos.keep {w w' : World} {base : Nat} {v : Value} {L : List (Int × Int)} (h : OwnDuos w base v L) (hb : Below w.heap.size w w') : OwnDuos w' base v L := owns_keep h hb
theorem OwnInts.form {w : World} {base : Nat} {v : Value} {L : List Int} (h : OwnInts w base v L) : ∃ A cap, v = .slice A L.length cap := by
  obtain ⟨A, cap, hv, -⟩ := h.lies.open
  exact ⟨A, cap, hv⟩
theorem OwnDuos.form {w : World} {base : Nat} {v : Value} {L : List (Int × Int)} (h : OwnDuos w base v L) : ∃ A cap, v = .slice A L.length cap := by
  obtain ⟨A, cap, hv, -⟩ := h.lies.open
  exact ⟨A, cap, hv⟩
theorem OwnInts.nil (w : World) (base : Nat) : OwnInts w base (.slice none 0 0) [] := World.ownsRow_nil _ _ _ _
theorem OwnDuos.nil (w : World) (base : Nat) : OwnDuos w base (.slice none 0 0) [] := World.ownsRow_nil _ _ _ _
theorem OwnInts.alloc {w : World} {base : Nat} {v : Value} {L : List Int} (h : OwnInts w base v L) (o : Obj) : OwnInts (w.alloc o) base v L := World.ownsRow.alloc h o
theorem OwnDuos.alloc {w : World} {base : Nat} {v : Value} {L : List (Int × Int)} (h : OwnDuos w base v L) (o : Obj) : OwnDuos (w.alloc o) base v L := World.ownsRow.alloc h o
theorem OwnInts.down {w : World} {base base' : Nat} {v : Value} {L : List Int} (h : OwnInts w base v L) (hb : base' ≤ base) : OwnInts w base' v L := owns_base h hb
theorem OwnDuos.down {w : World} {base base' : Nat} {v : Value} {L : List (Int × Int)} (h : OwnDuos w base v L) (hb : base' ≤ base) : OwnDuos w base' v L := owns_base h hb
/-- a slice built in place -/
theorem OwnInts.lit (w : World) {base : Nat} (hb : base ≤ w.heap.size) (x : Int) : OwnInts (w.alloc (.cells #[.int .i64 x] 3)) base (.slice (some ⟨w.heap.size, 0, none⟩) 1 1) [x] := World.ownsRow_lit w #[.int .i64 x] 1 hb (by simp [maxLen]) rfl
theorem OwnInts.lit2 (w : World) {base : Nat} (hb : base ≤ w.heap.size) (x y : Int) : OwnInts (w.alloc (.cells #[.int .i64 x, .int .i64 y] 3)) base (.slice (some ⟨w.heap.size, 0, none⟩) 2 2) [x, y] := World.ownsRow_lit w #[.int .i64 x, .int .i64 y] 2 hb (by simp [maxLen]) rfl
theorem OwnDuos.lit (w : World) {base : Nat} (hb : base ≤ w.heap.size) (x y : Int) : OwnDuos (w.alloc (.cells #[.int .i64 x, .int .i64 y] 29)) base (.slice (some ⟨w.heap.size, 0, none⟩) 1 1) [(x, y)] := World.ownsRow_lit w #[.int .i64 x, .int .i64 y] 1 hb (by simp [maxLen]) rfl
theorem OwnDuos.lit0 (w : World) {base : Nat} (hb : base ≤ w.heap.size) : OwnDuos (w.alloc (.cells #[] 29)) base (.slice (some ⟨w.heap.size, 0, none⟩) 0 0) [] := World.ownsRow_lit w #[] 0 hb (by simp [maxLen]) rfl
theorem info_int : (Try.prog.info? 3).map (fun i => (i.zero, i.size, i.bytes)) = some (some (.int .i64 0), 1, 8) := by kernel_rfl
theorem info_shape : (Try.prog.info? 29).map (fun i => (i.zero, i.size, i.bytes)) = some (some (.agg #[.int .i64 0, .int .i64 0]), 2, 16) := by kernel_rfl
theorem wpList_app_ints {w : World} {ops : Array Oper} {rest : List Oper} {o : Oper} {a : Act} {Q : Exit → Act → World → Prop} (hg : Region.wanted o (yielded ops a.tmps) = true) (s x : Operand)
    (ho : o.op = .call { callee := .builtin .append, args := #[s, x], argTypes := #[30, 30] })
    {base : Nat} {v : Value} {L : List Int} (hs : a.eval s = v) (hown : OwnInts w base v L) {u : Value} {M : List Int} (hx : a.eval x = u) (hl : Ints w u M) (hbig : L.length + M.length ≤ 100000000000) (hbase : base ≤ w.heap.size)
    (hK : ∀ v' w', OwnInts w' base v' (L ++ M) → Below base w w' → w.grownBy w' v.ownBlock → wpList Try.prog ops Q rest (a.put o.dst v') w') : wpList Try.prog ops Q (o :: rest) a w :=
  wpList_app hg s x 30 ho (by kernel_rfl) info_int rfl (by omega) (by omega) hs hown hx hl (ints_one M) hbig hbase (fun v' w' h1 h2 h3 => hK v' w' (by rw [ints_join, ← List.length_append] at h1; exact h1) h2 h3)
theorem wpList_app_duos {w : World} {ops : Array Oper} {rest : List Oper} {o : Oper} {a : Act} {Q : Exit → Act → World → Prop} (hg : Region.wanted o (yielded ops a.tmps) = true) (s x : Operand)
    (ho : o.op = .call { callee := .builtin .append, args := #[s, x], argTypes := #[22, 22] })
    {base : Nat} {v : Value} {L : List (Int × Int)} (hs : a.eval s = v) (hown : OwnDuos w base v L) {u : Value} {M : List (Int × Int)} (hx : a.eval x = u) (hl : Duos w u M) (hbig : L.length + M.length ≤ 100000000000) (hbase : base ≤ w.heap.size)
    (hK : ∀ v' w', OwnDuos w' base v' (L ++ M) → Below base w w' → w.grownBy w' v.ownBlock → wpList Try.prog ops Q rest (a.put o.dst v') w') : wpList Try.prog ops Q (o :: rest) a w :=
  wpList_app hg s x 22 ho (by kernel_rfl) info_shape rfl (by omega) (by omega) hs hown hx hl (duos_one M) hbig hbase (fun v' w' h1 h2 h3 => hK v' w' (by rw [duos_app, ← List.length_append] at h1; exact h1) h2 h3)
end Go.Proofs.Ytalippdhfkpbmaa
