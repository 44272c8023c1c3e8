/- Contracts of Go's library, at the types of this program: how data are spelled, Equal, Contains. -/
import Derived.Test.YtalippdhfkpbmaaDoorEvY
namespace Go.Proofs.YtalippdhfkpbmaaDoor
open Go.RowKit Go
abbrev eI (n : Int) : Dt := .lit (.int .i64 n)
abbrev eB (b : Bool) : Dt := .lit (.bool b)
abbrev eS (s : ByteArray) : Dt := .lit (.string s)
abbrev dI (n : Int) : D := .one (.d (eI n))
abbrev dB (b : Bool) : D := .one (.d (eB b))
abbrev dS (s : ByteArray) : D := .one (.d (eS s))
abbrev dL (S : Bool) (es : List (List Dt)) : D := .one (.d (.sl S es))
theorem kB {K : D → List Blk → Prop} {a b : Bool} (h : K (dB a) []) (e : a = b) : K (dB b) [] := e ▸ h
@[simp] theorem wrap_add {n : Nat} (h : n < 9223372036854775807) : IntKind.i64.wrap ((n : Int) + 1) = ((n + 1 : Nat) : Int) := by rw [wrap_id (by omega) (by omega)]; omega
theorem take_eq_succ {α : Type} {L M : List α} {k : Nat} (h : L.take k = M.take k) (hl : k < L.length) (hm : k < M.length) (e : L[k] = M[k]) : L.take (k + 1) = M.take (k + 1) := by
  rw [List.take_succ_eq_append_getElem hl, List.take_succ_eq_append_getElem hm, h, e]
structure GTry where
  reg : Int
  at_ : Int
def eTry (t : GTry) : List Dt := [eI t.reg, eI t.at_]
attribute [simp] eTry
@[simp] theorem eTry_len (t : GTry) : (eTry t).length = 2 := rfl
instance : DecidableEq GTry := fun a b => decidable_of_iff (a.reg = b.reg ∧ a.at_ = b.at_) (by cases a; cases b; simp)
theorem equalT_ok (S T : Bool) (L M : List GTry) {K : D → List Blk → Prop} (h : K (dB (decide (L = M))) []) : DPure Tryd.prog 21 [dL S (L.map eTry), dL T (M.map eTry)] K := by
  refine fn_ok [0,1,4,5,10,12,13,14,24] [(6, [0,0,3,7,0,0,48,112,255], (.seg 0 (.seg 1 (.seg 2 (.seg 3 (.seg 4 (.seg 5 (.seg 6 (.seg 7 (.seg 8 .last))))))))))] Tryd.func21 rfl (by kernel_rfl) rfl rfl rfl rfl (by kernel_rfl) ?_
  simp
  intro hl hm
  refine alt (fun he => ?_) (fun hne => kB h (by simp; rintro rfl; exact hne rfl))
  have he : L.length = M.length := by omega
  intro _
  refine loop_ok (ks := [0,1,4,5,10,12,13,14,24]) (pl := [(6, [0,0,3,7,0,0,48,112,255], (.seg 0 (.seg 1 (.seg 2 (.seg 3 (.seg 4 (.seg 5 (.seg 6 (.seg 7 (.seg 8 .last))))))))))]) (n0 := 26) (fun x : {k : Nat // k ≤ L.length ∧ L.take k = M.take k} => [(13, dI x.1)]) (fun x => L.length - x.1) ⟨0, by simp⟩ rfl (by kernel_rfl) (Wk.sub (by simp)) ?_
  rintro ⟨k, hk, ht⟩
  by_cases h1 : k < L.length
  · have h2 : k < M.length := by omega
    simp [h1, h2]
    refine alt (fun hne => kB h (by simp; rintro rfl; simp at hne)) (fun hc => ?_); simp at hc; obtain ⟨e1, e2⟩ := hc
    exact ⟨k + 1, by omega, ⟨by omega, take_eq_succ ht h1 h2 (by cases hx : L[k]; cases hy : M[k]; simp_all)⟩, Wk.sub (by simp [wrap_add (show k < 9223372036854775807 by omega)])⟩
  · simp [h1]
    obtain rfl : k = L.length := by omega
    rw [List.take_length, he, List.take_length] at ht
    exact kB h (by simpa using ht)
theorem equalB_ok (S T : Bool) (L M : List Bool) {K : D → List Blk → Prop} (h : K (dB (decide (L = M))) []) : DPure Tryd.prog 51 [dL S (L.map (fun b => [eB b])), dL T (M.map (fun b => [eB b]))] K := by
  refine fn_ok [0,1,4,5,10,12,13,14,24] [(6, [0,0,3,7,0,0,48,112,255], (.seg 0 (.seg 1 (.seg 2 (.seg 3 (.seg 4 (.seg 5 (.seg 6 (.seg 7 (.seg 8 .last))))))))))] Tryd.func51 rfl (by kernel_rfl) rfl rfl rfl rfl (by kernel_rfl) ?_
  simp
  intro hl hm
  refine alt (fun he => ?_) (fun hne => kB h (by simp; rintro rfl; exact hne rfl))
  have he : L.length = M.length := by omega
  intro _
  refine loop_ok (ks := [0,1,4,5,10,12,13,14,24]) (pl := [(6, [0,0,3,7,0,0,48,112,255], (.seg 0 (.seg 1 (.seg 2 (.seg 3 (.seg 4 (.seg 5 (.seg 6 (.seg 7 (.seg 8 .last))))))))))]) (n0 := 26) (fun x : {k : Nat // k ≤ L.length ∧ L.take k = M.take k} => [(13, dI x.1)]) (fun x => L.length - x.1) ⟨0, by simp⟩ rfl (by kernel_rfl) (Wk.sub (by simp)) ?_
  rintro ⟨k, hk, ht⟩
  by_cases h1 : k < L.length
  · have h2 : k < M.length := by omega
    simp [h1, h2]
    refine alt (fun e1 => ?_) (fun hne => kB h (by simp; rintro rfl; simp at hne))
    exact ⟨k + 1, by omega, ⟨by omega, take_eq_succ ht h1 h2 (by exact e1)⟩, Wk.sub (by simp [wrap_add (show k < 9223372036854775807 by omega)])⟩
  · simp [h1]
    obtain rfl : k = L.length := by omega
    rw [List.take_length, he, List.take_length] at ht
    exact kB h (by simpa using ht)
theorem equalS_ok (S T : Bool) (L M : List ByteArray) {K : D → List Blk → Prop} (h : K (dB (decide (L = M))) []) : DPure Tryd.prog 16 [dL S (L.map (fun b => [eS b])), dL T (M.map (fun b => [eS b]))] K := by
  refine fn_ok [0,1,4,5,10,12,13,14,24] [(6, [0,0,3,7,0,0,48,112,255], (.seg 0 (.seg 1 (.seg 2 (.seg 3 (.seg 4 (.seg 5 (.seg 6 (.seg 7 (.seg 8 .last))))))))))] Tryd.func16 rfl (by kernel_rfl) rfl rfl rfl rfl (by kernel_rfl) ?_
  simp
  intro hl hm
  refine alt (fun he => ?_) (fun hne => kB h (by simp; rintro rfl; exact hne rfl))
  have he : L.length = M.length := by omega
  intro _
  refine loop_ok (ks := [0,1,4,5,10,12,13,14,24]) (pl := [(6, [0,0,3,7,0,0,48,112,255], (.seg 0 (.seg 1 (.seg 2 (.seg 3 (.seg 4 (.seg 5 (.seg 6 (.seg 7 (.seg 8 .last))))))))))]) (n0 := 26) (fun x : {k : Nat // k ≤ L.length ∧ L.take k = M.take k} => [(13, dI x.1)]) (fun x => L.length - x.1) ⟨0, by simp⟩ rfl (by kernel_rfl) (Wk.sub (by simp)) ?_
  rintro ⟨k, hk, ht⟩
  by_cases h1 : k < L.length
  · have h2 : k < M.length := by omega
    simp [h1, h2]
    refine alt (fun e1 => ?_) (fun hne => kB h (by simp; rintro rfl; simp at hne))
    exact ⟨k + 1, by omega, ⟨by omega, take_eq_succ ht h1 h2 (by exact e1)⟩, Wk.sub (by simp [wrap_add (show k < 9223372036854775807 by omega)])⟩
  · simp [h1]
    obtain rfl : k = L.length := by omega
    rw [List.take_length, he, List.take_length] at ht
    exact kB h (by simpa using ht)
end Go.Proofs.YtalippdhfkpbmaaDoor
