/- fine, rootShape, shapeLives: what they answer; what With tells is a list of ints. -/
import Derived.Test.YtalippdhfkpbmaaShpI
import Derived.Test.YtalippdhfkpbmaaShpK
import Derived.Test.YtalippdhfkpbmaaShpQ
namespace Go.Proofs.Ytalippdhfkpbmaa
open Go.RowKit
theorem with_in {L M : List Shp} {a n k e : Int} (h : withP L a n = (M, k, e)) (hin : ∀ p ∈ L, InS p) (ha : InI a) (hn : InI n) : ∀ p ∈ M, InS p := by
  by_cases he : e = 0
  · subst he
    obtain ⟨-, -, -, -, -, h4⟩ := with_ok h
    rcases h4 with ⟨-, rfl, -⟩ | ⟨-, -, rfl, -⟩
    · exact hin
    · intro p hp
      rcases List.mem_append.1 hp with hp | hp
      · exact hin p hp
      · rw [List.mem_singleton.1 hp]; exact ⟨ha, hn⟩
  · rw [with_bad h he]; simp
theorem fine2_any (w : World) (b : Nat) (x y : Int) (hb : b < w.heap.size) (c0 : w.cell? ⟨b, 0, none⟩ = some (.int .i64 x)) (c1 : w.cell? ⟨b, 1, none⟩ = some (.int .i64 y)) (hx : x = 0) (hy : y = 0) :
    Calls Try.prog 35 #[.slice (some ⟨b, 0, none⟩) 2 2] w fun e w' => e = .returned (.bool true) ∧ Below w.heap.size w w' := by
  subst hx hy
  go_enter Try.func35, Try.ntmps35
  go_wp2_with fail
  refine wp_loop_rounds 12 ?_
  rw [rounds_succ]
  go_wp2_with fail
  rw [rounds_succ]
  go_wp2_with fail
  rw [rounds_succ]
  go_wp2_with fail
  go_ret
  exact ⟨rfl, (by repeat' (first | exact Below.refl _ _ | (refine Below.via ?_ (by assumption) ?_) | refine Below.setCell ?_ ?_ _ | refine Below.alloc ?_ ?_ _ | refine Below.drew ?_ | omega | (simp; omega) | (simp; done)))⟩
theorem rootShape_any (w : World) :
    Calls Try.prog 34 #[] w fun e w' => ∃ r, e = .returned r ∧ Duos w' r [(-1, -1)] ∧ Below w.heap.size w w' := by
  go_enter Try.func34, Try.ntmps34
  go_wp2
  go_ret
  exact ⟨_, rfl, (OwnDuos.lit w (Nat.le_refl _) (-1) (-1)).lies, (by repeat' (first | exact Below.refl _ _ | (refine Below.via ?_ (by assumption) ?_) | refine Below.setCell ?_ ?_ _ | refine Below.alloc ?_ ?_ _ | refine Below.drew ?_ | omega | (simp; omega) | (simp; done)))⟩
theorem okay_root : okay [((-1 : Int), (-1 : Int))] := ⟨by simp, rfl, fun j h0 h1 => by simp at h1; omega⟩
theorem lives_1 : withP [(-1, -1)] 0 7 = ([(-1, -1), (0, 7)], 1, 0) :=
  with_new (fault_ok (by simp) okay_root) (by omega) (by simp) (by omega) (by decide) (by decide) (by simp)
theorem lives_2 : withP [(-1, -1), (0, 7)] 1 3 = ([(-1, -1), (0, 7), (1, 3)], 2, 0) :=
  with_new (with_grows lives_1).1 (by omega) (by simp) (by omega) (by decide) (by decide) (by simp)
theorem lives_3 : namesQ [(-1, -1), (0, 7), (1, 3)] 2 = [7, 3] := namesQ_in (s := 2) (with_grows lives_2).1 (by simp)
theorem lives_in : ∀ p ∈ [((-1 : Int), (-1 : Int)), (0, 7), (1, 3)], InS p := by
  intro p hp
  simp only [List.mem_cons, List.not_mem_nil, or_false] at hp
  rcases hp with rfl | rfl | rfl <;> exact ⟨⟨by decide, by decide⟩, ⟨by decide, by decide⟩⟩
set_option maxHeartbeats 1000000 in
theorem shapeLives_any (w : World) :
    Calls Try.prog 23 #[] w fun e w' => e = .returned (.bool true) ∧ Below w.heap.size w w' := by
  have h1 := fun (w : World) (v : Value) (h : Duos w v [(-1, -1)]) => with_any w v _ 0 7 h (fun p hp => lives_in p (by simp at hp ⊢; exact .inl hp)) ⟨by decide, by decide⟩
  have h2 := fun (w : World) (v : Value) (h : Duos w v [(-1, -1), (0, 7)]) => with_any w v _ 1 3 h (fun p hp => lives_in p (by simp at hp ⊢; rcases hp with h | h; exact .inl h; exact .inr (.inl h))) ⟨by decide, by decide⟩
  have h3 := fun (w : World) (v : Value) (h : Duos w v [(-1, -1), (0, 7), (1, 3)]) => slot_any w v _ 2 3 h lives_in
  have h4 := fun (w : World) (v : Value) (h : Duos w v [(-1, -1), (0, 7), (1, 3)]) => names_all w v _ 2 h lives_in
  rw [lives_1] at h1
  rw [lives_2] at h2
  rw [lives_3] at h3 h4
  simp only at h1 h2
  rw [if_pos (by decide), show idx [(7 : Int), 3] 3 = 1 from by decide, decide_eq_true (by decide)] at h3
  go_enter Try.func23, Try.ntmps23
  go_wp2_with fail
  refine (rootShape_any _).mono ?_; rintro e w1 ⟨v1, rfl, hd1, hb1⟩; obtain ⟨hc1, hf1⟩ := bcell hb1
  have hq1 := hb1.size; (try simp at hq1)
  clear hc1 hf1
  go_wp2_with fail
  refine (h1 _ _ hd1).mono ?_; rintro e w2 ⟨v2, rfl, hd2, hb2⟩; obtain ⟨hc2, hf2⟩ := bcell hb2
  have hq2 := hb2.size; (try simp at hq2)
  clear hc2 hf2
  go_wp2_with fail
  refine (h2 _ _ hd2).mono ?_; rintro e w3 ⟨v3, rfl, hd3, hb3⟩; obtain ⟨hc3, hf3⟩ := bcell hb3
  have hq3 := hb3.size; (try simp at hq3)
  clear hc3 hf3
  go_wp2_with fail
  refine (h3 _ _ hd3).mono ?_; rintro e w4 ⟨rfl, hb4⟩; obtain ⟨hc4, hf4⟩ := bcell hb4
  have hq4 := hb4.size; (try simp at hq4)
  clear hc4 hf4
  go_wp2_with fail
  refine (fine2_any _ _ _ _ (by simp) (by simp [go_sem, *]) (by simp [go_sem, *]) rfl rfl).mono ?_; rintro e w5 ⟨rfl, hb5⟩; obtain ⟨hc5, hf5⟩ := bcell hb5
  have hq5 := hb5.size; (try simp at hq5)
  clear hc5 hf5
  go_wp2_with fail
  refine (h4 _ _ (hd3.keep (B := w3.heap.size) (by repeat' (first | exact Below.refl _ _ | (refine Below.via ?_ (by assumption) ?_) | refine Below.setCell ?_ ?_ _ | refine Below.alloc ?_ ?_ _ | refine Below.drew ?_ | omega | (simp; omega) | (simp; done))) (Nat.le_refl _))).mono ?_; rintro e w6 ⟨v6, rfl, ho6, hb6⟩; obtain ⟨hc6, hf6⟩ := bcell hb6
  have hq6 := hb6.size; (try simp at hq6)
  clear hc6 hf6
  go_wp2_with fail
  refine (equalI_any _ _ _ [7, 3] [7, 3] (ho6.lies.keep (B := w6.heap.size) (by repeat' (first | exact Below.refl _ _ | (refine Below.via ?_ (by assumption) ?_) | refine Below.setCell ?_ ?_ _ | refine Below.alloc ?_ ?_ _ | refine Below.drew ?_ | omega | (simp; omega) | (simp; done))) (Nat.le_refl _)) (OwnInts.lit2 _ (Nat.le_refl _) 7 3).lies).mono ?_; rintro e w7 ⟨rfl, hb7⟩; obtain ⟨hc7, hf7⟩ := bcell hb7
  have hq7 := hb7.size; (try simp at hq7)
  clear hc7 hf7
  go_wp2_with fail
  go_ret
  exact ⟨by simp, (by repeat' (first | exact Below.refl _ _ | (refine Below.via ?_ (by assumption) ?_) | refine Below.setCell ?_ ?_ _ | refine Below.alloc ?_ ?_ _ | refine Below.drew ?_ | omega | (simp; omega) | (simp; done)))⟩
end Go.Proofs.Ytalippdhfkpbmaa
