/- Several texts in one. -/
import Derived.Test.YtjbkinmdcaegcaaGreatDoorMg
import Derived.Test.YtjbkinmdcaegcaaGreatDoorMq
set_option linter.unusedSimpArgs false
set_option linter.unusedVariables false
set_option maxRecDepth 100000
set_option maxHeartbeats 16000000
namespace Go.Proofs.YtjbkinmdcaegcaaGreatDoor
open Go.RowKit Go
def uwP : GProg := smallP [⟨30, 1, 2, 0, 0⟩, ⟨31, 0, 0, 0, 0⟩, ⟨28, 0, 0, 0, 0⟩]
theorem uwP_ok : checkQ wordsT uwP = 0 := by kernel_rfl
theorem uw_start : stateQ wordsT uwP (startS uwP) = 0 := start_ok uwP_ok
def uwF (at_ : Int) (ts : List GTry) : GFrame := ⟨0, at_, -1, -1, ⟨5, 0⟩, List.replicate 3 nilV, ts⟩
def uwS2 : GState := ⟨(startS uwP).cells, (startS uwP).shapes, (startS uwP).texts, [⟨[uwF 1 [⟨1, 2⟩]], 0, 0, nilV⟩], [], [], 0, 0⟩
theorem uw_s2 : stateQ wordsT uwP uwS2 = 0 := by
  have h1 : cellsQ wordsT uwS2 = 0 := start_heap uwP_ok
  have h2 : stateB uwP uwS2 = true := by kernel_rfl
  unfold stateQ
  rw [if_neg (by rw [uwP_ok]; simp), if_neg (by rw [h1]; simp), if_neg (by simp [stateLarge, uwS2, uwF]), if_pos h2]
def uwV : GVal := ⟨2, 5⟩
theorem uw_e1 : throwE uwP (startS uwP) 0 uwV = 0 := by
  unfold throwE
  rw [if_neg (by rw [uw_start]; simp)]
  rfl
theorem uw_e2 : throwE uwP uwS2 0 uwV = 0 := by
  unfold throwE
  rw [if_neg (by rw [uw_s2]; simp)]
  rfl
theorem uw_t1 : (throwS (startS uwP) 0 uwV).threads = [⟨[], 4, 0, uwV⟩] := rfl
theorem uw_t2 : (throwS uwS2 0 uwV).threads = [⟨[⟨0, 2, -1, -1, ⟨5, 0⟩, [nilV, uwV, nilV], []⟩], 0, 0, nilV⟩] := rfl
structure StartAt (H : Hp) (p : GProg) (a b c d e g : Nat) : Prop where
  ha : H a = some ⟨.c 48, 4, [[.d (eI 4), .d (eI 0), .d .emp, .d .emp]]⟩
  hb : H b = some ⟨.c 99, 2, [[.d (eI (-1)), .d (eI (-1))]]⟩
  hc : H c = some ⟨.c 9, 1, p.texts.map fun t => [.d (eS t)]⟩
  hd : H d = some ⟨.c 56, 5, [[.own e 8 1, .d (eI 0), .d (eI 0), .d (eI 0), .d (eI 0)]]⟩
  he : H e = some ⟨.c 61, 8, [[.d (eI 0), .d (eI 0), .d (eI (-1)), .d (eI (-1)), .d (eI 5), .d (eI 0), .own g 2 (fnAt p 0).regs.toNat, .d .emp]]⟩
  hg : H g = some ⟨.c 50, 2, List.replicate (fnAt p 0).regs.toNat [.d (eI 0), .d (eI 0)]⟩
def startRow (p : GProg) (a b c d : Nat) : List C := [.own a 4 1, .own b 2 1, .own c 1 p.texts.length, .own d 5 1, .d .emp, .d .emp, .d (eI 0), .d (eI 0)]
theorem startD_ic (p : GProg) (hp : okP p) (c1 : checkQ wordsT p = 0) {H : Hp} (hS : HSol H) {K : D → Hp → Nat → Prop} (h : ∀ H' nx' a b c d e g, 2 ≤ nx' → (∀ i, i < 2 → H' i = H i) → (∀ i, nx' ≤ i → H' i = none) → HSol H' → (2 ≤ a ∧ a < nx') → (2 ≤ b ∧ b < nx') → (2 ≤ c ∧ c < nx') → (2 ≤ d ∧ d < nx') → (2 ≤ e ∧ e < nx') → (2 ≤ g ∧ g < nx') → (a ≠ e ∧ b ≠ e ∧ c ≠ e ∧ d ≠ e ∧ g ≠ e) → StartAt H' p a b c d e g → K (.tup [.agg (startRow p a b c d), dI 0]) H' nx') :
    ICall Tryz.prog 15 [aD (eProg p)] H 2 K := by
  refine ICall.fresh (by kernel_rfl) fun hfr => ?_
  have fin : ∀ (H' : Hp) (nx' a b c d e g : Nat), (∀ i, i < 2 → H' i = H i) → (∀ i, nx' ≤ i → H' i = none) → HSol H' → StartAt H' p a b c d e g → (2 ≤ nx') → (2 ≤ a ∧ a < nx') → (2 ≤ b ∧ b < nx') → (2 ≤ c ∧ c < nx') → (2 ≤ d ∧ d < nx') → (2 ≤ e ∧ e < nx') → (2 ≤ g ∧ g < nx') → (a ≠ e ∧ b ≠ e ∧ c ≠ e ∧ d ≠ e ∧ g ≠ e) → K (.tup [.agg (startRow p a b c d), dI 0]) H' nx' := fun H' nx' a b c d e g h1 hh h2 h3 h4 h5 h6 h7 h8 h9 h10 h11 => h H' nx' a b c d e g h4 h1 hh h2 h5 h6 h7 h8 h9 h10 h11 h3
  refine fnwi_ok [0,1,2,3,4,5,9] [(5, [0,1,0,4,0,16,48,0,128,384,896,2047,4095,8191], (.seg 0 (.seg 2 (.seg 4 (.seg 5 (.seg 7 (.fork 1 [2, 4, 5, 7] (.fork 3 [0, 4, 5, 7] (.fork 6 [0, 2, 7] (.eff 8 [0, 2, 4, 5] (.seg 9 (.eff 10 [0, 2, 4, 5] (.seg 11 (.eff 12 [] (.seg 13 .last)))))) (.eff 8 [0, 2, 4, 5] (.seg 9 (.fork 6 [0, 2, 7, 9] (.eff 10 [0, 2, 4, 5] (.seg 11 (.eff 12 [] (.seg 13 .last)))) (.eff 10 [0, 2, 4, 5] (.eff 6 [0, 2, 7, 9] (.seg 11 (.eff 12 [] (.seg 13 .last))))))))) (.fork 6 [0, 2, 7] (.fork 3 [0, 4, 5, 7] (.eff 8 [0, 2, 4, 5] (.seg 9 (.eff 10 [0, 2, 4, 5] (.seg 11 (.eff 12 [] (.seg 13 .last)))))) (.eff 8 [0, 2, 4, 5] (.seg 9 (.fork 3 [0, 4, 5, 7, 9] (.eff 10 [0, 2, 4, 5] (.seg 11 (.eff 12 [] (.seg 13 .last)))) (.eff 10 [0, 2, 4, 5] (.eff 3 [0, 4, 5, 7, 9] (.seg 11 (.eff 12 [] (.seg 13 .last))))))))) (.eff 8 [0, 2, 4, 5] (.seg 9 (.fork 3 [0, 4, 5, 7, 9] (.fork 6 [0, 2, 7, 9] (.eff 10 [0, 2, 4, 5] (.seg 11 (.eff 12 [] (.seg 13 .last)))) (.eff 10 [0, 2, 4, 5] (.eff 6 [0, 2, 7, 9] (.seg 11 (.eff 12 [] (.seg 13 .last)))))) (.fork 6 [0, 2, 7, 9] (.fork 3 [0, 4, 5, 7, 9] (.eff 10 [0, 2, 4, 5] (.seg 11 (.eff 12 [] (.seg 13 .last)))) (.eff 10 [0, 2, 4, 5] (.eff 3 [0, 4, 5, 7, 9] (.seg 11 (.eff 12 [] (.seg 13 .last)))))) (.eff 10 [0, 2, 4, 5] (.fork 3 [0, 4, 5, 7, 9] (.eff 6 [0, 2, 7, 9] (.seg 11 (.eff 12 [] (.seg 13 .last)))) (.eff 6 [0, 2, 7, 9] (.eff 3 [0, 4, 5, 7, 9] (.seg 11 (.eff 12 [] (.seg 13 .last))))))))))))) (.fork 3 [0, 4, 5, 7] (.fork 1 [2, 4, 5, 7] (.fork 6 [0, 2, 7] (.eff 8 [0, 2, 4, 5] (.seg 9 (.eff 10 [0, 2, 4, 5] (.seg 11 (.eff 12 [] (.seg 13 .last)))))) (.eff 8 [0, 2, 4, 5] (.seg 9 (.fork 6 [0, 2, 7, 9] (.eff 10 [0, 2, 4, 5] (.seg 11 (.eff 12 [] (.seg 13 .last)))) (.eff 10 [0, 2, 4, 5] (.eff 6 [0, 2, 7, 9] (.seg 11 (.eff 12 [] (.seg 13 .last))))))))) (.fork 6 [0, 2, 7] (.fork 1 [2, 4, 5, 7] (.eff 8 [0, 2, 4, 5] (.seg 9 (.eff 10 [0, 2, 4, 5] (.seg 11 (.eff 12 [] (.seg 13 .last)))))) (.eff 8 [0, 2, 4, 5] (.seg 9 (.fork 1 [2, 4, 5, 7, 9] (.eff 10 [0, 2, 4, 5] (.seg 11 (.eff 12 [] (.seg 13 .last)))) (.eff 10 [0, 2, 4, 5] (.eff 1 [2, 4, 5, 7, 9] (.seg 11 (.eff 12 [] (.seg 13 .last))))))))) (.eff 8 [0, 2, 4, 5] (.seg 9 (.fork 1 [2, 4, 5, 7, 9] (.fork 6 [0, 2, 7, 9] (.eff 10 [0, 2, 4, 5] (.seg 11 (.eff 12 [] (.seg 13 .last)))) (.eff 10 [0, 2, 4, 5] (.eff 6 [0, 2, 7, 9] (.seg 11 (.eff 12 [] (.seg 13 .last)))))) (.fork 6 [0, 2, 7, 9] (.fork 1 [2, 4, 5, 7, 9] (.eff 10 [0, 2, 4, 5] (.seg 11 (.eff 12 [] (.seg 13 .last)))) (.eff 10 [0, 2, 4, 5] (.eff 1 [2, 4, 5, 7, 9] (.seg 11 (.eff 12 [] (.seg 13 .last)))))) (.eff 10 [0, 2, 4, 5] (.fork 1 [2, 4, 5, 7, 9] (.eff 6 [0, 2, 7, 9] (.seg 11 (.eff 12 [] (.seg 13 .last)))) (.eff 6 [0, 2, 7, 9] (.eff 1 [2, 4, 5, 7, 9] (.seg 11 (.eff 12 [] (.seg 13 .last))))))))))))) (.fork 6 [0, 2, 7] (.fork 1 [2, 4, 5, 7] (.fork 3 [0, 4, 5, 7] (.eff 8 [0, 2, 4, 5] (.seg 9 (.eff 10 [0, 2, 4, 5] (.seg 11 (.eff 12 [] (.seg 13 .last)))))) (.eff 8 [0, 2, 4, 5] (.seg 9 (.fork 3 [0, 4, 5, 7, 9] (.eff 10 [0, 2, 4, 5] (.seg 11 (.eff 12 [] (.seg 13 .last)))) (.eff 10 [0, 2, 4, 5] (.eff 3 [0, 4, 5, 7, 9] (.seg 11 (.eff 12 [] (.seg 13 .last))))))))) (.fork 3 [0, 4, 5, 7] (.fork 1 [2, 4, 5, 7] (.eff 8 [0, 2, 4, 5] (.seg 9 (.eff 10 [0, 2, 4, 5] (.seg 11 (.eff 12 [] (.seg 13 .last)))))) (.eff 8 [0, 2, 4, 5] (.seg 9 (.fork 1 [2, 4, 5, 7, 9] (.eff 10 [0, 2, 4, 5] (.seg 11 (.eff 12 [] (.seg 13 .last)))) (.eff 10 [0, 2, 4, 5] (.eff 1 [2, 4, 5, 7, 9] (.seg 11 (.eff 12 [] (.seg 13 .last))))))))) (.eff 8 [0, 2, 4, 5] (.seg 9 (.fork 1 [2, 4, 5, 7, 9] (.fork 3 [0, 4, 5, 7, 9] (.eff 10 [0, 2, 4, 5] (.seg 11 (.eff 12 [] (.seg 13 .last)))) (.eff 10 [0, 2, 4, 5] (.eff 3 [0, 4, 5, 7, 9] (.seg 11 (.eff 12 [] (.seg 13 .last)))))) (.fork 3 [0, 4, 5, 7, 9] (.fork 1 [2, 4, 5, 7, 9] (.eff 10 [0, 2, 4, 5] (.seg 11 (.eff 12 [] (.seg 13 .last)))) (.eff 10 [0, 2, 4, 5] (.eff 1 [2, 4, 5, 7, 9] (.seg 11 (.eff 12 [] (.seg 13 .last)))))) (.eff 10 [0, 2, 4, 5] (.fork 1 [2, 4, 5, 7, 9] (.eff 3 [0, 4, 5, 7, 9] (.seg 11 (.eff 12 [] (.seg 13 .last)))) (.eff 3 [0, 4, 5, 7, 9] (.eff 1 [2, 4, 5, 7, 9] (.seg 11 (.eff 12 [] (.seg 13 .last))))))))))))) (.eff 8 [0, 2, 4, 5] (.seg 9 (.fork 1 [2, 4, 5, 7, 9] (.fork 3 [0, 4, 5, 7, 9] (.fork 6 [0, 2, 7, 9] (.eff 10 [0, 2, 4, 5] (.seg 11 (.eff 12 [] (.seg 13 .last)))) (.eff 10 [0, 2, 4, 5] (.eff 6 [0, 2, 7, 9] (.seg 11 (.eff 12 [] (.seg 13 .last)))))) (.fork 6 [0, 2, 7, 9] (.fork 3 [0, 4, 5, 7, 9] (.eff 10 [0, 2, 4, 5] (.seg 11 (.eff 12 [] (.seg 13 .last)))) (.eff 10 [0, 2, 4, 5] (.eff 3 [0, 4, 5, 7, 9] (.seg 11 (.eff 12 [] (.seg 13 .last)))))) (.eff 10 [0, 2, 4, 5] (.fork 3 [0, 4, 5, 7, 9] (.eff 6 [0, 2, 7, 9] (.seg 11 (.eff 12 [] (.seg 13 .last)))) (.eff 6 [0, 2, 7, 9] (.eff 3 [0, 4, 5, 7, 9] (.seg 11 (.eff 12 [] (.seg 13 .last))))))))) (.fork 3 [0, 4, 5, 7, 9] (.fork 1 [2, 4, 5, 7, 9] (.fork 6 [0, 2, 7, 9] (.eff 10 [0, 2, 4, 5] (.seg 11 (.eff 12 [] (.seg 13 .last)))) (.eff 10 [0, 2, 4, 5] (.eff 6 [0, 2, 7, 9] (.seg 11 (.eff 12 [] (.seg 13 .last)))))) (.fork 6 [0, 2, 7, 9] (.fork 1 [2, 4, 5, 7, 9] (.eff 10 [0, 2, 4, 5] (.seg 11 (.eff 12 [] (.seg 13 .last)))) (.eff 10 [0, 2, 4, 5] (.eff 1 [2, 4, 5, 7, 9] (.seg 11 (.eff 12 [] (.seg 13 .last)))))) (.eff 10 [0, 2, 4, 5] (.fork 1 [2, 4, 5, 7, 9] (.eff 6 [0, 2, 7, 9] (.seg 11 (.eff 12 [] (.seg 13 .last)))) (.eff 6 [0, 2, 7, 9] (.eff 1 [2, 4, 5, 7, 9] (.seg 11 (.eff 12 [] (.seg 13 .last))))))))) (.fork 6 [0, 2, 7, 9] (.fork 1 [2, 4, 5, 7, 9] (.fork 3 [0, 4, 5, 7, 9] (.eff 10 [0, 2, 4, 5] (.seg 11 (.eff 12 [] (.seg 13 .last)))) (.eff 10 [0, 2, 4, 5] (.eff 3 [0, 4, 5, 7, 9] (.seg 11 (.eff 12 [] (.seg 13 .last)))))) (.fork 3 [0, 4, 5, 7, 9] (.fork 1 [2, 4, 5, 7, 9] (.eff 10 [0, 2, 4, 5] (.seg 11 (.eff 12 [] (.seg 13 .last)))) (.eff 10 [0, 2, 4, 5] (.eff 1 [2, 4, 5, 7, 9] (.seg 11 (.eff 12 [] (.seg 13 .last)))))) (.eff 10 [0, 2, 4, 5] (.fork 1 [2, 4, 5, 7, 9] (.eff 3 [0, 4, 5, 7, 9] (.seg 11 (.eff 12 [] (.seg 13 .last)))) (.eff 3 [0, 4, 5, 7, 9] (.eff 1 [2, 4, 5, 7, 9] (.seg 11 (.eff 12 [] (.seg 13 .last))))))))) (.eff 10 [0, 2, 4, 5] (.fork 1 [2, 4, 5, 7, 9] (.fork 3 [0, 4, 5, 7, 9] (.eff 6 [0, 2, 7, 9] (.seg 11 (.eff 12 [] (.seg 13 .last)))) (.eff 6 [0, 2, 7, 9] (.eff 3 [0, 4, 5, 7, 9] (.seg 11 (.eff 12 [] (.seg 13 .last)))))) (.fork 3 [0, 4, 5, 7, 9] (.fork 1 [2, 4, 5, 7, 9] (.eff 6 [0, 2, 7, 9] (.seg 11 (.eff 12 [] (.seg 13 .last)))) (.eff 6 [0, 2, 7, 9] (.eff 1 [2, 4, 5, 7, 9] (.seg 11 (.eff 12 [] (.seg 13 .last)))))) (.eff 6 [0, 2, 7, 9] (.fork 1 [2, 4, 5, 7, 9] (.eff 3 [0, 4, 5, 7, 9] (.seg 11 (.eff 12 [] (.seg 13 .last)))) (.eff 3 [0, 4, 5, 7, 9] (.eff 1 [2, 4, 5, 7, 9] (.seg 11 (.eff 12 [] (.seg 13 .last))))))))))))))))))))))))] Tryz.func15 rfl (by kernel_rfl) rfl rfl rfl rfl (by kernel_rfl) ?_
  simp
  refine ⟨_, rfl, Wk.refl _, ?_⟩
  simp [vcC0]
  refine check_ok p hp ?_
  obtain ⟨f1, f2, f3, f4⟩ := start_fns c1
  have hfa : p.fns[0] = fnAt p 0 := by simp [fnAt, List.getD_eq_getElem?_getD, List.getElem?_eq_getElem f1]
  simp [c1, f1, hfa]
  have fr := fn_zero f4
  have hreg : (fnAt p 0).regs ≤ 60 := by
    have := ((large_iff.1 (check_zero c1).1).2.2.2.2 _ (List.getElem_mem f1)).2
    rw [hfa] at this; exact this
  have htl := (large_iff.1 (check_zero c1).1).2.2.1
  refine ⟨by omega, by omega, ?_⟩
  repeat' (first | (refine cloneS_ok true (p.texts.map eStr) (by simp) (by simp) (by simp; omega) ?_; simp) | (with_reducible refine And.intro ?_ ?_))
  all_goals
    refine ⟨_, Wk.refl _, ?_⟩
    simp [retPI]
    have hsol : ∀ {X : Hp}, (∀ n x, X n = some x → ∀ e ∈ x.es, ∀ c ∈ e, C.solidC c = true) → HSol X := fun h => h
    refine ⟨?_, ?_⟩
    · repeat' (first | assumption | refine HSol.set ?_ (by simp; done))
    · refine fin _ _ _ _ _ _ _ _ (fun i hi => ?_) (fun i hi => ?_) ?_ ⟨rfl, rfl, rfl, rfl, rfl, rfl⟩ (by decide) (by decide) (by decide) (by decide) (by decide) (by decide) (by decide) (by decide)
      · repeat rw [Hp.set_ne _ _ (by omega)]
      · repeat rw [Hp.set_ne _ _ (by omega)]
        exact hfr i (by omega)
      · repeat' (first | assumption | refine HSol.set ?_ (by simp; done))
theorem once3 {p a b c : Prop} (h : a → b → c → p) (hq : a ∧ b ∧ c) : p := h hq.1 hq.2.1 hq.2.2
theorem once6 {p a b c d e f : Prop} (h : a → b → c → d → e → f → p) (hq : a ∧ b ∧ c ∧ d ∧ e ∧ f) : p := h hq.1 hq.2.1 hq.2.2.1 hq.2.2.2.1 hq.2.2.2.2.1 hq.2.2.2.2.2
theorem throw_lend (p : GProg) (hp : okP p) (s : GState) (hs : okSt s) (th : Int) (v : GVal) {ds : List D} {H : Hp} {nx : Nat} {K : D → Hp → Nat → Prop} (hf : ∀ i, nx ≤ i → H i = none) (hd : DsShw H (fun _ => True) ds [aD (eProg p), aD (eState s), dI th, aD (eVal v)]) (h1 : throwE p s th v = 0)
    (h : K (.tup [aD (eState (throwS s th.toNat v)), dL true ((throwL p s th.toNat v).map eEvent), dI 0]) H nx) : ICall Tryz.prog 34 ds H nx K := by
  refine ICall.give hf (ICall.lend hd (throw_ic p hp s hs th v (fun _ _ h => by cases h) (fun nx' _ hn => absurd h1 hn) (fun _ H' nx' R eo hn low new sol hR hRn hE => ⟨fun i x hx => ?_, ?_, fun i hi => if_pos hi, _, ?_, h⟩)) hf)
  · rcases Nat.lt_or_ge i nx with h2 | h2
    · rw [low i h2] at hx; cases hx
    · exact ⟨h2, new i h2 x hx⟩
  · exact ⟨hRn, rfl, rfl, trivial⟩
  · have hl : ∀ q, nx ≤ q → nx ≤ q ∧ (if q < nx then H q else H' q) = H' q := fun q hq => ⟨hq, if_neg (by omega)⟩
    exact ⟨CsS.csShw (hR.low (H' := fun i => if i < nx then H i else H' i) hl), ⟨_, rfl, hE.mono (H' := fun i => if i < nx then H i else H' i) fun q hq => ⟨hq, fun x hx => by rw [(hl q hq).2]; exact hx⟩⟩, ⟨_, rfl, .d rfl⟩, trivial⟩
theorem start_row {H : Hp} {p : GProg} {a b c d e g : Nat} {f : GFrame} {fr : List C} (A1 : H a = some ⟨.c 48, 4, [[.d (eI 4), .d (eI 0), .d .emp, .d .emp]]⟩) (A2 : H b = some ⟨.c 99, 2, [[.d (eI (-1)), .d (eI (-1))]]⟩) (A3 : H c = some ⟨.c 9, 1, p.texts.map fun t => [.d (eS t)]⟩)
    (A4 : H d = some ⟨.c 56, 5, [[.own e 8 1, .d (eI 0), .d (eI 0), .d (eI 0), .d (eI 0)]]⟩) (A5 : H e = some ⟨.c 61, 8, [fr]⟩) (hf : CsS H (fun _ => True) fr (eFrame f)) :
    CsS H (fun _ => True) (startRow p a b c d) (eState ⟨(startS p).cells, (startS p).shapes, (startS p).texts, [⟨[f], 0, 0, nilV⟩], [], [], 0, 0⟩) := by
  have hfr : Shw H (fun _ => True) (.own e 8 1) (.sl true ([f].map eFrame)) := Shw.rows trivial A5 rfl (by simp) ⟨hf, trivial⟩
  have hth : Shw H (fun _ => True) (.own d 5 1) (.sl true ([(⟨[f], 0, 0, nilV⟩ : GThread)].map eThread)) := Shw.rows trivial A4 rfl (by simp) ⟨⟨hfr, .d rfl, .d rfl, .d rfl, .d rfl, trivial⟩, trivial⟩
  have hce : Shw H (fun _ => True) (.own a 4 1) (.sl true ((startS p).cells.map eCell)) := Shw.rows trivial A1 rfl (by simp) ⟨⟨.d rfl, .d rfl, .emp, .emp, trivial⟩, trivial⟩
  have hsh : Shw H (fun _ => True) (.own b 2 1) (.sl true ((startS p).shapes.map eShape)) := Shw.rows trivial A2 rfl (by simp [startS]) ⟨⟨.d rfl, .d rfl, trivial⟩, trivial⟩
  have htx : Shw H (fun _ => True) (.own c 1 p.texts.length) (.sl true ((startS p).texts.map eStr)) := Shw.row trivial A3 rfl (by simp [startS]) (by simp [startS]) (by simp) (by simp)
  exact ⟨hce, hsh, htx, hth, .emp, .emp, .d rfl, .d rfl, trivial⟩
theorem okSt_uw2 : okSt uwS2 := by
  obtain ⟨h1, h2, h3⟩ := okSt_start (p := uwP) (okS _ (by decide))
  exact ⟨h1, h2, h3⟩
theorem unwindLives_ok {K : D → List Blk → Prop} (h : K (dB true) []) : DPure Tryz.prog 40 [] K := by
  refine fn_ok [0,1,2,3,4,5,6,7,8,9,54,95] [(3, [0,0,0,7,15,31,31,31,0,319,895,2047], (.seg 0 (.seg 1 (.fork 2 [0, 1] (.fork 3 [] (.seg 4 (.seg 5 (.seg 6 (.seg 7 (.eff 8 [] (.eff 9 [] (.seg 10 (.seg 11 .last)))))))) (.eff 8 [0, 1] (.eff 3 [] (.seg 4 (.seg 5 (.seg 6 (.seg 7 (.eff 9 [] (.seg 10 (.seg 11 .last)))))))))) (.eff 8 [0, 1] (.eff 2 [0, 1] (.eff 3 [] (.seg 4 (.seg 5 (.seg 6 (.seg 7 (.eff 9 [] (.seg 10 (.seg 11 .last)))))))))))))), (6, [0,1,3,7,15,0,32,96,224,480,0,1024,1023,5119,13311,32767,65535,131071], (.seg 0 (.seg 1 (.seg 2 (.seg 3 (.seg 4 (.seg 5 (.seg 6 (.seg 7 (.seg 8 (.seg 9 (.seg 10 (.seg 12 (.seg 13 (.fork 11 [0, 1, 2, 3, 4, 5, 6, 7, 8, 9, 12, 13] (.eff 14 [] (.seg 15 (.seg 16 (.eff 17 [] .last)))) (.eff 14 [10] (.eff 11 [] (.seg 15 (.seg 16 (.eff 17 [] .last)))))))))))))))))))), (7, [0,0,0,7,15,31,31,31,0,319,895,2047], (.seg 0 (.seg 1 (.fork 2 [0, 1] (.fork 3 [] (.seg 4 (.seg 5 (.seg 6 (.seg 7 (.eff 8 [] (.eff 9 [] (.seg 10 (.seg 11 .last)))))))) (.eff 8 [0, 1] (.eff 3 [] (.seg 4 (.seg 5 (.seg 6 (.seg 7 (.eff 9 [] (.seg 10 (.seg 11 .last)))))))))) (.eff 8 [0, 1] (.eff 2 [0, 1] (.eff 3 [] (.seg 4 (.seg 5 (.seg 6 (.seg 7 (.eff 9 [] (.seg 10 (.seg 11 .last)))))))))))))), (10, [0,1,3,7,15,31,63,127,255,511,1023,2047,127,8191,16383,32767,65535,131071,262143,524287,1048575,2097151,4194303,8388607,16777215,33554431,67108863,134217727,268435455,536870911,1073741823,2147483647,4294967295,8589934591,17179869183,34359738367,68719476735,137438953471,274877906943,549755813887,1099511627775,2199023255551,4398046511103,8796093022207,17592186044415,35184372088831,70368744177663,140737488355327,281474976710655,562949953421311,1125899906842623,2251799813685247,4503599627370495,9007199254740991,17592186044415,36028797018963967,72057594037927935,144115188075855871], (.seg 0 (.seg 1 (.seg 2 (.seg 3 (.seg 4 (.seg 5 (.seg 6 (.seg 7 (.seg 8 (.seg 9 (.seg 10 (.seg 11 (.eff 12 [7, 8, 9, 10, 11] (.seg 13 (.seg 14 (.seg 15 (.seg 16 (.seg 17 (.seg 18 (.seg 19 (.seg 20 (.seg 21 (.seg 22 (.seg 23 (.seg 24 (.seg 25 (.seg 26 (.seg 27 (.seg 28 (.seg 29 (.seg 30 (.seg 31 (.seg 32 (.seg 33 (.seg 34 (.seg 35 (.seg 36 (.seg 37 (.seg 38 (.seg 39 (.seg 40 (.seg 41 (.seg 42 (.seg 43 (.seg 44 (.seg 45 (.seg 46 (.seg 47 (.seg 48 (.seg 49 (.seg 50 (.seg 51 (.seg 52 (.seg 53 (.eff 54 [44, 45, 46, 47, 48, 49, 50, 51, 52, 53] (.seg 55 (.seg 56 (.seg 57 .last)))))))))))))))))))))))))))))))))))))))))))))))))))))))))))] Tryz.func40 rfl (by kernel_rfl) rfl rfl rfl rfl (by kernel_rfl) ?_
  simp
  refine ⟨_, rfl, Wk.fz0 (a := 0) (Hp.set_same _ _ _) (by simp), ?_⟩
  simp [vcC0, fzT, D.fz, C.fz, fzH]
  refine small2_ok [⟨30, 1, 2, 0, 0⟩, ⟨31, 0, 0, 0, 0⟩, ⟨28, 0, 0, 0, 0⟩] ?_
  simp
  refine startD_ic uwP (okS _ (by decide)) uwP_ok ?_ (fun H1 n1 a b c d e g hn1 low1 hf1 sol1 ha hb hc hd he hg hne hA => ?_)
  · exact HSol.set HSol.zero (by simp)
  obtain ⟨A1, A2, A3, A4, A5, A6⟩ := hA
  have g1 : H1 1 = some ⟨.c 26, 3, [(eProg uwP).map .d]⟩ := by rw [low1 _ (by omega)]; rfl
  have e1 : ¬ 1 = n1 := by omega
  have w1 : ¬ d = n1 := by omega
  have w2 : ¬ d = n1 + 1 := by omega
  have w3 : ¬ e = n1 := by omega
  have w4 : ¬ e = n1 + 1 := by omega
  have w5 : ¬ e = n1 + 1 + 1 := by omega
  have w6 : ¬ 1 = e := by omega
  have w7 : ¬ n1 = 0 := by omega
  have w8 : ¬ n1 = e := by omega
  have w9 : ¬ n1 + 1 = e := by omega
  have w10 : ¬ n1 + 1 + 1 = e := by omega
  have w11 : ¬ d = e := by omega
  have w12 : ¬ d = n1 + 1 + 1 := by omega
  have w13 : ¬ n1 = n1 + 1 + 1 := by omega
  simp [startRow, e1, g1]
  apply once3
  · intro k1 k2 k3
    with_reducible refine ⟨?_, ?_⟩
    all_goals
      refine num_ok 5 ?_
      simp [e1, g1]
      repeat' (with_reducible refine And.intro ?_ ?_)
    all_goals
      refine throw_lend uwP (okS _ (by decide)) (startS uwP) (okSt_start (okS _ (by decide))) 0 uwV (by
        clear k1 k2 k3
        intro i hi
        repeat rw [Hp.set_ne _ _ (by omega)]
        exact hf1 i (by omega)) (by
        clear k1 k2 k3
        refine ⟨(CsS.dat (l := eProg uwP) (by simp)).csShw, ?_, ⟨_, rfl, .d rfl⟩, (CsS.dat (l := eVal uwV) (by simp)).csShw, trivial⟩
        refine (start_row (p := uwP) (g := g) (f := firstFrame uwP) (e := e) (fr := [.d (eI 0), .d (eI 0), .d (eI (-1)), .d (eI (-1)), .d (eI 5), .d (eI 0), .own g 2 (fnAt uwP 0).regs.toNat, .d .emp]) ?_ ?_ ?_ ?_ ?_ ⟨.d rfl, .d rfl, .d rfl, .d rfl, .d rfl, .d rfl, Shw.row trivial (x := ⟨.c 50, 2, List.replicate (fnAt uwP 0).regs.toNat [.d (eI 0), .d (eI 0)]⟩) ?_ rfl (by simp [firstFrame]) (by simp [firstFrame, nilV]) (by simp) (by simp), .emp, trivial⟩).csShw
        · repeat rw [Hp.set_ne _ _ (by omega)]
          exact A1
        · repeat rw [Hp.set_ne _ _ (by omega)]
          exact A2
        · repeat rw [Hp.set_ne _ _ (by omega)]
          exact A3
        · repeat rw [Hp.set_ne _ _ (by omega)]
          exact A4
        · repeat rw [Hp.set_ne _ _ (by omega)]
          exact A5
        · repeat rw [Hp.set_ne _ _ (by omega)]
          exact A6) uw_e1 ?_
    · exact k1
    · exact k2
    · exact k3
  simp [e1, g1, w1, w2, w3, w4, w5, w6, w7, w8, w9, w10, w11, w12, w13, A4, A5, uw_t1]
  apply once6
  · intro k1 k2 k3 k4 k5 k6
    repeat' (with_reducible refine And.intro ?_ ?_)
    all_goals
      refine num_ok 5 ?_
      simp [e1, g1, w1, w2, w3, w4, w5, w6, w7, w8, w9, w10, w11, w12, w13, A4, A5, uw_t1]
      repeat' (with_reducible refine And.intro ?_ ?_)
    all_goals
      refine throw_lend uwP (okS _ (by decide)) uwS2 okSt_uw2 0 uwV (by
        clear k1 k2 k3 k4 k5 k6
        intro i hi
        repeat rw [Hp.set_ne _ _ (by omega)]
        exact hf1 i (by omega)) (by
        clear k1 k2 k3 k4 k5 k6
        refine ⟨(CsS.dat (l := eProg uwP) (by simp)).csShw, ?_, ⟨_, rfl, .d rfl⟩, (CsS.dat (l := eVal uwV) (by simp)).csShw, trivial⟩
        refine (start_row (p := uwP) (g := g) (f := uwF 1 [⟨1, 2⟩]) (e := e) (fr := [.d (eI 0), .d (eI 1), .d (eI (-1)), .d (eI (-1)), .d (eI 5), .d (eI 0), .own g 2 (fnAt uwP 0).regs.toNat, .own (n1 + 1 + 1) 2 1]) ?_ ?_ ?_ ?_ ?_ ⟨.d rfl, .d rfl, .d rfl, .d rfl, .d rfl, .d rfl, Shw.row trivial (x := ⟨.c 50, 2, List.replicate (fnAt uwP 0).regs.toNat [.d (eI 0), .d (eI 0)]⟩) ?_ rfl rfl rfl (by simp [uwF]) (by simp [uwF]), Shw.row trivial (x := ⟨.c 81, 2, [[.d (eI 1), .d (eI 2)]]⟩) ?_ rfl rfl rfl (by simp [uwF]) (by simp [uwF]), trivial⟩).csShw
        · repeat rw [Hp.set_ne _ _ (by omega)]
          exact A1
        · repeat rw [Hp.set_ne _ _ (by omega)]
          exact A2
        · repeat rw [Hp.set_ne _ _ (by omega)]
          exact A3
        · repeat rw [Hp.set_ne _ _ (by omega)]
          exact A4
        · repeat rw [Hp.set_ne _ _ (by omega)]
          exact Hp.set_same _ _ _
        · repeat rw [Hp.set_ne _ _ (by omega)]
          exact A6
        · repeat rw [Hp.set_ne _ _ (by omega)]
          exact Hp.set_same _ _ _) uw_e2 ?_
    · exact k1
    · exact k2
    · exact k3
    · exact k4
    · exact k5
    · exact k6
  simp [e1, g1, w1, w2, w3, w4, w5, w6, w7, w8, w9, w10, w11, w12, w13, A4, A5, uw_t1, uw_t2]
  with_reducible refine ⟨?_, ?_⟩
  all_goals
    refine num_ok 5 ?_
    simp [e1, g1, w1, w2, w3, w4, w5, w6, w7, w8, w9, w10, w11, w12, w13, A4, A5, uw_t1, uw_t2, throwL, throwEv, tellE]
    rw [if_pos ⟨rfl, rfl⟩, if_pos (show endK (uwS2.threads[0]?.getD dThread).frames = 8 from rfl)]
    refine num_ok 5 ?_
    simp [e1, g1, w1, w2, w3, w4, w5, w6, w7, w8, w9, w10, w11, w12, w13, uw_t2, uwV]
    first | exact h | (trace_state; sorry)
theorem throw_zero {p : GProg} {s : GState} {th : Int} {v : GVal} (h : throwE p s th v = 0) : stateQ wordsT p s = 0 ∧ ∃ t : Nat, th = t ∧ ∃ ht : t < s.threads.length, s.threads[t].frames ≠ [] ∧ fitsB s v = true := by
  unfold throwE at h
  by_cases q1 : stateQ wordsT p s = 0
  case neg => rw [if_pos q1] at h; exact absurd h q1
  rw [if_neg (by simpa using q1)] at h
  by_cases c1 : th < 0 ∨ (s.threads.length : Int) ≤ th
  · rw [if_pos c1] at h; cases h
  rw [if_neg c1] at h
  obtain ⟨t, rfl⟩ : ∃ t : Nat, th = t := ⟨th.toNat, by omega⟩
  have ht : t < s.threads.length := by omega
  have hd : s.threads.getD t dThread = s.threads[t] := by simp [List.getD_eq_getElem?_getD, ht]
  rw [Int.toNat_natCast, hd] at h
  by_cases c3 : s.threads[t].frames = []
  · rw [if_pos c3] at h; cases h
  rw [if_neg c3] at h
  refine ⟨q1, t, rfl, ht, c3, ?_⟩
  cases hf : fitsB s v with
  | true => rfl
  | false => rw [hf] at h; cases h
theorem unwindDeep_ok (p : GProg) (hp : okP p) (s : GState) (hs : okSt s) (th : Int) (v : GVal) : DPure Tryz.prog 8 [aD (eProg p), aD (eState s), dI th, aD (eVal v)] fun d _ => d = dB true := by
  refine fn_ok [0,1,2,3,4,5,7,8,9,10,11,12,13,14,15,30,51,60] [(11, [0,0,3,7,15,0,0,96,224,480,992,2016,4095,8191,0,32767], (.seg 0 (.seg 1 (.seg 2 (.seg 3 (.seg 4 (.seg 5 (.seg 6 (.seg 7 (.seg 8 (.seg 9 (.seg 10 (.seg 11 (.seg 12 (.seg 13 (.eff 14 [2, 3, 4, 7, 8, 9, 10, 11, 12, 13] (.eff 15 [] .last))))))))))))))))), (12, [0,1,3,7,15,31,63,15,143,511,1023,2047,4095,8191,4095,32767,65535,131071,4095,266239,1048575,2097151,4194303,8388607,16777215,8388607,67108863,134217727,268435455,8388607,545259519,2147483647,4294967295,8388607,17179869183,34359738367,68719476735,137438953471,274877906943,137438953471,1099511627775,2199023255551,4398046511103,8796093022207,137438953471,137438953471,52913997086719,123282741264383,264020229619711,545495206330367,1108445159751679,2251799813685247,4503599627370495,9007199254740991,18014398509481983,18014398509481983,54043195528445951,126100789566373887,288230376151711743,576460752303423487,1152921504606846975,2305843009213693951,4611686018427387903,9223372036854775807], (.seg 0 (.seg 1 (.seg 2 (.seg 3 (.seg 4 (.seg 5 (.seg 6 (.seg 7 (.seg 8 (.seg 9 (.seg 10 (.seg 11 (.seg 12 (.seg 13 (.seg 14 (.seg 15 (.seg 16 (.seg 17 (.seg 18 (.seg 19 (.seg 20 (.seg 21 (.seg 22 (.seg 23 (.seg 24 (.seg 25 (.seg 26 (.seg 27 (.seg 28 (.seg 29 (.seg 30 (.seg 31 (.seg 32 (.seg 33 (.seg 34 (.seg 35 (.seg 36 (.seg 37 (.seg 38 (.seg 39 (.seg 40 (.seg 41 (.seg 42 (.seg 43 (.seg 44 (.seg 45 (.seg 46 (.seg 47 (.seg 48 (.seg 49 (.seg 50 (.seg 51 (.seg 52 (.seg 53 (.seg 54 (.seg 55 (.seg 56 (.seg 57 (.seg 58 (.seg 59 (.seg 60 (.seg 61 (.seg 62 (.seg 63 .last)))))))))))))))))))))))))))))))))))))))))))))))))))))))))))))))))] Tryz.func8 rfl (by kernel_rfl) rfl rfl rfl rfl (by kernel_rfl) ?_
  simp
  refine throw_ok p hp s hs th v ?_ (fun h0 => ?_) (fun h1 => ?_)
  · repeat' (first | exact HSol.zero | refine HSol.set ?_ (by simp))
  · simp
    refine unwindLives_ok ?_
    simp [h0]
    refine unwindLives_ok ?_
    simp
  · obtain ⟨q1, t, rfl, ht, c3, c4⟩ := throw_zero h1
    simp
    refine unwindLives_ok ?_
    simp [ht]
    intro hL
    have hd : s.threads.getD t dThread = s.threads[t] := by simp [List.getD_eq_getElem?_getD, ht]
    obtain ⟨b1, b2⟩ := state_thread q1 (List.getElem_mem ht)
    have hw0 : IntKind.i64.wrap ((s.threads[t].frames.length : Int) - 1) = (s.threads[t].frames.length : Int) - 1 := wrap_id (by omega) (by omega)
    have hts : (throwS s t v).threads = s.threads.set t (throwT s.threads[t] v) := by rw [throwS, hd]; rfl
    have hlv : throwL p s t v = throwEv s.threads[t].frames (placeE p s t) v := by rw [throwL, hd]
    refine loop_ok (ks := [0,1,2,3,4,5,7,8,9,10,11,12,13,14,15,30,51,60]) (pl := [(11, [0,0,3,7,15,0,0,96,224,480,992,2016,4095,8191,0,32767], (.seg 0 (.seg 1 (.seg 2 (.seg 3 (.seg 4 (.seg 5 (.seg 6 (.seg 7 (.seg 8 (.seg 9 (.seg 10 (.seg 11 (.seg 12 (.seg 13 (.eff 14 [2, 3, 4, 7, 8, 9, 10, 11, 12, 13] (.eff 15 [] .last))))))))))))))))), (12, [0,1,3,7,15,31,63,15,143,511,1023,2047,4095,8191,4095,32767,65535,131071,4095,266239,1048575,2097151,4194303,8388607,16777215,8388607,67108863,134217727,268435455,8388607,545259519,2147483647,4294967295,8388607,17179869183,34359738367,68719476735,137438953471,274877906943,137438953471,1099511627775,2199023255551,4398046511103,8796093022207,137438953471,137438953471,52913997086719,123282741264383,264020229619711,545495206330367,1108445159751679,2251799813685247,4503599627370495,9007199254740991,18014398509481983,18014398509481983,54043195528445951,126100789566373887,288230376151711743,576460752303423487,1152921504606846975,2305843009213693951,4611686018427387903,9223372036854775807], (.seg 0 (.seg 1 (.seg 2 (.seg 3 (.seg 4 (.seg 5 (.seg 6 (.seg 7 (.seg 8 (.seg 9 (.seg 10 (.seg 11 (.seg 12 (.seg 13 (.seg 14 (.seg 15 (.seg 16 (.seg 17 (.seg 18 (.seg 19 (.seg 20 (.seg 21 (.seg 22 (.seg 23 (.seg 24 (.seg 25 (.seg 26 (.seg 27 (.seg 28 (.seg 29 (.seg 30 (.seg 31 (.seg 32 (.seg 33 (.seg 34 (.seg 35 (.seg 36 (.seg 37 (.seg 38 (.seg 39 (.seg 40 (.seg 41 (.seg 42 (.seg 43 (.seg 44 (.seg 45 (.seg 46 (.seg 47 (.seg 48 (.seg 49 (.seg 50 (.seg 51 (.seg 52 (.seg 53 (.seg 54 (.seg 55 (.seg 56 (.seg 57 (.seg 58 (.seg 59 (.seg 60 (.seg 61 (.seg 62 (.seg 63 .last)))))))))))))))))))))))))))))))))))))))))))))))))))))))))))))))))]) (n0 := 163) (fun x : {k : Nat // k ≤ s.threads[t].frames.length ∧ catchN s.threads[t].frames k = catchN s.threads[t].frames s.threads[t].frames.length} => [(13, dI ((x.1 : Int) - 1))]) (fun x => x.1) ⟨s.threads[t].frames.length, Nat.le_refl _, rfl⟩ rfl (by kernel_rfl) (Wk.sub (by simp [hw0])) ?_
    rintro ⟨k, hk, hc⟩
    cases k with
    | zero =>
      have hct : catchN s.threads[t].frames s.threads[t].frames.length = none := hc.symm
      have htT : throwT s.threads[t] v = ⟨[], 4, 0, v⟩ := by unfold throwT; rw [hct]
      have hwo : IntKind.i64.wrap 1 = 1 := by decide
      simp [ht, hts, htT, hlv, throwEv, endK, hct, tellE, hwo]
    | succ j =>
      have hj : j < s.threads[t].frames.length := hk
      have hget : s.threads[t].frames.getD j dFrame = s.threads[t].frames[j] := by simp [List.getD_eq_getElem?_getD, hj]
      have hwk : IntKind.i64.wrap ((j : Int) - 1) = (j : Int) - 1 := wrap_id (by omega) (by omega)
      by_cases ht0 : s.threads[t].frames[j].tries = []
      · simp [hj, ht0]
        refine ⟨j, Nat.lt_succ_self j, ⟨by omega, by rw [← hc, catchN, if_pos (by rw [hget]; exact ht0)]⟩, Wk.sub (by simp [hwk])⟩
      · have hct : catchN s.threads[t].frames s.threads[t].frames.length = some j := by rw [← hc, catchN, if_neg (by rw [hget]; exact ht0)]
        obtain ⟨m, hm⟩ : ∃ m, s.threads[t].frames[j].tries.length = m + 1 := ⟨_, (Nat.succ_pred_eq_of_pos (List.length_pos_iff.2 ht0)).symm⟩
        have htT : throwT s.threads[t] v = ⟨(s.threads[t].frames.take (j + 1)).set j (catchF s.threads[t].frames[j] v), 0, 0, s.threads[t].val⟩ := by unfold throwT; rw [hct]; simp only [hget]
        have hwo : IntKind.i64.wrap 1 = 1 := by decide
        obtain ⟨k1, k2⟩ := thread_regs q1 (List.getElem_mem ht) (List.getElem_mem hj) ht0
        have hb := (frame_bnd (stateQ_iff.1 q1).1 (thread_frames q1 (List.getElem_mem ht) (List.getElem_mem hj))).2.1
        have hy : lastTry s.threads[t].frames[j].tries = s.threads[t].frames[j].tries[m] := by simp [lastTry, hm, List.getD_eq_getElem?_getD]
        rw [hy] at k1 k2
        obtain ⟨q, hq⟩ : ∃ q : Nat, s.threads[t].frames[j].tries[m].reg = q := ⟨s.threads[t].frames[j].tries[m].reg.toNat, by omega⟩
        have hq2 : q < s.threads[t].frames[j].regs.length := by omega
        have hwm : IntKind.i64.wrap (m : Int) = m := wrap_id (by omega) (by omega)
        have hwj : IntKind.i64.wrap ((j : Int) + 1) = (j : Int) + 1 := wrap_id (by omega) (by omega)
        have hml : m < s.threads[t].frames[j].tries.length := by omega
        have hGl : ((s.threads[t].frames.take (j + 1)).set j (catchF s.threads[t].frames[j] v)).length = j + 1 := by simp; omega
        have hGj : ((s.threads[t].frames.take (j + 1)).set j (catchF s.threads[t].frames[j] v))[j]? = some (catchF s.threads[t].frames[j] v) := List.getElem?_set_self (by simp; omega)
        have hat : (catchF s.threads[t].frames[j] v).at_ = s.threads[t].frames[j].tries[m].at_ := by simp [catchF, hy]
        have hrg : (catchF s.threads[t].frames[j] v).regs = s.threads[t].frames[j].regs.set q v := by simp [catchF, hy, hq]
        have htr : (catchF s.threads[t].frames[j] v).tries.length = m := by simp [catchF, hm]
        generalize catchF s.threads[t].frames[j] v = cf at *
        generalize (s.threads[t].frames.take (j + 1)).set j cf = G at *
        obtain ⟨hGl2, hGj2⟩ := List.getElem?_eq_some_iff.1 hGj
        simp [ht, hts, htT, hlv, throwEv, endK, hct, tellE, hj, ht0, hm, hwo, hwm, hwj, hml, hq, hq2, hGl, hGj2, hat, hrg, htr]
        intro _ hne
        exact absurd hne (by omega)
end Go.Proofs.YtjbkinmdcaegcaaGreatDoor
