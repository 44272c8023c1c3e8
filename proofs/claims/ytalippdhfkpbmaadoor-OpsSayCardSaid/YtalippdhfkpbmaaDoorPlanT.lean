/- The plan's theorem: a region whose order is drawn goes as its plan goes. -/
import Derived.Test.YtalippdhfkpbmaaDoorPlanS
namespace Go.Proofs.YtalippdhfkpbmaaDoor
open Go.RowKit

section main
variable {P : Program} {ops : Array Oper} {Q : Exit → Act → World → Prop}

def upd (v : Nat → Value) (i : Nat) (x : Value) : Nat → Value := fun k => if k = i then x else v k
theorem upd_self (v : Nat → Value) (i : Nat) (x : Value) : upd v i x i = x := by simp [upd]
theorem upd_ne (v : Nat → Value) {i k : Nat} (x : Value) (h : k ≠ i) : upd v i x k = v k := by simp [upd, h]

theorem ready_parts {S : Array Bool} (hn : S.size = ops.size) {i : Nat} (hi : i ∈ Region.ready .any ops S) :
    i < ops.size ∧ S.getD i false = false ∧ ∃ o, ops[i]? = some o ∧ ∀ e ∈ o.after, Region.binds .any e = true → S.getD e.on false = true := by
  rw [mem_ready] at hi
  obtain ⟨h0, o, ho, hd⟩ := hi
  have hlt := (Array.getElem?_eq_some_iff.1 ho).1
  refine ⟨hlt, ?_, o, ho, hd⟩
  have hi' : i < S.size := hn ▸ hlt
  simpa [hi'] using h0

theorem inv_seg {a0 : Act} {v : Nat → Value} {S : Array Bool} {D E : List Nat} {aL a' : Act} {w : World} {T : List Nat} (hF : Fit ops T) (h : Inv P ops a0 v S D E aL a' w) {i : Nat} {o : Oper}
    (ho : ops[i]? = some o) (hiD : i ∉ D) (hd : ∀ e ∈ o.after, Region.binds .any e = true → e.on ∈ D) {x : Value} (hy : YV P ops o aL w x) :
    Inv P ops a0 (upd v i x) S (i :: D) E (aL.put o.dst x) a' w := by
  have hlt := (Array.getElem?_eq_some_iff.1 ho).1
  have hdst : dstOf ops i = o.dst := by simp [dstOf, ho]
  have hne : ∀ k ∈ D, k ≠ i := fun k hk e => hiD (e ▸ hk)
  have hv : ∀ k ∈ D, upd v i x k = v k := fun k hk => upd_ne v x (hne k hk)
  refine ⟨h.size, fun k hk => List.mem_cons_of_mem _ (h.sub k hk), h.effs, h.clS, ?_, ?_, ?_, ?_, ?_, ?_⟩
  · intro k o' hk ho' e he hb
    rcases List.mem_cons.1 hk with rfl | hk
    · rw [ho] at ho'; cases ho'
      exact List.mem_cons_of_mem _ (hd e he hb)
    · exact List.mem_cons_of_mem _ (h.clD k o' hk ho' e he hb)
  · intro k hk
    rcases List.mem_cons.1 hk with rfl | hk
    · exact hlt
    · exact h.inb k hk
  · have := h.repL.put hF.own hiD x (upd v i x) (upd_self v i x) hv
    rw [hdst] at this
    exact this.iff (fun k => by simp [List.mem_cons])
  · exact h.repS.mono_v (fun k hk => hv k (h.sub k hk))
  · rw [h.defs]
    cases o.dst <;> rfl
  · intro k hk hS
    rcases List.mem_cons.1 hk with rfl | hk
    · exact ⟨o, aL, (· ∈ D), ho, h.repL.mono_v hv, fun k hk => List.mem_cons_of_mem _ hk, h.clD, hiD, hd, by rw [upd_self]; exact hy⟩
    · exact (h.pend k hk hS).mono (fun k hk => List.mem_cons_of_mem _ hk) (hv k hk) hv

/-- A reading that the plan has made comes up. -/
theorem inv_read {a0 : Act} {v : Nat → Value} {S : Array Bool} {D E : List Nat} {aL a' : Act} {w : World} {T : List Nat} (hF : Fit ops T) (h : Inv P ops a0 v S D E aL a' w) {i : Nat} {o : Oper}
    (ho : ops[i]? = some o) (hiD : i ∈ D) (hS : S.getD i false = false) (hd : ∀ e ∈ o.after, Region.binds .any e = true → S.getD e.on false = true) :
    YV P ops o a' w (v i) ∧ Inv P ops a0 v (S.setIfInBounds i true) D E aL (a'.put o.dst (v i)) w := by
  have hlt := (Array.getElem?_eq_some_iff.1 ho).1
  have hdst : dstOf ops i = o.dst := by simp [dstOf, ho]
  have hiS : i < S.size := by rw [h.size]; exact hlt
  have nS : ¬ S.getD i false = true := by rw [hS]; simp
  constructor
  · obtain ⟨o', snap, Di, h1, h2, h3, h4, h5, h6, h7⟩ := h.pend i hiD hS
    rw [ho] at h1; cases h1
    exact h7.same (plain_noselect (hF.back i o ho).2) (agree_at hF.anc hF.reads h2 h.repS h4 h.clS ho h5 nS h6 hd)
  · refine ⟨by simp [h.size], ?_, ?_, ?_, h.clD, h.inb, h.repL, ?_, ?_, ?_⟩
    · intro k hk
      rcases (set_iff hiS).1 hk with rfl | hk
      · exact hiD
      · exact h.sub k hk
    · intro k hk
      exact (set_iff hiS).2 (.inr (h.effs k hk))
    · intro k o' hk ho' e he hb
      rcases (set_iff hiS).1 hk with rfl | hk
      · rw [ho] at ho'; cases ho'
        exact (set_iff hiS).2 (.inr (hd e he hb))
      · exact (set_iff hiS).2 (.inr (h.clS k o' hk ho' e he hb))
    · have := h.repS.put hF.own nS (v i) v rfl (fun _ _ => rfl)
      rw [hdst] at this
      exact this.iff (fun k => (set_iff hiS).symm)
    · rw [← h.defs]
      cases o.dst <;> rfl
    · intro k hk hkS
      have hk' : S.getD k false = false := by
        apply ite_off
        intro hh
        rw [(set_iff hiS).2 (.inr hh)] at hkS
        cases hkS
      exact h.pend k hk hk'

/-- An act comes up: behind it the readings that may still come give what they gave. -/
theorem inv_act {a0 : Act} {v : Nat → Value} {S : Array Bool} {D E : List Nat} {aL a' : Act} {w w1 : World} {T : List Nat} (hF : Fit ops T) (hsz : ∀ i d, dstOf ops i = some d → d < a0.tmps.size)
    (h : Inv P ops a0 v S D E aL a' w) {i : Nat} {o : Oper} {pend : List Nat}
    (ho : ops[i]? = some o) (hS : S.getD i false = false) (hd : ∀ e ∈ o.after, Region.binds .any e = true → S.getD e.on false = true) (he : effOk ops T D E i pend = true)
    {x : Value} {aL1 a1 : Act} (hL : aL1.tmps = (aL.put o.dst x).tmps) (h1 : a1.tmps = (a'.put o.dst x).tmps) (hdf : a1.defers = aL1.defers) (hp : pendOk P ops aL1 w1 pend) (hval : ∀ k o', k ∈ D → k ∉ E → ops[k]? = some o' → o'.dst.isSome = true) :
    Inv P ops a0 (upd v i x) (S.setIfInBounds i true) (i :: D) (i :: E) aL1 a1 w1 := by
  have hlt := (Array.getElem?_eq_some_iff.1 ho).1
  have hdst : dstOf ops i = o.dst := by simp [dstOf, ho]
  have hiS : i < S.size := by rw [h.size]; exact hlt
  have nS : ¬ S.getD i false = true := by rw [hS]; simp
  unfold effOk at he
  simp only [Bool.and_eq_true, Bool.not_eq_true', ← Bool.not_eq_true, List.contains_iff_mem] at he
  obtain ⟨⟨hiD, hdep⟩, hpn⟩ := he
  have hdD : ∀ e ∈ o.after, Region.binds .any e = true → e.on ∈ D := fun e he' hb => h.sub _ (hd e he' hb)
  have hne : ∀ k ∈ D, k ≠ i := fun k hk e => hiD (e ▸ hk)
  have hv : ∀ k ∈ D, upd v i x k = v k := fun k hk => upd_ne v x (hne k hk)
  have repL1 : Rep ops a0 (upd v i x) (· ∈ i :: D) aL1 := by
    have := h.repL.put hF.own hiD x (upd v i x) (upd_self v i x) hv
    rw [hdst] at this
    have this := this.iff (D' := (· ∈ i :: D)) (fun k => by simp [List.mem_cons])
    exact ⟨by rw [hL]; exact this.size, fun k d a b => by rw [hL]; exact this.hit k d a b, fun t a => by rw [hL]; exact this.miss t a⟩
  have clD1 : ∀ k o', k ∈ i :: D → ops[k]? = some o' → ∀ e ∈ o'.after, Region.binds .any e = true → e.on ∈ i :: D := by
    intro k o' hk ho' e he hb
    rcases List.mem_cons.1 hk with rfl | hk
    · rw [ho] at ho'; cases ho'
      exact List.mem_cons_of_mem _ (hdD e he hb)
    · exact List.mem_cons_of_mem _ (h.clD k o' hk ho' e he hb)
  refine ⟨by simp [h.size], ?_, ?_, ?_, clD1, ?_, repL1, ?_, hdf, ?_⟩
  · intro k hk
    rcases (set_iff hiS).1 hk with rfl | hk
    · exact List.mem_cons_self ..
    · exact List.mem_cons_of_mem _ (h.sub k hk)
  · intro k hk
    rcases List.mem_cons.1 hk with rfl | hk
    · exact (set_iff hiS).2 (.inl rfl)
    · exact (set_iff hiS).2 (.inr (h.effs k hk))
  · intro k o' hk ho' e he hb
    rcases (set_iff hiS).1 hk with rfl | hk
    · rw [ho] at ho'; cases ho'
      exact (set_iff hiS).2 (.inr (hd e he hb))
    · exact (set_iff hiS).2 (.inr (h.clS k o' hk ho' e he hb))
  · intro k hk
    rcases List.mem_cons.1 hk with rfl | hk
    · exact hlt
    · exact h.inb k hk
  · have := h.repS.put hF.own nS x (upd v i x) (upd_self v i x) (fun k hk => hv k (h.sub k hk))
    rw [hdst] at this
    have this := this.iff (D' := fun k => (S.setIfInBounds i true).getD k false = true) (fun k => (set_iff hiS).symm)
    exact ⟨by rw [h1]; exact this.size, fun k d a b => by rw [h1]; exact this.hit k d a b, fun t a => by rw [h1]; exact this.miss t a⟩
  · intro k hk hkS
    have hki : k ≠ i := fun e => by
      rw [(set_iff hiS).2 (.inl e)] at hkS
      cases hkS
    have hkD : k ∈ D := (List.mem_cons.1 hk).resolve_left hki
    have hkS' : S.getD k false = false := by
      apply ite_off
      intro hh
      rw [(set_iff hiS).2 (.inr hh)] at hkS
      cases hkS
    have hkE : k ∉ E := fun hh => by
      have := h.effs k hh
      rw [hkS'] at this
      cases this
    obtain ⟨ok, snap, Di, g1, g2, g3, g4, g5, g6, g7⟩ := h.pend k hkD hkS'
    refine ⟨ok, snap, Di, g1, g2.mono_v (fun m hm => hv m (g3 m hm)), fun m hm => List.mem_cons_of_mem _ (g3 m hm), g4, g5, g6, ?_⟩
    rw [hv k hkD]
    have hkl := (Array.getElem?_eq_some_iff.1 g1).1
    unfold pendNeeds at hpn
    rw [List.all_eq_true] at hpn
    have hpk := hpn k hkD
    simp only [g1, Bool.or_eq_true, List.contains_iff_mem, Bool.and_eq_true, List.all_eq_true, List.mem_range, bne_iff_ne, ne_eq] at hpk
    rcases g7 with ⟨hw, hr⟩ | hn
    · refine .inl ⟨hw, ?_⟩
      rcases hpk with (hpk | hpk) | hpk
      · exact absurd hpk hkE
      · have := anc_mem hF.anc (fun m => S.getD m false = true) h.clS i o ho hd k hkl hpk
        rw [hkS'] at this
        cases this
      · rcases hpk with hfr | ⟨hin, hwr⟩
        · rcases hr with hr | ⟨hr, _⟩
          · exact .inl (free_run hfr hr)
          · exact (free_noskip hfr hr).elim
        · have hag : ∀ t ∈ ok.looksAt ops, snap.tmps[t]? = aL1.tmps[t]? := by
            intro t ht
            refine (g2.mono_v (v' := upd v i x) (fun m hm => hv m (g3 m hm))).agree repL1 (fun m hm => ?_)
            have hml := dst_lt hm
            have hanc := (hwr t ht m hml).resolve_left (fun hh => hh hm)
            exact ⟨fun hh => List.mem_cons_of_mem _ (g3 m hh), fun _ => anc_mem hF.anc Di g4 k ok g1 g6 m hml hanc⟩
          obtain ⟨s1, s2⟩ := looks_same (plain_noselect (hF.back k ok g1).2) hag
          have hpo : ∀ (pl : List Nat), k ∈ pl → pendOk P ops aL1 w1 pl → Region.wanted ok (yielded ops aL1.tmps) = true → (execOp aL1.eval ok).run P w1 = .ok (.value (slotOf aL1 ok)) w1 := by
            intro pl
            induction pl with
            | nil => intro hh; cases hh
            | cons m pl ih =>
              intro hh hpo hwa
              rcases List.mem_cons.1 hh with rfl | hh
              · exact hpo.1 ok g1 hwa
              · exact ih hh hpo.2 hwa
          have hrun := hpo pend hin hp (by rw [← s2]; exact hw)
          have hsl : slotOf aL1 ok = v k := by
            have hsome := hval k ok hkD hkE g1
            cases hod : ok.dst with
            | none => simp [hod] at hsome
            | some d =>
              have hdk : dstOf ops k = some d := by simp [dstOf, g1, hod]
              have := repL1.hit k d hk hdk
              rw [if_pos (hsz k d hdk), upd_ne v x hki] at this
              simp [slotOf, hod, this]
          rw [hsl, ← s1] at hrun
          exact .inl hrun
    · exact .inr hn

theorem plan_step {a0 : Act} {T : List Nat} (hF : Fit ops T) (hsz : ∀ i d, dstOf ops i = some d → d < a0.tmps.size) {fuel : Nat}
    (ihf : ∀ (p : Plan) (v : Nat → Value) (S : Array Bool) (D E : List Nat) (aL a' : Act) (w : World), Inv P ops a0 v S D E aL a' w →
      (∀ k o', k ∈ D → k ∉ E → ops[k]? = some o' → o'.dst.isSome = true) →
      unl ops.size S ≤ fuel → Plan.ok ops T D E [] p = true → Plan.wp P ops Q p aL w → wpAny P .any ops Q fuel S a' w)
    {p : Plan} {v : Nat → Value} {S : Array Bool} {D E : List Nat} {aL a' : Act} {w : World} (hns : ∀ i q, p ≠ .seg i q) (hI : Inv P ops a0 v S D E aL a' w)
    (hval : ∀ k o', k ∈ D → k ∉ E → ops[k]? = some o' → o'.dst.isSome = true) (hu : unl ops.size S ≤ fuel + 1) (hok : Plan.ok ops T D E [] p = true) (hwp : Plan.wp P ops Q p aL w) :
    wpAny P .any ops Q (fuel + 1) S a' w := by
  refine ⟨fun hr => last_of_all hI (all_of_ready hF hI.size hr) hok hns hwp, fun i hi => ?_⟩
  obtain ⟨hlt, hS, o, ho, hd⟩ := ready_parts hI.size hi
  have hu' : unl ops.size (S.setIfInBounds i true) ≤ fuel := by
    have := unl_set hI.size hlt hS
    omega
  by_cases hiD : i ∈ D
  · obtain ⟨hy, hI'⟩ := inv_read hF hI ho hiD hS hd
    exact hy.wpOp ho (ihf p v _ D E aL _ w hI' hval hu' hok hwp)
  · rcases alt_all hok hns i hlt hiD with h | ⟨pend, r, hA⟩ | ⟨k, hk, hkD, hanc⟩
    · cases h
    · obtain ⟨hef, hok'⟩ := alt_ok hok hA
      have hdD : ∀ e ∈ o.after, Region.binds .any e = true → e.on ∈ D := fun e he hb => hI.sub _ (hd e he hb)
      have nS : ¬ S.getD i false = true := by rw [hS]; simp
      have hag := agree_at hF.anc hF.reads hI.repL hI.repS hI.clD hI.clS ho hiD nS hdD hd
      obtain ⟨s1, s2⟩ := looks_same (plain_noselect (hF.back i o ho).2) hag
      have h1 := alt_wp hwp hA o ho (OnlyN fun a1 w1 => pendOk P ops a1 w1 pend ∧ Plan.wp P ops Q r a1 w1) (fun _ _ hp hw => ⟨hp, hw⟩)
      have hval' : ∀ k o', k ∈ i :: D → k ∉ i :: E → ops[k]? = some o' → o'.dst.isSome = true := by
        intro k o' hk hkE ho'
        have hki : k ≠ i := fun e => hkE (e ▸ List.mem_cons_self ..)
        exact hval k o' ((List.mem_cons.1 hk).resolve_left hki) (fun hh => hkE (List.mem_cons_of_mem _ hh)) ho'
      have fin : ∀ (x : Value) (w1 : World) (aL1 a1 : Act), aL1.tmps = (aL.put o.dst x).tmps → a1.tmps = (a'.put o.dst x).tmps → a1.defers = aL1.defers →
          (pendOk P ops aL1 w1 pend ∧ Plan.wp P ops Q r aL1 w1) → wpAny P .any ops Q fuel (S.setIfInBounds i true) a1 w1 := by
        intro x w1 aL1 a1 e1 e2 e3 hq
        exact ihf r (upd v i x) _ (i :: D) (i :: E) aL1 a1 w1 (inv_act hF hsz hI ho hS hd hef e1 e2 e3 hq.1 hval) hval' hu' hok' hq.2
      have hdefs : ∀ (x : Value), (a'.put o.dst x).defers = (aL.put o.dst x).defers := by
        intro x
        cases o.dst <;> exact hI.defs
      unfold wpList at h1
      unfold wpOp
      simp only [ho]
      rw [← s2]
      split
      · rename_i hw
        rw [if_pos hw] at h1
        refine .inl ?_
        rcases h1 with h1 | ⟨_, h1⟩
        · unfold Oper.wp at *
          rw [← s1]
          generalize (execOp aL.eval o).run P w = res at *
          cases res with
          | ok n w1 =>
            cases n with
            | value x => exact fin x w1 _ _ rfl rfl (hdefs x) h1
            | skip => exact fin undef w1 _ _ rfl rfl (hdefs undef) h1
            | defer d =>
              refine fin undef w1 _ _ ?_ ?_ ?_ h1
              · cases o.dst <;> rfl
              · cases o.dst <;> rfl
              · have := hI.defs
                cases o.dst <;> simp [Act.put, this]
            | enter f args =>
              refine Calls.mono h1 fun e w2 he => ?_
              cases e with
              | returned x => exact fin x w2 _ _ rfl rfl (hdefs x) he
              | panicked c => exact (he : False).elim
              | outgrown => exact (onlyN_lets he).elim
            | row row args => exact Rows.mono h1 fun x w2 he => fin x w2 _ _ rfl rfl (hdefs x) he
            | _ => exact (h1 : False).elim
          | halt y w1 => cases y <;> exact (h1 : False).elim
        · exact (onlyN_lets h1).elim
      · rename_i hw
        rw [if_neg hw] at h1
        exact fin undef w _ _ rfl rfl (hdefs undef) h1
    · exact absurd (hI.sub k (anc_mem hF.anc (fun m => S.getD m false = true) hI.clS i o ho hd k hk hanc)) hkD

theorem plan_sound {a0 : Act} {T : List Nat} (hF : Fit ops T) (hsz : ∀ i d, dstOf ops i = some d → d < a0.tmps.size) :
    ∀ (fuel : Nat) (p : Plan) (v : Nat → Value) (S : Array Bool) (D E : List Nat) (aL a' : Act) (w : World), Inv P ops a0 v S D E aL a' w →
      (∀ k o', k ∈ D → k ∉ E → ops[k]? = some o' → o'.dst.isSome = true) →
      unl ops.size S ≤ fuel → Plan.ok ops T D E [] p = true → Plan.wp P ops Q p aL w → wpAny P .any ops Q fuel S a' w := by
  intro fuel
  induction fuel with
  | zero =>
    intro p
    induction p with
    | seg i p ih =>
      intro v S D E aL a' w hI hval hu hok hwp
      simp only [Plan.ok, Bool.and_eq_true, Bool.not_eq_true', ← Bool.not_eq_true, List.contains_iff_mem] at hok
      cases ho : ops[i]? with
      | none => simp [ho] at hok
      | some o =>
        simp only [ho, Bool.and_eq_true] at hok
        exact absurd (hI.sub i (unl_zero (by omega) (Array.getElem?_eq_some_iff.1 ho).1)) hok.1.1.2
    | _ =>
      intro v S D E aL a' w hI hval hu hok hwp
      have hall : ∀ i, i < ops.size → S.getD i false = true := fun i hi => unl_zero (by omega) hi
      refine ⟨?_, last_of_all hI hall hok (by intro i q e; cases e) hwp⟩
      cases hr : Region.ready .any ops S with
      | nil => rfl
      | cons i l =>
        have := ready_parts hI.size (i := i) (by rw [hr]; exact List.mem_cons_self ..)
        rw [hall i this.1] at this
        exact absurd this.2.1 (by simp)
  | succ fuel ihf =>
    intro p
    induction p with
    | seg i p ih =>
      intro v S D E aL a' w hI hval hu hok hwp
      simp only [Plan.ok, Bool.and_eq_true, Bool.not_eq_true', ← Bool.not_eq_true, List.contains_iff_mem] at hok
      cases ho : ops[i]? with
      | none => simp [ho] at hok
      | some o =>
        simp only [ho, Bool.and_eq_true] at hok
        obtain ⟨x, hy, hwp'⟩ := seg_step hok.1.2.1.2 (hwp o ho)
        have hd : ∀ e ∈ o.after, Region.binds .any e = true → e.on ∈ D := by
          intro e he hb
          have := hok.1.2.1.1
          unfold depsIn at this
          rw [List.all_eq_true] at this
          have := this e (Array.mem_toList_iff.2 he)
          simpa [hb] using this
        refine ih _ S (i :: D) E _ a' w (inv_seg hF hI ho hok.1.1.2 hd hy) ?_ hu hok.2 hwp'
        intro k o' hk hkE ho'
        rcases List.mem_cons.1 hk with rfl | hk
        · rw [ho] at ho'; cases ho'
          exact hok.1.2.2
        · exact hval k o' hk hkE ho'
    | _ =>
      intro v S D E aL a' w hI hval hu hok hwp
      exact plan_step hF hsz ihf (by intro i q e; cases e) hI hval hu hok hwp

/-- A REGION WHOSE ORDER IS DRAWN: IT GOES AS ITS PLAN GOES. -/
theorem wp_region_plan {id : Nat} {l : List Oper} {a : Act} {w : World} (T : List Nat) (p : Plan) (hm : P.follows .mixedOrders = true) (hok : planOk l T p = true)
    (hsz : (l.all fun o => match o.dst with | some d => decide (d < a.tmps.size) | none => true) = true) (h : Plan.wp P l.toArray Q p a w.drew) : (Code.region id l.toArray true).wp P Q a w := by
  unfold planOk at hok
  simp only [Bool.and_eq_true] at hok
  have hF := fit_of hok.1.1.1.1 hok.1.1.1.2 hok.1.1.2 hok.1.2
  refine wp_region_any hm ?_
  have hrep : ∀ D : Nat → Prop, (∀ k, ¬ D k) → Rep l.toArray a (fun _ => undef) D a := fun D hD => ⟨rfl, fun i d hi => absurd hi (hD i), fun _ _ => rfl⟩
  have hno : ∀ k, ¬ (Array.replicate l.toArray.size false).getD k false = true := by
    intro k
    simp only [Array.getD_eq_getD_getElem?]
    rcases Nat.lt_or_ge k l.toArray.size with hk | hk
    · simp [Array.getElem?_replicate]
      split <;> simp
    · simp [Array.getElem?_replicate]
      split <;> simp
  refine plan_sound (a0 := a) hF ?_ l.toArray.size p (fun _ => undef) _ [] [] a a _ ⟨by simp, fun i hi => absurd hi (hno i), fun _ h => (List.not_mem_nil h).elim, fun i _ hi => absurd hi (hno i), fun _ _ h => (List.not_mem_nil h).elim, fun _ h => (List.not_mem_nil h).elim, hrep _ (fun _ h => (List.not_mem_nil h).elim), hrep _ hno, rfl, fun _ h => (List.not_mem_nil h).elim⟩ (fun _ _ h => (List.not_mem_nil h).elim) ?_ hok.2 h
  · intro i d hd
    unfold dstOf at hd
    cases ho : l.toArray[i]? with
    | none => simp [ho] at hd
    | some o =>
      rw [List.all_eq_true] at hsz
      have hmem : o ∈ l := by
        have := Array.mem_of_getElem? ho
        simpa using this
      have := hsz o hmem
      simp only [ho, Option.bind_some] at hd
      simpa [hd] using this
  · refine Nat.le_trans List.countP_le_length ?_
    simp
#print axioms wp_region_plan
end main
end Go.Proofs.YtalippdhfkpbmaaDoor
