/- Several texts in one. -/
import Derived.Shelf.Strconv.Itoa3
import Derived.Shelf.Bits.Mul64
import Derived.Test.YtbphdcffpobcbaaGreatDoorProg
import Derived.Lib.QuietBelow
import Derived.Test.YtbphdcffpobcbaaGreatDoorMe
import Derived.Test.YtbphdcffpobcbaaGreatDoorMf
set_option linter.unusedSimpArgs false
set_option linter.unusedVariables false
set_option maxRecDepth 100000
set_option maxHeartbeats 16000000
namespace Go.Proofs
open Go.Shelf
def Tryz.laysM171_ren : Go.Shelf.Ren := ⟨fun | 171 => 88 | 243 => 137 | 246 => 191 | 283 => 203 | 284 => 204 | 285 => 205 | 286 => 206 | 129 => 230 | 317 => 229 | 318 => 231 | 319 => 232 | 320 => 233 | 337 => 245 | 338 => 246 | n => n, fun | 3 => 3 | 9 => 9 | 2 => 2 | 4 => 4 | 171 => 257 | 0 => 0 | 53 => 130 | 37 => 215 | 5 => 5 | 173 => 260 | 212 => 278 | 51 => 262 | 20 => 20 | 213 => 279 | 46 => 210 | 232 => 295 | 233 => 296 | n => n, fun | 17 => 1 | 18 => 5 | 19 => 6 | n => n⟩
theorem Tryz.laysM171 : Go.Proofs.LaysM.n171 Tryz.prog Tryz.laysM171_ren := {
  mixed := by kernel_rfl
  f129 := Tryz.func230.trans (congrArg some (by kernel_rfl))
  f171 := Tryz.func88.trans (congrArg some (by kernel_rfl))
  f243 := Tryz.func137.trans (congrArg some (by kernel_rfl))
  f246 := Tryz.func191.trans (congrArg some (by kernel_rfl))
  f283 := Tryz.func203.trans (congrArg some (by kernel_rfl))
  f284 := Tryz.func204.trans (congrArg some (by kernel_rfl))
  f285 := Tryz.func205.trans (congrArg some (by kernel_rfl))
  f286 := Tryz.func206.trans (congrArg some (by kernel_rfl))
  f317 := Tryz.func229.trans (congrArg some (by kernel_rfl))
  f318 := Tryz.func231.trans (congrArg some (by kernel_rfl))
  f319 := Tryz.func232.trans (congrArg some (by kernel_rfl))
  f320 := Tryz.func233.trans (congrArg some (by kernel_rfl))
  f337 := Tryz.func245.trans (congrArg some (by kernel_rfl))
  f338 := Tryz.func246.trans (congrArg some (by kernel_rfl))
  t0 := Tryz.underlying0
  a0 := Tryz.isAgg0
  z0 := Tryz.sizeOf0
  v0 := Tryz.zeroValue0
  t2 := Tryz.underlying2
  a2 := Tryz.isAgg2
  z2 := Tryz.sizeOf2
  v2 := Tryz.zeroValue2
  t3 := Tryz.underlying3
  a3 := Tryz.isAgg3
  z3 := Tryz.sizeOf3
  v3 := Tryz.zeroValue3
  t4 := Tryz.underlying4
  a4 := Tryz.isAgg4
  z4 := Tryz.sizeOf4
  v4 := Tryz.zeroValue4
  t5 := Tryz.underlying5
  a5 := Tryz.isAgg5
  z5 := Tryz.sizeOf5
  v5 := Tryz.zeroValue5
  t9 := Tryz.underlying9
  a9 := Tryz.isAgg9
  z9 := Tryz.sizeOf9
  v9 := Tryz.zeroValue9
  t20 := Tryz.underlying20
  a20 := Tryz.isAgg20
  z20 := Tryz.sizeOf20
  v20 := Tryz.zeroValue20
  t37 := Tryz.underlying215
  a37 := Tryz.isAgg215
  z37 := Tryz.sizeOf215
  v37 := Tryz.zeroValue215
  t46 := Tryz.underlying210
  a46 := Tryz.isAgg210
  z46 := Tryz.sizeOf210
  v46 := Tryz.zeroValue210
  t51 := Tryz.underlying262
  a51 := Tryz.isAgg262
  z51 := Tryz.sizeOf262
  v51 := Tryz.zeroValue262
  t53 := Tryz.underlying130
  a53 := Tryz.isAgg130
  z53 := Tryz.sizeOf130
  v53 := Tryz.zeroValue130
  t171 := Tryz.underlying257
  a171 := Tryz.isAgg257
  z171 := Tryz.sizeOf257
  v171 := Tryz.zeroValue257
  t173 := Tryz.underlying260
  a173 := Tryz.isAgg260
  z173 := Tryz.sizeOf260
  v173 := Tryz.zeroValue260
  t212 := Tryz.underlying278
  a212 := Tryz.isAgg278
  z212 := Tryz.sizeOf278
  v212 := Tryz.zeroValue278
  t213 := Tryz.underlying279
  a213 := Tryz.isAgg279
  z213 := Tryz.sizeOf279
  t232 := Tryz.underlying295
  a232 := Tryz.isAgg295
  z232 := Tryz.sizeOf295
  v232 := Tryz.zeroValue295
  t233 := Tryz.underlying296
  a233 := Tryz.isAgg296
  z233 := Tryz.sizeOf296
  v233 := Tryz.zeroValue296
  g17 := by kernel_rfl
  g18 := by kernel_rfl
  g19 := by kernel_rfl
  i0 := by kernel_rfl
  i2 := by kernel_rfl
  i3 := by kernel_rfl
  i4 := by kernel_rfl
  i5 := by kernel_rfl
  i9 := by kernel_rfl
  i20 := by kernel_rfl
  i37 := by kernel_rfl
  i46 := by kernel_rfl
  i51 := by kernel_rfl
  i53 := by kernel_rfl
  i171 := by kernel_rfl
  i173 := by kernel_rfl
  i212 := by kernel_rfl
  i232 := by kernel_rfl
  i233 := by kernel_rfl
  m17 := by kernel_rfl
  m18 := by kernel_rfl
  m19 := by kernel_rfl }
open Go.RowKit Go.Sort Go.Lib in
theorem Tryz.strconv_Itoa (n : Int) (h0 : -9223372036854775808 ≤ n) (h1 : n ≤ 9223372036854775807) (w : World) (htab : Lib.TabIs Tryz.prog w "internal/strconv.uint64pow10" .u64 Lib.pow10Tab) :
    Calls Tryz.prog 88 #[.int .i64 n] w fun e w' => e = .returned (.string ⟨(Lib.itoa n).toArray⟩) ∧ ∃ k os, w' = grow (w.drewN k) os := Any.strconv_Itoa Tryz.laysM171 n h0 h1 w htab
def Tryz.lays212_ren : Go.Shelf.Ren := ⟨fun | 212 => 152 | 263 => 207 | 264 => 208 | n => n, fun | 46 => 210 | 51 => 262 | 146 => 263 | 53 => 130 | 148 => 265 | n => n, fun | n => n⟩
theorem Tryz.lays212 : Go.Proofs.Lays.n212 Tryz.prog Tryz.lays212_ren := {
  mixed := by kernel_rfl
  f212 := Tryz.func152.trans (congrArg some (by kernel_rfl))
  f263 := Tryz.func207.trans (congrArg some (by kernel_rfl))
  f264 := Tryz.func208.trans (congrArg some (by kernel_rfl))
  t46 := Tryz.underlying210
  a46 := Tryz.isAgg210
  z46 := Tryz.sizeOf210
  v46 := Tryz.zeroValue210
  t51 := Tryz.underlying262
  a51 := Tryz.isAgg262
  z51 := Tryz.sizeOf262
  v51 := Tryz.zeroValue262
  t53 := Tryz.underlying130
  a53 := Tryz.isAgg130
  z53 := Tryz.sizeOf130
  v53 := Tryz.zeroValue130
  t146 := Tryz.underlying263
  a146 := Tryz.isAgg263
  z146 := Tryz.sizeOf263
  v146 := Tryz.zeroValue263
  t148 := Tryz.underlying265
  a148 := Tryz.isAgg265
  z148 := Tryz.sizeOf265
  v148 := Tryz.zeroValue265 }
open Go.RowKit Go.Lib in
theorem Tryz.bits_Mul (x y : Nat) (hx : x < 18446744073709551616) (hy : y < 18446744073709551616) (w : World) :
    Calls Tryz.prog 152 #[.int .u64 x, .int .u64 y] w fun e w' => e = .returned (.tuple #[.int .u64 ((x * y / 18446744073709551616 : Nat) : Int), .int .u64 ((x * y % 18446744073709551616 : Nat) : Int)]) ∧ w' = w := Any.bits_Mul Tryz.lays212 x y hx hy w
end Go.Proofs

namespace Go.Proofs.YtbphdcffpobcbaaGreatDoor
open Go.RowKit Go
theorem DPure.ofGl {P : Program} {f : FuncId} {ds : List D} {K : D → List Blk → Prop} (us : List Value) (hu : keyDs ds = some us) (hg : goFn P f = true) (v : Value) (d : D) (hv : ∀ E w ι, RV E w ι d v)
    (h : ∀ F w, GlOk F w → Calls P f us.toArray w fun e w' => e = .returned v ∧ Below w.heap.size w w') (hK : K d []) : DPure P f ds K :=
  ⟨hg, fun F w vs hF hgl hvs => by
    rw [keyDs_ok hvs hu]
    refine (h F w hgl).mono ?_
    rintro e w' ⟨rfl, hb⟩
    exact ⟨F, fun _ => none, d, [], v, rfl, ⟨hb.size, fun b h => hb.block b h, fun _ h => h, fun b h => ⟨.inl h, Nat.lt_of_lt_of_le (hF b h) hb.size⟩, fun i x hx => by simp at hx, fun i b cap hi => by simp at hi, fun i j b c c' hi => by simp at hi, fun _ _ => rfl, hv _ _ _, hb.os, hb.output, hb.tape⟩, hK⟩⟩
theorem gl_tab {F : Nat → Prop} {w : World} (h : GlOk F w) {g : Nat} {name : String} {k : IntKind} {tab : List Int} (hm : (g, (tab.map fun z => Value.int k z).toArray) ∈ glb) (hn : Tryz.prog.globalNamed name = some g) : Lib.TabIs Tryz.prog w name k tab := by
  obtain ⟨-, t, fz, e⟩ := h _ _ hm
  unfold Lib.TabIs World.var?
  rw [hn]
  simp [e]
theorem below_drewN (w : World) (k : Nat) : Below w.heap.size w (w.drewN k) := by
  induction k with
  | zero => exact Below.refl _ _
  | succ k ih => exact ⟨ih.os, ih.tape, ih.output, ih.size, ih.block⟩
theorem heap_drewN (w : World) (k : Nat) : (w.drewN k).heap.size = w.heap.size := by
  induction k with
  | zero => rfl
  | succ k ih => exact ih
theorem below_grow (w : World) (os : Array Obj) : Below w.heap.size w (Go.Sort.grow w os) := ⟨rfl, rfl, rfl, by simp [Go.Sort.grow], fun k hk => by simp [Go.Sort.grow, Array.getElem?_append, hk]⟩
theorem itoa_ok (n : Int) (h0 : InI n) {K : D → List Blk → Prop} (h : K (dS ⟨(Lib.itoa n).toArray⟩) []) : DPure Tryz.prog 88 [dI n] K := by
  have h1 : -9223372036854775808 ≤ n ∧ n ≤ 9223372036854775807 := h0
  refine DPure.ofGl [.int .i64 n] rfl (by kernel_rfl) (.string ⟨(Lib.itoa n).toArray⟩) _ (fun _ _ _ => by rw [RV]; exact .lit rfl) (fun F w hgl => ?_) h
  refine (Tryz.strconv_Itoa n h1.1 h1.2 w (gl_tab hgl (g := 1) (by simp [glb]) (by kernel_rfl))).mono ?_
  rintro e w' ⟨rfl, k, os, rfl⟩
  exact ⟨rfl, (below_drewN w k).trans (by rw [← heap_drewN w k]; exact below_grow _ os)⟩
theorem fmtBool1_ok (b : Bool) {K : D → List Blk → Prop} (h : K (dS (if b = true then "true".toUTF8 else "false".toUTF8)) []) : DPure Tryz.prog 150 [dB b] K := by
  refine fn_ok [0,2,3] [] Tryz.func150 rfl (by kernel_rfl) rfl rfl rfl rfl (by kernel_rfl) ?_
  cases b
  · simp
    exact h
  · simp
    exact h
theorem fmtBool_ok (b : Bool) {K : D → List Blk → Prop} (h : K (dS (if b = true then "true".toUTF8 else "false".toUTF8)) []) : DPure Tryz.prog 96 [dB b] K := by
  refine fn_ok [0,2] [] Tryz.func96 rfl (by kernel_rfl) rfl rfl rfl rfl (by kernel_rfl) ?_
  simp
  refine fmtBool1_ok b ?_
  simp
  exact h
theorem isPow_ok {K : D → List Blk → Prop} (h : K (dB true) []) : DPure Tryz.prog 232 [dI 16] K := by
  refine fn_ok [0,2] [] Tryz.func232 rfl (by kernel_rfl) rfl rfl rfl rfl (by kernel_rfl) ?_
  simp
  exact kB h (by kernel_rfl)
theorem tz64_calls (F : Nat → Prop) (w : World) (hg : GlOk F w) : Calls Tryz.prog 246 #[.int .u64 16] w fun e w' => e = .returned (.int .i64 4) ∧ Below w.heap.size w w' := by
  have ht := gl_tab hg (g := 6) (name := "math/bits.deBruijn64tab") (k := .u8) (tab := tz64Tab) (by simp [glb]) (by kernel_rfl)
  have he : (IntKind.u64.wrap (bits BinOp.and IntKind.u64 16 (IntKind.u64.wrap (-16)) * 285870213051353865) / 288230376151711744).toNat = 15 := by kernel_rfl
  have hc : w.cell? ⟨6, 15, none⟩ = some (.int .u8 4) := by
    obtain ⟨-, t, fz, e⟩ := hg 6 (tz64Tab.map fun z => Value.int .u8 z).toArray (by simp [glb])
    simp [World.cell?, e, tz64Tab]
  go_enter Tryz.func246, Tryz.ntmps246
  go_wp2
  refine bodyPost_ret (v := .int .i64 4) (by simp [results, Tryz.results246, go_sem, *] <;> rfl) rfl ?_
  exact ⟨rfl, Below.refl _ _⟩
abbrev dUn (n : Int) : D := .one (.d (.lit (.int .u64 n)))
theorem tz64_ok {K : D → List Blk → Prop} (h : K (dI 4) []) : DPure Tryz.prog 246 [dUn 16] K :=
  DPure.ofGl [.int .u64 16] rfl (by kernel_rfl) (.int .i64 4) _ (fun _ _ _ => by rw [RV]; exact .lit rfl) (fun F w hgl => tz64_calls F w hgl) h
theorem tz_ok {K : D → List Blk → Prop} (h : K (dI 4) []) : DPure Tryz.prog 233 [dUn 16] K := by
  refine fn_ok [0,2] [] Tryz.func233 rfl (by kernel_rfl) rfl rfl rfl rfl (by kernel_rfl) ?_
  simp
  refine tz64_ok ?_
  simp
  exact h
def dig (n : Nat) : UInt8 := UInt8.ofNat (if n < 10 then 48 + n else 87 + n)
def hexD (n : Nat) : List UInt8 := if _h : n < 16 then [dig n] else hexD (n / 16) ++ [dig (n % 16)]
termination_by n
decreasing_by omega
def hexF : Nat → Nat → List UInt8
  | 0, _ => []
  | k + 1, n => hexF k (n / 16) ++ [dig (n % 16)]
theorem hexF_len : ∀ k n, (hexF k n).length = k
  | 0, _ => rfl
  | k + 1, n => by rw [hexF, List.length_append, hexF_len]; rfl
theorem hexF_zero : ∀ k, hexF k 0 = List.replicate k 48
  | 0 => rfl
  | k + 1 => by rw [hexF, Nat.zero_div, hexF_zero k, List.replicate_succ']; rfl
theorem hex_pad : ∀ k n, n < 16 ^ (k + 1) → (hexD n).length ≤ k + 1 ∧ List.replicate (k + 1 - (hexD n).length) 48 ++ hexD n = hexF (k + 1) n
  | k, n, h => by
    rw [hexD]
    by_cases hs : n < 16
    · rw [dif_pos hs]
      refine ⟨by simp, ?_⟩
      rw [hexF, Nat.div_eq_of_lt hs, hexF_zero, Nat.mod_eq_of_lt hs]
      simp
    · rw [dif_neg hs]
      cases k with
      | zero => simp at h; omega
      | succ k =>
        have h2 : n / 16 < 16 ^ (k + 1) := by rw [Nat.div_lt_iff_lt_mul (by omega), ← Nat.pow_succ]; exact h
        obtain ⟨g1, g2⟩ := hex_pad k (n / 16) h2
        refine ⟨by simp; omega, ?_⟩
        rw [hexF, ← g2, List.length_append, List.length_singleton, ← List.append_assoc, show k + 1 + 1 - ((hexD (n / 16)).length + 1) = k + 1 - (hexD (n / 16)).length by omega]
theorem hexF_step (k n : Nat) : hexF (k + 1) n = hexF k (n / 16) ++ [dig (n % 16)] := rfl
theorem hexF_front : ∀ (j n : Nat), hexF (j + 1) n = dig (n / 16 ^ j % 16) :: hexF j n
  | 0, n => by simp [hexF]
  | j + 1, n => by
    rw [hexF_step, hexF_front j (n / 16), hexF_step j n, Nat.div_div_eq_div_mul, ← Nat.pow_succ']
    rfl
theorem hexD_eq : ∀ (j n : Nat), n < 16 ^ (j + 1) → (j = 0 ∨ 16 ^ j ≤ n) → hexD n = hexF (j + 1) n
  | 0, n, h, _ => by
    rw [hexD, dif_pos (by simpa using h), hexF, Nat.mod_eq_of_lt (by simpa using h)]
    rfl
  | j + 1, n, h, h2 => by
    have h3 : 16 ^ (j + 1) ≤ n := h2.resolve_left (by omega)
    have h4 : 16 ≤ n := Nat.le_trans (by rw [Nat.pow_succ]; exact Nat.le_mul_of_pos_left 16 (Nat.pow_pos (by omega))) h3
    rw [hexD, dif_neg (by omega), hexF_step, hexD_eq j (n / 16) (by rw [Nat.div_lt_iff_lt_mul (by omega), ← Nat.pow_succ]; exact h) ?_]
    refine .inr ?_
    rw [Nat.le_div_iff_mul_le (by omega), ← Nat.pow_succ]; exact h3
def bC (b : UInt8) : C := .d (.lit (.int .u8 b.toNat))
def hexCs (j n : Nat) : List C := List.replicate (65 - j) (bC 0) ++ (hexF j n).map bC
theorem hexCs_len (j n : Nat) (h : j ≤ 65) : (hexCs j n).length = 65 := by simp [hexCs, hexF_len]; omega
theorem hexCs_next (j n : Nat) (h : j < 65) : splice (hexCs j n) (64 - j) [bC (dig (n / 16 ^ j % 16))] = hexCs (j + 1) n := by
  unfold splice hexCs
  rw [hexF_front]
  have e1 : (List.replicate (65 - j) (bC 0) ++ (hexF j n).map bC).take (64 - j) = List.replicate (64 - j) (bC 0) := by
    rw [List.take_append_of_le_length (by simp; omega), List.take_replicate, Nat.min_eq_left (by omega)]
  have e2 : (List.replicate (65 - j) (bC 0) ++ (hexF j n).map bC).drop (64 - j + [bC (dig (n / 16 ^ j % 16))].length) = (hexF j n).map bC := by
    rw [List.drop_append_of_le_length (by simp; omega)]
    simp
    omega
  rw [e1, e2, show 65 - (j + 1) = 64 - j by omega]
  simp
theorem hexCs_isD (j n : Nat) : ∀ x : C, x ∈ hexCs j n → x.isD = true := fun x hx => by
  rcases List.mem_append.1 hx with h | h
  · obtain ⟨-, rfl⟩ := List.mem_replicate.1 h; rfl
  · obtain ⟨b, -, rfl⟩ := List.mem_map.1 h; rfl
theorem bytesOf_map (L : List UInt8) : bytesOf (L.map fun b => [.lit (.int .u8 b.toNat)]) = some L := by
  induction L with
  | nil => rfl
  | cons b L ih =>
    simp [bytesOf, ih]
theorem hexCs_bytes (j n : Nat) (h : j ≤ 64) : bytesOf (List.drop (64 - j) (List.take 65 (List.map ((fun c => [c]) ∘ C.dt) (hexCs (j + 1) n)))) = some (hexF (j + 1) n) := by
  rw [List.take_of_length_le (by rw [List.length_map, hexCs_len _ _ (by omega)]; omega)]
  unfold hexCs
  rw [List.map_append, List.drop_left' (by simp), List.map_map]
  exact bytesOf_map _
theorem digits_at {m : Nat} (h : m < 16) : ("0123456789abcdefghijklmnopqrstuvwxyz".toUTF8).data.toList[m]? = some (dig m) := by
  have : ∀ m : Fin 16, ("0123456789abcdefghijklmnopqrstuvwxyz".toUTF8).data.toList[m.val]? = some (dig m.val) := by decide +kernel
  exact this ⟨m, h⟩
theorem digits_list : ("0123456789abcdefghijklmnopqrstuvwxyz".toUTF8).data.toList = [48, 49, 50, 51, 52, 53, 54, 55, 56, 57, 97, 98, 99, 100, 101, 102, 103, 104, 105, 106, 107, 108, 109, 110, 111, 112, 113, 114, 115, 116, 117, 118, 119, 120, 121, 122] := by decide +kernel
theorem u64_id {m : Nat} (h : m < 18446744073709551616) : IntKind.u64.wrap (m : Int) = m := by
  simp [IntKind.wrap, IntKind.min, IntKind.bits]
  rw [if_neg fun e => by cases e.1]
  omega
theorem and_15 {m : Nat} (h : m < 18446744073709551616) : IntKind.u64.wrap ((m % 2 ^ IntKind.u64.bits &&& 15 % 2 ^ IntKind.u64.bits : Nat) : Int) = ((m % 16 : Nat) : Int) := by
  rw [show IntKind.u64.bits = 64 from rfl, Nat.mod_eq_of_lt (by exact h), show 15 % 2 ^ 64 = 2 ^ 4 - 1 from rfl, Nat.and_two_pow_sub_one_eq_mod, u64_id (by omega)]
theorem shr_4 {m : Nat} : (m : Int).fdiv (2 ^ min 4 IntKind.u64.bits) = ((m / 16 : Nat) : Int) := by
  rw [show min 4 IntKind.u64.bits = 4 from rfl, Int.fdiv_eq_ediv_of_nonneg _ (by decide)]
  omega
theorem fmtBits_ok (n : Nat) (hn : n < 18446744073709551616) {K : D → List Blk → Prop} (h : K (.tup [.one (.d .emp), dS ⟨(hexD n).toArray⟩]) []) : DPure Tryz.prog 206 [.one (.d .emp), dUn n, dI 16, dB false, dB false] K := by
  refine fn_ok [0,1,2,3,4,10,11,12,13,14,15,16,17,18,28,30,34,46,68,89,94] [] Tryz.func206 rfl (by kernel_rfl) rfl rfl rfl rfl (by kernel_rfl) ?_
  simp
  refine isPow_ok ?_
  simp
  refine tz_ok ?_
  have w4 : IntKind.u64.wrap 4 = 4 := by kernel_rfl
  have w16 : IntKind.u64.wrap 16 = 16 := by kernel_rfl
  have w15 : IntKind.u64.wrap 15 = 15 := by kernel_rfl
  simp [w4, w16, w15]
  refine loopH_ok (ks := [0,1,2,3,4,10,11,12,13,14,15,16,17,18,28,30,34,46,68,89,94]) (pl := []) (n0 := 102) (α := {j : Nat // j < 16 ∧ (j = 0 ∨ 16 ^ j ≤ n)}) (fun x => [(1, dUn ((n / 16 ^ x.1 : Nat) : Int)), (13, dI ((65 - x.1 : Nat) : Int))]) (fun _ x => Hp.none.set 0 (some ⟨.c 279, 65, [hexCs x.1 n]⟩)) (fun _ => 1) (fun x => n / 16 ^ x.1) ⟨0, by decide, .inl rfl⟩ rfl (by kernel_rfl) (Wk.subH (by simp) rfl) ?_
  rintro ⟨j, hj, hjn⟩
  have hu : n / 16 ^ j < 18446744073709551616 := Nat.lt_of_le_of_lt (Nat.div_le_self _ _) hn
  by_cases c1 : 16 ≤ n / 16 ^ j
  · have c1' : ((16 : Nat) : Int) ≤ ((n / 16 ^ j : Nat) : Int) := by omega
    generalize hm : n / 16 ^ j = m at *
    have hw : IntKind.i64.wrap (((65 - j : Nat) : Int) - 1) = ((64 - j : Nat) : Int) := by rw [wrap_id (by omega) (by omega)]; omega
    have c1i : (16 : Int) ≤ (m : Int) := by omega
    have hd := digits_at (m := m % 16) (Nat.mod_lt _ (by omega))
    rw [digits_list] at hd
    have hm16 : ((m : Int) % 16).toNat = m % 16 := by omega
    simp [c1i, and_15 hu, hw, hd, hm16, hexCs_len j n (by omega), shr_4]
    have hj2 : j + 1 < 16 := by
      rcases Nat.lt_or_ge (j + 1) 16 with h | h
      · exact h
      · exfalso
        have e : j = 15 := by omega
        subst e
        have : n / 16 ^ 15 < 16 := by rw [Nat.div_lt_iff_lt_mul (Nat.pow_pos (by omega)), ← Nat.pow_succ']; exact hn
        omega
    have hdv : n / 16 ^ (j + 1) = m / 16 := by rw [Nat.pow_succ, ← Nat.div_div_eq_div_mul, hm]
    refine ⟨by omega, by omega, j + 1, by rw [hdv, hm]; omega, ⟨hj2, .inr ?_⟩, Wk.subH ?_ ?_⟩
    · have := Nat.le_of_not_lt fun hlt => absurd (Nat.div_eq_of_lt hlt) (by rw [hdv]; omega)
      exact this
    · have hdi : (n : Int) / 16 ^ (j + 1) = (m : Int) / 16 := by
        have := congrArg (Nat.cast (R := Int)) hdv
        simpa using this
      simp [hdi]
    · rw [← hexCs_next j n (by omega), hm]
      simp [splice, bC]
  · have hw : IntKind.i64.wrap (((65 - j : Nat) : Int) - 1) = ((64 - j : Nat) : Int) := by rw [wrap_id (by omega) (by omega)]; omega
    have hx := hexCs_next j n (by omega)
    have hD := hexD_eq j n ?_ hjn
    rw [hD] at h
    clear hD
    generalize hm : n / 16 ^ j = m at *
    rw [Nat.mod_eq_of_lt (by omega)] at hx
    simp [splice, bC] at hx
    have hd := digits_at (m := m) (by omega)
    rw [digits_list] at hd
    have hni : ¬ (16 : Int) ≤ (m : Int) := by omega
    simp [hni, hd, hw, hexCs_len j n (by omega), hx]
    simp only [if_pos (hexCs_isD (j + 1) n)]
    simp [hexCs_len (j + 1) n (by omega)]
    rw [hexCs_bytes j n (by omega)]
    exact ⟨by omega, by omega, by simp [maxLen], h⟩
    rw [Nat.pow_succ', ← Nat.div_lt_iff_lt_mul (Nat.pow_pos (by omega))]
    omega
theorem fmtUint1_ok (n : Nat) (hn : n < 18446744073709551616) {K : D → List Blk → Prop} (h : K (dS ⟨(hexD n).toArray⟩) []) : DPure Tryz.prog 151 [dUn n, dI 16] K := by
  refine fn_ok [0,1,4,5,6,8,10,12] [] Tryz.func151 rfl (by kernel_rfl) rfl rfl rfl rfl (by kernel_rfl) ?_
  simp
  refine fmtBits_ok n hn ?_
  simp
  exact h
theorem fmtUint_ok (n : Nat) (hn : n < 18446744073709551616) {K : D → List Blk → Prop} (h : K (dS ⟨(hexD n).toArray⟩) []) : DPure Tryz.prog 97 [dUn n, dI 16] K := by
  refine fn_ok [0,1,4] [] Tryz.func97 rfl (by kernel_rfl) rfl rfl rfl rfl (by kernel_rfl) ?_
  simp
  refine fmtUint1_ok n hn ?_
  simp
  exact h
end Go.Proofs.YtbphdcffpobcbaaGreatDoor

namespace Go.Proofs.YtbphdcffpobcbaaGreatDoor
open Go.RowKit Go
theorem mul_ok (x y : Nat) (hx : x < 18446744073709551616) (hy : y < 18446744073709551616) {K : D → List Blk → Prop} (h : K (.tup [dUn ((x * y / 18446744073709551616 : Nat) : Int), dUn ((x * y % 18446744073709551616 : Nat) : Int)]) []) : DPure Tryz.prog 152 [dUn x, dUn y] K :=
  DPure.ofGl [.int .u64 x, .int .u64 y] rfl (by kernel_rfl) (.tuple #[.int .u64 ((x * y / 18446744073709551616 : Nat) : Int), .int .u64 ((x * y % 18446744073709551616 : Nat) : Int)]) _
    (fun _ _ _ => by rw [RV]; exact ⟨_, rfl, by simp only [RVs]; exact ⟨by rw [RV]; exact .lit rfl, by rw [RV]; exact .lit rfl, trivial⟩⟩) (fun F w _ => (Tryz.bits_Mul x y hx hy w).mono fun e w' h => ⟨h.1, by rw [h.2]; exact Below.refl _ _⟩) h
theorem hasPrefix1_ok (s t : ByteArray) (b : Bool) (hb : b = (decide (t.size ≤ s.size) && decide (s.extract 0 t.size = t))) {K : D → List Blk → Prop} (h : K (dB b) []) : DPure Tryz.prog 209 [dS s, dS t] K := by
  refine fn_ok [0,1,4] [] Tryz.func209 rfl (by kernel_rfl) rfl rfl rfl rfl (by kernel_rfl) ?_
  simp
  by_cases c : t.size ≤ s.size
  · rw [if_pos c]
    exact ⟨c, kB h (by rw [hb]; simp [c])⟩
  · rw [if_neg c]
    exact kB h (by rw [hb]; simp [c])
theorem hasPrefix_ok (s t : ByteArray) (b : Bool) (hb : b = (decide (t.size ≤ s.size) && decide (s.extract 0 t.size = t))) {K : D → List Blk → Prop} (h : K (dB b) []) : DPure Tryz.prog 153 [dS s, dS t] K := by
  refine fn_ok [0,1,4] [] Tryz.func153 rfl (by kernel_rfl) rfl rfl rfl rfl (by kernel_rfl) ?_
  simp
  refine hasPrefix1_ok s t b hb ?_
  simp
  exact h
def zerosT : ByteArray := ⟨#[48, 48, 48, 48, 48, 48, 48, 48, 48, 48, 48, 48, 48, 48, 48, 48, 48, 48, 48, 48, 48, 48, 48, 48, 48, 48, 48, 48, 48, 48, 48, 48, 48, 48, 48, 48, 48, 48, 48, 48, 48, 48, 48, 48, 48, 48, 48, 48, 48, 48, 48, 48, 48, 48, 48, 48, 48, 48, 48, 48, 48, 48, 48, 48]⟩
theorem zeros_at {k : Nat} (hk : k ≤ 15) : zerosT.extract 0 k = ⟨(List.replicate k (48 : UInt8)).toArray⟩ := by
  have : ∀ k : Fin 16, zerosT.extract 0 k.val = ⟨(List.replicate k.val (48 : UInt8)).toArray⟩ := by decide +kernel
  exact this ⟨k, by omega⟩
theorem repeat_ok (k : Nat) (hk : k ≤ 15) {K : D → List Blk → Prop} (h : K (dS ⟨(List.replicate k (48 : UInt8)).toArray⟩) []) : DPure Tryz.prog 98 [dS ⟨#[48]⟩, dI k] K := by
  obtain ⟨S, hS⟩ : ∃ S : ByteArray, S = ⟨#[48]⟩ := ⟨_, rfl⟩
  rw [← hS]
  have sz : S.size = 1 := by rw [hS]; rfl
  have s1 : ∀ h : 0 < S.data.size, S.data[0]'h = 48 := fun h => by subst hS; rfl
  have s2 : (48 : UInt8).toNat = 48 := rfl
  have k128 : (k : Int) ≤ 128 := by omega
  have k64 : (k : Int) ≤ 64 := by omega
  refine fn_ok [0,1,4,5,6,7,8,9,10,11,12,14,18,34,40,42,43,49,58,67,76,85,96,104,113] [] Tryz.func98 rfl (by kernel_rfl) rfl rfl rfl rfl (by kernel_rfl) ?_
  by_cases c0 : k = 0
  · subst c0
    simp
    exact h
  by_cases c1 : k = 1
  · subst c1
    simp
    rw [hS]
    exact h
  have k0 : ¬ (k : Int) = 0 := by omega
  have k1 : ¬ (k : Int) = 1 := by omega
  have k2 : ¬ (k : Int) < 0 := by omega
  have w1 : IntKind.u64.wrap 1 = 1 := by kernel_rfl
  have w2 : IntKind.u64.wrap (k : Int) = (k : Int) := u64_id (by omega)
  simp [c0, k0, k1, k2, w1, w2, sz]
  refine mul_ok 1 k (by omega) (by omega) ?_
  have d1 : 1 * k / 18446744073709551616 = 0 := by omega
  have d2 : 1 * k % 18446744073709551616 = k := by omega
  rw [d1, d2]
  have w3 : IntKind.i64.wrap (k : Int) = (k : Int) := wrap_id (by omega) (by omega)
  have k3 : ¬ (9223372036854775807 : Int) < (k : Int) := by omega
  simp [c0, k0, k3, w3, sz, s1, s2, k128, k64]
  refine hasPrefix_ok _ S false (by subst hS; decide +kernel) ?_
  simp [k128, k64]
  refine hasPrefix_ok _ S false (by subst hS; decide +kernel) ?_
  simp [k128, k64]
  refine hasPrefix_ok _ S true (by subst hS; decide +kernel) ?_
  simp
  rw [← zeros_at hk] at h
  exact ⟨show k ≤ zerosT.size by have : zerosT.size = 64 := rfl; omega, h⟩
end Go.Proofs.YtbphdcffpobcbaaGreatDoor

