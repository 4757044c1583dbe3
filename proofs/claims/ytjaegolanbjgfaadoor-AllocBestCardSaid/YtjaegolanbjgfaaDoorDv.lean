import Derived.Test.YtjaegolanbjgfaaDoorGr
import Derived.Test.YtjaegolanbjgfaaDoorMd
import Derived.WalkKit
import Derived.WalkSpells
import Derived.WalkLawsBesides
import Derived.Lib.Hide
import Derived.Deep.DeepCutAuto
import Derived.Deep.LoopGhost
import Derived.Deep.QuietTactic
import Derived.BigQuiet
import Derived.Deep.OwnRows
import Derived.StillTailTactics
import Derived.IntWalk
import Derived.Laws.BitsLemmas
import Derived.Laws.MathBits
import Derived.Laws.Bits64
import Derived.Deep.RegionHeld3
set_option linter.unusedVariables false
set_option linter.unusedSimpArgs false
namespace Go.Proofs.YtjaegolanbjgfaaDoor
open Go.RowKit
/-- How many bits a byte has (the library's table). -/
def len8 : ByteArray := ⟨#[0, 1, 2, 2, 3, 3, 3, 3, 4, 4, 4, 4, 4, 4, 4, 4, 5, 5, 5, 5, 5, 5, 5, 5, 5, 5, 5, 5, 5, 5, 5, 5, 6, 6, 6, 6, 6, 6, 6, 6, 6, 6, 6, 6, 6, 6, 6, 6, 6, 6, 6, 6, 6, 6, 6, 6, 6, 6, 6, 6, 6, 6, 6, 6, 7, 7, 7, 7, 7, 7, 7, 7, 7, 7, 7, 7, 7, 7, 7, 7, 7, 7, 7, 7, 7, 7, 7, 7, 7, 7, 7, 7, 7, 7, 7, 7, 7, 7, 7, 7, 7, 7, 7, 7, 7, 7, 7, 7, 7, 7, 7, 7, 7, 7, 7, 7, 7, 7, 7, 7, 7, 7, 7, 7, 7, 7, 7, 7, 8, 8, 8, 8, 8, 8, 8, 8, 8, 8, 8, 8, 8, 8, 8, 8, 8, 8, 8, 8, 8, 8, 8, 8, 8, 8, 8, 8, 8, 8, 8, 8, 8, 8, 8, 8, 8, 8, 8, 8, 8, 8, 8, 8, 8, 8, 8, 8, 8, 8, 8, 8, 8, 8, 8, 8, 8, 8, 8, 8, 8, 8, 8, 8, 8, 8, 8, 8, 8, 8, 8, 8, 8, 8, 8, 8, 8, 8, 8, 8, 8, 8, 8, 8, 8, 8, 8, 8, 8, 8, 8, 8, 8, 8, 8, 8, 8, 8, 8, 8, 8, 8, 8, 8, 8, 8, 8, 8, 8, 8, 8, 8, 8, 8, 8, 8, 8, 8, 8, 8, 8, 8, 8, 8, 8, 8, 8, 8]⟩
/-- n is how many bits y has. -/
def Bits (y n : Int) : Prop := ∃ k : Nat, n = k + 1 ∧ (2 : Int) ^ k ≤ y ∧ y < 2 ^ (k + 1)
set_option maxRecDepth 100000 in
theorem tab8 : ∀ i : Fin 256, i = 0 ∨ ∃ k : Fin 8, (len8.data[i]'(by exact i.2)).toNat = k.val + 1 ∧ 2 ^ k.val ≤ i.val ∧ i.val < 2 ^ (k.val + 1) := by decide +kernel
set_option maxRecDepth 100000 in
theorem len8_bits (x : Int) (h0 : 1 ≤ x) (h1 : x < 256) (h : x.toNat < len8.size) : Bits x (len8[x.toNat].toNat : Int) := by
  obtain ⟨n, rfl⟩ := Int.eq_ofNat_of_zero_le (show 0 ≤ x by omega)
  rcases tab8 ⟨n, by omega⟩ with h' | ⟨k, hk, h2, h3⟩
  · simp at h'; omega
  · refine ⟨k.val, ?_, ?_, ?_⟩
    · have : len8[(n : Int).toNat].toNat = k.val + 1 := hk
      omega
    · simp only at h2; exact_mod_cast h2
    · simp only at h3; exact_mod_cast h3
theorem bits_shift {x y n : Int} (s : Nat) (h : Bits x n) (h0 : x * 2 ^ s ≤ y) (h1 : y < (x + 1) * 2 ^ s) : Bits y (s + n) := by
  obtain ⟨k, rfl, ha, hb⟩ := h
  have hp : (0 : Int) < 2 ^ s := Int.pow_pos (by decide)
  refine ⟨s + k, by omega, ?_, ?_⟩
  · have := Int.mul_le_mul_of_nonneg_right ha (Int.le_of_lt hp)
    rw [Int.pow_add, Int.mul_comm]; omega
  · have hb' : x + 1 ≤ 2 ^ (k + 1) := by omega
    have := Int.mul_le_mul_of_nonneg_right hb' (Int.le_of_lt hp)
    rw [show s + k + 1 = s + (k + 1) by omega, Int.pow_add, Int.mul_comm (2 ^ s)]; omega
theorem bits_le {y n : Int} (h : Bits y n) (h1 : y ≤ 1000000000) : 1 ≤ n ∧ n ≤ 30 := by
  obtain ⟨k, rfl, ha, hb⟩ := h
  have : k < 30 := by
    apply Classical.byContradiction
    intro hk
    have : (2 : Int) ^ 30 ≤ 2 ^ k := by exact_mod_cast Nat.pow_le_pow_right (by decide) (show 30 ≤ k by omega)
    have e : (2 : Int) ^ 30 = 1073741824 := by decide
    omega
  omega
theorem len_fin {x y : Int} (s : Nat) (h0 : 1 ≤ x) (h1 : x < 256) (h2 : x * 2 ^ s ≤ y) (h3 : y < (x + 1) * 2 ^ s) (h4 : y ≤ 1000000000) (h : x.toNat < len8.size) : Bits y (wrap64 (s + wrap64 (len8[x.toNat].toNat : Int))) := by
  have hc := bits_shift s (len8_bits x h0 h1 h) h2 h3
  have hd := bits_le hc h4
  have := (len8[x.toNat]).toNat_lt
  rw [show wrap64 (s + wrap64 (len8[x.toNat].toNat : Int)) = (s : Int) + (len8[x.toNat].toNat : Int) by unfold wrap64; omega]
  exact hc
theorem len_fin0 {x : Int} (h0 : 1 ≤ x) (h1 : x < 256) (h4 : x ≤ 1000000000) (h : x.toNat < len8.size) : Bits x (wrap64 (wrap64 (len8[x.toNat].toNat : Int))) := by
  have := (len8[x.toNat]).toNat_lt
  rw [show wrap64 (wrap64 (len8[x.toNat].toNat : Int)) = (len8[x.toNat].toNat : Int) by unfold wrap64; omega]
  exact len8_bits x h0 h1 h
def SomeBits (y : Int) (w : World) (e : Ending) (w' : World) : Prop := w = w' ∧ ∃ n : Int, e = .returned (.int .i64 n) ∧ Bits y n
set_option maxRecDepth 100000 in
set_option maxHeartbeats 1000000 in
theorem len64 (y : Int) (w : World) (h0 : 1 ≤ y) (h1 : y ≤ 1000000000) : Calls Tryd.prog 89 #[.int .u64 y] w (SomeBits y w) := by
  go_enter Tryd.func89, Tryd.ntmps89
  go_wp2
  · go_ret
    exact ⟨rfl, _, rfl, len_fin (x := y / 65536 / 256) 24 (by omega) (by omega) (by omega) (by omega) h1 _⟩
  · go_ret
    exact ⟨rfl, _, rfl, len_fin (x := y / 65536) 16 (by omega) (by omega) (by omega) (by omega) h1 _⟩
  · go_ret
    exact ⟨rfl, _, rfl, len_fin (x := y / 256) 8 (by omega) (by omega) (by omega) (by omega) h1 _⟩
  · go_ret
    exact ⟨rfl, _, rfl, len_fin0 (by omega) (by omega) h1 _⟩
theorem bits_one {y n : Int} (h : Bits y n) (h1 : y ≤ 1000000000) : ∃ s : Nat, 64 - n = s ∧ 34 ≤ s ∧ s ≤ 63 ∧ y * 2 ^ s < 18446744073709551616 := by
  have hd := bits_le h h1
  obtain ⟨k, rfl, ha, hb⟩ := h
  refine ⟨63 - k, by omega, by omega, by omega, ?_⟩
  have hp : (0 : Int) < 2 ^ (63 - k) := Int.pow_pos (by decide)
  have := Int.mul_lt_mul_of_pos_right hb hp
  rw [← Int.pow_add, show k + 1 + (63 - k) = 64 by omega] at this
  have e64 : (2 : Int) ^ 64 = 18446744073709551616 := by decide
  omega
def SomeShift (y : Int) (w : World) (e : Ending) (w' : World) : Prop := w = w' ∧ ∃ s : Nat, e = .returned (.int .i64 s) ∧ 34 ≤ s ∧ s ≤ 63 ∧ y * 2 ^ s < 18446744073709551616
set_option maxHeartbeats 1000000 in
theorem lead64 (y : Int) (w : World) (h0 : 1 ≤ y) (h1 : y ≤ 1000000000) : Calls Tryd.prog 78 #[.int .u64 y] w (SomeShift y w) := by
  have H := Lib.hid (len64 y w h0 h1)
  go_enter Tryd.func78, Tryd.ntmps78
  go_wp2_with fail
  refine H.out.mono ?_
  rintro e w' ⟨rfl, n, rfl, hb⟩
  obtain ⟨s, hs, hs0, hs1, hs2⟩ := bits_one hb h1
  have hn := bits_le hb h1
  have HS := Lib.hid hs
  have HB := Lib.hid hs2
  clear hb hs hs2 H
  go_wp2_with fail
  go_ret
  exact ⟨rfl, s, by rw [← HS.out]; rfl, hs0, hs1, HB.out⟩
set_option maxRecDepth 100000 in
set_option maxHeartbeats 2000000 in
theorem div64 (hi lo y : Int) (w : World) (h0 : 1 ≤ hi) (h1 : hi < y) (h2 : y ≤ 1000000000) (hl : Hid (0 ≤ lo ∧ lo < 18446744073709551616)) :
    Calls Tryd.prog 69 #[.int .u64 hi, .int .u64 lo, .int .u64 y] w fun e w' => e = .returned (.tuple #[.int .u64 ((hi * 18446744073709551616 + lo) / y), .int .u64 ((hi * 18446744073709551616 + lo) % y)]) ∧ w = w' := by
  obtain ⟨q, hq⟩ : ∃ q, q = (hi * 18446744073709551616 + lo) / y := ⟨_, rfl⟩
  obtain ⟨r, hr⟩ : ∃ r, r = (hi * 18446744073709551616 + lo) % y := ⟨_, rfl⟩
  rw [← hq, ← hr]
  have HQ := Lib.hid hq
  have HR := Lib.hid hr
  have H := Lib.hid (lead64 y w (by omega) h2)
  have g1 : (y == 0) = false := beq_eq_false_iff_ne.2 (by omega)
  have g2 : (hi == 0) = false := beq_eq_false_iff_ne.2 (by omega)
  clear hq hr
  go_enter Tryd.func69, Tryd.ntmps69
  go_wp2_with fail
  refine H.out.mono ?_
  rintro e w' ⟨rfl, s, rfl, hs0, hs1, hs2⟩
  obtain ⟨Y, Yn, U, T, T1, T0, Q1, V, Q0, a1, a2, a3, a4, a5, a6, a7, a8, a9, a10, a11, a12, a13, a14, a15⟩ := div_steps h0 h1 h2 hl.out.1 hl.out.2 hs0 hs1 hs2
  rw [← HQ.out] at a14
  rw [← HR.out] at a15
  have b1 : (Yn == 0) = false := beq_eq_false_iff_ne.2 (by omega)
  have b2 : decide (4294967296 ≤ Q1) = false := decide_eq_false (by omega)
  have b3 : decide (4294967296 ≤ Q0) = false := decide_eq_false (by omega)
  have b4 : ¬ Yn = 0 := by omega
  have s1 : ((64 : Int) - (s : Int)).toNat = 64 - s := by omega
  clear hs2 a10 a13 h0 h1 h2
  go_wp2_with fail
  go_loop [15, 16] (fun a b => a = .int .u64 Q1 ∧ ∃ R, b = .int .u64 R) (fun _ _ => 0)
  case atStart => exact ⟨rfl, _, rfl⟩
  case round =>
    obtain ⟨rfl, R, rfl⟩ := hrel
    have n1 : 0 ≤ IntKind.u64.wrap (IntKind.u64.wrap (4294967296 * R) + T1) := wrap_u64_nonneg _
    go_wp2_with fail
    clear n1
    go_loop [16, 18] (fun b a => a = .int .u64 Q0 ∧ ∃ R, b = .int .u64 R) (fun _ _ => 0)
    case atStart => exact ⟨rfl, _, rfl⟩
    case round =>
      obtain ⟨rfl, R, rfl⟩ := hrel
      have n1 : 0 ≤ IntKind.u64.wrap (IntKind.u64.wrap (4294967296 * R) + T0) := wrap_u64_nonneg _
      go_wp2_with fail
      go_ret2
      exact ⟨rfl, by trivial⟩
set_option maxHeartbeats 1000000 in
theorem div64z (lo y : Int) (w : World) (h1 : 0 < y) (hl : 0 ≤ lo) (hq : IntKind.u64.wrap (lo.tdiv y) = lo / y) (hr : IntKind.u64.wrap (lo.tmod y) = lo % y) :
    Calls Tryd.prog 69 #[.int .u64 0, .int .u64 lo, .int .u64 y] w fun e w' => e = .returned (.tuple #[.int .u64 (lo / y), .int .u64 (lo % y)]) ∧ Below w.heap.size w w' := by
  have g1 : (y == 0) = false := beq_eq_false_iff_ne.2 (by omega)
  have g2 : ¬ y = 0 := by omega
  go_enter Tryd.func69, Tryd.ntmps69
  go_wp2_with fail
  go_quiet (fail)
  go_wp2_with fail
  go_ret2
  exact ⟨rfl, bdN _ _⟩
set_option maxHeartbeats 1000000 in
theorem signed_yes (n : Int) (w : World) (h0 : 0 ≤ n) (h1 : n ≤ 9223372036854775807) :
    Calls Tryd.prog 70 #[.int .u64 n, .bool false] w fun e w' => e = .returned (.tuple #[.int .i64 n, .bool true]) ∧ w = w' := by
  go_enter Tryd.func70, Tryd.ntmps70
  go_wp2_with fail
  go_ret2
  exact ⟨rfl, rfl⟩
set_option maxHeartbeats 1000000 in
theorem signed_no (n : Int) (w : World) (h0 : 9223372036854775807 < n) :
    Calls Tryd.prog 70 #[.int .u64 n, .bool false] w fun e w' => e = .returned (.tuple #[.int .i64 0, .bool false]) ∧ w = w' := by
  go_enter Tryd.func70, Tryd.ntmps70
  go_wp2_with fail
  go_ret2
  exact ⟨rfl, rfl⟩
theorem div_any (hi lo y : Int) (w : World) (h0 : 0 ≤ hi) (h1 : hi < y) (h2 : y ≤ 1000000000) (hl : Hid (0 ≤ lo ∧ lo < 18446744073709551616)) :
    Calls Tryd.prog 69 #[.int .u64 hi, .int .u64 lo, .int .u64 y] w fun e w' => e = .returned (.tuple #[.int .u64 ((hi * 18446744073709551616 + lo) / y), .int .u64 ((hi * 18446744073709551616 + lo) % y)]) ∧ Below w.heap.size w w' := by
  by_cases hz : hi = 0
  · subst hz
    obtain ⟨a, b⟩ := hl.out
    have q0 : 0 ≤ lo / y := Int.ediv_nonneg a (by omega)
    have q1 : lo / y ≤ lo := Int.ediv_le_self _ a
    have r0 : 0 ≤ lo % y := Int.emod_nonneg _ (by omega)
    have r1 : lo % y < y := Int.emod_lt_of_pos _ (by omega)
    have h := div64z lo y w (by omega) a (by rw [Int.tdiv_eq_ediv_of_nonneg a, IntKind.wrap_u64]; omega) (by rw [Int.tmod_eq_emod_of_nonneg a, IntKind.wrap_u64]; omega)
    simpa using h
  · exact (div64 hi lo y w (by omega) h1 h2 hl).mono fun e w' ⟨he, hw⟩ => ⟨he, by rw [← hw]; exact Below.refl _ _⟩
set_option maxRecDepth 100000 in
set_option maxHeartbeats 2000000 in
theorem Div_up (a b c : Int) (w : World) (ha : 0 ≤ a ∧ a ≤ 1000000000000) (hb : 0 ≤ b ∧ b ≤ 1000000000) (hc : 1 ≤ c ∧ c ≤ 1000000000) :
    Calls Tryd.prog 53 #[.int .i64 a, .int .i64 b, .int .i64 c, .bool true] w fun e w' => e = .returned (.tuple #[.int .i64 (ansq (a * b) c), .bool (fitq (a * b) c)]) ∧ Below w.heap.size w w' := by
  have hp := mul_bd (t := a) (T := 1000000000000) (v := b) (V := 1000000000) ha.1 ha.2 hb.1 hb.2
  obtain ⟨N, hN⟩ : ∃ N, N = a * b := ⟨_, rfl⟩
  obtain ⟨hi, ehi⟩ : ∃ hi, hi = a * b / 18446744073709551616 := ⟨_, rfl⟩
  obtain ⟨lo, elo⟩ : ∃ lo, lo = a * b % 18446744073709551616 := ⟨_, rfl⟩
  have S1 := Lib.hid fun W => size_pos a W ha.1 ha.2
  have S2 := Lib.hid fun W => size_pos b W hb.1 (by omega)
  have W1 := Lib.hid fun W => wide_small a b W ha.1 ha.2 hb.1 hb.2
  rw [← ehi, ← elo] at W1
  have hN2 : N = hi * 18446744073709551616 + lo := by omega
  have hl : Hid (0 ≤ lo ∧ lo < 18446744073709551616) := ⟨by omega, by omega⟩
  have hi0 : 0 ≤ hi := by omega
  rw [← hN]
  have HN := Lib.hid hN2
  have HP : Hid (0 ≤ N) := by show 0 ≤ N; omega
  clear ehi elo hN hN2 hp ha hb
  obtain ⟨hc0, hc1⟩ := hc
  have g1 : ¬ c ≤ 0 := by omega
  by_cases hge : c ≤ hi
  · have g2 : decide (c ≤ hi) = true := decide_eq_true hge
    have hf : fitq N c = false := by
      have : (c : Int) * 18446744073709551616 ≤ N := by
        have := HN.out; have := hl.out
        have h3 : c * 18446744073709551616 ≤ hi * 18446744073709551616 := Int.mul_le_mul_of_nonneg_right hge (by decide)
        omega
      have h4 : 18446744073709551616 ≤ N / c := (Int.le_ediv_iff_mul_le (by omega)).2 (by rw [Int.mul_comm]; exact this)
      unfold fitq ceilq
      apply decide_eq_false
      split <;> omega
    have HF := Lib.hid hf
    clear hf hge
    go_enter Tryd.func53, Tryd.ntmps53
    go_wp2_with fail
    refine (S1.out _).mono ?_
    rintro e w' ⟨rfl, rfl⟩
    go_wp2_with fail
    refine (S2.out _).mono ?_
    rintro e w' ⟨rfl, rfl⟩
    go_wp2_with fail
    refine (W1.out _).mono ?_
    rintro e w' ⟨rfl, rfl⟩
    go_wp2_with fail
    go_ret2
    exact ⟨by unfold ansq; rw [HF.out]; rfl, Below.refl _ _⟩
  · have g2 : decide (c ≤ hi) = false := decide_eq_false hge
    have D := Lib.hid fun W => div_any hi lo c W hi0 (by omega) hc1 hl
    rw [← HN.out] at D
    obtain ⟨q, hq⟩ : ∃ q, q = N / c := ⟨_, rfl⟩
    obtain ⟨r, hr⟩ : ∃ r, r = N % c := ⟨_, rfl⟩
    rw [← hq, ← hr] at D
    have hr0 : 0 ≤ r := by rw [hr]; exact Int.emod_nonneg _ (by omega)
    have hq0 : 0 ≤ q := by rw [hq]; exact Int.ediv_nonneg HP.out (by omega)
    have hq1 : q < 18446744073709551616 := by
      rw [hq]
      apply Int.ediv_lt_of_lt_mul (by omega)
      have := HN.out; have := hl.out
      have h3 : hi * 18446744073709551616 + 18446744073709551616 ≤ c * 18446744073709551616 := by
        have : (hi + 1) * 18446744073709551616 ≤ c * 18446744073709551616 := Int.mul_le_mul_of_nonneg_right (by omega) (by decide)
        omega
      rw [Int.mul_comm] at h3 ⊢
      omega
    have HQ1 : Hid (q < 18446744073709551616) := hq1
    have HC : Hid (ceilq N c = if 0 < r then q + 1 else q) := by show ceilq N c = _; unfold ceilq; rw [hq, hr]
    clear hge hq hr hq1
    go_enter Tryd.func53, Tryd.ntmps53
    go_wp2_with fail
    refine (S1.out _).mono ?_
    rintro e w' ⟨rfl, rfl⟩
    go_wp2_with fail
    refine (S2.out _).mono ?_
    rintro e w' ⟨rfl, rfl⟩
    go_wp2_with fail
    refine (W1.out _).mono ?_
    rintro e w' ⟨rfl, rfl⟩
    go_wp2_with fail
    refine (D.out _).mono ?_
    rintro e w1 ⟨rfl, hb⟩
    clear S1 S2 W1 D
    by_cases hr : 0 < r
    · have r1 : decide (0 < r) = true := decide_eq_true hr
      have HCe : ceilq N c = q + 1 := by rw [HC.out, if_pos hr]
      have HCE := Lib.hid HCe
      clear hr HCe HC
      by_cases hz : q + 1 = 18446744073709551616
      · have e1 : IntKind.u64.wrap (q + 1) = 0 := by rw [IntKind.wrap_u64]; omega
        have HF : Hid (fitq N c = false) := by show fitq N c = false; unfold fitq; rw [HCE.out]; exact decide_eq_false (by omega)
        clear hz
        go_wp2_with fail
        go_ret2
        exact ⟨by unfold ansq; rw [HF.out]; rfl, hb⟩
      · have e1 : IntKind.u64.wrap (q + 1) = q + 1 := by have := HQ1.out; rw [IntKind.wrap_u64]; omega
        have e2 : (q + 1 == 0) = false := beq_eq_false_iff_ne.2 (by omega)
        clear hz
        by_cases hs : q + 1 ≤ 9223372036854775807
        · have S := Lib.hid fun W => signed_yes (q + 1) W (by omega) hs
          have HF : Hid (fitq N c = true) := by show fitq N c = true; unfold fitq; rw [HCE.out]; exact decide_eq_true hs
          clear hs
          go_wp2_with fail
          refine (S.out _).mono ?_
          rintro e w' ⟨rfl, rfl⟩
          go_wp2_with fail
          go_ret2
          exact ⟨by unfold ansq; rw [HF.out, HCE.out]; rfl, hb⟩
        · have S := Lib.hid fun W => signed_no (q + 1) W (by omega)
          have HF : Hid (fitq N c = false) := by show fitq N c = false; unfold fitq; rw [HCE.out]; exact decide_eq_false hs
          clear hs
          go_wp2_with fail
          refine (S.out _).mono ?_
          rintro e w' ⟨rfl, rfl⟩
          go_wp2_with fail
          go_ret2
          exact ⟨by unfold ansq; rw [HF.out]; rfl, hb⟩
    · have r1 : decide (0 < r) = false := decide_eq_false hr
      have HCe : ceilq N c = q := by rw [HC.out, if_neg hr]
      have HCE := Lib.hid HCe
      clear hr HCe HC
      by_cases hs : q ≤ 9223372036854775807
      · have S := Lib.hid fun W => signed_yes q W (by omega) hs
        have HF : Hid (fitq N c = true) := by show fitq N c = true; unfold fitq; rw [HCE.out]; exact decide_eq_true hs
        clear hs
        go_wp2_with fail
        refine (S.out _).mono ?_
        rintro e w' ⟨rfl, rfl⟩
        go_wp2_with fail
        go_ret2
        exact ⟨by unfold ansq; rw [HF.out, HCE.out]; rfl, hb⟩
      · have S := Lib.hid fun W => signed_no q W (by omega)
        have HF : Hid (fitq N c = false) := by show fitq N c = false; unfold fitq; rw [HCE.out]; exact decide_eq_false hs
        clear hs
        go_wp2_with fail
        refine (S.out _).mono ?_
        rintro e w' ⟨rfl, rfl⟩
        go_wp2_with fail
        go_ret2
        exact ⟨by unfold ansq; rw [HF.out]; rfl, hb⟩
end Go.Proofs.YtjaegolanbjgfaaDoor
