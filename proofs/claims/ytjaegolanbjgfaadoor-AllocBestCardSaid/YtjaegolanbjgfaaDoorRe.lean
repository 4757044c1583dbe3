import Derived.Deep.RegionLaw
import Derived.LaidEql
import Derived.Test.YtjaegolanbjgfaaDoorMq
import Derived.Test.YtjaegolanbjgfaaDoorSc
import Derived.WalkKit
import Derived.WalkSpells
import Derived.WalkLawsBesides
import Derived.Lib.Hide
import Derived.Deep.DeepCutAuto
import Derived.Deep.LoopGhost
import Derived.Deep.QuietTactic
import Derived.BigQuiet
import Derived.Deep.OwnRows
import Derived.StillTailTactics
import Derived.IntWalk
import Derived.Laws.BitsLemmas
import Derived.Laws.MathBits
import Derived.Laws.Bits64
import Derived.Deep.RegionHeld3
import Derived.BigRegion
import Derived.Lib.SliceRun
import Derived.Deep.AppendLies
import Derived.Test.YtjaegolanbjgfaaDoorLm
set_option linter.unusedVariables false
set_option linter.unusedSimpArgs false
namespace Go.Proofs.YtjaegolanbjgfaaDoor
open Go.RowKit
theorem and_mask (n : Int) (h0 : 0 ≤ n) (h1 : n < 18446744073709551616) : bits .and .u64 n 4294967295 = n % 4294967296 := by
  obtain ⟨m, rfl⟩ := Int.eq_ofNat_of_zero_le h0
  have h := bits_and_u64_nat m 4294967295 (by omega) (by omega)
  rw [show (4294967295 : Int) = ((4294967295 : Nat) : Int) from rfl, h]
  have := Nat.and_two_pow_sub_one_eq_mod m 32
  rw [show (4294967295 : Nat) = 2 ^ 32 - 1 by decide, this]
  omega
theorem or_join (n : Int) (h0 : 0 ≤ n) (h1 : n < 18446744073709551616) : bits .or .u64 (n / 4294967296 * 4294967296) (n % 4294967296) = n := by
  obtain ⟨m, rfl⟩ := Int.eq_ofNat_of_zero_le h0
  have h := bits_or_u64_nat (m / 4294967296 * 4294967296) (m % 4294967296) (by omega) (by omega)
  rw [show ((m : Int) / 4294967296 * 4294967296) = ((m / 4294967296 * 4294967296 : Nat) : Int) by omega, show ((m : Int) % 4294967296) = ((m % 4294967296 : Nat) : Int) by omega, h]
  have := Nat.two_pow_add_eq_or_of_lt (i := 32) (b := m % 4294967296) (by omega) (m / 4294967296)
  rw [show m / 4294967296 * 4294967296 = 2 ^ 32 * (m / 4294967296) by omega, ← this]
  omega
theorem wrapU (n : Int) (h0 : 0 ≤ n) (h1 : n < 18446744073709551616) : IntKind.u64.wrap n = n := by
  simp [IntKind.wrap, IntKind.signed, IntKind.bits]; omega
set_option maxHeartbeats 2000000 in
theorem size_any (a : Int) (h0 : 0 ≤ a) (h1 : a ≤ 1000000000) (w : World) : Calls Tryd.prog 88 #[.int .i64 a] w fun e w' => e = .returned (.int .u64 a) ∧ w = w' := by
  have hn : ¬ a < 0 := by omega
  have wa : IntKind.u64.wrap a = a := wrapU a h0 (by omega)
  go_enter Tryd.func88, Tryd.ntmps88
  go_wp2_with fail
  all_goals (go_ret; exact ⟨ret_int (by omega), rfl⟩)
set_option maxHeartbeats 2000000 in
theorem Wide_any (a b : Int) (ha0 : 0 ≤ a) (ha1 : a ≤ 1000000000) (hb0 : 0 ≤ b) (hb1 : b ≤ 1000000000) (w : World) : Calls Tryd.prog 87 #[.int .u64 a, .int .u64 b] w fun e w' => e = .returned (.tuple #[.int .u64 0, .int .u64 (a * b)]) ∧ w = w' := by
  have hm := mul_bd ha0 ha1 hb0 hb1
  have e1 : bits .and .u64 a 4294967295 = a := by rw [and_mask a ha0 (by omega)]; omega
  have e2 : bits .and .u64 b 4294967295 = b := by rw [and_mask b hb0 (by omega)]; omega
  have e3 : a / 4294967296 = 0 := by omega
  have e4 : b / 4294967296 = 0 := by omega
  have e5 : IntKind.u64.wrap 0 = 0 := rfl
  have e6 : IntKind.u64.wrap (a * b) = a * b := wrapU _ hm.1 (by omega)
  have e7 : IntKind.u64.wrap (0 + a * b / 4294967296) = a * b / 4294967296 := by rw [wrapU _ (by omega) (by omega)]; omega
  have e8 : bits .and .u64 (a * b / 4294967296) 4294967295 = a * b / 4294967296 := by rw [and_mask _ (by omega) (by omega)]; omega
  have e9 : a * b / 4294967296 / 4294967296 = 0 := by omega
  have e10 : IntKind.u64.wrap (a * b / 4294967296 * 4294967296) = a * b / 4294967296 * 4294967296 := wrapU _ (by omega) (by omega)
  have e11 : bits .and .u64 (a * b) 4294967295 = a * b % 4294967296 := and_mask _ hm.1 (by omega)
  have e12 := or_join (a * b) hm.1 (by omega)
  have e13 : IntKind.u64.wrap (a * b / 4294967296) = a * b / 4294967296 := wrapU _ (by omega) (by omega)
  go_enter Tryd.func87, Tryd.ntmps87
  go_wp2_with fail
  go_ret2
  refine ⟨?_, rfl⟩
  simp only [Array.getD_eq_getD_getElem?]
  simp [e1, e2, e3, e4, e5, e6, e7, e8, e9, e10, e11, e12, e13]
def cmpP (x y : Int) : Int := if x < y then -1 else if x = y then 0 else 1
set_option maxRecDepth 100000 in
set_option maxHeartbeats 4000000 in
theorem CmpR_any (a b c d : Int) (ha0 : 0 ≤ a) (ha1 : a ≤ 1000000000) (hb0 : 0 ≤ b) (hb1 : b ≤ 1000000000) (hc0 : 0 ≤ c) (hc1 : c ≤ 1000000000) (hd0 : 0 ≤ d) (hd1 : d ≤ 1000000000) (w : World) :
    Calls Tryd.prog 77 #[.int .i64 a, .int .i64 b, .int .i64 c, .int .i64 d] w fun e w' => e = .returned (.int .i64 (cmpP (a * b) (c * d))) ∧ Below w.heap.size w w' := by
  have hm := mul_bd ha0 ha1 hb0 hb1
  have hm2 := mul_bd hc0 hc1 hd0 hd1
  have HW1 := Lib.hid fun W => Wide_any a b ha0 ha1 hb0 hb1 W
  have HW2 := Lib.hid fun W => Wide_any c d hc0 hc1 hd0 hd1 W
  have HSa := Lib.hid fun W => size_any a ha0 ha1 W
  have HSb := Lib.hid fun W => size_any b hb0 hb1 W
  have HSc := Lib.hid fun W => size_any c hc0 hc1 W
  have HSd := Lib.hid fun W => size_any d hd0 hd1 W
  have na : ¬ a < 0 := by omega
  have nb : ¬ b < 0 := by omega
  have nc : ¬ c < 0 := by omega
  have nd : ¬ d < 0 := by omega
  rcases (show a * b < c * d ∨ a * b = c * d ∨ c * d < a * b by omega) with hlt | heq | hgt
  · have hcm : cmpP (a * b) (c * d) = -1 := by unfold cmpP; rw [if_pos hlt]
    rw [hcm]
    have t1 : decide (a * b < c * d) = true := by simp [hlt]
    have t2 : (a * b == c * d) = false := by simp; omega
    generalize a * b = x at *
    generalize c * d = y at *
    clear hcm
    go_enter Tryd.func77, Tryd.ntmps77
    go_wp2_with fail
    refine (HSa.out _).mono ?_
    rintro e w1 ⟨rfl, rfl⟩
    go_wp2_with fail
    refine (HSb.out _).mono ?_
    rintro e w1 ⟨rfl, rfl⟩
    go_wp2_with fail
    refine (HW1.out _).mono ?_
    rintro e w1 ⟨rfl, rfl⟩
    go_wp2_with fail
    refine (HSc.out _).mono ?_
    rintro e w1 ⟨rfl, rfl⟩
    go_wp2_with fail
    refine (HSd.out _).mono ?_
    rintro e w1 ⟨rfl, rfl⟩
    go_wp2_with fail
    refine (HW2.out _).mono ?_
    rintro e w1 ⟨rfl, rfl⟩
    go_wp2_with fail
    all_goals
      go_ret
      exact ⟨ret_int (by omega), Below.refl _ _⟩
  · have hcm : cmpP (a * b) (c * d) = 0 := by unfold cmpP; rw [if_neg (by omega), if_pos heq]
    rw [hcm]
    have t1 : decide (a * b < c * d) = false := by simp; omega
    have t2 : (a * b == c * d) = true := by simp; omega
    generalize a * b = x at *
    generalize c * d = y at *
    clear hcm
    go_enter Tryd.func77, Tryd.ntmps77
    go_wp2_with fail
    refine (HSa.out _).mono ?_
    rintro e w1 ⟨rfl, rfl⟩
    go_wp2_with fail
    refine (HSb.out _).mono ?_
    rintro e w1 ⟨rfl, rfl⟩
    go_wp2_with fail
    refine (HW1.out _).mono ?_
    rintro e w1 ⟨rfl, rfl⟩
    go_wp2_with fail
    refine (HSc.out _).mono ?_
    rintro e w1 ⟨rfl, rfl⟩
    go_wp2_with fail
    refine (HSd.out _).mono ?_
    rintro e w1 ⟨rfl, rfl⟩
    go_wp2_with fail
    refine (HW2.out _).mono ?_
    rintro e w1 ⟨rfl, rfl⟩
    go_wp2_with fail
    all_goals
      go_ret
      exact ⟨ret_int (by omega), Below.refl _ _⟩
  · have hcm : cmpP (a * b) (c * d) = 1 := by unfold cmpP; rw [if_neg (by omega), if_neg (by omega)]
    rw [hcm]
    have t1 : decide (a * b < c * d) = false := by simp; omega
    have t2 : (a * b == c * d) = false := by simp; omega
    generalize a * b = x at *
    generalize c * d = y at *
    clear hcm
    go_enter Tryd.func77, Tryd.ntmps77
    go_wp2_with fail
    refine (HSa.out _).mono ?_
    rintro e w1 ⟨rfl, rfl⟩
    go_wp2_with fail
    refine (HSb.out _).mono ?_
    rintro e w1 ⟨rfl, rfl⟩
    go_wp2_with fail
    refine (HW1.out _).mono ?_
    rintro e w1 ⟨rfl, rfl⟩
    go_wp2_with fail
    refine (HSc.out _).mono ?_
    rintro e w1 ⟨rfl, rfl⟩
    go_wp2_with fail
    refine (HSd.out _).mono ?_
    rintro e w1 ⟨rfl, rfl⟩
    go_wp2_with fail
    refine (HW2.out _).mono ?_
    rintro e w1 ⟨rfl, rfl⟩
    go_wp2_with fail
    all_goals
      go_ret
      exact ⟨ret_int (by omega), Below.refl _ _⟩

end Go.Proofs.YtjaegolanbjgfaaDoor

set_option linter.unusedVariables false
set_option linter.unusedSimpArgs false
namespace Go.Proofs.YtjaegolanbjgfaaDoor
open Go.RowKit
def lv4 (x : Lot) : Value := .agg #[.int .i64 x.u, .int .i64 x.v, .int .i64 x.c, .int .i64 x.g]
def okL (x : Lot) : Prop := 0 ≤ x.v ∧ x.v ≤ 1000000000 ∧ 0 ≤ x.c ∧ x.c ≤ 1000000000
set_option maxRecDepth 100000 in
set_option maxHeartbeats 4000000 in
theorem dearer_any (x y : Lot) (hx : okL x) (hy : okL y) (w : World) :
    Calls Tryd.prog 63 #[lv4 x, lv4 y] w fun e w' => e = .returned (.bool (cheaperB y x)) ∧ Below w.heap.size w w' := by
  obtain ⟨xu, xv, xc, xg⟩ := x
  obtain ⟨yu, yv, yc, yg⟩ := y
  obtain ⟨x0, x1, x2, x3⟩ := hx
  obtain ⟨y0, y1, y2, y3⟩ := hy
  simp only at x0 x1 x2 x3 y0 y1 y2 y3
  have HC := Lib.hid fun W => CmpR_any xc yv yc xv x2 x3 y0 y1 y2 y3 x0 x1 W
  unfold lv4
  simp only
  by_cases hz : xv = 0
  · have hb : (xv == 0) = true := by simp [hz]
    by_cases hy0 : yv = 0
    · have hb2 : (yv == 0) = true := by simp [hy0]
      have he : cheaperB ⟨yu, yv, yc, yg⟩ ⟨xu, xv, xc, xg⟩ = false := by unfold cheaperB; simp only; rw [if_pos (by omega)]; simp; omega
      rw [he]
      clear he HC
      go_enter Tryd.func63, Tryd.ntmps63
      go_wp2_with fail
      go_ret
      exact ⟨rfl, bal (bal (Below.refl _ _) _) _⟩
    · have hb2 : (yv == 0) = false := by simp [hy0]
      have he : cheaperB ⟨yu, yv, yc, yg⟩ ⟨xu, xv, xc, xg⟩ = true := by unfold cheaperB; simp only; rw [if_pos (by omega)]; simp; omega
      rw [he]
      clear he HC
      go_enter Tryd.func63, Tryd.ntmps63
      go_wp2_with fail
      go_ret
      exact ⟨ret_bool (by simp [hy0]), bal (bal (Below.refl _ _) _) _⟩
  · have hb : (xv == 0) = false := by simp [hz]
    by_cases hy0 : yv = 0
    · have hb2 : (yv == 0) = true := by simp [hy0]
      have he : cheaperB ⟨yu, yv, yc, yg⟩ ⟨xu, xv, xc, xg⟩ = false := by unfold cheaperB; simp only; rw [if_pos (by omega)]; simp; omega
      rw [he]
      clear he HC
      go_enter Tryd.func63, Tryd.ntmps63
      go_wp2_with fail
      go_ret
      exact ⟨rfl, bal (bal (Below.refl _ _) _) _⟩
    · have hb2 : (yv == 0) = false := by simp [hy0]
      have he : cheaperB ⟨yu, yv, yc, yg⟩ ⟨xu, xv, xc, xg⟩ = decide (yc * xv < xc * yv) := by unfold cheaperB; simp only; rw [if_neg (by omega)]
      have hc : decide (0 < cmpP (xc * yv) (yc * xv)) = decide (yc * xv < xc * yv) := by
        unfold cmpP
        by_cases h1 : xc * yv < yc * xv
        · rw [if_pos h1]; simp; omega
        · rw [if_neg h1]
          by_cases h2 : xc * yv = yc * xv
          · rw [if_pos h2, h2]; simp
          · rw [if_neg h2]; simp; omega
      rw [he]
      have HCE := Lib.hid hc
      clear he hc
      go_enter Tryd.func63, Tryd.ntmps63
      go_wp2_with fail
      refine (HC.out _).mono ?_
      rintro e w3 ⟨rfl, hb3⟩
      have HB3 := Lib.hid (btr (bal (bal (Below.refl w.heap.size w) (.cells #[.int .i64 xu, .int .i64 xv, .int .i64 xc, .int .i64 xg] 48)) (.cells #[.int .i64 yu, .int .i64 yv, .int .i64 yc, .int .i64 yg] 48)) hb3)
      clear hb3
      generalize hq : cmpP (xc * yv) (yc * xv) = q at *
      go_wp2_with fail
      go_ret
      exact ⟨ret_bool HCE.out, HB3.out⟩

end Go.Proofs.YtjaegolanbjgfaaDoor

set_option linter.unusedVariables false
set_option linter.unusedSimpArgs false
namespace Go.Proofs.YtjaegolanbjgfaaDoor
open Go.RowKit
def needB (p : Prob) : Bool := decide (0 ≤ p.need) && decide (p.need ≤ 1000000000000)
def okC (p : Prob) : Nat → Bool
  | 0 => needB p
  | k + 1 => okC p k && (decide (0 ≤ gi p.caps k) && decide (gi p.caps k ≤ 1000000000000))
def lotB (x : Lot) (m : Int) : Bool := decide (0 ≤ x.u) && (decide (x.u ≤ 1000) && (decide (0 ≤ x.v) && (decide (x.v ≤ 1000000000) && (decide (0 ≤ x.c) && (decide (x.c ≤ 1000000000) && (decide (0 ≤ x.g) && decide (x.g < m)))))))
def okLs (p : Prob) : Nat → Bool
  | 0 => okC p p.caps.length
  | k + 1 => okLs p k && lotB (gl p.lots k) p.caps.length
theorem lotB_eq (x : Lot) (m : Int) : lotB x m = lotOk x m := by unfold lotB lotOk; simp only [Bool.decide_and]
theorem any_snoc {α : Type} (f : α → Bool) (xs : List α) : ∀ (k : Nat) (h : k < xs.length), (xs.take (k + 1)).any f = ((xs.take k).any f || f xs[k]) := by
  intro k h
  rw [List.take_succ_eq_append_getElem h, List.any_append]; simp
theorem okC_eq (p : Prob) : ∀ k, k ≤ p.caps.length → okC p k = (needB p && !((p.caps.take k).any fun x => !decide (0 ≤ x ∧ x ≤ 1000000000000)))
  | 0, _ => by simp [okC]
  | k + 1, h => by
    unfold okC
    rw [okC_eq p k (by omega), any_snoc _ _ k (by omega)]
    have : gi p.caps k = p.caps[k] := by simp [gi, List.getD_eq_getElem?_getD, show k < p.caps.length by omega]
    rw [this]
    simp only [Bool.decide_and, Bool.not_or, Bool.not_not, Bool.and_assoc]
theorem okLs_eq (p : Prob) : ∀ k, k ≤ p.lots.length → okLs p k = (okC p p.caps.length && !((p.lots.take k).any fun x => !lotOk x p.caps.length))
  | 0, _ => by simp [okLs]
  | k + 1, h => by
    unfold okLs
    rw [okLs_eq p k (by omega), any_snoc _ _ k (by omega), lotB_eq]
    have : gl p.lots k = p.lots[k] := by simp [gl, List.getD_eq_getElem?_getD, show k < p.lots.length by omega]
    rw [this]
    simp only [Bool.not_or, Bool.not_not, Bool.and_assoc]
def codeR (p : Prob) : Int := match valid p with | some 2 => 105 | some _ => 103 | none => 0
theorem codeR_eq {p : Prob} (h : many p = false) : codeR p = if okLs p p.lots.length then 0 else 103 := by
  have e : okLs p p.lots.length = !badNums p := by
    rw [okLs_eq p _ (Nat.le_refl _), okC_eq p _ (Nat.le_refl _), List.take_length, List.take_length]
    unfold badNums needB
    rw [Bool.decide_and]
    cases (p.lots.any fun x => !lotOk x p.caps.length) <;> cases (p.caps.any fun x => !decide (0 ≤ x ∧ x ≤ 1000000000000)) <;> simp
  unfold codeR valid
  rw [h, e]
  cases badNums p <;> rfl
set_option maxRecDepth 100000 in
set_option maxHeartbeats 4000000 in
theorem ValidR_any (A : Option Addr) (c : Nat) (B : Option Addr) (d : Nat) (p : Prob) (w : World) (hL : LotsAt w A p.lots) (hC : IntsAt w B p.caps) :
    Calls Tryd.prog 12 #[pv A c B d p] w fun e w' => e = .returned (.int .i64 (codeR p)) ∧ Below w.heap.size w w' := by
  have HL := Lib.hid hL
  have HC := Lib.hid hC
  have hl0 := hL.1
  have hc0 := hC.1
  clear hL hC
  by_cases hm : many p = true
  · have he : codeR p = 105 := by unfold codeR valid; rw [if_pos hm]; rfl
    rw [he]
    unfold many at hm
    simp only [decide_eq_true_eq] at hm
    clear he
    go_enter Tryd.func12, Tryd.ntmps12
    go_wp2_with fail
    all_goals
      go_ret
      exact ⟨rfl, bal (Below.refl _ _) _⟩
  · have hmm : many p = false := by simpa using hm
    have hsz : 0 < p.lots.length ∧ p.lots.length ≤ 8 ∧ 0 < p.caps.length ∧ p.caps.length ≤ 8 := by
      unfold many at hm; simp only [decide_eq_true_eq] at hm; omega
    obtain ⟨n0, n8, m0, m8⟩ := hsz
    have t1 : decide ((p.lots.length : Int) < 1) = false := by simp; omega
    have t2 : decide ((8 : Int) < (p.lots.length : Int)) = false := by simp; omega
    have t3 : decide ((p.caps.length : Int) < 1) = false := by simp; omega
    have t4 : decide ((8 : Int) < (p.caps.length : Int)) = false := by simp; omega
    have HB0 := Lib.hid (bal (Below.refl w.heap.size w) (.cells #[.slice A p.lots.length c, .slice B p.caps.length d, .int .i64 p.need] 27))
    have HX0 := Lib.hid (heap_alloc_new w (.cells #[.slice A p.lots.length c, .slice B p.caps.length d, .int .i64 p.need] 27))
    clear hm
    go_enter Tryd.func12, Tryd.ntmps12
    go_upto_region 3 with (fail)
    generalize hW0 : w.alloc (.cells #[.slice A p.lots.length c, .slice B p.caps.length d, .int .i64 p.need] 27) = W0 at *
    clear hW0
    obtain ⟨a0, a1, a2⟩ := box3 HX0.out
    go_cut [3] (fun s w' => s = .bool (needB p) ∧ w' = W0)
    case first =>
      have HNB := Lib.hid (show needB p = (decide (0 ≤ p.need) && decide (p.need ≤ 1000000000000)) from rfl)
      go_wp2_with fail
      all_goals
        go_meet
        exact ⟨by rw [HNB.out]; simp [*] <;> omega, rfl⟩
    case rest =>
      obtain ⟨rfl, hwc⟩ := hcut
      subst hwc
      go_wp2_with fail
      go_loopw [3, 4] (fun s i w' => ∃ k : Nat, k ≤ p.caps.length ∧ i = .int .i64 k ∧ s = .bool (okC p k) ∧ w' = wc) (fun _ i _ => p.caps.length - (intOf i).toNat)
      case atStart => exact ⟨0, Nat.zero_le _, rfl, rfl, rfl⟩
      case round =>
        obtain ⟨k, hk, rfl, rfl, hwr⟩ := hrel
        subst hwr
        by_cases hlt : k < p.caps.length
        · obtain ⟨b, o, rfl, t0⟩ := (HC.out.below HB0.out).get (k := k) hlt
          have hki : (k : Int) < (p.caps.length : Int) := by omega
          have hstep : okC p (k + 1) = (okC p k && (decide (0 ≤ gi p.caps k) && decide (gi p.caps k ≤ 1000000000000))) := rfl
          have HST := Lib.hid hstep
          clear hstep
          generalize okC p k = bk at *
          generalize gi p.caps k = ck at *
          cases bk
          all_goals go_wp2_with fail
          all_goals exact ⟨⟨k + 1, by omega, by go_num, by rw [HST.out]; simp [*], trivial⟩, by simp only [intOf]; omega⟩
        · have hkn : k = p.caps.length := by omega
          subst hkn
          go_wp2_with fail
          go_loopw [3, 5] (fun s i w' => ∃ k : Nat, k ≤ p.lots.length ∧ i = .int .i64 k ∧ s = .bool (okLs p k) ∧ Below wr.heap.size wr w') (fun _ i _ => p.lots.length - (intOf i).toNat)
          case atStart => exact ⟨0, Nat.zero_le _, rfl, rfl, Below.refl _ _⟩
          case round =>
            clear a0 a1 a2
            obtain ⟨k, hk, rfl, rfl, hb⟩ := hrel
            have HBW := Lib.hid (btr HB0.out hb)
            have HXW := Lib.hid (boxN HX0.out hb)
            have HB1 := Lib.hid hb
            clear hb
            obtain ⟨a0, a1, a2⟩ := box3 HXW.out
            by_cases hlt : k < p.lots.length
            · obtain ⟨b, o, rfl, u0, u1, u2, u3⟩ := (HL.out.below HBW.out).get (k := k) hlt
              have hki : (k : Int) < (p.lots.length : Int) := by omega
              have HST := Lib.hid (show okLs p (k + 1) = (okLs p k && lotB (gl p.lots k) p.caps.length) from rfl)
              unfold lotB at HST
              generalize okLs p k = bk at *
              generalize (gl p.lots k).u = xu at *
              generalize (gl p.lots k).v = xv at *
              generalize (gl p.lots k).c = xc at *
              generalize (gl p.lots k).g = xg at *
              have a1A := fun o => (World.cell?_alloc_lt wr o _ (World.block_lt_of_cell? wr _ a1)).trans a1
              cases bk
              all_goals go_wp2_with fail
              all_goals exact ⟨⟨k + 1, by omega, by go_num, by rw [HST.out]; simp [*] <;> omega, bal HB1.out _⟩, by simp only [intOf]; omega⟩
            · have hkn : k = p.lots.length := by omega
              subst hkn
              have HCD := Lib.hid (codeR_eq hmm)
              cases hfin : okLs p p.lots.length
              · have HF := Lib.hid hfin
                clear hfin
                go_wp2_with fail
                go_ret
                exact ⟨by rw [HCD.out, HF.out]; rfl, HBW.out⟩
              · have HF := Lib.hid hfin
                clear hfin
                go_wp2_with fail
                go_ret
                exact ⟨by rw [HCD.out, HF.out]; rfl, HBW.out⟩

end Go.Proofs.YtjaegolanbjgfaaDoor

set_option linter.unusedVariables false
set_option linter.unusedSimpArgs false
namespace Go.Proofs.YtjaegolanbjgfaaDoor
open Go.RowKit
section
variable (A : Option Addr) (c : Nat) (B : Option Addr) (d : Nat) (p : Prob) (T : Option Addr) (f : Nat) (ts : List Int) (w : World) (hL : LotsAt w A p.lots) (hC : IntsAt w B p.caps) (hT : IntsAt w T ts) (hok : Ok p) (hi : inLots p.lots ts)
include hL hC hT hok hi
set_option maxRecDepth 100000 in
set_option maxHeartbeats 4000000 in
theorem right_any : Calls Tryd.prog 40 #[pv A c B d p, .slice T ts.length f] w fun e w' => e = .returned (.bool true) ∧ Below w.heap.size w w' := by
  have HL := Lib.hid hL
  have HC := Lib.hid hC
  have HT := Lib.hid hT
  have HI := Lib.hid hi
  have hco : codeR p = 0 := by unfold codeR; rw [valid_of_ok hok]
  have HV : Hid (∀ W, Below w.heap.size w W → Calls Tryd.prog 12 #[pv A c B d p] W fun e w' => e = .returned (.int .i64 0) ∧ Below W.heap.size W w') := Lib.hid fun W h => by
    have := ValidR_any A c B d p W (hL.below h) (hC.below h)
    rw [hco] at this
    exact this
  have HB0 := Lib.hid (bal (Below.refl w.heap.size w) (.cells #[.slice A p.lots.length c, .slice B p.caps.length d, .int .i64 p.need] 27))
  have HX0 := Lib.hid (heap_alloc_new w (.cells #[.slice A p.lots.length c, .slice B p.caps.length d, .int .i64 p.need] 27))
  have hlen := hi.1
  have hm8 := hok.n8
  clear hL hC hT hi hco hok
  rw [hlen]
  go_enter Tryd.func40, Tryd.ntmps40
  go_wp2_with fail
  refine (HV.out _ HB0.out).mono ?_
  rintro e w1 ⟨rfl, hb1⟩
  have HB1 := Lib.hid (btr HB0.out hb1)
  have HX1 := Lib.hid (boxN HX0.out hb1)
  clear hb1 HX0 HV
  obtain ⟨a0, a1, a2⟩ := box3 HX1.out
  go_wp2_with fail
  go_loopw [5] (fun i w' => ∃ k : Nat, k ≤ p.lots.length ∧ i = .int .i64 k ∧ Below w1.heap.size w1 w') (fun i _ => p.lots.length - (intOf i).toNat)
  case atStart => exact ⟨0, Nat.zero_le _, rfl, Below.refl _ _⟩
  case round =>
    clear a0 a1 a2
    obtain ⟨k, hk, rfl, hb⟩ := hrel
    have HBW := Lib.hid (btr HB1.out hb)
    have HB1W := Lib.hid hb
    obtain ⟨a0, a1, a2⟩ := box3 (boxN HX1.out hb)
    clear hb
    by_cases hlt : k < p.lots.length
    · obtain ⟨b, o, rfl, u0, u1, u2, u3⟩ := (HL.out.below HBW.out).get (k := k) hlt
      obtain ⟨b2, o2, rfl, t0⟩ := (HT.out.below HBW.out).get (k := k) (by rw [HI.out.1]; exact hlt)
      have hki : (k : Int) < (p.lots.length : Int) := by omega
      have hik := HI.out.2 k hlt
      have n1 : ¬ gi ts k < 0 := by omega
      have n2 : ¬ (gl p.lots k).u < gi ts k := by omega
      clear u1 u2 u3
      go_wp2_with fail
      go_quiet (fail)
      go_wp2_with fail
      go_roundw
      case rel => exact ⟨k + 1, by omega, by go_num, btr HB1W.out (bdN _ _)⟩
      case measure => simp only [intOf]; omega
    · have hkn : k = p.lots.length := by omega
      subst hkn
      go_wp2_with fail
      go_ret
      exact ⟨rfl, HBW.out⟩
set_option maxRecDepth 100000 in
set_option maxHeartbeats 4000000 in
theorem CostR_any : Calls Tryd.prog 18 #[pv A c B d p, .slice T ts.length f] w fun e w' => e = .returned (.tuple #[.int .i64 (costP p ts), .bool true]) ∧ Below w.heap.size w w' := by
  have HL := Lib.hid hL
  have HC := Lib.hid hC
  have HT := Lib.hid hT
  have HI := Lib.hid hi
  have HOK := Lib.hid hok
  have HR : Hid (∀ W, Below w.heap.size w W → Calls Tryd.prog 40 #[pv A c B d p, .slice T p.lots.length f] W fun e w' => e = .returned (.bool true) ∧ Below W.heap.size W w') := Lib.hid fun W h => by
    have := right_any A c B d p T f ts W (hL.below h) (hC.below h) (hT.below h) hok hi
    rw [hi.1] at this
    exact this
  have HB0 := Lib.hid (bal (Below.refl w.heap.size w) (.cells #[.slice A p.lots.length c, .slice B p.caps.length d, .int .i64 p.need] 27))
  have HX0 := Lib.hid (heap_alloc_new w (.cells #[.slice A p.lots.length c, .slice B p.caps.length d, .int .i64 p.need] 27))
  have hlen := hi.1
  have hm8 := hok.n8
  clear hL hC hT hi hok
  rw [hlen]
  go_enter Tryd.func18, Tryd.ntmps18
  go_wp2_with fail
  refine (HR.out _ HB0.out).mono ?_
  rintro e w1 ⟨rfl, hb1⟩
  have HB1 := Lib.hid (btr HB0.out hb1)
  have HX1 := Lib.hid (boxN HX0.out hb1)
  clear hb1 HX0 HR
  obtain ⟨a0, a1, a2⟩ := box3 HX1.out
  go_wp2_with fail
  go_loopw [6, 7] (fun s i w' => ∃ k : Nat, k ≤ p.lots.length ∧ i = .int .i64 k ∧ s = .int .i64 (csum p.lots ts k) ∧ Below w1.heap.size w1 w') (fun _ i _ => p.lots.length - (intOf i).toNat)
  case atStart => exact ⟨0, Nat.zero_le _, rfl, rfl, Below.refl _ _⟩
  case round =>
    clear a0 a1 a2
    obtain ⟨k, hk, rfl, rfl, hb⟩ := hrel
    have HBW := Lib.hid (btr HB1.out hb)
    have HB1W := Lib.hid hb
    obtain ⟨a0, a1, a2⟩ := box3 (boxN HX1.out hb)
    clear hb
    by_cases hlt : k < p.lots.length
    · obtain ⟨b, o, rfl, u0, u1, u2, u3⟩ := (HL.out.below HBW.out).get (k := k) hlt
      obtain ⟨b2, o2, rfl, t0⟩ := (HT.out.below HBW.out).get (k := k) (by rw [HI.out.1]; exact hlt)
      have hki : (k : Int) < (p.lots.length : Int) := by omega
      have h1 := tc_bd HOK.out HI.out hlt
      have h2 := csum_bd HOK.out HI.out k hk
      have h3 := csum_bd HOK.out HI.out (k + 1) hlt
      have HST := Lib.hid (show csum p.lots ts (k + 1) = csum p.lots ts k + gi ts k * (gl p.lots k).c from rfl)
      have hw1 : IntKind.i64.wrap (gi ts k * (gl p.lots k).c) = gi ts k * (gl p.lots k).c := IntWalk.i64_in _ (by omega)
      have hw2 : IntKind.i64.wrap (csum p.lots ts k + gi ts k * (gl p.lots k).c) = csum p.lots ts k + gi ts k * (gl p.lots k).c := IntWalk.i64_in _ (by omega)
      generalize csum p.lots ts k = sk at *
      clear u0 u1 u3 h1 h2 h3
      go_wp2_with fail
      go_quiet (fail)
      go_wp2_with fail
      go_roundw
      case rel => exact ⟨k + 1, by omega, by go_num, by rw [HST.out], btr HB1W.out (bdN _ _)⟩
      case measure => simp only [intOf]; omega
    · have hkn : k = p.lots.length := by omega
      subst hkn
      go_wp2_with fail
      go_ret2
      exact ⟨rfl, HBW.out⟩
set_option maxRecDepth 100000 in
set_option maxHeartbeats 4000000 in
theorem WorthR_any : Calls Tryd.prog 17 #[pv A c B d p, .slice T ts.length f] w fun e w' => e = .returned (.tuple #[.int .i64 (worthP p ts), .bool true]) ∧ Below w.heap.size w w' := by
  have HL := Lib.hid hL
  have HC := Lib.hid hC
  have HT := Lib.hid hT
  have HI := Lib.hid hi
  have HOK := Lib.hid hok
  have HR : Hid (∀ W, Below w.heap.size w W → Calls Tryd.prog 40 #[pv A c B d p, .slice T p.lots.length f] W fun e w' => e = .returned (.bool true) ∧ Below W.heap.size W w') := Lib.hid fun W h => by
    have := right_any A c B d p T f ts W (hL.below h) (hC.below h) (hT.below h) hok hi
    rw [hi.1] at this
    exact this
  have HB0 := Lib.hid (bal (Below.refl w.heap.size w) (.cells #[.slice A p.lots.length c, .slice B p.caps.length d, .int .i64 p.need] 27))
  have HX0 := Lib.hid (heap_alloc_new w (.cells #[.slice A p.lots.length c, .slice B p.caps.length d, .int .i64 p.need] 27))
  have hlen := hi.1
  have hm8 := hok.n8
  have hc8 := hok.m8
  clear hL hC hT hi hok
  rw [hlen]
  go_enter Tryd.func17, Tryd.ntmps17
  go_wp2_with fail
  refine (HR.out _ HB0.out).mono ?_
  rintro e w1 ⟨rfl, hb1⟩
  have HB1 := Lib.hid (btr HB0.out hb1)
  have HX1 := Lib.hid (boxN HX0.out hb1)
  clear hb1 HX0 HR
  obtain ⟨a0, a1, a2⟩ := box3 HX1.out
  go_wp2_with fail
  go_loopw [6, 7] (fun s i w' => ∃ g : Nat, g ≤ p.caps.length ∧ i = .int .i64 g ∧ s = .int .i64 (wsum p ts g) ∧ Below w1.heap.size w1 w') (fun _ i _ => p.caps.length - (intOf i).toNat)
  case atStart => exact ⟨0, Nat.zero_le _, rfl, rfl, Below.refl _ _⟩
  case round =>
    clear a0 a1 a2
    obtain ⟨g, hg, rfl, rfl, hb⟩ := hrel
    have HBW := Lib.hid (btr HB1.out hb)
    have HB1W := Lib.hid hb
    have HXW := Lib.hid (boxN HX1.out hb)
    obtain ⟨a0, a1, a2⟩ := box3 HXW.out
    clear hb
    by_cases hlt : g < p.caps.length
    · have hgi : (g : Int) < (p.caps.length : Int) := by omega
      have h2 := wsum_bd HOK.out HI.out g hg
      have h3 := wsum_bd HOK.out HI.out (g + 1) hlt
      have HST := Lib.hid (show wsum p ts (g + 1) = wsum p ts g + capped (gi p.caps g) (gsum p.lots ts g p.lots.length) from rfl)
      rw [HST.out] at h3
      have h4 := gsum_bd HOK.out HI.out g p.lots.length (Nat.le_refl _)
      have h5 := HOK.out.cap g hlt
      generalize wsum p ts g = sk at *
      go_wp2_with fail
      go_loopw [8, 9] (fun s i w' => ∃ k : Nat, k ≤ p.lots.length ∧ i = .int .i64 k ∧ s = .int .i64 (gsum p.lots ts g k) ∧ Below w1.heap.size w1 w') (fun _ i _ => p.lots.length - (intOf i).toNat)
      case atStart => exact ⟨0, Nat.zero_le _, rfl, rfl, HB1W.out⟩
      case round =>
        clear a0 a1 a2 HBW HXW HB1W
        obtain ⟨k, hk, rfl, rfl, hb⟩ := hrel
        have HBW := Lib.hid (btr HB1.out hb)
        have HB1W := Lib.hid hb
        have HXW := Lib.hid (boxN HX1.out hb)
        obtain ⟨a0, a1, a2⟩ := box3 HXW.out
        clear hb
        by_cases hltk : k < p.lots.length
        · obtain ⟨b, o, rfl, u0, u1, u2, u3⟩ := (HL.out.below HBW.out).get (k := k) hltk
          obtain ⟨b2, o2, rfl, t0⟩ := (HT.out.below HBW.out).get (k := k) (by rw [HI.out.1]; exact hltk)
          have hki : (k : Int) < (p.lots.length : Int) := by omega
          have e1 := tv_bd HOK.out HI.out hltk
          have e2 := gsum_bd HOK.out HI.out g k hk
          have HSG := Lib.hid (show gsum p.lots ts g (k + 1) = gsum p.lots ts g k + if (gl p.lots k).g = g then gi ts k * (gl p.lots k).v else 0 from rfl)
          have hw1 : IntKind.i64.wrap (gi ts k * (gl p.lots k).v) = gi ts k * (gl p.lots k).v := IntWalk.i64_in _ (by omega)
          have hw2 : IntKind.i64.wrap (gsum p.lots ts g k + gi ts k * (gl p.lots k).v) = gsum p.lots ts g k + gi ts k * (gl p.lots k).v := IntWalk.i64_in _ (by omega)
          generalize gsum p.lots ts g k = gk at *
          clear u0 u2 e1 e2 h2 h3 h4 h5
          by_cases hgg : (gl p.lots k).g = (g : Int)
          · rw [if_pos hgg] at HSG
            have hgb : ((gl p.lots k).g == (g : Int)) = true := by simp [hgg]
            generalize (gl p.lots k).g = gg at *
            go_wp2_with fail
            go_quiet (fail)
            go_wp2_with fail
            go_roundw
            case rel => exact ⟨k + 1, by omega, by go_num, by rw [HSG.out], btr HB1W.out (bdN _ _)⟩
            case measure => simp only [intOf]; omega
          · rw [if_neg hgg] at HSG
            have hgb : ((gl p.lots k).g == (g : Int)) = false := by simp [hgg]
            generalize (gl p.lots k).g = gg at *
            go_wp2_with fail
            go_roundw
            case rel => exact ⟨k + 1, by omega, by go_num, by rw [HSG.out]; simp, HB1W.out⟩
            case measure => simp only [intOf]; omega
        · have hkn : k = p.lots.length := by omega
          subst hkn
          obtain ⟨b, o, rfl, t0⟩ := (HC.out.below HBW.out).get (k := g) hlt
          generalize gsum p.lots ts g p.lots.length = gn at *
          generalize gi p.caps g = cg at *
          have h8 : ∀ m, 0 ≤ m → m ≤ 8000000000000 → IntKind.i64.wrap (sk + m) = sk + m := fun m _ _ => IntWalk.i64_in _ (by omega)
          by_cases hc1 : 0 < cg ∧ cg < gn
          · have hcc : capped cg gn = cg := by unfold capped; rw [if_pos hc1.1]; omega
            rw [hcc] at HST
            have hA := hc1.1
            have hB := hc1.2
            have hw := h8 cg (by omega) (by omega)
            clear h8 hc1 hcc h2 h3 h4
            go_wp2_with fail
            exact ⟨⟨g + 1, by omega, by go_num, by rw [HST.out], HB1W.out⟩, by simp only [intOf]; omega⟩
          · have hcc : capped cg gn = gn := by unfold capped; split <;> omega
            rw [hcc] at HST
            have hw := h8 gn (by omega) (by omega)
            clear h8 hcc h2 h3 h4
            by_cases hc2 : 0 < cg
            · have hc3 : ¬ cg < gn := fun h => hc1 ⟨hc2, h⟩
              clear hc1
              go_wp2_with fail
              all_goals exact ⟨⟨g + 1, by omega, by go_num, by rw [HST.out], HB1W.out⟩, by simp only [intOf]; omega⟩
            · clear hc1
              go_wp2_with fail
              all_goals exact ⟨⟨g + 1, by omega, by go_num, by rw [HST.out], HB1W.out⟩, by simp only [intOf]; omega⟩
    · have hkn : g = p.caps.length := by omega
      subst hkn
      go_wp2_with fail
      go_ret2
      exact ⟨rfl, HBW.out⟩
set_option maxRecDepth 100000 in
set_option maxHeartbeats 4000000 in
theorem FitsR_any : Calls Tryd.prog 41 #[pv A c B d p, .slice T ts.length f] w fun e w' => e = .returned (.bool (decide (p.need ≤ worthP p ts))) ∧ Below w.heap.size w w' := by
  have HR := Lib.hid fun W h => WorthR_any A c B d p T f ts W (hL.below h) (hC.below h) (hT.below h) hok hi
  have HB0 := Lib.hid (bal (Below.refl w.heap.size w) (.cells #[.slice A p.lots.length c, .slice B p.caps.length d, .int .i64 p.need] 27))
  have HX0 := Lib.hid (heap_alloc_new w (.cells #[.slice A p.lots.length c, .slice B p.caps.length d, .int .i64 p.need] 27))
  clear hL hC hT hi hok
  generalize worthP p ts = wo at *
  go_enter Tryd.func41, Tryd.ntmps41
  go_wp2_with fail
  refine (HR.out _ HB0.out).mono ?_
  rintro e w1 ⟨rfl, hb1⟩
  have HB1 := Lib.hid (btr HB0.out hb1)
  obtain ⟨a0, a1, a2⟩ := box3 (boxN HX0.out hb1)
  clear hb1 HR
  go_wp2_with fail
  go_ret
  exact ⟨rfl, HB1.out⟩
end
set_option maxRecDepth 100000 in
set_option maxHeartbeats 4000000 in
theorem Full_any (A : Option Addr) (c : Nat) (B : Option Addr) (d : Nat) (p : Prob) (w : World) (hL : LotsAt w A p.lots) (h8 : p.lots.length ≤ 8) :
    Calls Tryd.prog 32 #[pv A c B d p] w (GivesInts (units p.lots) w) := by
  have HL := Lib.hid hL
  have HB0 := Lib.hid (bal (Below.refl w.heap.size w) (.cells #[.slice A p.lots.length c, .slice B p.caps.length d, .int .i64 p.need] 27))
  have HX0 := Lib.hid (heap_alloc_new w (.cells #[.slice A p.lots.length c, .slice B p.caps.length d, .int .i64 p.need] 27))
  clear hL
  go_enter Tryd.func32, Tryd.ntmps32
  go_wp2_with fail
  go_loopw [3, 4] (fun v i w' => ∃ k : Nat, k ≤ p.lots.length ∧ i = .int .i64 k ∧ Below w.heap.size w w' ∧ w'.heap[w.heap.size]? = some (.cells #[.slice A p.lots.length c, .slice B p.caps.length d, .int .i64 p.need] 27 (0, 0)) ∧ Own w' (w.heap.size + 1) 3 v (units (p.lots.take k))) (fun _ i _ => p.lots.length - (intOf i).toNat)
  case atStart => exact ⟨0, Nat.zero_le _, rfl, HB0.out, HX0.out, Own.nil _ _ _⟩
  case round =>
    obtain ⟨k, hk, rfl, hb, hx, hown⟩ := hrel
    have HB := Lib.hid hb
    have HX := Lib.hid hx
    have HO := Lib.hid hown
    obtain ⟨a0, a1, a2⟩ := box3 hx
    have hsz := (Array.getElem?_eq_some_iff.1 hx).1
    have HSZ := Lib.hid hsz
    clear hb hx hown hsz
    by_cases hlt : k < p.lots.length
    · obtain ⟨b, o, rfl, x0, x1, x2, x3⟩ := (HL.out.below HB.out).get (k := k) hlt
      have hki : (k : Int) < (p.lots.length : Int) := by omega
      have hul : (units (p.lots.take k)).length = k := by rw [units_len, List.length_take]; omega
      clear x1 x2 x3
      go_wp2_with (first | (at_builtin; go_must (refine app_ints (W := wr) (w.heap.size + 1) rfl (.tmp 12) (.tmp 19) 32 3 rfl Tryd.underlying32 info3 u3 (units (p.lots.take k)) (gl p.lots k).u wr.heap.size (by rfl) (by rfl) (by rfl) HO.out ?c1 ?c2 ?_)))
      case c1 => have := HSZ.out; omega
      case c2 => rw [hul]; omega
      intro v1 w1 ho1 hg1
      have hb1 := bgr HB.out HO.out (by omega) hg1
      have HO2 := Lib.hid ho1
      have HX2 := Lib.hid ((hg1.block w.heap.size HSZ.out (fun e => by have := Own.base HO.out _ e.symm; omega)).trans HX.out)
      clear hg1 ho1 x0
      go_wp2_with fail
      go_roundw
      case rel => exact ⟨k + 1, by omega, by go_num, hb1, HX2.out, by rw [units_take hlt]; exact HO2.out⟩
      case measure => simp only [intOf]; omega
    · have hkn : k = p.lots.length := by omega
      subst hkn
      rw [List.take_length] at HO
      obtain ⟨A1, c1, rfl, hi, hc, hfr⟩ := HO.out.ints
      have HI := Lib.hid hi
      have HC := Lib.hid hc
      have HFR := Lib.hid hfr
      clear hi hc hfr
      go_wp2_with fail
      go_ret
      exact ⟨A1, c1, rfl, HI.out, HC.out, fun b o e => by have := HFR.out b o e; omega, HB.out⟩

end Go.Proofs.YtjaegolanbjgfaaDoor

set_option linter.unusedVariables false
set_option linter.unusedSimpArgs false
namespace Go.Proofs.YtjaegolanbjgfaaDoor
open Go.RowKit
set_option maxRecDepth 100000 in
set_option maxHeartbeats 4000000 in
theorem MostR_any (A : Option Addr) (c : Nat) (B : Option Addr) (d : Nat) (p : Prob) (w : World) (hL : LotsAt w A p.lots) (hC : IntsAt w B p.caps) (hok : Ok p) :
    Calls Tryd.prog 14 #[pv A c B d p] w fun e w' => e = .returned (.int .i64 (worthP p (units p.lots))) ∧ Below w.heap.size w w' := by
  have HL := Lib.hid hL
  have HC := Lib.hid hC
  have HU := Lib.hid (units_in hok)
  have HOK := Lib.hid hok
  have h8 := hok.n8
  have HB0 := Lib.hid (bal (Below.refl w.heap.size w) (.cells #[.slice A p.lots.length c, .slice B p.caps.length d, .int .i64 p.need] 27))
  clear hL hC hok
  go_enter Tryd.func14, Tryd.ntmps14
  go_wp2_with fail
  go_region_held3 (fun w' => w'.cell? ⟨w.heap.size, 0, none⟩ = some (.slice A p.lots.length c) ∧ w'.cell? ⟨w.heap.size, 1, none⟩ = some (.slice B p.caps.length d) ∧ w'.cell? ⟨w.heap.size, 2, none⟩ = some (.int .i64 p.need)) (go_keep)
    (first
      | (go_at_call 32; go_must (refine (Full_any A c B d p _ (HL.out.below HB0.out.drew) h8).mono ?_); rintro e w1 ⟨T, f, rfl, hT, hf, _, hb1⟩; have c0 := cellB hb1 (a := ⟨w.heap.size, 0, none⟩) (v := .slice A p.lots.length c) ((cellN w _ 27 0).trans rfl); have c1 := cellB hb1 (a := ⟨w.heap.size, 1, none⟩) (v := .slice B p.caps.length d) ((cellN w _ 27 1).trans rfl); have c2 := cellB hb1 (a := ⟨w.heap.size, 2, none⟩) (v := .int .i64 p.need) ((cellN w _ 27 2).trans rfl); have hb := btr HB0.out.drew hb1; have HT := Lib.hid hT; clear hb1 hT)
      | (go_at_call 17; go_must (refine (WorthR_any A c B d p _ _ (units p.lots) _ (HL.out.below hb) (HC.out.below hb) HT.out HOK.out HU.out).mono ?_); rintro e w2 ⟨rfl, hb2⟩; have d0 := cellB hb2 c0; have d1 := cellB hb2 c1; have d2 := cellB hb2 c2; have hbb := btr hb hb2))
  go_wp2_with fail
  go_ret
  exact ⟨rfl, hbb⟩
def choF (p : Prob) (most : Int) : Nat → Int
  | 0 => 1
  | k + 1 => if choF p most k ≤ most then choF p most k * ((gl p.lots k).u + 1) else choF p most k
theorem choF_bd {p : Prob} (hok : Ok p) {most : Int} (h0 : 0 ≤ most) (h1 : most ≤ 1000000) : ∀ k, k ≤ p.lots.length → 1 ≤ choF p most k ∧ choF p most k ≤ 1001 * (most + 1)
  | 0, _ => ⟨Int.le_refl _, by unfold choF; omega⟩
  | k + 1, h => by
    have ih := choF_bd hok h0 h1 k (by omega)
    have hl := hok.lot k h
    unfold choF
    split
    · rename_i hm
      have a := Int.mul_le_mul hm (show (gl p.lots k).u + 1 ≤ 1001 by omega) (by omega) h0
      have b := Int.mul_le_mul ih.1 (show (1 : Int) ≤ (gl p.lots k).u + 1 by omega) (by omega) (by omega)
      omega
    · exact ih
theorem choF_stop (p : Prob) (most : Int) {k : Nat} (h : most < choF p most k) : ∀ j, choF p most (k + j) = choF p most k
  | 0 => rfl
  | j + 1 => by
    have ih := choF_stop p most h j
    show (if choF p most (k + j) ≤ most then choF p most (k + j) * ((gl p.lots (k + j)).u + 1) else choF p most (k + j)) = _
    rw [ih, if_neg (by omega)]
set_option maxRecDepth 100000 in
set_option maxHeartbeats 4000000 in
theorem Choices_any (A : Option Addr) (c : Nat) (B : Option Addr) (d : Nat) (p : Prob) (w : World) (hL : LotsAt w A p.lots) (hok : Ok p) :
    Calls Tryd.prog 13 #[pv A c B d p, .int .i64 3000] w fun e w' => e = .returned (.int .i64 (min (choF p 3000 p.lots.length) 3001)) ∧ Below w.heap.size w w' := by
  have HL := Lib.hid hL
  have HOK := Lib.hid hok
  have h8 := hok.n8
  have HB0 := Lib.hid (bal (Below.refl w.heap.size w) (.cells #[.slice A p.lots.length c, .slice B p.caps.length d, .int .i64 p.need] 27))
  have HX0 := Lib.hid (heap_alloc_new w (.cells #[.slice A p.lots.length c, .slice B p.caps.length d, .int .i64 p.need] 27))
  clear hL hok
  go_enter Tryd.func13, Tryd.ntmps13
  go_wp2_with fail
  generalize hW0 : w.alloc (.cells #[.slice A p.lots.length c, .slice B p.caps.length d, .int .i64 p.need] 27) = W0 at *
  clear hW0
  obtain ⟨a0, a1, a2⟩ := box3 HX0.out
  go_loopw [5, 6] (fun s i w' => ∃ k : Nat, k ≤ p.lots.length ∧ i = .int .i64 k ∧ s = .int .i64 (choF p 3000 k) ∧ w' = W0) (fun _ i _ => p.lots.length - (intOf i).toNat)
  case atStart => exact ⟨0, Nat.zero_le _, rfl, rfl, rfl⟩
  case round =>
    obtain ⟨k, hk, rfl, rfl, hwr⟩ := hrel
    subst hwr
    have hbd := choF_bd HOK.out (most := 3000) (by omega) (by omega) k hk
    by_cases hlt : k < p.lots.length
    · have hki : (k : Int) < (p.lots.length : Int) := by omega
      by_cases hm : choF p 3000 k ≤ 3000
      · obtain ⟨b, o, rfl, u0, u1, u2, u3⟩ := (HL.out.below HB0.out).get (k := k) hlt
        have hlk := HOK.out.lot k hlt
        have HST := Lib.hid (show choF p 3000 (k + 1) = choF p 3000 k * ((gl p.lots k).u + 1) by show (if choF p 3000 k ≤ 3000 then choF p 3000 k * ((gl p.lots k).u + 1) else choF p 3000 k) = _; rw [if_pos hm])
        have hw1 : IntKind.i64.wrap ((gl p.lots k).u + 1) = (gl p.lots k).u + 1 := IntWalk.i64_in _ (by omega)
        have hmm := mul_bd (t := choF p 3000 k) (v := (gl p.lots k).u + 1) (T := 3000) (V := 1001) (by omega) hm (by omega) (by omega)
        have hw2 : IntKind.i64.wrap (choF p 3000 k * ((gl p.lots k).u + 1)) = choF p 3000 k * ((gl p.lots k).u + 1) := IntWalk.i64_in _ (by omega)
        generalize choF p 3000 k = n at *
        clear u1 u2 u3 hlk hmm
        go_wp2_with fail
        go_roundw
        case rel => exact ⟨k + 1, by omega, by go_num, by rw [HST.out], trivial⟩
        case measure => simp only [intOf]; omega
      · have he : choF p 3000 p.lots.length = choF p 3000 k := by
          have := choF_stop p 3000 (k := k) (by omega) (p.lots.length - k)
          rw [show k + (p.lots.length - k) = p.lots.length by omega] at this
          exact this
        have HEQ := Lib.hid he
        generalize choF p 3000 k = n at *
        clear he
        go_wp2_with fail
        all_goals
          go_ret
          exact ⟨ret_int (by rw [HEQ.out]; omega), HB0.out⟩
    · have hkn : k = p.lots.length := by omega
      subst hkn
      generalize hn : choF p 3000 p.lots.length = n at *
      have HNN := Lib.hid hn
      clear hn
      go_wp2_with fail
      all_goals
        go_ret
        exact ⟨ret_int (by rw [HNN.out]; omega), HB0.out⟩

end Go.Proofs.YtjaegolanbjgfaaDoor
