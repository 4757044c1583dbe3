import Derived.Test.YtjaegolanbjgfaaDoorFr
import Derived.Test.YtjaegolanbjgfaaDoorMj
import Derived.WalkKit
import Derived.WalkSpells
import Derived.WalkLawsBesides
import Derived.Lib.Hide
import Derived.Deep.DeepCutAuto
import Derived.Deep.LoopGhost
import Derived.Deep.QuietTactic
import Derived.BigQuiet
import Derived.Deep.OwnRows
import Derived.StillTailTactics
import Derived.IntWalk
import Derived.Laws.BitsLemmas
import Derived.Laws.MathBits
import Derived.Laws.Bits64
import Derived.Deep.RegionHeld3
import Derived.BigRegion
import Derived.Lib.SliceRun
import Derived.Deep.AppendLies
set_option linter.unusedVariables false
set_option linter.unusedSimpArgs false
namespace Go.Proofs.YtjaegolanbjgfaaDoor
open Go.RowKit
theorem errB_in {p : Prob} (h : valid p = none) {bud : Int} (h0 : 0 ≤ bud) (h1 : bud ≤ 100000) : errB p bud = if worthP p (greedyT p) < p.need then some 1 else none := by
  unfold errB; rw [h]; simp only; rw [if_neg (by omega)]
theorem costV_in {p : Prob} (hok : Ok p) {ts : List Int} (hi : inLots p.lots ts) : costV p ts = costP p ts := by unfold costV; rw [fitsB_of hok hi, if_pos rfl]
theorem worthV_in {p : Prob} (hok : Ok p) {ts : List Int} (hi : inLots p.lots ts) : worthV p ts = worthP p ts := by unfold worthV; rw [fitsB_of hok hi, if_pos rfl]
set_option maxRecDepth 100000 in
set_option maxHeartbeats 4000000 in
theorem AllocMore_any (A : Option Addr) (c : Nat) (B : Option Addr) (d : Nat) (p : Prob) (a b : Int) (ea : Nat → Addr) (w : World) (hL : LotsAt w A p.lots) (hC : IntsAt w B p.caps) (hs : Sent 3 ea w) :
    Calls Tryd.prog 7 #[pv A c B d p, .int .i64 a, .int .i64 b] w fun e w' => e = .returned (.bool true) ∧ Below w.heap.size w w' := by
  have HB0 := Lib.hid (bal (Below.refl w.heap.size w) (.cells #[.slice A p.lots.length c, .slice B p.caps.length d, .int .i64 p.need] 25))
  have HX0 := Lib.hid (heap_alloc_new w (.cells #[.slice A p.lots.length c, .slice B p.caps.length d, .int .i64 p.need] 25))
  have HF := Lib.hid fun W h => first_any ea W (hs.below h)
  have HV := Lib.hid fun W h => valid_any A c B d p ea W (hL.below h) (hC.below h) (hs.below h)
  have HN := Lib.hid fun n W => Number_any n 800 W (by omega) (by omega)
  have HBe := Lib.hid fun bud W h => Best_any A c B d p bud ea W (hL.below h) (hC.below h) (hs.below h)
  clear hL hC hs
  go_enter Tryd.func7, Tryd.ntmps7
  go_wp2_with fail
  refine (HF.out _ HB0.out).mono ?_
  rintro e w1 ⟨rfl, hb1⟩
  have HB1 := Lib.hid (btr HB0.out hb1)
  have HX1 := Lib.hid (boxN HX0.out hb1)
  obtain ⟨a0, a1, a2⟩ := box3 HX1.out
  clear hb1 HX0 HF
  go_wp2_with fail
  refine (HV.out _ HB1.out).mono ?_
  rintro e w2 ⟨rfl, hb2⟩
  have HB2 := Lib.hid (btr HB1.out hb2)
  have HX2 := Lib.hid (boxN HX1.out hb2)
  clear hb2 HX1 HV a0 a1 a2
  rcases hv : valid p with _ | k
  · rw [errV]
    have HVN := Lib.hid hv
    clear hv
    go_wp2_with fail
    refine (HN.out a _).mono ?_
    rintro e w3 ⟨rfl, rfl⟩
    go_wp2_with fail
    refine (HN.out b _).mono ?_
    rintro e w3 ⟨rfl, rfl⟩
    have x0 := Int.emod_nonneg a (show (800 : Int) ≠ 0 by decide)
    have x1 := Int.emod_lt_of_pos a (show (0 : Int) < 800 by decide)
    have y0 := Int.emod_nonneg b (show (800 : Int) ≠ 0 by decide)
    have y1 := Int.emod_lt_of_pos b (show (0 : Int) < 800 by decide)
    generalize a % 800 = x at *
    generalize b % 800 = y at *
    have wy : IntKind.i64.wrap (x + y) = x + y := IntWalk.i64_in _ (by omega)
    obtain ⟨a0, a1, a2⟩ := box3 HX2.out
    go_wp2_with fail
    refine (HBe.out x _ HB2.out).mono ?_
    rintro e w4 ⟨hb4, he4⟩
    rw [errB_in HVN.out (by omega) (by omega)] at he4
    have HB4 := Lib.hid (btr HB2.out hb4)
    have HX4 := Lib.hid (boxN HX2.out hb4)
    clear hb4 HX2 a0 a1 a2
    by_cases hg : worthP p (greedyT p) < p.need
    · rw [if_pos hg] at he4
      simp only at he4
      subst he4
      unfold resV
      obtain ⟨a0, a1, a2⟩ := box3 HX4.out
      have bal4 := bal (Below.refl w4.heap.size w4) (.cells #[.slice none 0 0, .int .i64 0, .int .i64 0, .bool false, .int .i64 0] 34)
      have HB5 := Lib.hid (btr HB4.out bal4)
      have HX5 := Lib.hid (boxN HX4.out bal4)
      clear bal4
      have b0 := (box3 HX5.out).1
      have b1 := (box3 HX5.out).2.1
      have b2 := (box3 HX5.out).2.2
      have HG := Lib.hid hg
      clear hg
      go_wp2_with fail
      refine (HBe.out x _ HB5.out).mono ?_
      rintro e w6 ⟨hb6, he6⟩
      rw [errB_in HVN.out (by omega) (by omega), if_pos HG.out] at he6
      simp only at he6
      subst he6
      unfold resV
      have HB6 := Lib.hid (btr HB5.out hb6)
      have HX6 := Lib.hid (boxN HX5.out hb6)
      have bal6 := bal (Below.refl w6.heap.size w6) (.cells #[.slice none 0 0, .int .i64 0, .int .i64 0, .bool false, .int .i64 0] 34)
      have HB7 := Lib.hid (btr HB6.out bal6)
      have HX7 := Lib.hid (boxN HX6.out bal6)
      clear bal6 hb6 a0 a1 a2 b0 b1 b2
      obtain ⟨a0, a1, a2⟩ := box3 HX6.out
      have b0 := (box3 HX7.out).1
      have b1 := (box3 HX7.out).2.1
      have b2 := (box3 HX7.out).2.2
      go_wp2_with fail
      refine (HBe.out (x + y) _ HB7.out).mono ?_
      rintro e w8 ⟨hb8, he8⟩
      rw [errB_in HVN.out (by omega) (by omega), if_pos HG.out] at he8
      simp only at he8
      subst he8
      unfold resV
      have HB8 := Lib.hid (btr HB7.out hb8)
      clear hb8 a0 a1 a2 b0 b1 b2
      go_wp2_with fail
      go_ret
      exact ⟨rfl, bal HB8.out _⟩
    · have hok := ok_of_valid HVN.out
      have HOK := Lib.hid hok
      have BX := Lib.hid (best_law hok (bud := x) (by omega) (by omega))
      have BY := Lib.hid (best_law hok (bud := x + y) (by omega) (by omega))
      have hm1 := hok.n8
      have hm0 := hok.n0
      clear hok
      rw [if_neg hg] at he4
      simp only at he4
      obtain ⟨g1, c1, rfl, hi1, hg1, hc1⟩ := he4
      unfold resV
      obtain ⟨a0, a1, a2⟩ := box3 HX4.out
      have HR4 := Lib.hid (heap_alloc_new w4 (.cells #[.slice (some ⟨g1, 0, none⟩) p.lots.length c1, .int .i64 (worthV p (takeB p x)), .int .i64 (costV p (takeB p x)), .bool (srch p x).2, .int .i64 (srch p x).1.looked] 34))
      have bal4 := bal (Below.refl w4.heap.size w4) (.cells #[.slice (some ⟨g1, 0, none⟩) p.lots.length c1, .int .i64 (worthV p (takeB p x)), .int .i64 (costV p (takeB p x)), .bool (srch p x).2, .int .i64 (srch p x).1.looked] 34)
      have HB5 := Lib.hid (btr HB4.out bal4)
      have HX5 := Lib.hid (boxN HX4.out bal4)
      have HI5 := Lib.hid (hi1.below bal4)
      clear bal4 hi1 hg1
      have b0 := (box3 HX5.out).1
      have b1 := (box3 HX5.out).2.1
      have b2 := (box3 HX5.out).2.2
      have HG := Lib.hid hg
      clear hg
      go_wp2_with fail
      refine (HBe.out x _ HB5.out).mono ?_
      rintro e w6 ⟨hb6, he6⟩
      rw [errB_in HVN.out (by omega) (by omega), if_neg (show ¬ worthP p (greedyT p) < p.need by have := HG.out; omega)] at he6
      simp only at he6
      obtain ⟨g2, c2, rfl, hi2, hg2, hc2⟩ := he6
      unfold resV
      have HB6 := Lib.hid (btr HB5.out hb6)
      have HX6 := Lib.hid (boxN HX5.out hb6)
      have HR6 := Lib.hid (boxN HR4.out hb6)
      have HR6' := Lib.hid (heap_alloc_new w6 (.cells #[.slice (some ⟨g2, 0, none⟩) p.lots.length c2, .int .i64 (worthV p (takeB p x)), .int .i64 (costV p (takeB p x)), .bool (srch p x).2, .int .i64 (srch p x).1.looked] 34))
      have bal6 := bal (Below.refl w6.heap.size w6) (.cells #[.slice (some ⟨g2, 0, none⟩) p.lots.length c2, .int .i64 (worthV p (takeB p x)), .int .i64 (costV p (takeB p x)), .bool (srch p x).2, .int .i64 (srch p x).1.looked] 34)
      have HB7 := Lib.hid (btr HB6.out bal6)
      have HX7 := Lib.hid (boxN HX6.out bal6)
      have HR7 := Lib.hid (boxN HR6.out bal6)
      have HI7 := Lib.hid ((HI5.out.below hb6).below bal6)
      have HJ7 := Lib.hid (hi2.below bal6)
      clear bal6 hb6 a0 a1 a2 b0 b1 b2 hi2 hg2 HR4 HR6 HX5 HI5
      obtain ⟨a0, a1, a2⟩ := box3 HX6.out
      have b0 := (box3 HX7.out).1
      have b1 := (box3 HX7.out).2.1
      have b2 := (box3 HX7.out).2.2
      go_wp2_with fail
      refine (HBe.out (x + y) _ HB7.out).mono ?_
      rintro e w8 ⟨hb8, he8⟩
      rw [errB_in HVN.out (by omega) (by omega), if_neg (show ¬ worthP p (greedyT p) < p.need by have := HG.out; omega)] at he8
      simp only at he8
      obtain ⟨g3, c3, rfl, hi3, hg3, hc3⟩ := he8
      unfold resV
      have HB8b := Lib.hid hb8
      clear hb8 a0 a1 a2 b0 b1 b2
      go_upto_region 11 with (fail)
      have hb8 := HB8b.out
      have HB8 := Lib.hid (btr HB7.out hb8)
      have HR8 := Lib.hid (boxN HR7.out hb8)
      have HR8' := Lib.hid (boxN HR6'.out hb8)
      have HI8 := Lib.hid (HI7.out.below hb8)
      have HJ8 := Lib.hid (HJ7.out.below hb8)
      have bal8 := bal (Below.refl w8.heap.size w8) (.cells #[.slice (some ⟨g3, 0, none⟩) p.lots.length c3, .int .i64 (worthV p (takeB p (x + y))), .int .i64 (costV p (takeB p (x + y))), .bool (srch p (x + y)).2, .int .i64 (srch p (x + y)).1.looked] 34)
      have HB9 := Lib.hid (btr HB8.out bal8)
      have HR9 := Lib.hid (boxN HR8.out bal8)
      have HR9' := Lib.hid (boxN HR8'.out bal8)
      have HR9'' := Lib.hid (heap_alloc_new w8 (.cells #[.slice (some ⟨g3, 0, none⟩) p.lots.length c3, .int .i64 (worthV p (takeB p (x + y))), .int .i64 (costV p (takeB p (x + y))), .bool (srch p (x + y)).2, .int .i64 (srch p (x + y)).1.looked] 34))
      have HI9 := Lib.hid (HI8.out.below bal8)
      have HJ9 := Lib.hid (HJ8.out.below bal8)
      clear bal8 hb8 hi3 hg3 HR7 HR8 HR8' HX6 HX7 HI7 HJ7 HI8 HJ8 HR6'
      have q := box5 HR9.out
      have q' := box5 HR9'.out
      have q'' := box5 HR9''.out
      obtain ⟨q0, q1, q2, q3, q4⟩ := q
      obtain ⟨q0', q1', q2', q3', q4'⟩ := q'
      obtain ⟨q0'', q1'', q2'', q3'', q4''⟩ := q''
      clear q1 q1' q1'' q0'' q4''
      have HCE := Lib.hid (show (srch p x).2 = true → (srch p (x + y)).2 = true → costV p (takeB p (x + y)) = costV p (takeB p x) from fun h1 h2 => by
        rw [costV_in HOK.out BX.out.i, costV_in HOK.out BY.out.i]
        have := BX.out.sure h1 _ BY.out.i BY.out.w
        have := BY.out.sure h2 _ BX.out.i BX.out.w
        omega)
      have HTL := Lib.hid (show (takeB p x).length = p.lots.length from BX.out.i.1)
      generalize w8.alloc (.cells #[.slice (some ⟨g3, 0, none⟩) p.lots.length c3, .int .i64 (worthV p (takeB p (x + y))), .int .i64 (costV p (takeB p (x + y))), .bool (srch p (x + y)).2, .int .i64 (srch p (x + y)).1.looked] 34) = W9 at *
      clear BX BY HBe HN wy
      go_wp2_with fail
      go_loopw [16] (fun i w' => ∃ k : Nat, k ≤ p.lots.length ∧ i = .int .i64 k ∧ Below W9.heap.size W9 w') (fun i _ => p.lots.length - (intOf i).toNat)
      case atStart => exact ⟨0, Nat.zero_le _, rfl, Below.refl _ _⟩
      case round =>
        obtain ⟨k, hk, rfl, hbr⟩ := hrel
        have z0 := cellB hbr q0
        have z2 := cellB hbr q2
        have z3 := cellB hbr q3
        have z0' := cellB hbr q0'
        have z2' := cellB hbr q2''
        have z3' := cellB hbr q3''
        have HBR := Lib.hid (btr HB9.out hbr)
        by_cases hlt : k < p.lots.length
        · obtain ⟨tb, tq, he1, t0⟩ := (HI9.out.below hbr).get (k := k) (by rw [HTL.out]; exact hlt)
          obtain ⟨ub, uq, he2, u0⟩ := (HJ9.out.below hbr).get (k := k) (by rw [HTL.out]; exact hlt)
          simp only [Option.some.injEq, Addr.mk.injEq, and_true] at he1 he2
          obtain ⟨rfl, rfl⟩ := he1
          obtain ⟨rfl, rfl⟩ := he2
          rw [Nat.zero_add] at t0 u0
          have hki : (k : Int) < (p.lots.length : Int) := by omega
          have HBq := Lib.hid hbr
          clear hbr q0 q2 q3 q0' q2'' q3''
          go_wp2_with fail
          go_quiet (fail)
          go_wp2_with fail
          go_roundw
          case rel => exact ⟨k + 1, by omega, by go_num, btr HBq.out (bdN _ _)⟩
          case measure => simp only [intOf]; omega
        · have hkn : k = p.lots.length := by omega
          clear hbr q0 q2 q3 q0' q2' q3' q2'' q3''
          subst hkn
          cases h1 : (srch p x).2
          · rw [h1] at z3
            clear h1 HCE
            go_wp2_with fail
            go_ret
            exact ⟨rfl, HBR.out⟩
          · cases h2 : (srch p (x + y)).2
            · rw [h1] at z3
              rw [h2] at z3'
              clear h1 h2 HCE
              go_wp2_with fail
              go_ret
              exact ⟨rfl, HBR.out⟩
            · have hce := HCE.out h1 h2
              rw [h1] at z3
              rw [h2] at z3'
              rw [hce] at z2'
              clear h1 h2 hce HCE
              go_wp2_with fail
              go_ret
              exact ⟨rfl, HBR.out⟩
  · rw [errV]
    clear hv
    go_wp2_with fail
    go_ret
    exact ⟨rfl, HB2.out⟩

end Go.Proofs.YtjaegolanbjgfaaDoor
