import Derived.Test.YtjaegolanbjgfaaDoorLm
import Derived.Test.YtjaegolanbjgfaaDoorMo
import Derived.WalkKit
import Derived.WalkSpells
import Derived.WalkLawsBesides
import Derived.Lib.Hide
import Derived.Deep.DeepCutAuto
import Derived.Deep.LoopGhost
import Derived.Deep.QuietTactic
import Derived.BigQuiet
import Derived.Deep.OwnRows
import Derived.StillTailTactics
import Derived.IntWalk
import Derived.Laws.BitsLemmas
import Derived.Laws.MathBits
import Derived.Laws.Bits64
import Derived.Deep.RegionHeld3
import Derived.BigRegion
import Derived.Lib.SliceRun
import Derived.Deep.AppendLies
set_option linter.unusedVariables false
set_option linter.unusedSimpArgs false
namespace Go.Proofs.YtjaegolanbjgfaaDoor
open Go.RowKit
set_option maxRecDepth 100000 in
set_option maxHeartbeats 4000000 in
theorem AllocCaps_any (l0 n0 a0 b0 : Int) (ea : Nat → Addr) (w : World) (hs : Sent 3 ea w) :
    Calls Tryd.prog 6 #[.int .i64 l0, .int .i64 n0, .int .i64 a0, .int .i64 b0] w fun e w' => e = .returned (.bool true) ∧ Below w.heap.size w w' := by
  have HS := Lib.hid hs
  have HF := Lib.hid fun W h => first_any ea W (hs.below h)
  have N1 := Lib.hid fun n W => Number_any n 20 W (by omega) (by omega)
  have N2 := Lib.hid fun n W => Number_any n 45 W (by omega) (by omega)
  have N3 := Lib.hid fun n W => Number_any n 9 W (by omega) (by omega)
  clear hs
  go_enter Tryd.func6, Tryd.ntmps6
  go_wp2_with fail
  refine (HF.out _ (Below.refl _ _)).mono ?_
  rintro e w1 ⟨rfl, hb1⟩
  have HB1 := Lib.hid hb1
  clear hb1 HF
  go_wp2_with fail
  refine (N1.out _ _).mono ?_
  rintro e w2 ⟨rfl, rfl⟩
  have hl0 := Int.emod_nonneg l0 (show (20 : Int) ≠ 0 by decide)
  have hl1 := Int.emod_lt_of_pos l0 (show (0 : Int) < 20 by decide)
  generalize l0 % 20 = l at *
  have wl : IntKind.i64.wrap (l + 1) = l + 1 := IntWalk.i64_in _ (by omega)
  go_wp2_with fail
  refine (N2.out _ _).mono ?_
  rintro e w2 ⟨rfl, rfl⟩
  go_wp2_with fail
  refine (N3.out _ _).mono ?_
  rintro e w2 ⟨rfl, rfl⟩
  go_wp2_with fail
  refine (N3.out _ _).mono ?_
  rintro e w2 ⟨rfl, rfl⟩
  have hn0 := Int.emod_nonneg n0 (show (45 : Int) ≠ 0 by decide)
  have hn1 := Int.emod_lt_of_pos n0 (show (0 : Int) < 45 by decide)
  have hx0 := Int.emod_nonneg a0 (show (9 : Int) ≠ 0 by decide)
  have hx1 := Int.emod_lt_of_pos a0 (show (0 : Int) < 9 by decide)
  have hz0 := Int.emod_nonneg b0 (show (9 : Int) ≠ 0 by decide)
  have hz1 := Int.emod_lt_of_pos b0 (show (0 : Int) < 9 by decide)
  generalize n0 % 45 = n at *
  generalize a0 % 9 = x at *
  generalize b0 % 9 = z at *
  obtain ⟨c, hc⟩ : ∃ c, c = l + 1 := ⟨_, rfl⟩
  obtain ⟨y, hy⟩ : ∃ y, y = x + z + 1 := ⟨_, rfl⟩
  have wy : IntKind.i64.wrap (x + z) = x + z := IntWalk.i64_in _ (by omega)
  have wy' : IntKind.i64.wrap (x + z + 1) = x + z + 1 := IntWalk.i64_in _ (by omega)
  go_wp2_with fail
  rw [← hc, ← hy]
  have HC := Lib.hid hc
  have HY := Lib.hid hy
  have c0 : 1 ≤ c := by omega
  have c1 : c ≤ 20 := by omega
  have y0 : x < y := by omega
  have y1 : y < 18 := by omega
  clear wl wy wy' hl0 hl1 hz0 hz1 hc hy
  obtain ⟨x1, x2, x3⟩ := three_new w1 (.cells #[.int .i64 30, .int .i64 1, .int .i64 x, .int .i64 0, .int .i64 20, .int .i64 1, .int .i64 y, .int .i64 1] 48) (.cells #[.int .i64 c, .int .i64 0] 2) (.cells #[.slice (some ⟨w1.heap.size, 0, none⟩) 2 2, .slice (some ⟨w1.heap.size + 1, 0, none⟩) 2 2, .int .i64 n] 25)
  have hb := bal (bal (bal (Below.refl w1.heap.size w1) (.cells #[.int .i64 30, .int .i64 1, .int .i64 x, .int .i64 0, .int .i64 20, .int .i64 1, .int .i64 y, .int .i64 1] 48)) (.cells #[.int .i64 c, .int .i64 0] 2)) (.cells #[.slice (some ⟨w1.heap.size, 0, none⟩) 2 2, .slice (some ⟨w1.heap.size + 1, 0, none⟩) 2 2, .int .i64 n] 25)
  have HBB := Lib.hid (btr HB1.out hb)
  refine (All_any (some ⟨w1.heap.size, 0, none⟩) 2 (some ⟨w1.heap.size + 1, 0, none⟩) 2 (p2 c n x y) ea _ (lots_heap x1 [⟨30, 1, x, 0⟩, ⟨20, 1, y, 1⟩] rfl (by simp)) (ints_heap x2 [c, 0] rfl (by simp)) (HS.out.below HBB.out)).mono ?_
  rintro e w2 ⟨hb2, he⟩
  have HX3 := Lib.hid (boxN x3 hb2)
  have HB2 := Lib.hid (btr HBB.out hb2)
  have hlaw := two_law ⟨c0, c1⟩ ⟨hn0, hn1⟩ ⟨hx0, hx1⟩ ⟨y0, y1⟩
  clear x1 x2 x3 hb hb2 N1 N2 N3
  obtain ⟨a0, a1, a2⟩ := box3 HX3.out
  have wc : IntKind.i64.wrap (c + 20) = c + 20 := IntWalk.i64_in _ (by omega)
  by_cases hlt : c + 20 < n
  · rw [hlaw.lt hlt] at he
    simp only at he
    subst he
    unfold resV
    clear hlaw
    go_wp2_with fail
    go_ret
    exact ⟨rfl, bal HB2.out _⟩
  · obtain ⟨h1, h2, h3, h4, h8⟩ := hlaw.ge (by omega)
    rw [h1] at he
    simp only at he
    obtain ⟨g, cap, rfl, hi, hg, hcp⟩ := he
    have hok := ok2 ⟨c0, c1⟩ ⟨hn0, hn1⟩ ⟨hx0, hx1⟩ ⟨y0, y1⟩
    rw [h2, costV_in hok h8, worthV_in hok h8, h3]
    clear h1 h2 h3 hi hg hcp hok h8 hlaw
    unfold resV
    generalize worthP (p2 c n x y) (takeB (p2 c n x y) 100000) = wo at *
    generalize (srch (p2 c n x y) 100000).1.looked = lo at *
    by_cases hnc : n ≤ c
    · rw [show min n c = n by omega, show n - n = 0 by omega, Int.zero_mul, Int.add_zero]
      have m1 := mul_bd (t := n) (v := x) (T := 45) (V := 9) (by omega) (by omega) (by omega) (by omega)
      have e1 : IntKind.i64.wrap (n * x) = n * x := IntWalk.i64_in _ (by omega)
      clear m1
      go_wp2_with fail
      go_ret
      exact ⟨ret_bool (by simp; try omega), bal HB2.out _⟩
    · rw [show min n c = c by omega]
      have m1 := mul_bd (t := c) (v := x) (T := 45) (V := 9) (by omega) (by omega) (by omega) (by omega)
      have m2 := mul_bd (t := n - c) (v := y) (T := 45) (V := 18) (by omega) (by omega) (by omega) (by omega)
      have e0 : IntKind.i64.wrap (n - c) = n - c := IntWalk.i64_in _ (by omega)
      have e1 : IntKind.i64.wrap (c * x) = c * x := IntWalk.i64_in _ (by omega)
      have e2 : IntKind.i64.wrap ((n - c) * y) = (n - c) * y := IntWalk.i64_in _ (by omega)
      have e3 : IntKind.i64.wrap (c * x + (n - c) * y) = c * x + (n - c) * y := IntWalk.i64_in _ (by omega)
      clear m1 m2
      go_wp2_with fail
      go_ret
      exact ⟨ret_bool (by simp; try omega), bal HB2.out _⟩

end Go.Proofs.YtjaegolanbjgfaaDoor
