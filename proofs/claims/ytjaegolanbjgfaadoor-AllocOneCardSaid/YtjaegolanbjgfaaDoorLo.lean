import Derived.Test.YtjaegolanbjgfaaDoorLm
import Derived.Test.YtjaegolanbjgfaaDoorMn
import Derived.WalkKit
import Derived.WalkSpells
import Derived.WalkLawsBesides
import Derived.Lib.Hide
import Derived.Deep.DeepCutAuto
import Derived.Deep.LoopGhost
import Derived.Deep.QuietTactic
import Derived.BigQuiet
import Derived.Deep.OwnRows
import Derived.StillTailTactics
import Derived.IntWalk
import Derived.Laws.BitsLemmas
import Derived.Laws.MathBits
import Derived.Laws.Bits64
import Derived.Deep.RegionHeld3
import Derived.BigRegion
import Derived.Lib.SliceRun
import Derived.Deep.AppendLies
set_option linter.unusedVariables false
set_option linter.unusedSimpArgs false
namespace Go.Proofs.YtjaegolanbjgfaaDoor
open Go.RowKit
set_option maxRecDepth 100000 in
set_option maxHeartbeats 4000000 in
theorem AllocOne_any (u0 v0 c0 n0 : Int) (ea : Nat → Addr) (w : World) (hs : Sent 3 ea w) :
    Calls Tryd.prog 5 #[.int .i64 u0, .int .i64 v0, .int .i64 c0, .int .i64 n0] w fun e w' => e = .returned (.bool true) ∧ Below w.heap.size w w' := by
  have HS := Lib.hid hs
  have HF := Lib.hid fun W h => first_any ea W (hs.below h)
  have N1 := Lib.hid fun n W => Number_any n 60 W (by omega) (by omega)
  have N2 := Lib.hid fun n W => Number_any n 100 W (by omega) (by omega)
  have N3 := Lib.hid fun n W => Number_any n 5000 W (by omega) (by omega)
  clear hs
  go_enter Tryd.func5, Tryd.ntmps5
  go_wp2_with fail
  refine (HF.out _ (Below.refl _ _)).mono ?_
  rintro e w1 ⟨rfl, hb1⟩
  have HB1 := Lib.hid hb1
  clear hb1 HF
  go_wp2_with fail
  refine (N1.out _ _).mono ?_
  rintro e w2 ⟨rfl, rfl⟩
  go_wp2_with fail
  refine (N2.out _ _).mono ?_
  rintro e w2 ⟨rfl, rfl⟩
  go_wp2_with fail
  refine (N2.out _ _).mono ?_
  rintro e w2 ⟨rfl, rfl⟩
  go_wp2_with fail
  refine (N3.out _ _).mono ?_
  rintro e w2 ⟨rfl, rfl⟩
  have hu0 := Int.emod_nonneg u0 (show (60 : Int) ≠ 0 by decide)
  have hu1 := Int.emod_lt_of_pos u0 (show (0 : Int) < 60 by decide)
  have hv0 := Int.emod_nonneg v0 (show (100 : Int) ≠ 0 by decide)
  have hv1 := Int.emod_lt_of_pos v0 (show (0 : Int) < 100 by decide)
  have hc0 := Int.emod_nonneg c0 (show (100 : Int) ≠ 0 by decide)
  have hc1 := Int.emod_lt_of_pos c0 (show (0 : Int) < 100 by decide)
  have hn0 := Int.emod_nonneg n0 (show (5000 : Int) ≠ 0 by decide)
  have hn1 := Int.emod_lt_of_pos n0 (show (0 : Int) < 5000 by decide)
  generalize u0 % 60 = u at *
  generalize v0 % 100 = v at *
  generalize c0 % 100 = c at *
  generalize n0 % 5000 = n at *
  go_wp2_with fail
  obtain ⟨x1, x2, x3⟩ := three_new w1 (.cells #[.int .i64 u, .int .i64 v, .int .i64 c, .int .i64 0] 48) (.cells #[.int .i64 0] 2) (.cells #[.slice (some ⟨w1.heap.size, 0, none⟩) 1 1, .slice (some ⟨w1.heap.size + 1, 0, none⟩) 1 1, .int .i64 n] 25)
  have hb := bal (bal (bal (Below.refl w1.heap.size w1) (.cells #[.int .i64 u, .int .i64 v, .int .i64 c, .int .i64 0] 48)) (.cells #[.int .i64 0] 2)) (.cells #[.slice (some ⟨w1.heap.size, 0, none⟩) 1 1, .slice (some ⟨w1.heap.size + 1, 0, none⟩) 1 1, .int .i64 n] 25)
  have HBB := Lib.hid (btr HB1.out hb)
  refine (All_any (some ⟨w1.heap.size, 0, none⟩) 1 (some ⟨w1.heap.size + 1, 0, none⟩) 1 (p1 u v c n) ea _ (lots_heap x1 [⟨u, v, c, 0⟩] rfl (by simp)) (ints_heap x2 [0] rfl (by decide)) (HS.out.below HBB.out)).mono ?_
  rintro e w2 ⟨hb2, he⟩
  have HX3 := Lib.hid (boxN x3 hb2)
  have HB2 := Lib.hid (btr HBB.out hb2)
  have hlaw := one_law ⟨hu0, hu1⟩ ⟨hv0, hv1⟩ ⟨hc0, hc1⟩ ⟨hn0, hn1⟩
  clear x1 x2 x3 hb hb2 N1 N2 N3
  obtain ⟨a0, a1, a2⟩ := box3 HX3.out
  have muv := mul_bd (t := u) (v := v) (T := 60) (V := 100) (by omega) (by omega) (by omega) (by omega)
  have wuv : IntKind.i64.wrap (u * v) = u * v := IntWalk.i64_in _ (by omega)
  by_cases huv : u * v < n
  · rw [hlaw.lt huv] at he
    simp only at he
    subst he
    unfold resV
    clear hlaw
    go_wp2_with fail
    go_ret
    exact ⟨rfl, bal HB2.out _⟩
  · obtain ⟨h1, h2, h3, h4, h5, h6, h7, h8⟩ := hlaw.ge (by omega)
    rw [h1] at he
    simp only at he
    obtain ⟨g, cap, rfl, hi, hg, hc⟩ := he
    have hok := ok1 ⟨hu0, hu1⟩ ⟨hv0, hv1⟩ ⟨hc0, hc1⟩ ⟨hn0, hn1⟩
    rw [h2, costV_in hok h8, worthV_in hok h8, h3]
    clear h1 h2 h3
    obtain ⟨b, o, e', t0⟩ := hi.get (k := 0) (by rw [h8.1]; exact Nat.one_pos)
    simp only [Option.some.injEq, Addr.mk.injEq, and_true] at e'
    obtain ⟨rfl, rfl⟩ := e'
    have t1 : w2.cell? ⟨g, 0, none⟩ = some (.int .i64 (gi (takeB (p1 u v c n) 100000) 0)) := t0
    have hl := World.block_lt_of_cell? w2 _ t1
    have hn1 : ¬ w2.heap.size = g := by simp only at hl; omega
    have hn2 : ¬ g = w2.heap.size := by simp only at hl; omega
    have hpl : (p1 u v c n).lots.length = 1 := rfl
    rw [hpl]
    have hkv : 0 < n → ¬ v = 0 := fun h0 e => by subst e; simp at huv; omega
    have t2 : ∀ o, (w2.alloc o).cell? ⟨g, 0, none⟩ = some (.int .i64 (gi (takeB (p1 u v c n) 100000) 0)) := fun o => (World.cell?_alloc_lt w2 o _ hl).trans t1
    clear hi t0 hg hc hok h8 hlaw hpl hl
    unfold resV
    generalize worthP (p1 u v c n) (takeB (p1 u v c n) 100000) = wo at *
    generalize (srch (p1 u v c n) 100000).1.looked = lo at *
    generalize gi (takeB (p1 u v c n) 100000) 0 = ta at *
    have mkc := mul_bd (t := k1 v n) (v := c) (T := 60) (V := 100) h6 h7 (by omega) (by omega)
    generalize hkk : k1 v n = k at *
    have wk : wrap64 k = k := by unfold wrap64; omega
    have wkc : wrap64 (k * c) = k * c := by unfold wrap64; omega
    have wk' : IntKind.i64.wrap k = k := IntWalk.i64_in _ (by omega)
    have wkc' : IntKind.i64.wrap (k * c) = k * c := IntWalk.i64_in _ (by omega)
    by_cases hn : 0 < n
    · have hv := hkv hn
      have hq : (n + v - 1).tdiv v = k := by rw [← hkk]; unfold k1; rw [if_pos hn]
      clear hkk hkv mkc muv
      by_cases hc0 : c = 0
      · subst hc0
        clear h5
        go_wp2_with fail
        all_goals (go_ret; exact ⟨ret_bool (by simp; try omega), bal HB2.out _⟩)
      · have h5' : ta = k := by omega
        subst h5'
        clear h5
        go_wp2_with fail
        all_goals (go_ret; exact ⟨ret_bool (by simp; try omega), bal HB2.out _⟩)
    · have hk : k = 0 := by rw [← hkk]; unfold k1; rw [if_neg hn]
      subst hk
      clear hkv mkc muv hkk
      rw [Int.zero_mul]
      by_cases hc0 : c = 0
      · subst hc0
        go_wp2_with fail
        all_goals (go_ret; exact ⟨ret_bool (by simp; try omega), bal HB2.out _⟩)
      · have h5' : ta = 0 := by omega
        subst h5'
        go_wp2_with fail
        all_goals (go_ret; exact ⟨ret_bool (by simp; try omega), bal HB2.out _⟩)

end Go.Proofs.YtjaegolanbjgfaaDoor
