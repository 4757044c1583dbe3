import Derived.Test.YtjaegolanbjgfaaDoorBe
import Derived.WalkKit
import Derived.WalkSpells
import Derived.WalkLawsBesides
import Derived.Lib.Hide
import Derived.Deep.DeepCutAuto
import Derived.Deep.LoopGhost
import Derived.Deep.QuietTactic
import Derived.BigQuiet
import Derived.Deep.OwnRows
import Derived.StillTailTactics
import Derived.IntWalk
import Derived.Laws.BitsLemmas
import Derived.Laws.MathBits
import Derived.Laws.Bits64
import Derived.Deep.RegionHeld3
import Derived.BigRegion
import Derived.Lib.SliceRun
import Derived.Deep.AppendLies
set_option linter.unusedVariables false
set_option linter.unusedSimpArgs false
namespace Go.Proofs.YtjaegolanbjgfaaDoor
open Go.RowKit
theorem tmod_cases (n m : Int) (hm : 0 < m) : (n.tmod m = n % m ∧ 0 ≤ n.tmod m) ∨ (n.tmod m + m = n % m ∧ n.tmod m < 0) := by
  have hne : m ≠ 0 := by omega
  have q0 := Int.emod_nonneg n hne
  have q1 := Int.emod_lt_of_pos n hm
  rw [Int.tmod_eq_emod]
  split
  · left; omega
  · right; omega
set_option maxHeartbeats 2000000 in
theorem Number_any (n m : Int) (w : World) (hm : 0 < m) (hm2 : m ≤ 1000000) : Calls Tryd.prog 22 #[.int .i64 n, .int .i64 m] w fun e w' => e = .returned (.int .i64 (n % m)) ∧ w = w' := by
  have hne : ¬ m = 0 := by omega
  have hne1 : ¬ m = -1 := by omega
  have hb : (m == 0) = false := by rw [beq_eq_false_iff_ne]; exact hne
  have q0 := Int.emod_nonneg n hne
  have q1 := Int.emod_lt_of_pos n hm
  have hc := tmod_cases n m hm
  have hr : -m ≤ n.tmod m ∧ n.tmod m < m := by omega
  have w2 : IntKind.i64.wrap (n.tmod m + m) = n.tmod m + m := IntWalk.i64_in _ (by omega)
  have w3 : wrap64 (n.tmod m + m) = n.tmod m + m := by unfold wrap64; omega
  have HC := Lib.hid hc
  clear hc
  go_enter Tryd.func22, Tryd.ntmps22
  go_wp2_with fail
  all_goals (go_ret; exact ⟨ret_int (by have := HC.out; omega), rfl⟩)
set_option maxRecDepth 100000 in
set_option maxHeartbeats 2000000 in
theorem All_any (A : Option Addr) (c : Nat) (B : Option Addr) (d : Nat) (p : Prob) (ea : Nat → Addr) (w : World) (hL : LotsAt w A p.lots) (hC : IntsAt w B p.caps) (hs : Sent 3 ea w) :
    Calls Tryd.prog 23 #[pv A c B d p] w (GivesBest p 100000 ea w) := by
  have HB0 := Lib.hid (bal (bal (Below.refl w.heap.size w) (.cells #[.slice A p.lots.length c, .slice B p.caps.length d, .int .i64 p.need] 25)) (.cells #[.slice none 0 0, .int .i64 0, .int .i64 0, .bool false, .int .i64 0] 34))
  have H := Lib.hid fun W h => Best_any A c B d p 100000 ea W (hL.below h) (hC.below h) (hs.below h)
  clear hL hC hs
  go_enter Tryd.func23, Tryd.ntmps23
  go_wp2_with fail
  refine (H.out _ HB0.out).mono ?_
  rintro e w1 ⟨hb1, he⟩
  obtain ⟨H1, hH1⟩ : ∃ m, m = w.heap.size + 1 := ⟨_, rfl⟩
  have hy1 : w1.heap[H1]? = some (.cells #[.slice none 0 0, .int .i64 0, .int .i64 0, .bool false, .int .i64 0] 34 (0, 0)) := (hb1.block _ (by simp; omega)).trans (by have := heap_alloc_new (w.alloc (.cells #[.slice A p.lots.length c, .slice B p.caps.length d, .int .i64 p.need] 25)) (.cells #[.slice none 0 0, .int .i64 0, .int .i64 0, .bool false, .int .i64 0] 34); rw [show (w.alloc (.cells #[.slice A p.lots.length c, .slice B p.caps.length d, .int .i64 p.need] 25)).heap.size = H1 by simp; omega] at this; exact this)
  have HB1 := Lib.hid (btr HB0.out hb1)
  obtain ⟨r0, r1, r2, r3, r4⟩ := box5 hy1
  have fr0 := frz hy1 0
  have fr1 := frz hy1 1
  have fr2 := frz hy1 2
  have fr3 := frz hy1 3
  have fr4 := frz hy1 4
  have HY1 := Lib.hid hy1
  have HH1 := Lib.hid hH1
  rw [← hH1]
  clear hy1 hH1
  cases hee : errB p 100000 with
  | some k =>
    rw [hee] at he
    simp only at he
    subst he
    have HEE := Lib.hid hee
    clear hee hb1 HB0
    unfold resV
    go_wp2_with fail
    refine bodyPost_ret (results_cell_slot rfl _ _ H1 34 _ _ _ rfl (fin5 HY1.out _ _ _ _ _) Tryd.underlying34 rfl (by kernel_rfl)) rfl ⟨bel5 HB1.out (by have := HH1.out; omega) _ _ _ _ _, ?_⟩
    rw [HEE.out]; rfl
  | none =>
    rw [hee] at he
    simp only at he
    obtain ⟨g, cap, rfl, hi, hg, hc⟩ := he
    have HEE := Lib.hid hee
    have HI := Lib.hid hi
    have hg2 : H1 < g := by have := HH1.out; simp at hg; omega
    clear hee hb1 HB0 hi
    unfold resV
    go_wp2_with fail
    refine bodyPost_ret (results_cell_slot rfl _ _ H1 34 _ _ _ rfl (fin5 HY1.out _ _ _ _ _) Tryd.underlying34 rfl (by kernel_rfl)) rfl ⟨bel5 HB1.out (by have := HH1.out; omega) _ _ _ _ _, ?_⟩
    rw [HEE.out]
    exact ⟨g, cap, rfl, ints5 HI.out (by omega) _ _ _ _ _, by have := HH1.out; omega, hc⟩

end Go.Proofs.YtjaegolanbjgfaaDoor
