import Derived.Test.YtjaegolanbjgfaaDoorMb
import Derived.Test.YtjaegolanbjgfaaDoorVa
import Derived.WalkKit
import Derived.WalkSpells
import Derived.WalkLawsBesides
import Derived.Lib.Hide
import Derived.Deep.DeepCutAuto
import Derived.Deep.LoopGhost
import Derived.Deep.QuietTactic
import Derived.BigQuiet
import Derived.Deep.OwnRows
import Derived.StillTailTactics
import Derived.IntWalk
import Derived.Laws.BitsLemmas
import Derived.Laws.MathBits
import Derived.Laws.Bits64
import Derived.Deep.RegionHeld3
set_option linter.unusedVariables false
set_option linter.unusedSimpArgs false
namespace Go.Proofs.YtjaegolanbjgfaaDoor
open Go.RowKit
set_option maxHeartbeats 1000000 in
theorem size_pos (a : Int) (w : World) (h0 : 0 ≤ a) (h1 : a ≤ 1000000000000) :
    Calls Tryd.prog 67 #[.int .i64 a] w fun e w' => e = .returned (.tuple #[.int .u64 a, .bool false]) ∧ w = w' := by
  go_enter Tryd.func67, Tryd.ntmps67
  go_wp2
  go_ret2
  exact ⟨rfl, rfl⟩
theorem ret_uu {k l : IntKind} {a b c d : Int} (h : a = b) (h' : c = d) : Ending.returned (.tuple #[.int k a, .int l c]) = .returned (.tuple #[.int k b, .int l d]) := by rw [h, h']
theorem wide_eq (a b : Int) (h0 : 0 ≤ a) (h1 : a ≤ 1000000000000) (h2 : 0 ≤ b) (h3 : b ≤ 1000000000) :
    IntKind.u64.wrap (IntKind.u64.wrap (IntKind.u64.wrap (a / 4294967296 * (b / 4294967296)) + IntKind.u64.wrap (IntKind.u64.wrap (a / 4294967296 * bits BinOp.and IntKind.u64 b 4294967295) +
      IntKind.u64.wrap (bits BinOp.and IntKind.u64 a 4294967295 * bits BinOp.and IntKind.u64 b 4294967295) / 4294967296) / 4294967296) +
      IntKind.u64.wrap (IntKind.u64.wrap (bits BinOp.and IntKind.u64 a 4294967295 * (b / 4294967296)) + bits BinOp.and IntKind.u64 (IntKind.u64.wrap (IntKind.u64.wrap (a / 4294967296 * bits BinOp.and IntKind.u64 b 4294967295) +
        IntKind.u64.wrap (bits BinOp.and IntKind.u64 a 4294967295 * bits BinOp.and IntKind.u64 b 4294967295) / 4294967296)) 4294967295) / 4294967296) = a * b / 18446744073709551616 := by
  rw [and_low32 a h0 (by omega), and_low32 b h2 (by omega)]
  have hb1 : b / 4294967296 = 0 := by omega
  have hb0 : b % 4294967296 = b := by omega
  rw [hb1, hb0, Int.mul_zero, Int.mul_zero]
  have ea : a = 4294967296 * (a / 4294967296) + a % 4294967296 := by omega
  have e : a * b = 4294967296 * (a / 4294967296 * b) + a % 4294967296 * b := by
    conv => lhs; rw [ea]
    rw [Int.add_mul, Int.mul_assoc]
  have bx := mul_bd (t := a / 4294967296) (T := 233) (v := b) (V := 1000000000) (by omega) (by omega) h2 h3
  have by' := mul_bd (t := a % 4294967296) (T := 4294967295) (v := b) (V := 1000000000) (by omega) (by omega) h2 h3
  rw [e]
  generalize a / 4294967296 * b = X at *
  generalize a % 4294967296 * b = Y at *
  simp only [IntKind.wrap_u64]
  rw [and_low32 _ (by omega) (by omega)]
  omega
set_option maxHeartbeats 1000000 in
theorem wide_small (a b : Int) (w : World) (h0 : 0 ≤ a) (h1 : a ≤ 1000000000000) (h2 : 0 ≤ b) (h3 : b ≤ 1000000000) :
    Calls Tryd.prog 68 #[.int .u64 a, .int .u64 b] w fun e w' => e = .returned (.tuple #[.int .u64 (a * b / 18446744073709551616), .int .u64 (a * b % 18446744073709551616)]) ∧ w = w' := by
  go_enter Tryd.func68, Tryd.ntmps68
  go_wp2
  go_ret2
  exact ⟨ret_uu (wide_eq a b h0 h1 h2 h3) (IntKind.wrap_u64 _), rfl⟩
set_option maxHeartbeats 1000000 in
theorem product_small (a b : Int) (w : World) (h0 : 0 ≤ a) (h1 : a ≤ 1000000000) (h2 : 0 ≤ b) (h3 : b ≤ 1000000000) :
    Calls Tryd.prog 81 #[.int .i64 a, .int .i64 b] w fun e w' => e = .returned (.agg #[.int .i64 0, .int .u64 (a * b)]) ∧ Below w.heap.size w w' := by
  have hp := mul_bd (t := a) (T := 1000000000) (v := b) (V := 1000000000) h0 h1 h2 h3
  have e1 : a * b / 18446744073709551616 = 0 := by omega
  have e2 : a * b % 18446744073709551616 = a * b := by omega
  have W1 := fun W => wide_small a b W h0 (by omega) h2 (by omega)
  rw [e1, e2] at W1
  have HW := Lib.hid W1
  clear W1 e1 e2
  go_enter Tryd.func81, Tryd.ntmps81
  go_wp2_with (first | (go_at_call 67; refine (size_pos _ _ (by omega) (by omega)).mono ?_; rintro e w' ⟨rfl, rfl⟩) | (go_at_call 68; refine (HW.out _).mono ?_; rintro e w' ⟨rfl, rfl⟩))
  exact bodyPost_ret (v := .agg #[.int .i64 0, .int .u64 (a * b)]) (by simp [results, Tryd.results81, go_sem]) rfl ⟨rfl, bal (Below.refl _ _) _⟩
def cmp3 (x y : Int) : Int := if x < y then -1 else if y < x then 1 else 0
set_option maxHeartbeats 1000000 in
theorem compare_i (x y : Int) (w : World) :
    Calls Tryd.prog 83 #[.int .i64 x, .int .i64 y] w fun e w' => e = .returned (.int .i64 (cmp3 x y)) ∧ w = w' := by
  go_enter Tryd.func83, Tryd.ntmps83
  go_wp2
  all_goals (go_ret; exact ⟨ret_int (by unfold cmp3; first | (rw [if_pos (by omega)]) | (rw [if_neg (by omega), if_pos (by omega)]) | (rw [if_neg (by omega), if_neg (by omega)])), rfl⟩)
set_option maxHeartbeats 1000000 in
theorem compare_u (x y : Int) (w : World) :
    Calls Tryd.prog 84 #[.int .u64 x, .int .u64 y] w fun e w' => e = .returned (.int .i64 (cmp3 x y)) ∧ w = w' := by
  go_enter Tryd.func84, Tryd.ntmps84
  go_wp2
  all_goals (go_ret; exact ⟨ret_int (by unfold cmp3; first | (rw [if_pos (by omega)]) | (rw [if_neg (by omega), if_pos (by omega)]) | (rw [if_neg (by omega), if_neg (by omega)])), rfl⟩)
set_option maxHeartbeats 1000000 in
theorem or_two (b : Nat) (y : Int) (w : World) (c0 : w.cell? ⟨b, 0, none⟩ = some (.int .i64 0)) (c1 : w.cell? ⟨b, 1, none⟩ = some (.int .i64 y)) :
    Calls Tryd.prog 82 #[.slice (some ⟨b, 0, none⟩) 2 2] w fun e w' => e = .returned (.int .i64 y) ∧ w = w' := by
  go_enter Tryd.func82, Tryd.ntmps82
  go_wp2
  go_loop [8] (fun i => i = .int .i64 0 ∨ i = .int .i64 1 ∨ (i = .int .i64 2 ∧ y = 0)) (fun i => 3 - (intOf i).toNat)
  case atStart => exact Or.inl rfl
  case round =>
    rcases hrel with rfl | rfl | ⟨rfl, rfl⟩
    · go_wp2
      go_round
      case rel => exact Or.inr (Or.inl rfl)
      case measure => simp [intOf]
    · by_cases hy : y = 0
      · subst hy
        go_wp2
        go_round
        case rel => exact Or.inr (Or.inr ⟨rfl, by trivial⟩)
        case measure => simp [intOf]
      · have hy' : (y != 0) = true := bne_iff_ne.2 hy
        clear hy
        go_wp2
        go_ret
        exact ⟨rfl, by trivial⟩
    · go_wp2
      go_ret
      exact ⟨rfl, by trivial⟩
theorem cellD {w : World} {cs : Array Value} {t i g : Nat} (hg : g = w.heap.size) : (w.alloc (.cells cs t)).drew.cell? ⟨g, i, none⟩ = cs[i]? := by subst hg; exact cellN w cs t i
theorem blk2 {w : World} {g : Nat} {t : TypeId} {cs : Array Value} (h : w.heap[g]? = some (.cells cs t (0, 0))) (i : Nat) : w.cell? ⟨g, i, none⟩ = cs[i]? := cell_of_row _ _ _ _ _ _ h
set_option maxRecDepth 100000 in
set_option maxHeartbeats 1000000 in
theorem Cmp_small (a b c d : Int) (w : World) (ha : 0 ≤ a ∧ a ≤ 1000000000) (hb : 0 ≤ b ∧ b ≤ 1000000000) (hc : 0 ≤ c ∧ c ≤ 1000000000) (hd : 0 ≤ d ∧ d ≤ 1000000000) :
    Calls Tryd.prog 72 #[.int .i64 a, .int .i64 b, .int .i64 c, .int .i64 d] w fun e w' => e = .returned (.int .i64 (cmp3 (a * b) (c * d))) ∧ Below w.heap.size w w' := by
  have P1 := Lib.hid fun W => product_small a b W ha.1 ha.2 hb.1 hb.2
  have P2 := Lib.hid fun W => product_small c d W hc.1 hc.2 hd.1 hd.2
  clear ha hb hc hd
  obtain ⟨x, hx⟩ : ∃ x, x = a * b := ⟨_, rfl⟩
  obtain ⟨y, hy⟩ : ∃ y, y = c * d := ⟨_, rfl⟩
  rw [← hx, ← hy]
  rw [← hx] at P1
  rw [← hy] at P2
  clear hx hy
  go_enter Tryd.func72, Tryd.ntmps72
  go_wp2_with fail
  refine (P1.out _).mono ?_
  rintro e w1 ⟨rfl, hb1⟩
  go_wp2_with fail
  refine (P2.out _).mono ?_
  rintro e w2 ⟨rfl, hb2⟩
  have hbb := btr hb1 hb2
  clear hb1 hb2
  go_wp2_with fail
  go_region_held3 (fun w' => w'.cell? ⟨w2.heap.size, 0, none⟩ = some (.int .i64 0) ∧ w'.cell? ⟨w2.heap.size, 1, none⟩ = some (.int .u64 x) ∧ w'.cell? ⟨w2.heap.size + 1, 0, none⟩ = some (.int .i64 0) ∧ w'.cell? ⟨w2.heap.size + 1, 1, none⟩ = some (.int .u64 y)) (go_keep)
    (first
      | (go_at_call 83; go_must (refine (compare_i _ _ _).mono ?_); rintro e w' ⟨rfl, rfl⟩)
      | (go_at_call 84; go_must (refine (compare_u _ _ _).mono ?_); rintro e w' ⟨rfl, rfl⟩)
      | (go_at_call 82; go_must (refine (or_two (w2.heap.size + 2) (cmp3 x y) _ ((cellD (by simp)).trans rfl) ((cellD (by simp)).trans rfl)).mono ?_); rintro e w' ⟨rfl, rfl⟩))
  go_wp2_with fail
  go_ret
  exact ⟨rfl, (bal (bal (bal hbb _) _) _).drew⟩
theorem cmp3_lt (x y : Int) : decide (cmp3 x y < 0) = decide (x < y) := by
  unfold cmp3; split
  · simp; omega
  · split <;> simp <;> omega
set_option maxRecDepth 100000 in
set_option maxHeartbeats 1000000 in
theorem Cheaper_any (x y : Lot) (w : World) (hxv : 0 ≤ x.v ∧ x.v ≤ 1000000000) (hxc : 0 ≤ x.c ∧ x.c ≤ 1000000000) (hyv : 0 ≤ y.v ∧ y.v ≤ 1000000000) (hyc : 0 ≤ y.c ∧ y.c ≤ 1000000000) :
    Calls Tryd.prog 58 #[lv x, lv y] w fun e w' => e = .returned (.bool (cheaperB x y)) ∧ Below w.heap.size w w' := by
  have HC := Lib.hid fun W => Cmp_small x.c y.v y.c x.v W hxc hyv hyc hxv
  clear hxv hxc hyv hyc
  by_cases h1 : x.v = 0
  · have g1 : (x.v == 0) = true := beq_iff_eq.2 h1
    have H1 := Lib.hid h1
    clear h1
    go_enter Tryd.func58, Tryd.ntmps58
    go_wp2_with fail
    go_ret
    exact ⟨ret_bool (by unfold cheaperB; rw [if_pos (Or.inl H1.out)]), bal (bal (Below.refl _ _) _) _⟩
  · have g1 : (x.v == 0) = false := beq_eq_false_iff_ne.2 h1
    have H1 := Lib.hid h1
    clear h1
    by_cases h2 : y.v = 0
    · have g2 : (y.v == 0) = true := beq_iff_eq.2 h2
      have H2 := Lib.hid h2
      clear h2
      go_enter Tryd.func58, Tryd.ntmps58
      go_wp2_with fail
      go_ret
      exact ⟨ret_bool (by unfold cheaperB; rw [if_pos (Or.inr H2.out)]), bal (bal (Below.refl _ _) _) _⟩
    · have g2 : (y.v == 0) = false := beq_eq_false_iff_ne.2 h2
      have H2 := Lib.hid h2
      clear h2
      go_enter Tryd.func58, Tryd.ntmps58
      go_wp2_with fail
      refine (HC.out _).mono ?_
      rintro e w1 ⟨rfl, hb1⟩
      go_wp2_with fail
      go_ret
      exact ⟨ret_bool (by unfold cheaperB; rw [if_neg (by rintro (h | h); exact H1.out h; exact H2.out h)]; exact cmp3_lt _ _), btr (bal (bal (Below.refl _ _) _) _) hb1⟩
end Go.Proofs.YtjaegolanbjgfaaDoor
