import Derived.Test.YtjaegolanbjgfaaDoorVa
import Derived.WalkKit
import Derived.WalkSpells
import Derived.WalkLawsBesides
import Derived.Lib.Hide
import Derived.Deep.DeepCutAuto
import Derived.Deep.LoopGhost
import Derived.Deep.QuietTactic
import Derived.BigQuiet
import Derived.Deep.OwnRows
import Derived.StillTailTactics
import Derived.Deep.RegionLaw
import Derived.IntWalk
set_option linter.unusedVariables false
set_option linter.unusedSimpArgs false
namespace Go.Proofs.YtjaegolanbjgfaaDoor
open Go.RowKit

def fitsB (p : Prob) (ts : List Int) : Bool := (valid p).isNone && decide (inLots p.lots ts)
set_option maxHeartbeats 1000000 in
theorem fits_any (A : Option Addr) (c : Nat) (B : Option Addr) (d : Nat) (p : Prob) (T : Option Addr) (f : Nat) (ts : List Int) (ea : Nat → Addr) (w : World) (hL : LotsAt w A p.lots) (hC : IntsAt w B p.caps) (hT : IntsAt w T ts) (hs : Sent 3 ea w) :
    Calls Tryd.prog 50 #[pv A c B d p, .slice T ts.length f] w fun e w' => e = .returned (.bool (fitsB p ts)) ∧ Below w.heap.size w w' := by
  have HL := Lib.hid hL
  have HC := Lib.hid hC
  have HT := Lib.hid hT
  have HS := Lib.hid hs
  have hm1 := hL.1
  have hm2 := hT.1
  have HB0 := Lib.hid (bal (Below.refl w.heap.size w) (.cells #[.slice A p.lots.length c, .slice B p.caps.length d, .int .i64 p.need] 25))
  clear hL hC hT hs
  cases hv : valid p with
  | some g =>
    have HV := Lib.hid hv
    clear hv
    go_enter Tryd.func50, Tryd.ntmps50
    go_wp2_with fail
    refine (valid_any A c B d p ea _ (HL.out.below HB0.out) (HC.out.below HB0.out) (HS.out.below HB0.out)).mono ?_
    rintro e w1 ⟨rfl, hb1⟩
    rw [HV.out, errV]
    go_wp2_with fail
    go_ret
    exact ⟨by simp [fitsB, HV.out], btr HB0.out hb1⟩
  | none =>
    have HV := Lib.hid hv
    clear hv
    by_cases hlen : ts.length = p.lots.length
    · have HLen := Lib.hid hlen
      have n1 : ((ts.length : Int) != (p.lots.length : Int)) = false := bne_eq_false_iff_eq.2 (by omega)
      have n2 : (ts.length != p.lots.length) = false := bne_eq_false_iff_eq.2 (by omega)
      clear hlen
      go_enter Tryd.func50, Tryd.ntmps50
      go_wp2_with fail
      refine (valid_any A c B d p ea _ (HL.out.below HB0.out) (HC.out.below HB0.out) (HS.out.below HB0.out)).mono ?_
      rintro e w1 ⟨rfl, hb1⟩
      rw [HV.out, errV]
      have c0 := cellB hb1 (a := ⟨w.heap.size, 0, none⟩) (v := .slice A p.lots.length c) ((cellN w _ 25 0).trans rfl)
      have hb := btr HB0.out hb1
      clear hb1
      go_wp2_with fail
      go_loop [5, 6, 20] (fun _ _ i => ∃ k : Nat, k ≤ ts.length ∧ i = .int .i64 k ∧ Hid (∀ j, j < k → 0 ≤ gi ts j ∧ gi ts j ≤ (gl p.lots j).u)) (fun _ _ i => ts.length - (intOf i).toNat)
      case atStart => exact ⟨0, Nat.zero_le _, rfl, fun j hj => absurd hj (by omega)⟩
      case round =>
        obtain ⟨k, hk, rfl, ho⟩ := hrel
        by_cases hlt : k < ts.length
        · have hlt2 : k < p.lots.length := by have := HLen.out; omega
          obtain ⟨b, o, rfl, t0⟩ := (HT.out.below hb).get hlt
          obtain ⟨b2, o2, rfl, u0, u1, u2, u3⟩ := (HL.out.below hb).get hlt2
          clear u1 u2 u3
          go_wp2
          all_goals first
            | (go_ret; exact ⟨ret_bool (by symm; unfold fitsB; rw [HV.out]; simp only [Option.isNone_none, Bool.true_and, decide_eq_false_iff_not]; intro hi; have := hi.2 k hlt2; omega), hb⟩)
            | (go_round
               case rel => exact ⟨k + 1, by omega, by go_num, fun j hj => by rcases Nat.lt_or_ge j k with h | h; exact ho j h; rw [show j = k by omega]; omega⟩
               case measure => simp only [intOf]; omega)
        · go_wp2
          go_ret
          exact ⟨ret_bool (by symm; unfold fitsB; rw [HV.out]; simp only [Option.isNone_none, Bool.true_and, decide_eq_true_eq]; exact ⟨HLen.out, fun j hj => ho j (by have := HLen.out; omega)⟩), hb⟩
    · have HLen := Lib.hid hlen
      have n1 : ((ts.length : Int) != (p.lots.length : Int)) = true := bne_iff_ne.2 (by omega)
      have n2 : (ts.length != p.lots.length) = true := bne_iff_ne.2 (by omega)
      clear hlen
      go_enter Tryd.func50, Tryd.ntmps50
      go_wp2_with fail
      refine (valid_any A c B d p ea _ (HL.out.below HB0.out) (HC.out.below HB0.out) (HS.out.below HB0.out)).mono ?_
      rintro e w1 ⟨rfl, hb1⟩
      rw [HV.out, errV]
      have c0 := cellB hb1 (a := ⟨w.heap.size, 0, none⟩) (v := .slice A p.lots.length c) ((cellN w _ 25 0).trans rfl)
      have hb := btr HB0.out hb1
      clear hb1
      go_wp2_with fail
      go_ret
      exact ⟨ret_bool (by symm; unfold fitsB; rw [HV.out]; simp only [Option.isNone_none, Bool.true_and, decide_eq_false_iff_not]; intro hi; exact HLen.out hi.1), hb⟩

theorem info2 : (Tryd.prog.info? 2).map (fun i => (i.zero, i.size, i.bytes)) = some (some (.int .i64 0), 1, 8) := by kernel_rfl
theorem info3 : (Tryd.prog.info? 3).map (fun i => (i.zero, i.size, i.bytes)) = some (some (.int .i64 0), 1, 8) := by kernel_rfl
theorem min_if (x y : Int) : (if y < x then y else x) = min x y := by split <;> omega
theorem szA (w : World) (o : Obj) : (w.alloc o).heap.size = w.heap.size + 1 := by simp
set_option maxRecDepth 100000 in
set_option maxHeartbeats 1000000 in
theorem worth_any (A : Option Addr) (c : Nat) (B : Option Addr) (d : Nat) (p : Prob) (T : Option Addr) (f : Nat) (ts : List Int) (w : World) (hL : LotsAt w A p.lots) (hC : IntsAt w B p.caps) (hT : IntsAt w T ts) (hok : Ok p) (hi : inLots p.lots ts) :
    Calls Tryd.prog 55 #[pv A c B d p, .slice T ts.length f] w fun e w' => e = .returned (.int .i64 (worthP p ts)) ∧ Below w.heap.size w w' := by
  have HL := Lib.hid hL
  have HC := Lib.hid hC
  have HT := Lib.hid hT
  have HK := Lib.hid hok
  have HI := Lib.hid hi
  have hm1 := hok.n8
  have hm2 : ts.length ≤ 8 := by have := hi.1; omega
  have hm3 := hok.m8
  have hmk := run_make_row' (P := Tryd.prog) 23 2 (.int .i64 0) 8 Tryd.underlying23 info2 rfl .i64 .i64 p.caps.length (by omega) (by omega)
  have HB0 := Lib.hid (bal (bal (Below.refl w.heap.size w) (.cells #[.slice A p.lots.length c, .slice B p.caps.length d, .int .i64 p.need] 25)) (.cells (madeCells #[.int .i64 0] p.caps.length) 2))
  clear hL hC hT hok hi
  go_enter Tryd.func55, Tryd.ntmps55
  go_wp2_with fail
  go_loopw [17] (fun i w' => ∃ k : Nat, k ≤ ts.length ∧ i = .int .i64 k ∧ Below w.heap.size w w' ∧ w'.rowIs (w.heap.size + 1) 2 p.caps.length (fun g => .int .i64 (gsum p.lots ts g k)) ∧
    w'.heap[w.heap.size]? = some (.cells #[.slice A p.lots.length c, .slice B p.caps.length d, .int .i64 p.need] 25 (0, 0))) (fun i _ => ts.length - (intOf i).toNat)
  case atStart => exact ⟨0, Nat.zero_le _, rfl, HB0.out, (by have h := World.rowIs_made (w.alloc (.cells #[.slice A p.lots.length c, .slice B p.caps.length d, .int .i64 p.need] 25)) (.int .i64 0) p.caps.length 2; rw [szA] at h; exact h), (Below.heap_alloc _ _ _ (by simp)).trans (heap_alloc_new _ _)⟩
  case round =>
    obtain ⟨k, hk, rfl, hb, hrow, hbox⟩ := hrel
    by_cases hlt : k < ts.length
    · have hlt2 : k < p.lots.length := by have := HI.out.1; omega
      have hl := HK.out.lot k hlt2
      obtain ⟨_, _, _, _, _, _, hg0, hg1⟩ := hl
      obtain ⟨gn, hgn⟩ := Int.eq_ofNat_of_zero_le hg0
      have c0 : wr.cell? ⟨w.heap.size, 0, none⟩ = some (.slice A p.lots.length c) := (cell_of_row _ _ 0 _ _ _ hbox).trans rfl
      obtain ⟨b, o, rfl, t0⟩ := (HT.out.below hb).get hlt
      obtain ⟨b2, o2, rfl, u0, u1, u2, u3⟩ := (HL.out.below hb).get hlt2
      have r0 := hrow.cell (i := gn) (by omega)
      have f0 := hrow.frozen gn
      rw [hgn] at u3
      have hgm : (gn : Int) < (p.caps.length : Int) := by omega
      have HG := Lib.hid hgn
      have HR := Lib.hid hrow
      have HBx := Lib.hid hbox
      have tb := tv_bd HK.out HI.out hlt2
      have gb := gsum_bd HK.out HI.out gn k (by omega)
      have w1 := IntWalk.i64_in (gi ts k * (gl p.lots k).v) (by omega)
      have w2 := IntWalk.i64_in (gsum p.lots ts gn k + gi ts k * (gl p.lots k).v) (by omega)
      clear u0 u2 hgn hg0 hg1 hrow hbox tb gb
      go_wp2_with fail
      go_still_tail 19, (by kernel_rfl)
      change wpList _ _ _ _ _ wr.drew
      clear w1 w2
      go_wp2_with fail
      go_roundw
      case rel =>
        refine ⟨k + 1, by omega, by go_num, (hb.setCell (by simp) _).drew, ?_, (Below.heap_setCell _ _ _ _ (by simp)).trans HBx.out⟩
        refine ((HR.out.set gn _).congr fun g hg => ?_)
        by_cases e : g = gn
        · subst e; rw [if_pos rfl, gsum, if_pos HG.out]
        · rw [if_neg e, gsum, if_neg (by have := HG.out; omega), Int.add_zero]
      case measure => simp only [intOf]; omega
    · have hkn : k = p.lots.length := by have := HI.out.1; omega
      have HR := Lib.hid hrow
      have HBx := Lib.hid hbox
      have HKN := Lib.hid hkn
      have c1 : wr.cell? ⟨w.heap.size, 1, none⟩ = some (.slice B p.caps.length d) := (cell_of_row _ _ 1 _ _ _ hbox).trans rfl
      clear hrow hbox hkn
      go_wp2_with fail
      go_loop [8, 44] (fun s i => ∃ g : Nat, g ≤ p.caps.length ∧ i = .int .i64 g ∧ s = .int .i64 (wsum p ts g)) (fun _ i => p.caps.length - (intOf i).toNat)
      case atStart => exact ⟨0, Nat.zero_le _, rfl, rfl⟩
      case round =>
        obtain ⟨g, hg, rfl, rfl⟩ := hrel
        by_cases hgt : g < p.caps.length
        · obtain ⟨b, o, rfl, t0⟩ := (HC.out.below hb).get hgt
          have r0 := HR.out.cell (i := g) (by omega)
          rw [HKN.out] at r0
          have gb := gsum_bd HK.out HI.out g p.lots.length (Nat.le_refl _)
          have cb := HK.out.cap g hgt
          have wb := wsum_bd HK.out HI.out g (by omega)
          have wb1 := wsum_bd HK.out HI.out (g + 1) (by omega)
          have e1 : wsum p ts (g + 1) = wsum p ts g + capped (gi p.caps g) (gsum p.lots ts g p.lots.length) := rfl
          by_cases hc : 0 < gi p.caps g
          · rw [capped, if_pos hc] at e1
            have E1 := Lib.hid e1
            rw [e1] at wb1
            clear e1
            go_wp2_with fail
            go_round
            case rel => exact ⟨g + 1, by omega, by go_num, by rw [E1.out, min_if]⟩
            case measure => simp only [intOf]; omega
          · rw [capped, if_neg hc] at e1
            have E1 := Lib.hid e1
            rw [e1] at wb1
            clear e1
            go_wp2_with fail
            go_round
            case rel => exact ⟨g + 1, by omega, by go_num, by rw [E1.out]⟩
            case measure => simp only [intOf]; omega
        · have hgn : g = p.caps.length := by omega
          have HGN := Lib.hid hgn
          clear hgn
          go_wp2_with fail
          go_ret
          exact ⟨ret_int (by rw [HGN.out]; rfl), hb⟩
end Go.Proofs.YtjaegolanbjgfaaDoor
