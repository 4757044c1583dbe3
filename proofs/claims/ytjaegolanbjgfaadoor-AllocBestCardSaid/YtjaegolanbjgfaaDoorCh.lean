import Derived.Deep.RegionLaw
import Derived.LaidEql
import Derived.Test.YtjaegolanbjgfaaDoorRe
import Derived.Test.YtjaegolanbjgfaaDoorMv
import Derived.WalkKit
import Derived.WalkSpells
import Derived.WalkLawsBesides
import Derived.Lib.Hide
import Derived.Deep.DeepCutAuto
import Derived.Deep.LoopGhost
import Derived.Deep.QuietTactic
import Derived.BigQuiet
import Derived.Deep.OwnRows
import Derived.StillTailTactics
import Derived.IntWalk
import Derived.Laws.BitsLemmas
import Derived.Laws.MathBits
import Derived.Laws.Bits64
import Derived.Deep.RegionHeld3
import Derived.BigRegion
import Derived.Lib.SliceRun
import Derived.Deep.AppendLies
set_option linter.unusedVariables false
set_option linter.unusedSimpArgs false
namespace Go.Proofs.YtjaegolanbjgfaaDoor
open Go.RowKit
def GivesLeast (p : Prob) (w : World) (e : Ending) (w' : World) : Prop := Below w.heap.size w w' ∧ ∃ best found, e = .returned (.tuple #[.int .i64 best, .bool found]) ∧ Least p best found
set_option maxRecDepth 100000 in
set_option maxHeartbeats 8000000 in
theorem Cheapest_any (A : Option Addr) (c : Nat) (B : Option Addr) (d : Nat) (p : Prob) (w : World) (hL : LotsAt w A p.lots) (hC : IntsAt w B p.caps) (hok : Ok p) :
    Calls Tryd.prog 19 #[pv A c B d p] w (GivesLeast p w) := by
  have HL := Lib.hid hL
  have HC := Lib.hid hC
  have HOK := Lib.hid hok
  have h8 := hok.n8
  have h0 := hok.n0
  have HB0 := Lib.hid (bal (Below.refl w.heap.size w) (.cells #[.slice A p.lots.length c, .slice B p.caps.length d, .int .i64 p.need] 27))
  have HX0 := Lib.hid (heap_alloc_new w (.cells #[.slice A p.lots.length c, .slice B p.caps.length d, .int .i64 p.need] 27))
  have hmk := run_make_row' (P := Tryd.prog) 32 3 (.int .i64 0) 8 Tryd.underlying32 info3 rfl .i64 .i64 p.lots.length (by omega) (by omega)
  clear hL hC hok
  have hO0 := own_zeros (w.alloc (.cells #[.slice A p.lots.length c, .slice B p.caps.length d, .int .i64 p.need] 27)) p.lots.length (by omega)
  have hbz := bal (Below.refl (w.alloc (.cells #[.slice A p.lots.length c, .slice B p.caps.length d, .int .i64 p.need] 27)).heap.size (w.alloc (.cells #[.slice A p.lots.length c, .slice B p.caps.length d, .int .i64 p.need] 27))) (.cells (madeCells #[.int .i64 0] p.lots.length) 3)
  rw [show (w.alloc (.cells #[.slice A p.lots.length c, .slice B p.caps.length d, .int .i64 p.need] 27)).heap.size = w.heap.size + 1 by simp] at hO0
  have HG0 := Lib.hid (GW.mk (btr HB0.out hbz) (boxN HX0.out hbz) hO0 (⟨by decide, fun h => absurd h (by decide)⟩ : IntsAt _ none []) (inLots_zeros HOK.out))
  have HF0 : Hid (Found p (rk p.lots (zeros p.lots.length) p.lots.length) 0 false) := Lib.hid (by
    rw [rk_zero _ (fun j _ => gi_zeros _ _)]; exact Found.start HOK.out)
  clear hO0 hbz HX0
  go_enter Tryd.func19, Tryd.ntmps19
  go_wp2_with fail
  clear hmk
  go_loopg [5, 6] ((Wd p.lots p.lots.length - rk p.lots (zeros p.lots.length) p.lots.length).toNat) (fun m b f w' => ∃ (ts : List Int) (best : Int) (found : Bool), b = .int .i64 best ∧ f = .bool found ∧
    GW w w.heap.size (.cells #[.slice A p.lots.length c, .slice B p.caps.length d, .int .i64 p.need] 27) (w.heap.size + 1) p.lots.length none [] p.lots ts w' ∧ Hid (Found p (rk p.lots ts p.lots.length) best found) ∧ (Wd p.lots p.lots.length - rk p.lots ts p.lots.length).toNat ≤ m)
  case atStart => exact ⟨_, 0, false, rfl, rfl, HG0.out, HF0, Nat.le_refl _⟩
  case round =>
    obtain ⟨ts, best, found, rfl, rfl, hG, hF, hm⟩ := hrel
    have HG := Lib.hid hG
    have HF := Lib.hid hF.out
    have HM := Lib.hid hm
    have HIA := Lib.hid hG.o.intsAt.1
    have HI := Lib.hid hG.i
    clear hG hF hm HG0 HF0
    obtain ⟨a0, a1, a2⟩ := box3 HG.out.x
    have HFi : Hid (Calls Tryd.prog 41 #[pv A c B d p, .slice (some ⟨w.heap.size + 1, 0, none⟩) p.lots.length p.lots.length] wr fun e w' => e = .returned (.bool (decide (p.need ≤ worthP p ts))) ∧ Below wr.heap.size wr w') := Lib.hid (by
      have := FitsR_any A c B d p (some ⟨w.heap.size + 1, 0, none⟩) p.lots.length ts wr (HL.out.below HG.out.b) (HC.out.below HG.out.b) HIA.out HOK.out HI.out
      rw [HI.out.1] at this
      exact this)
    go_wp2_with fail
    refine HFi.out.mono ?_
    rintro e w1 ⟨rfl, hb1⟩
    have HG1 := Lib.hid (HG.out.below hb1)
    clear hb1 HFi a0 a1 a2 HG
    obtain ⟨a0, a1, a2⟩ := box3 HG1.out.x
    by_cases hfit : p.need ≤ worthP p ts
    · have HCo : Hid (Calls Tryd.prog 18 #[pv A c B d p, .slice (some ⟨w.heap.size + 1, 0, none⟩) p.lots.length p.lots.length] w1 fun e w' => e = .returned (.tuple #[.int .i64 (costP p ts), .bool true]) ∧ Below w1.heap.size w1 w') := Lib.hid (by
        have := CostR_any A c B d p (some ⟨w.heap.size + 1, 0, none⟩) p.lots.length ts w1 (HL.out.below HG1.out.b) (HC.out.below HG1.out.b) HG1.out.o.intsAt.1 HOK.out HI.out
        rw [HI.out.1] at this
        exact this)
      have HF2 := Lib.hid (HF.out.take HOK.out HI.out hfit)
      rw [show decide (p.need ≤ worthP p ts) = true by simp [hfit]]
      clear hfit HF
      go_wp2_with fail
      refine HCo.out.mono ?_
      rintro e w2 ⟨rfl, hb2⟩
      have HG2 := Lib.hid (HG1.out.below hb2)
      clear hb2 HCo a0 a1 a2 HG1
      obtain ⟨a0, a1, a2⟩ := box3 HG2.out.x
      generalize costP p ts = co at *
      cases found
      · have hbe : bestOf best co false = co := by unfold bestOf; rw [if_pos (Or.inl rfl)]
        rw [hbe] at HF2
        clear hbe
        go_wp2_with fail
        have HGT := HG2
        have HFT := HF2
        clear HG2 HF2 a0 a1 a2
        go_loopw [9] (fun i w' => ∃ (k : Nat) (cur : List Int), k ≤ p.lots.length ∧ i = .int .i64 k ∧ Hid (∀ j, j < k → gi ts j = (gl p.lots j).u) ∧ Hid (∀ j, j < k → gi cur j = 0) ∧ Hid (∀ j, k ≤ j → gi cur j = gi ts j) ∧
          GW w w.heap.size (.cells #[.slice A p.lots.length c, .slice B p.caps.length d, .int .i64 p.need] 27) (w.heap.size + 1) p.lots.length none [] p.lots cur w') (fun i _ => p.lots.length - (intOf i).toNat)
        case atStart => exact ⟨0, ts, Nat.zero_le _, rfl, fun j hj => absurd hj (Nat.not_lt_zero _), fun j hj => absurd hj (Nat.not_lt_zero _), fun j _ => rfl, HGT.out⟩
        case round =>
          obtain ⟨k, cur, hk, rfl, hfull, hzero, htail, hG⟩ := hrel
          have HGW := Lib.hid hG
          obtain ⟨a0, a1, a2⟩ := box3 hG.x
          clear hG HGT
          by_cases hlt : k < p.lots.length
          · have hki : (k : Int) < (p.lots.length : Int) := by omega
            obtain ⟨t0, f0⟩ := own_row HGW.out.o (k := k) (by rw [HGW.out.i.1]; exact hlt)
            rw [htail.out k (Nat.le_refl _)] at t0
            obtain ⟨b, o, rfl, u0, u1, u2, u3⟩ := (HL.out.below HGW.out.b).get (k := k) hlt
            have hlk := HOK.out.lot k hlt
            have hik := HI.out.2 k hlt
            clear u1 u2 u3
            by_cases heq : gi ts k = (gl p.lots k).u
            · have hb : (gi ts k == (gl p.lots k).u) = true := by simp [heq]
              have HEQ := Lib.hid heq
              have HIN : Hid (inLots p.lots (cur.set k 0)) := Lib.hid (by
                refine ⟨by rw [List.length_set]; exact HGW.out.i.1, fun j hj => ?_⟩
                rw [gi_set _ _ _ _ (by rw [HGW.out.i.1]; exact hlt)]
                split
                · subst j; omega
                · exact HGW.out.i.2 j hj)
              clear heq hlk hik
              go_wp2_with fail
              go_quiet (fail)
              have t0' := t0
              have HGQ := Lib.hid (HGW.out.below (bdN wr nq))
              obtain ⟨t1, f1⟩ := own_row HGQ.out.o (k := k) (by rw [HGW.out.i.1]; exact hlt)
              go_wp2_with fail
              have HGS := Lib.hid (HGQ.out.set (by omega) (by omega) (fun b o e => by cases e) k 0 HIN.out)
              exact ⟨⟨k + 1, cur.set k 0, by omega, by go_num,
                fun j hj => by rcases Nat.lt_or_ge j k with h | h; exact hfull.out j h; rw [show j = k by omega]; exact HEQ.out,
                fun j hj => by rw [gi_set _ _ _ _ (by rw [HGW.out.i.1]; exact hlt)]; split; rfl; exact hzero.out j (by omega),
                fun j hj => by rw [gi_set _ _ _ _ (by rw [HGW.out.i.1]; exact hlt), if_neg (by omega)]; exact htail.out j (by omega), HGS.out⟩, by simp only [intOf]; omega⟩
            · have hb : (gi ts k == (gl p.lots k).u) = false := by simp [heq]
              have hlt2 : gi ts k + 1 ≤ (gl p.lots k).u := by omega
              have hwr : IntKind.i64.wrap (gi ts k + 1) = gi ts k + 1 := IntWalk.i64_in _ (by omega)
              have hkn : ((k : Int) == (p.lots.length : Int)) = false := by simp; omega
              have HIN : Hid (inLots p.lots (cur.set k (gi ts k + 1))) := Lib.hid (by
                refine ⟨by rw [List.length_set]; exact HGW.out.i.1, fun j hj => ?_⟩
                rw [gi_set _ _ _ _ (by rw [HGW.out.i.1]; exact hlt)]
                split
                · subst j; omega
                · exact HGW.out.i.2 j hj)
              have HRK := Lib.hid (rk_next (p := p) (ts := ts) (ns := cur.set k (gi ts k + 1)) hlt hfull.out
                (fun j hj => by rw [gi_set _ _ _ _ (by rw [HGW.out.i.1]; exact hlt), if_neg (by omega)]; exact hzero.out j hj)
                (by rw [gi_set _ _ _ _ (by rw [HGW.out.i.1]; exact hlt), if_pos rfl])
                (fun j h1 h2 => by rw [gi_set _ _ _ _ (by rw [HGW.out.i.1]; exact hlt), if_neg (by omega)]; exact htail.out j (by omega)))
              have HRB := Lib.hid (rk_bd HOK.out HI.out p.lots.length (Nat.le_refl _))
              clear heq hlk hik hlt2
              go_wp2_with fail
              go_quiet (fail)
              have HGQ := Lib.hid (HGW.out.below (bdN wr nq))
              obtain ⟨t1, f1⟩ := own_row HGQ.out.o (k := k) (by rw [HGW.out.i.1]; exact hlt)
              rw [htail.out k (Nat.le_refl _)] at t1
              have HGS := Lib.hid (HGQ.out.set (by omega) (by omega) (fun b o e => by cases e) k (gi ts k + 1) HIN.out)
              go_wp2_with fail
              go_roundg ((Wd p.lots p.lots.length - rk p.lots (cur.set k (gi ts k + 1)) p.lots.length).toNat)
              case measure => have := HRK.out; have := HRB.out; have := HM.out; omega
              case rel => exact ⟨cur.set k (gi ts k + 1), _, _, rfl, rfl, HGS.out, by rw [HRK.out]; exact HFT, Nat.le_refl _⟩
          · have hkn : k = p.lots.length := by omega
            subst hkn
            have HLE := Lib.hid (HFT.out.done HOK.out hfull.out)
            have hkn : ((p.lots.length : Int) == (p.lots.length : Int)) = true := by simp
            go_wp2_with fail
            go_quiet (fail)
            go_wp2_with fail
            go_ret2
            exact ⟨btr HGW.out.b (bdN _ _), _, _, rfl, HLE.out⟩
      · by_cases hbc : co < best
        · have hbe : bestOf best co true = co := by unfold bestOf; rw [if_pos (Or.inr hbc)]
          rw [hbe] at HF2
          clear hbe
          go_wp2_with fail
          have HGT := HG2
          have HFT := HF2
          clear HG2 HF2 a0 a1 a2
          go_loopw [9] (fun i w' => ∃ (k : Nat) (cur : List Int), k ≤ p.lots.length ∧ i = .int .i64 k ∧ Hid (∀ j, j < k → gi ts j = (gl p.lots j).u) ∧ Hid (∀ j, j < k → gi cur j = 0) ∧ Hid (∀ j, k ≤ j → gi cur j = gi ts j) ∧
            GW w w.heap.size (.cells #[.slice A p.lots.length c, .slice B p.caps.length d, .int .i64 p.need] 27) (w.heap.size + 1) p.lots.length none [] p.lots cur w') (fun i _ => p.lots.length - (intOf i).toNat)
          case atStart => exact ⟨0, ts, Nat.zero_le _, rfl, fun j hj => absurd hj (Nat.not_lt_zero _), fun j hj => absurd hj (Nat.not_lt_zero _), fun j _ => rfl, HGT.out⟩
          case round =>
            obtain ⟨k, cur, hk, rfl, hfull, hzero, htail, hG⟩ := hrel
            have HGW := Lib.hid hG
            obtain ⟨a0, a1, a2⟩ := box3 hG.x
            clear hG HGT
            by_cases hlt : k < p.lots.length
            · have hki : (k : Int) < (p.lots.length : Int) := by omega
              obtain ⟨t0, f0⟩ := own_row HGW.out.o (k := k) (by rw [HGW.out.i.1]; exact hlt)
              rw [htail.out k (Nat.le_refl _)] at t0
              obtain ⟨b, o, rfl, u0, u1, u2, u3⟩ := (HL.out.below HGW.out.b).get (k := k) hlt
              have hlk := HOK.out.lot k hlt
              have hik := HI.out.2 k hlt
              clear u1 u2 u3
              by_cases heq : gi ts k = (gl p.lots k).u
              · have hb : (gi ts k == (gl p.lots k).u) = true := by simp [heq]
                have HEQ := Lib.hid heq
                have HIN : Hid (inLots p.lots (cur.set k 0)) := Lib.hid (by
                  refine ⟨by rw [List.length_set]; exact HGW.out.i.1, fun j hj => ?_⟩
                  rw [gi_set _ _ _ _ (by rw [HGW.out.i.1]; exact hlt)]
                  split
                  · subst j; omega
                  · exact HGW.out.i.2 j hj)
                clear heq hlk hik
                go_wp2_with fail
                go_quiet (fail)
                have t0' := t0
                have HGQ := Lib.hid (HGW.out.below (bdN wr nq))
                obtain ⟨t1, f1⟩ := own_row HGQ.out.o (k := k) (by rw [HGW.out.i.1]; exact hlt)
                go_wp2_with fail
                have HGS := Lib.hid (HGQ.out.set (by omega) (by omega) (fun b o e => by cases e) k 0 HIN.out)
                exact ⟨⟨k + 1, cur.set k 0, by omega, by go_num,
                  fun j hj => by rcases Nat.lt_or_ge j k with h | h; exact hfull.out j h; rw [show j = k by omega]; exact HEQ.out,
                  fun j hj => by rw [gi_set _ _ _ _ (by rw [HGW.out.i.1]; exact hlt)]; split; rfl; exact hzero.out j (by omega),
                  fun j hj => by rw [gi_set _ _ _ _ (by rw [HGW.out.i.1]; exact hlt), if_neg (by omega)]; exact htail.out j (by omega), HGS.out⟩, by simp only [intOf]; omega⟩
              · have hb : (gi ts k == (gl p.lots k).u) = false := by simp [heq]
                have hlt2 : gi ts k + 1 ≤ (gl p.lots k).u := by omega
                have hwr : IntKind.i64.wrap (gi ts k + 1) = gi ts k + 1 := IntWalk.i64_in _ (by omega)
                have hkn : ((k : Int) == (p.lots.length : Int)) = false := by simp; omega
                have HIN : Hid (inLots p.lots (cur.set k (gi ts k + 1))) := Lib.hid (by
                  refine ⟨by rw [List.length_set]; exact HGW.out.i.1, fun j hj => ?_⟩
                  rw [gi_set _ _ _ _ (by rw [HGW.out.i.1]; exact hlt)]
                  split
                  · subst j; omega
                  · exact HGW.out.i.2 j hj)
                have HRK := Lib.hid (rk_next (p := p) (ts := ts) (ns := cur.set k (gi ts k + 1)) hlt hfull.out
                  (fun j hj => by rw [gi_set _ _ _ _ (by rw [HGW.out.i.1]; exact hlt), if_neg (by omega)]; exact hzero.out j hj)
                  (by rw [gi_set _ _ _ _ (by rw [HGW.out.i.1]; exact hlt), if_pos rfl])
                  (fun j h1 h2 => by rw [gi_set _ _ _ _ (by rw [HGW.out.i.1]; exact hlt), if_neg (by omega)]; exact htail.out j (by omega)))
                have HRB := Lib.hid (rk_bd HOK.out HI.out p.lots.length (Nat.le_refl _))
                clear heq hlk hik hlt2
                go_wp2_with fail
                go_quiet (fail)
                have HGQ := Lib.hid (HGW.out.below (bdN wr nq))
                obtain ⟨t1, f1⟩ := own_row HGQ.out.o (k := k) (by rw [HGW.out.i.1]; exact hlt)
                rw [htail.out k (Nat.le_refl _)] at t1
                have HGS := Lib.hid (HGQ.out.set (by omega) (by omega) (fun b o e => by cases e) k (gi ts k + 1) HIN.out)
                go_wp2_with fail
                go_roundg ((Wd p.lots p.lots.length - rk p.lots (cur.set k (gi ts k + 1)) p.lots.length).toNat)
                case measure => have := HRK.out; have := HRB.out; have := HM.out; omega
                case rel => exact ⟨cur.set k (gi ts k + 1), _, _, rfl, rfl, HGS.out, by rw [HRK.out]; exact HFT, Nat.le_refl _⟩
            · have hkn : k = p.lots.length := by omega
              subst hkn
              have HLE := Lib.hid (HFT.out.done HOK.out hfull.out)
              have hkn : ((p.lots.length : Int) == (p.lots.length : Int)) = true := by simp
              go_wp2_with fail
              go_quiet (fail)
              go_wp2_with fail
              go_ret2
              exact ⟨btr HGW.out.b (bdN _ _), _, _, rfl, HLE.out⟩
        · have hbe : bestOf best co true = best := by unfold bestOf; rw [if_neg (by simp; omega)]
          rw [hbe] at HF2
          clear hbe
          go_wp2_with fail
          have HGT := HG2
          have HFT := HF2
          clear HG2 HF2 a0 a1 a2
          go_loopw [9] (fun i w' => ∃ (k : Nat) (cur : List Int), k ≤ p.lots.length ∧ i = .int .i64 k ∧ Hid (∀ j, j < k → gi ts j = (gl p.lots j).u) ∧ Hid (∀ j, j < k → gi cur j = 0) ∧ Hid (∀ j, k ≤ j → gi cur j = gi ts j) ∧
            GW w w.heap.size (.cells #[.slice A p.lots.length c, .slice B p.caps.length d, .int .i64 p.need] 27) (w.heap.size + 1) p.lots.length none [] p.lots cur w') (fun i _ => p.lots.length - (intOf i).toNat)
          case atStart => exact ⟨0, ts, Nat.zero_le _, rfl, fun j hj => absurd hj (Nat.not_lt_zero _), fun j hj => absurd hj (Nat.not_lt_zero _), fun j _ => rfl, HGT.out⟩
          case round =>
            obtain ⟨k, cur, hk, rfl, hfull, hzero, htail, hG⟩ := hrel
            have HGW := Lib.hid hG
            obtain ⟨a0, a1, a2⟩ := box3 hG.x
            clear hG HGT
            by_cases hlt : k < p.lots.length
            · have hki : (k : Int) < (p.lots.length : Int) := by omega
              obtain ⟨t0, f0⟩ := own_row HGW.out.o (k := k) (by rw [HGW.out.i.1]; exact hlt)
              rw [htail.out k (Nat.le_refl _)] at t0
              obtain ⟨b, o, rfl, u0, u1, u2, u3⟩ := (HL.out.below HGW.out.b).get (k := k) hlt
              have hlk := HOK.out.lot k hlt
              have hik := HI.out.2 k hlt
              clear u1 u2 u3
              by_cases heq : gi ts k = (gl p.lots k).u
              · have hb : (gi ts k == (gl p.lots k).u) = true := by simp [heq]
                have HEQ := Lib.hid heq
                have HIN : Hid (inLots p.lots (cur.set k 0)) := Lib.hid (by
                  refine ⟨by rw [List.length_set]; exact HGW.out.i.1, fun j hj => ?_⟩
                  rw [gi_set _ _ _ _ (by rw [HGW.out.i.1]; exact hlt)]
                  split
                  · subst j; omega
                  · exact HGW.out.i.2 j hj)
                clear heq hlk hik
                go_wp2_with fail
                go_quiet (fail)
                have t0' := t0
                have HGQ := Lib.hid (HGW.out.below (bdN wr nq))
                obtain ⟨t1, f1⟩ := own_row HGQ.out.o (k := k) (by rw [HGW.out.i.1]; exact hlt)
                go_wp2_with fail
                have HGS := Lib.hid (HGQ.out.set (by omega) (by omega) (fun b o e => by cases e) k 0 HIN.out)
                exact ⟨⟨k + 1, cur.set k 0, by omega, by go_num,
                  fun j hj => by rcases Nat.lt_or_ge j k with h | h; exact hfull.out j h; rw [show j = k by omega]; exact HEQ.out,
                  fun j hj => by rw [gi_set _ _ _ _ (by rw [HGW.out.i.1]; exact hlt)]; split; rfl; exact hzero.out j (by omega),
                  fun j hj => by rw [gi_set _ _ _ _ (by rw [HGW.out.i.1]; exact hlt), if_neg (by omega)]; exact htail.out j (by omega), HGS.out⟩, by simp only [intOf]; omega⟩
              · have hb : (gi ts k == (gl p.lots k).u) = false := by simp [heq]
                have hlt2 : gi ts k + 1 ≤ (gl p.lots k).u := by omega
                have hwr : IntKind.i64.wrap (gi ts k + 1) = gi ts k + 1 := IntWalk.i64_in _ (by omega)
                have hkn : ((k : Int) == (p.lots.length : Int)) = false := by simp; omega
                have HIN : Hid (inLots p.lots (cur.set k (gi ts k + 1))) := Lib.hid (by
                  refine ⟨by rw [List.length_set]; exact HGW.out.i.1, fun j hj => ?_⟩
                  rw [gi_set _ _ _ _ (by rw [HGW.out.i.1]; exact hlt)]
                  split
                  · subst j; omega
                  · exact HGW.out.i.2 j hj)
                have HRK := Lib.hid (rk_next (p := p) (ts := ts) (ns := cur.set k (gi ts k + 1)) hlt hfull.out
                  (fun j hj => by rw [gi_set _ _ _ _ (by rw [HGW.out.i.1]; exact hlt), if_neg (by omega)]; exact hzero.out j hj)
                  (by rw [gi_set _ _ _ _ (by rw [HGW.out.i.1]; exact hlt), if_pos rfl])
                  (fun j h1 h2 => by rw [gi_set _ _ _ _ (by rw [HGW.out.i.1]; exact hlt), if_neg (by omega)]; exact htail.out j (by omega)))
                have HRB := Lib.hid (rk_bd HOK.out HI.out p.lots.length (Nat.le_refl _))
                clear heq hlk hik hlt2
                go_wp2_with fail
                go_quiet (fail)
                have HGQ := Lib.hid (HGW.out.below (bdN wr nq))
                obtain ⟨t1, f1⟩ := own_row HGQ.out.o (k := k) (by rw [HGW.out.i.1]; exact hlt)
                rw [htail.out k (Nat.le_refl _)] at t1
                have HGS := Lib.hid (HGQ.out.set (by omega) (by omega) (fun b o e => by cases e) k (gi ts k + 1) HIN.out)
                go_wp2_with fail
                go_roundg ((Wd p.lots p.lots.length - rk p.lots (cur.set k (gi ts k + 1)) p.lots.length).toNat)
                case measure => have := HRK.out; have := HRB.out; have := HM.out; omega
                case rel => exact ⟨cur.set k (gi ts k + 1), _, _, rfl, rfl, HGS.out, by rw [HRK.out]; exact HFT, Nat.le_refl _⟩
            · have hkn : k = p.lots.length := by omega
              subst hkn
              have HLE := Lib.hid (HFT.out.done HOK.out hfull.out)
              have hkn : ((p.lots.length : Int) == (p.lots.length : Int)) = true := by simp
              go_wp2_with fail
              go_quiet (fail)
              go_wp2_with fail
              go_ret2
              exact ⟨btr HGW.out.b (bdN _ _), _, _, rfl, HLE.out⟩
    · have HF2 := Lib.hid (HF.out.skip HOK.out HI.out hfit)
      rw [show decide (p.need ≤ worthP p ts) = false by simp [hfit]]
      clear hfit HF
      go_wp2_with fail
      have HGT := HG1
      have HFT := HF2
      clear HG1 HF2 a0 a1 a2
      go_loopw [9] (fun i w' => ∃ (k : Nat) (cur : List Int), k ≤ p.lots.length ∧ i = .int .i64 k ∧ Hid (∀ j, j < k → gi ts j = (gl p.lots j).u) ∧ Hid (∀ j, j < k → gi cur j = 0) ∧ Hid (∀ j, k ≤ j → gi cur j = gi ts j) ∧
        GW w w.heap.size (.cells #[.slice A p.lots.length c, .slice B p.caps.length d, .int .i64 p.need] 27) (w.heap.size + 1) p.lots.length none [] p.lots cur w') (fun i _ => p.lots.length - (intOf i).toNat)
      case atStart => exact ⟨0, ts, Nat.zero_le _, rfl, fun j hj => absurd hj (Nat.not_lt_zero _), fun j hj => absurd hj (Nat.not_lt_zero _), fun j _ => rfl, HGT.out⟩
      case round =>
        obtain ⟨k, cur, hk, rfl, hfull, hzero, htail, hG⟩ := hrel
        have HGW := Lib.hid hG
        obtain ⟨a0, a1, a2⟩ := box3 hG.x
        clear hG HGT
        by_cases hlt : k < p.lots.length
        · have hki : (k : Int) < (p.lots.length : Int) := by omega
          obtain ⟨t0, f0⟩ := own_row HGW.out.o (k := k) (by rw [HGW.out.i.1]; exact hlt)
          rw [htail.out k (Nat.le_refl _)] at t0
          obtain ⟨b, o, rfl, u0, u1, u2, u3⟩ := (HL.out.below HGW.out.b).get (k := k) hlt
          have hlk := HOK.out.lot k hlt
          have hik := HI.out.2 k hlt
          clear u1 u2 u3
          by_cases heq : gi ts k = (gl p.lots k).u
          · have hb : (gi ts k == (gl p.lots k).u) = true := by simp [heq]
            have HEQ := Lib.hid heq
            have HIN : Hid (inLots p.lots (cur.set k 0)) := Lib.hid (by
              refine ⟨by rw [List.length_set]; exact HGW.out.i.1, fun j hj => ?_⟩
              rw [gi_set _ _ _ _ (by rw [HGW.out.i.1]; exact hlt)]
              split
              · subst j; omega
              · exact HGW.out.i.2 j hj)
            clear heq hlk hik
            go_wp2_with fail
            go_quiet (fail)
            have t0' := t0
            have HGQ := Lib.hid (HGW.out.below (bdN wr nq))
            obtain ⟨t1, f1⟩ := own_row HGQ.out.o (k := k) (by rw [HGW.out.i.1]; exact hlt)
            go_wp2_with fail
            have HGS := Lib.hid (HGQ.out.set (by omega) (by omega) (fun b o e => by cases e) k 0 HIN.out)
            exact ⟨⟨k + 1, cur.set k 0, by omega, by go_num,
              fun j hj => by rcases Nat.lt_or_ge j k with h | h; exact hfull.out j h; rw [show j = k by omega]; exact HEQ.out,
              fun j hj => by rw [gi_set _ _ _ _ (by rw [HGW.out.i.1]; exact hlt)]; split; rfl; exact hzero.out j (by omega),
              fun j hj => by rw [gi_set _ _ _ _ (by rw [HGW.out.i.1]; exact hlt), if_neg (by omega)]; exact htail.out j (by omega), HGS.out⟩, by simp only [intOf]; omega⟩
          · have hb : (gi ts k == (gl p.lots k).u) = false := by simp [heq]
            have hlt2 : gi ts k + 1 ≤ (gl p.lots k).u := by omega
            have hwr : IntKind.i64.wrap (gi ts k + 1) = gi ts k + 1 := IntWalk.i64_in _ (by omega)
            have hkn : ((k : Int) == (p.lots.length : Int)) = false := by simp; omega
            have HIN : Hid (inLots p.lots (cur.set k (gi ts k + 1))) := Lib.hid (by
              refine ⟨by rw [List.length_set]; exact HGW.out.i.1, fun j hj => ?_⟩
              rw [gi_set _ _ _ _ (by rw [HGW.out.i.1]; exact hlt)]
              split
              · subst j; omega
              · exact HGW.out.i.2 j hj)
            have HRK := Lib.hid (rk_next (p := p) (ts := ts) (ns := cur.set k (gi ts k + 1)) hlt hfull.out
              (fun j hj => by rw [gi_set _ _ _ _ (by rw [HGW.out.i.1]; exact hlt), if_neg (by omega)]; exact hzero.out j hj)
              (by rw [gi_set _ _ _ _ (by rw [HGW.out.i.1]; exact hlt), if_pos rfl])
              (fun j h1 h2 => by rw [gi_set _ _ _ _ (by rw [HGW.out.i.1]; exact hlt), if_neg (by omega)]; exact htail.out j (by omega)))
            have HRB := Lib.hid (rk_bd HOK.out HI.out p.lots.length (Nat.le_refl _))
            clear heq hlk hik hlt2
            go_wp2_with fail
            go_quiet (fail)
            have HGQ := Lib.hid (HGW.out.below (bdN wr nq))
            obtain ⟨t1, f1⟩ := own_row HGQ.out.o (k := k) (by rw [HGW.out.i.1]; exact hlt)
            rw [htail.out k (Nat.le_refl _)] at t1
            have HGS := Lib.hid (HGQ.out.set (by omega) (by omega) (fun b o e => by cases e) k (gi ts k + 1) HIN.out)
            go_wp2_with fail
            go_roundg ((Wd p.lots p.lots.length - rk p.lots (cur.set k (gi ts k + 1)) p.lots.length).toNat)
            case measure => have := HRK.out; have := HRB.out; have := HM.out; omega
            case rel => exact ⟨cur.set k (gi ts k + 1), _, _, rfl, rfl, HGS.out, by rw [HRK.out]; exact HFT, Nat.le_refl _⟩
        · have hkn : k = p.lots.length := by omega
          subst hkn
          have HLE := Lib.hid (HFT.out.done HOK.out hfull.out)
          have hkn : ((p.lots.length : Int) == (p.lots.length : Int)) = true := by simp
          go_wp2_with fail
          go_quiet (fail)
          go_wp2_with fail
          go_ret2
          exact ⟨btr HGW.out.b (bdN _ _), _, _, rfl, HLE.out⟩

end Go.Proofs.YtjaegolanbjgfaaDoor
