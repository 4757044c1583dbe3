import Derived.Test.YtjaegolanbjgfaaDoorDv
import Derived.WalkKit
import Derived.WalkSpells
import Derived.WalkLawsBesides
import Derived.Lib.Hide
import Derived.Deep.DeepCutAuto
import Derived.Deep.LoopGhost
import Derived.Deep.QuietTactic
import Derived.BigQuiet
import Derived.Deep.OwnRows
import Derived.StillTailTactics
import Derived.IntWalk
import Derived.Laws.BitsLemmas
import Derived.Laws.MathBits
import Derived.Laws.Bits64
import Derived.Deep.RegionHeld3
set_option linter.unusedVariables false
set_option linter.unusedSimpArgs false
namespace Go.Proofs.YtjaegolanbjgfaaDoor
open Go.RowKit
theorem vint {k : IntKind} {a b : Int} (h : a = b) : Value.int k a = Value.int k b := by rw [h]
theorem boxN {w : World} {g : Nat} {o : Obj} (h : w.heap[g]? = some o) {w1 : World} (hb : Below w.heap.size w w1) : w1.heap[g]? = some o := (hb.block g (Array.getElem?_eq_some_iff.1 h).1).trans h
section
variable (A : Option Addr) (c : Nat) (B : Option Addr) (d : Nat) (p : Prob) (ea : Nat → Addr) (w : World) (hL : LotsAt w A p.lots) (hC : IntsAt w B p.caps) (hs : Sent 3 ea w) (hok : Ok p) (s : Nat) (hsn : s ≤ p.lots.length)
include hL hC hs hok hsn
set_option maxHeartbeats 1000000 in
theorem is_any : Calls Tryd.prog 51 #[pv A c B d p, .int .i64 s] w fun e w' => e = .returned (.bool true) ∧ Below w.heap.size w w' := by
  have HL := Lib.hid hL
  have HC := Lib.hid hC
  have HS := Lib.hid hs
  have HV := Lib.hid (valid_of_ok hok)
  have hm1 := hok.n8
  have HB0 := Lib.hid (bal (Below.refl w.heap.size w) (.cells #[.slice A p.lots.length c, .slice B p.caps.length d, .int .i64 p.need] 25))
  clear hL hC hs hok
  go_enter Tryd.func51, Tryd.ntmps51
  go_wp2_with fail
  refine (valid_any A c B d p ea _ (HL.out.below HB0.out) (HC.out.below HB0.out) (HS.out.below HB0.out)).mono ?_
  rintro e w1 ⟨rfl, hb1⟩
  rw [HV.out, errV]
  obtain ⟨c0, c1, c2⟩ := box3 ((hb1.block w.heap.size (by simp)).trans (heap_alloc_new _ _))
  have i1 : (s : Int) ≤ (p.lots.length : Int) := by omega
  have HBa := Lib.hid (btr HB0.out hb1)
  clear hb1
  go_wp2_with fail
  go_ret
  exact ⟨rfl, HBa.out⟩
/-- Three results. -/
def Three (x y : Int) (b : Bool) : Value := .tuple #[.int .i64 x, .int .i64 y, .bool b]
def GivesRate (p : Prob) (s : Nat) (w : World) (e : Ending) (w' : World) : Prop := Below w.heap.size w w' ∧
  e = .returned (if rateAt p s < 0 then Three 0 0 false else Three (gl p.lots (rateAt p s).toNat).c (gl p.lots (rateAt p s).toNat).v true)
set_option maxRecDepth 100000 in
set_option maxHeartbeats 2000000 in
theorem Rate_any : Calls Tryd.prog 52 #[pv A c B d p, .int .i64 s] w (GivesRate p s w) := by
  have HL := Lib.hid hL
  have HC := Lib.hid hC
  have HS := Lib.hid hs
  have HK := Lib.hid hok
  have hm1 := hok.n8
  have HB0 := Lib.hid (bal (Below.refl w.heap.size w) (.cells #[.slice A p.lots.length c, .slice B p.caps.length d, .int .i64 p.need] 25))
  have I := Lib.hid fun W h => is_any A c B d p ea W (hL.below h) (hC.below h) (hs.below h) hok s hsn
  clear hL hC hs hok
  go_enter Tryd.func52, Tryd.ntmps52
  go_wp2_with fail
  refine (I.out _ HB0.out).mono ?_
  rintro e w1 ⟨rfl, hb1⟩
  have hbox1 : w1.heap[w.heap.size]? = some (.cells #[.slice A p.lots.length c, .slice B p.caps.length d, .int .i64 p.need] 25 (0, 0)) := (hb1.block _ (by simp)).trans (heap_alloc_new _ _)
  have HX1 := Lib.hid hbox1
  have HBa := Lib.hid (btr HB0.out hb1)
  clear hb1 hbox1 I
  go_wp2_with fail
  go_loopw [7, 8] (fun b i w' => ∃ k : Nat, s + k ≤ p.lots.length ∧ i = .int .i64 (s + k : Nat) ∧ b = .int .i64 (rbest p.lots s k) ∧ Below w.heap.size w w' ∧ Hid (w'.heap[w.heap.size]? = some (.cells #[.slice A p.lots.length c, .slice B p.caps.length d, .int .i64 p.need] 25 (0, 0)))) (fun _ i _ => p.lots.length - (intOf i).toNat)
  case atStart => exact ⟨0, hsn, rfl, rfl, HBa.out, HX1.out⟩
  case round =>
    obtain ⟨k, hk, rfl, rfl, hb, hbox⟩ := hrel
    obtain ⟨c0, c1, c2⟩ := box3 hbox.out
    have HBb := Lib.hid hb
    obtain ⟨j, hj⟩ : ∃ j, j = s + k := ⟨_, rfl⟩
    rw [← hj]
    by_cases hlt : j < p.lots.length
    · obtain ⟨b2, o2, rfl, u0, u1, u2, u3⟩ := (HL.out.below hb).get hlt
      clear hb
      have HJ := Lib.hid hj
      clear hj
      by_cases h1 : 0 < (gl p.lots j).v
      · by_cases h2 : 0 < (gl p.lots j).u
        · have d1 : decide (0 < (gl p.lots j).v) = true := decide_eq_true h1
          have d2 : decide (0 < (gl p.lots j).u) = true := decide_eq_true h2
          by_cases h3 : rbest p.lots s k < 0
          · have d3 : decide (rbest p.lots s k < 0) = true := decide_eq_true h3
            have E := Lib.hid (rbest_yes HJ.out ⟨h1, h2, Or.inl h3⟩)
            clear h1 h2 h3
            go_wp2_with fail
            go_quiet (fail)
            go_wp2_with fail
            go_roundw
            case rel => exact ⟨k + 1, by have := HJ.out; omega, vint (by have := HJ.out; omega), vint E.out, (bal HBb.out _).trans ((bdN _ _).mono (by have := HBb.out.size; simp; omega)), boxN hbox.out (btr (bal (Below.refl _ _) _) (bdN _ _))⟩
            case measure => simp only [intOf]; omega
          · have d3 : decide (rbest p.lots s k < 0) = false := decide_eq_false h3
            obtain ⟨bi, hbi⟩ := Int.eq_ofNat_of_zero_le (show 0 ≤ rbest p.lots s k by omega)
            have hbn : bi < p.lots.length := by have := rbest_rng p.lots s k; omega
            obtain ⟨b3, o3, he, v0, v1, v2, v3⟩ := (HL.out.below HBb.out).get hbn
            have he' : b2 = b3 ∧ o2 = o3 := by simpa using he
            obtain ⟨rfl, rfl⟩ := he'
            have hbi2 : (bi : Int) < (p.lots.length : Int) := by omega
            have lj := HK.out.lot j hlt
            have lb := HK.out.lot bi hbn
            have CH := Lib.hid fun W => Cheaper_any (gl p.lots j) (gl p.lots bi) W (by omega) (by omega) (by omega) (by omega)
            have Y := Lib.hid fun (h : cheaperB (gl p.lots j) (gl p.lots bi) = true) => rbest_yes HJ.out ⟨h1, h2, Or.inr (by rw [hbi]; exact h)⟩
            have N := Lib.hid fun (h : cheaperB (gl p.lots j) (gl p.lots bi) = false) => rbest_no (ls := p.lots) HJ.out (fun h' => by rcases h'.2.2 with a | a; exact h3 a; rw [hbi, Int.toNat_natCast, h] at a; cases a)
            have HBI := Lib.hid hbi
            rw [hbi] at d3 ⊢
            clear h1 h2 h3 he lj lb hbi
            go_wp2_with fail
            have HBc := Lib.hid (bal HBb.out (.cells #[.int .i64 (gl p.lots j).u, .int .i64 (gl p.lots j).v, .int .i64 (gl p.lots j).c, .int .i64 (gl p.lots j).g] 48))
            go_region_held3 (fun w' => w'.cell? ⟨wr.heap.size, 0, none⟩ = some (.int .i64 (gl p.lots j).u) ∧ w'.cell? ⟨wr.heap.size, 1, none⟩ = some (.int .i64 (gl p.lots j).v) ∧ w'.cell? ⟨wr.heap.size, 2, none⟩ = some (.int .i64 (gl p.lots j).c) ∧ w'.cell? ⟨wr.heap.size, 3, none⟩ = some (.int .i64 (gl p.lots j).g)
                ∧ w'.cell? ⟨w.heap.size, 0, none⟩ = some (.slice (some ⟨b2, o2, none⟩) p.lots.length c) ∧ w'.cell? ⟨b2, o2 + bi * 4, none⟩ = some (.int .i64 (gl p.lots bi).u) ∧ w'.cell? ⟨b2, o2 + bi * 4 + 1, none⟩ = some (.int .i64 (gl p.lots bi).v) ∧ w'.cell? ⟨b2, o2 + bi * 4 + 2, none⟩ = some (.int .i64 (gl p.lots bi).c) ∧ w'.cell? ⟨b2, o2 + bi * 4 + 3, none⟩ = some (.int .i64 (gl p.lots bi).g)) (go_keep)
              (first
                | (go_at_call 58; go_must (refine (CH.out _).mono ?_); rintro e w2 ⟨rfl, hb2⟩; have hbw := btr (bal (Below.refl wr.heap.size wr) _).drew hb2; have e0 := cellB hbw c0; have e1 := cellB hbw v0; have e2 := cellB hbw v1; have e3 := cellB hbw v2; have e4 := cellB hbw v3; have f0 := cellB hb2 (a := ⟨wr.heap.size, 0, none⟩) ((cellD rfl).trans rfl); have f1 := cellB hb2 (a := ⟨wr.heap.size, 1, none⟩) ((cellD rfl).trans rfl); have f2 := cellB hb2 (a := ⟨wr.heap.size, 2, none⟩) ((cellD rfl).trans rfl); have f3 := cellB hb2 (a := ⟨wr.heap.size, 3, none⟩) ((cellD rfl).trans rfl); clear hb2))
            have HBw := Lib.hid (btr HBb.out hbw)
            have HXw := Lib.hid (boxN hbox.out hbw)
            clear hbw
            cases hch : cheaperB (gl p.lots j) (gl p.lots bi)
            · have E := Lib.hid (N.out hch)
              clear hch
              go_wp2_with fail
              go_roundw
              case rel => exact ⟨k + 1, by have := HJ.out; omega, vint (by have := HJ.out; omega), vint (by rw [← E.out]; exact HBI.out.symm), HBw.out, HXw.out⟩
              case measure => simp only [intOf]; omega
            · have E := Lib.hid (Y.out hch)
              clear hch
              go_wp2_with fail
              go_roundw
              case rel => exact ⟨k + 1, by have := HJ.out; omega, vint (by have := HJ.out; omega), vint E.out, HBw.out, HXw.out⟩
              case measure => simp only [intOf]; omega
        · have d1 : decide (0 < (gl p.lots j).v) = true := decide_eq_true h1
          have d2 : decide (0 < (gl p.lots j).u) = false := decide_eq_false h2
          have E := Lib.hid (rbest_no (ls := p.lots) HJ.out (fun h => h2 h.2.1))
          clear h1 h2
          go_wp2_with fail
          go_quiet (fail)
          go_wp2_with fail
          go_roundw
          case rel => exact ⟨k + 1, by have := HJ.out; omega, vint (by have := HJ.out; omega), vint E.out, (bal HBb.out _).trans ((bdN _ _).mono (by have := HBb.out.size; simp; omega)), boxN hbox.out (btr (bal (Below.refl _ _) _) (bdN _ _))⟩
          case measure => simp only [intOf]; omega
      · have d1 : decide (0 < (gl p.lots j).v) = false := decide_eq_false h1
        have E := Lib.hid (rbest_no (ls := p.lots) HJ.out (fun h => h1 h.1))
        clear h1
        go_wp2_with fail
        go_quiet (fail)
        go_wp2_with fail
        go_roundw
        case rel => exact ⟨k + 1, by have := HJ.out; omega, vint (by have := HJ.out; omega), vint E.out, (bal HBb.out _).trans ((bdN _ _).mono (by have := HBb.out.size; simp; omega)), boxN hbox.out (btr (bal (Below.refl _ _) _) (bdN _ _))⟩
        case measure => simp only [intOf]; omega
    · have hkn : k = p.lots.length - s := by omega
      have hr : rateAt p s = rbest p.lots s k := by unfold rateAt; rw [hkn]
      have HR := Lib.hid hr
      have hjn : ¬ (j : Int) < (p.lots.length : Int) := by omega
      clear hkn hr hj hb
      by_cases h3 : rbest p.lots s k < 0
      · have d3 : decide (rbest p.lots s k < 0) = true := decide_eq_true h3
        have H3 := Lib.hid h3
        clear h3
        go_wp2_with fail
        go_ret3
        exact ⟨HBb.out, by rw [HR.out, if_pos H3.out]; rfl⟩
      · have d3 : decide (rbest p.lots s k < 0) = false := decide_eq_false h3
        obtain ⟨bi, hbi⟩ := Int.eq_ofNat_of_zero_le (show 0 ≤ rbest p.lots s k by omega)
        have hbn : bi < p.lots.length := by have := rbest_rng p.lots s k; omega
        obtain ⟨b3, o3, rfl, v0, v1, v2, v3⟩ := (HL.out.below HBb.out).get hbn
        have hbi2 : (bi : Int) < (p.lots.length : Int) := by omega
        have HBI := Lib.hid hbi
        rw [hbi] at d3 ⊢
        clear h3 hbi
        go_wp2_with fail
        go_quiet (fail)
        go_wp2_with fail
        go_ret3
        exact ⟨btr HBb.out (bdN _ _), by rw [HR.out, HBI.out, if_neg (by omega), Int.toNat_natCast]; rfl⟩
set_option maxRecDepth 100000 in
set_option maxHeartbeats 2000000 in
theorem Least_any (left : Int) (hl : left ≤ 1000000000000) : Calls Tryd.prog 29 #[pv A c B d p, .int .i64 s, .int .i64 left] w fun e w' => e = .returned (.tuple #[.int .i64 (leastV p s left), .bool (leastB p s left)]) ∧ Below w.heap.size w w' := by
  have HK := Lib.hid hok
  have hm1 := hok.n8
  have HB0 := Lib.hid (bal (Below.refl w.heap.size w) (.cells #[.slice A p.lots.length c, .slice B p.caps.length d, .int .i64 p.need] 25))
  have I := Lib.hid fun W h => is_any A c B d p ea W (hL.below h) (hC.below h) (hs.below h) hok s hsn
  have R := Lib.hid fun W h => Rate_any A c B d p ea W (hL.below h) (hC.below h) (hs.below h) hok s hsn
  clear hL hC hs hok
  go_enter Tryd.func29, Tryd.ntmps29
  go_wp2_with fail
  refine (I.out _ HB0.out).mono ?_
  rintro e w1 ⟨rfl, hb1⟩
  obtain ⟨c0, c1, c2⟩ := box3 ((hb1.block w.heap.size (by simp)).trans (heap_alloc_new _ _))
  have HBa := Lib.hid (btr HB0.out hb1)
  clear hb1 I
  by_cases h0 : left ≤ 0
  · have H0 := Lib.hid h0
    go_wp2_with fail
    go_ret2
    exact ⟨by unfold leastV leastB; rw [if_pos H0.out, if_pos H0.out]; rfl, HBa.out⟩
  · have H0 := Lib.hid h0
    go_wp2_with fail
    refine (R.out _ HBa.out).mono ?_
    rintro e w2 ⟨hb2, rfl⟩
    have HBc := Lib.hid (btr HBa.out hb2)
    clear hb2 R
    by_cases hr : rateAt p s < 0
    · rw [if_pos hr, Three]
      have HR := Lib.hid hr
      clear hr
      go_wp2_with fail
      go_ret2
      have hr := HR.out
      have e1 : leastV p s left = 0 := by unfold leastV; rw [if_neg (by omega), if_pos hr]
      have e2 : leastB p s left = false := by unfold leastB; rw [if_neg (by omega), if_pos hr]
      exact ⟨by rw [e1, e2]; rfl, HBc.out⟩
    · rw [if_neg hr, Three]
      have hbn : (rateAt p s).toNat < p.lots.length := by have := rbest_rng p.lots s (p.lots.length - s); unfold rateAt at hr ⊢; omega
      have lb := HK.out.lot _ hbn
      have hv := rate_pos p s (by omega)
      have D := Lib.hid fun W => Div_up left (gl p.lots (rateAt p s).toNat).c (gl p.lots (rateAt p s).toNat).v W (by omega) (by omega) (by omega)
      have HR := Lib.hid hr
      clear hr hbn lb hv
      go_wp2_with fail
      refine (D.out _).mono ?_
      rintro e w3 ⟨rfl, hb3⟩
      go_wp2_with fail
      go_ret2
      have hr := HR.out
      have e1 : leastV p s left = ansq (left * (gl p.lots (rateAt p s).toNat).c) (gl p.lots (rateAt p s).toNat).v := by unfold leastV; rw [if_neg (by omega), if_neg (by omega)]
      have e2 : leastB p s left = fitq (left * (gl p.lots (rateAt p s).toNat).c) (gl p.lots (rateAt p s).toNat).v := by unfold leastB; rw [if_neg (by omega), if_neg (by omega)]
      exact ⟨by rw [e1, e2]; rfl, btr HBc.out hb3⟩
set_option maxRecDepth 100000 in
set_option maxHeartbeats 2000000 in
theorem Can_any (left : Int) (hc : p.lots.length ≤ c) : Calls Tryd.prog 73 #[pv A c B d p, .int .i64 s, .int .i64 left] w fun e w' => e = .returned (.bool (canB p s left)) ∧ Below w.heap.size w w' := by
  have HL := Lib.hid hL
  have HK := Lib.hid hok
  have hm1 := hok.n8
  have HB0 := Lib.hid (bal (Below.refl w.heap.size w) (.cells #[.slice A p.lots.length c, .slice B p.caps.length d, .int .i64 p.need] 25))
  have I := Lib.hid fun W h => is_any A c B d p ea W (hL.below h) (hC.below h) (hs.below h) hok s hsn
  clear hL hC hs hok
  obtain ⟨b, o, rfl, _⟩ := HL.out.get (k := 0) HK.out.n0
  go_enter Tryd.func73, Tryd.ntmps73
  go_wp2_with fail
  refine (I.out _ HB0.out).mono ?_
  rintro e w1 ⟨rfl, hb1⟩
  obtain ⟨c0, c1, c2⟩ := box3 ((hb1.block w.heap.size (by simp)).trans (heap_alloc_new _ _))
  have HBa := Lib.hid (btr HB0.out hb1)
  have i1 : (s : Int) ≤ (p.lots.length : Int) := by omega
  have i2 : (s : Int) ≤ (c : Int) := by omega
  clear hb1 I
  by_cases hcs : c = s
  · have hz : p.lots.length - s = 0 := by omega
    have HZ := Lib.hid hz
    subst hcs
    go_wp2_with fail
    clear hz
    go_loop [7, 19] (fun x i => i = .int .i64 0 ∧ x = .int .i64 0) (fun _ _ => 0)
    case atStart => exact ⟨rfl, rfl⟩
    case round =>
      obtain ⟨rfl, rfl⟩ := hrel
      go_wp2_with fail
      all_goals (go_ret; exact ⟨ret_bool (by unfold canB; rw [HZ.out]; rfl), HBa.out⟩)
  · obtain ⟨m, hm⟩ : ∃ m, m = p.lots.length - s := ⟨_, rfl⟩
    have HM := Lib.hid hm
    have hm8 : m ≤ 8 := by omega
    have hcm : c - s ≤ 9223372036854775807 ∨ True := Or.inr trivial
    go_wp2_with fail
    rw [← hm]
    clear hm hcm hcs
    go_loopw [7, 19] (fun x i w' => ∃ k : Nat, k ≤ m ∧ i = .int .i64 k ∧ x = .int .i64 (canSum p.lots s k) ∧ Below w.heap.size w w') (fun _ i _ => m - (intOf i).toNat)
    case atStart => exact ⟨0, Nat.zero_le _, rfl, rfl, HBa.out⟩
    case round =>
      obtain ⟨k, hk, rfl, rfl, hb⟩ := hrel
      by_cases hlt : k < m
      · obtain ⟨b2, o2, he, u0, u1, u2, u3⟩ := (HL.out.below hb).get (k := s + k) (by have := HM.out; omega)
        have he' : b = b2 ∧ o = o2 := by simpa using he
        obtain ⟨rfl, rfl⟩ := he'
        have ea : o + (s + k) * 4 = o + s * 4 + k * 4 := by omega
        rw [ea] at u0 u1 u2 u3
        have lb := HK.out.lot (s + k) (by have := HM.out; omega)
        have tb := mul_bd lb.1 (T := 1000) (by omega) lb.2.2.1 lb.2.2.2.1
        have cb := canSum_bd HK.out s k (by have := HM.out; omega)
        clear ea he lb
        go_wp2_with fail
        go_roundw
        case rel => exact ⟨k + 1, by omega, by go_num, rfl, bal hb _⟩
        case measure => simp only [intOf]; omega
      · have hkm : k = m := by omega
        have HKM := Lib.hid hkm
        clear hkm
        go_wp2_with fail
        all_goals (go_ret; exact ⟨ret_bool (by unfold canB; rw [← HM.out, ← HKM.out]), hb⟩)
end
end Go.Proofs.YtjaegolanbjgfaaDoor
