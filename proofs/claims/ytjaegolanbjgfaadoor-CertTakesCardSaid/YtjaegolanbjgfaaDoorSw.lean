import Derived.Deep.RegionLaw
import Derived.LaidEql
import Derived.Test.YtjaegolanbjgfaaDoorMt
import Derived.Test.YtjaegolanbjgfaaDoorLm
import Derived.WalkKit
import Derived.WalkSpells
import Derived.WalkLawsBesides
import Derived.Lib.Hide
import Derived.Deep.DeepCutAuto
import Derived.Deep.LoopGhost
import Derived.Deep.QuietTactic
import Derived.BigQuiet
import Derived.Deep.OwnRows
import Derived.StillTailTactics
import Derived.IntWalk
import Derived.Laws.BitsLemmas
import Derived.Laws.MathBits
import Derived.Laws.Bits64
import Derived.Deep.RegionHeld3
import Derived.BigRegion
import Derived.Lib.SliceRun
import Derived.Deep.AppendLies
set_option linter.unusedVariables false
set_option linter.unusedSimpArgs false
namespace Go.Proofs.YtjaegolanbjgfaaDoor
open Go.RowKit
def GivesSwap (r : Option (List Int)) (w : World) (e : Ending) (w' : World) : Prop := Below w.heap.size w w' ∧
  match r with
  | none => e = .returned (.tuple #[.slice none 0 0, .bool false])
  | some x => ∃ g cap, e = .returned (.tuple #[.slice (some ⟨g, 0, none⟩) x.length cap, .bool true]) ∧ IntsAt w' (some ⟨g, 0, none⟩) x ∧ w.heap.size ≤ g
theorem gives_none {w w' : World} {e : Ending} (hb : Below w.heap.size w w') (he : e = .returned (.tuple #[.slice none 0 0, .bool false])) : GivesSwap none w e w' := ⟨hb, he⟩
theorem gives_some {x : List Int} {w w' : World} {e : Ending} (hb : Below w.heap.size w w') (g cap n : Nat) (hn : x.length = n) (he : e = .returned (.tuple #[.slice (some ⟨g, 0, none⟩) n cap, .bool true])) (hi : IntsAt w' (some ⟨g, 0, none⟩) x) (hg : w.heap.size ≤ g) : GivesSwap (some x) w e w' := by
  subst hn; exact ⟨hb, g, cap, he, hi, hg⟩
set_option maxRecDepth 100000 in
set_option maxHeartbeats 4000000 in
/-- One less of one lot. -/
theorem Swap_any (A : Option Addr) (c : Nat) (B : Option Addr) (d : Nat) (p : Prob) (T : Option Addr) (f : Nat) (ts : List Int) (ea : Nat → Addr) (w : World) (hL : LotsAt w A p.lots) (hC : IntsAt w B p.caps) (hT : IntsAt w T ts) (hs : Sent 3 ea w) :
    Calls Tryd.prog 31 #[pv A c B d p, .slice T ts.length f] w (GivesSwap (swapP p ts) w) := by
  have HL := Lib.hid hL
  have HC := Lib.hid hC
  have HT := Lib.hid hT
  have HS := Lib.hid hs
  have HB0 := Lib.hid (bal (Below.refl w.heap.size w) (.cells #[.slice A p.lots.length c, .slice B p.caps.length d, .int .i64 p.need] 25))
  have HX0 := Lib.hid (heap_alloc_new w (.cells #[.slice A p.lots.length c, .slice B p.caps.length d, .int .i64 p.need] 25))
  have htl := hT.1
  clear hL hC hT hs
  go_enter Tryd.func31, Tryd.ntmps31
  go_wp2_with fail
  refine (Fits_any A c B d p T f ts ea _ (HL.out.below HB0.out) (HC.out.below HB0.out) (HT.out.below HB0.out) (HS.out.below HB0.out)).mono ?_
  rintro e w1 ⟨rfl, hb1⟩
  have HB1 := Lib.hid (btr HB0.out hb1)
  have HX1 := Lib.hid (boxN HX0.out hb1)
  clear hb1 HX0
  cases hen : enough p ts
  · have hsw : swapP p ts = none := by unfold swapP; rw [hen]; rfl
    have HSW := Lib.hid hsw
    clear hen hsw
    go_wp2_with fail
    go_ret2
    rw [HSW.out]
    exact gives_none HB1.out rfl
  · have HEN := Lib.hid hen
    have hin := (enough_yes hen).1
    have hok : Ok p := by unfold enough at hen; simp only [Bool.and_eq_true] at hen; exact (fitsB_yes hen.1).1
    have hlen := hin.1
    have hm8 := hok.n8
    have hm0 := hok.n0
    have HSP := Lib.hid (show swapP p ts = swapF p ts ts.length by unfold swapP; rw [hen, if_pos rfl])
    have HLEN := Lib.hid hlen
    have HIN := Lib.hid hin
    have ht8 : ts.length ≤ 8 := by omega
    have ht0 : 0 < ts.length := by omega
    clear hlen hin
    have HOK := Lib.hid hok
    clear hen hok
    obtain ⟨tb, t1, hTe, _⟩ := HT.out.get (k := 0) (by omega)
    subst hTe
    go_wp2_with fail
    go_loopw [14] (fun i w' => ∃ k : Nat, k ≤ ts.length ∧ i = .int .i64 k ∧ Below w1.heap.size w1 w' ∧ swapF p ts ts.length = swapF p ts (ts.length - k)) (fun i _ => ts.length - (intOf i).toNat)
    case atStart => exact ⟨0, Nat.zero_le _, rfl, Below.refl _ _, rfl⟩
    case round =>
      obtain ⟨k, hk, rfl, hb, hsw⟩ := hrel
      have HBW := Lib.hid (btr HB1.out hb)
      have HXW := Lib.hid (boxN HX1.out hb)
      have HSW := Lib.hid hsw
      have HB1W := Lib.hid hb
      clear hb hsw
      by_cases hlt : k < ts.length
      · have hki : (k : Int) < (ts.length : Int) := by omega
        have HCl := Lib.hid (Clone_any tb t1 ts.length f ts wr (HT.out.below HBW.out) rfl (by omega) (by omega))
        go_wp2_with fail
        refine HCl.out.mono ?_
        rintro e x1 ⟨cv, rfl, hown, hb1⟩
        obtain ⟨g1, cap1, rfl, hg1, hg1'⟩ := hown.form (by omega)
        obtain ⟨o0, f0⟩ := own_row hown (k := k) (by omega)
        have HO1 := Lib.hid hown
        have HXB := Lib.hid hb1
        have hbnd := HIN.out.2 k (by have := HLEN.out; omega)
        have hok := HOK.out.lot k (by have := HLEN.out; omega)
        have wd : IntKind.i64.wrap (gi ts k - 1) = gi ts k - 1 := IntWalk.i64_in _ (by omega)
        clear hown hb1 hbnd hok
        go_upto_region 8 with (fail)
        have HO2 := Lib.hid (HO1.out.set k (gi ts k - 1)).1
        have HX2 := Lib.hid (show Below wr.heap.size wr (x1.setCell ⟨g1, k, none⟩ (.int .i64 (gi ts k - 1))) from HXB.out.setCell hg1 _)
        generalize x1.setCell ⟨g1, k, none⟩ (.int .i64 (gi ts k - 1)) = X2 at *
        obtain ⟨DA, dc, hde, hdi, _, _⟩ := HO2.out.ints
        simp only [List.length_set, Value.slice.injEq] at hde
        obtain ⟨rfl, _, rfl⟩ := hde
        have HDI : Hid (IntsAt X2 (some ⟨g1, 0, none⟩) (dec ts k)) := Lib.hid hdi
        have HB2 := Lib.hid (btr HBW.out HX2.out)
        obtain ⟨a0, a1, a2⟩ := box3 (boxN HXW.out HX2.out)
        have HFi : Hid (Calls Tryd.prog 25 #[pv A c B d p, .slice (some ⟨g1, 0, none⟩) ts.length cap1] X2 fun e w' => e = .returned (.bool (enough p (dec ts k))) ∧ Below X2.heap.size X2 w') := Lib.hid (by
          have := Fits_any A c B d p (some ⟨g1, 0, none⟩) cap1 (dec ts k) ea X2 (HL.out.below HB2.out) (HC.out.below HB2.out) HDI.out (HS.out.below HB2.out)
          rw [show (dec ts k).length = ts.length by simp [dec]] at this
          exact this)
        clear hdi o0 f0
        have hstep : swapF p ts (ts.length - k) = if enough p (dec ts k) then some (dec ts k) else swapF p ts (ts.length - (k + 1)) := by
          rw [show ts.length - k = (ts.length - (k + 1)) + 1 by omega]
          conv => lhs; unfold swapF
          rw [show ts.length - (ts.length - (k + 1) + 1) = k by omega]
        have HST := Lib.hid hstep
        clear hstep
        go_wp2_with fail
        refine HFi.out.mono ?_
        rintro e X3 ⟨rfl, hb3⟩
        have HB3 := Lib.hid (btr HB2.out hb3)
        have HDI3 := Lib.hid (HDI.out.below hb3)
        have HB4 := Lib.hid (btr HB1W.out (btr HX2.out hb3))
        clear hb3 a0 a1 a2
        cases he2 : enough p (dec ts k)
        · have HE2 := Lib.hid he2
          clear he2
          go_wp2_with fail
          go_roundw
          case rel => exact ⟨k + 1, by omega, by go_num, HB4.out, by rw [HSW.out, HST.out, HE2.out]; rfl⟩
          case measure => simp only [intOf]; omega
        · have HE2 := Lib.hid he2
          clear he2
          go_wp2_with fail
          go_ret2
          rw [HSP.out, HSW.out, HST.out, HE2.out]
          exact gives_some HB3.out g1 cap1 ts.length (by simp [dec]) rfl HDI3.out (by have := HBW.out.size; omega)
      · have hkn : k = ts.length := by omega
        subst hkn
        go_wp2_with fail
        go_ret2
        rw [HSP.out, HSW.out, show ts.length - ts.length = 0 by omega]
        exact gives_none HBW.out rfl

end Go.Proofs.YtjaegolanbjgfaaDoor
