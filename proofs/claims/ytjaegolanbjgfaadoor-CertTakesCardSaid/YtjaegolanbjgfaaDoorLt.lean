import Derived.Deep.RegionLaw
import Derived.LaidEql
import Derived.Test.YtjaegolanbjgfaaDoorCk
import Derived.Test.YtjaegolanbjgfaaDoorEs
import Derived.WalkKit
import Derived.WalkSpells
import Derived.WalkLawsBesides
import Derived.Lib.Hide
import Derived.Deep.DeepCutAuto
import Derived.Deep.LoopGhost
import Derived.Deep.QuietTactic
import Derived.BigQuiet
import Derived.Deep.OwnRows
import Derived.StillTailTactics
import Derived.IntWalk
import Derived.Laws.BitsLemmas
import Derived.Laws.MathBits
import Derived.Laws.Bits64
import Derived.Deep.RegionHeld3
import Derived.BigRegion
import Derived.Lib.SliceRun
import Derived.Deep.AppendLies
set_option linter.unusedVariables false
set_option linter.unusedSimpArgs false
namespace Go.Proofs.YtjaegolanbjgfaaDoor
open Go.RowKit
set_option maxRecDepth 100000 in
set_option maxHeartbeats 4000000 in
theorem CertTakes_any (A : Option Addr) (c : Nat) (B : Option Addr) (d : Nat) (p : Prob) (bud0 : Int) (ea : Nat → Addr) (w : World) (hL : LotsAt w A p.lots) (hC : IntsAt w B p.caps) (hs : Errs ea w) :
    Calls Tryd.prog 9 #[pv A c B d p, .int .i64 bud0] w fun e w' => e = .returned (.bool true) ∧ Below w.heap.size w w' := by
  have HB0 := Lib.hid (bal (Below.refl w.heap.size w) (.cells #[.slice A p.lots.length c, .slice B p.caps.length d, .int .i64 p.need] 25))
  have HX0 := Lib.hid (heap_alloc_new w (.cells #[.slice A p.lots.length c, .slice B p.caps.length d, .int .i64 p.need] 25))
  have HL := Lib.hid hL
  have HCC := Lib.hid hC
  have HE := Lib.hid hs
  have HS := Lib.hid hs.s3
  clear hL hC hs
  go_enter Tryd.func9, Tryd.ntmps9
  go_wp2_with fail
  refine (firstC_any ea _ (HS.out.below HB0.out)).mono ?_
  rintro e w1 ⟨rfl, hb1⟩
  have HB1 := Lib.hid (btr HB0.out hb1)
  have HX1 := Lib.hid (boxN HX0.out hb1)
  obtain ⟨a0, a1, a2⟩ := box3 HX1.out
  clear hb1 HX0
  go_wp2_with fail
  refine (valid_any A c B d p ea _ (HL.out.below HB1.out) (HCC.out.below HB1.out) (HS.out.below HB1.out)).mono ?_
  rintro e w2 ⟨rfl, hb2⟩
  have HB2 := Lib.hid (btr HB1.out hb2)
  have HX2 := Lib.hid (boxN HX1.out hb2)
  clear hb2 HX1 a0 a1 a2
  rcases hv : valid p with _ | k
  · rw [errV]
    have hok := ok_of_valid hv
    have HOK := Lib.hid hok
    have hm1 := hok.n8
    have hm0 := hok.n0
    clear hv hok
    obtain ⟨a0, a1, a2⟩ := box3 HX2.out
    have hlw := (Array.getElem?_eq_some_iff.1 HX2.out).1
    have hne1 : ¬ w2.heap.size = w.heap.size := by omega
    have hne2 : ¬ w.heap.size = w2.heap.size := by omega
    clear hlw
    have b0 := Int.emod_nonneg bud0 (show (2000 : Int) ≠ 0 by decide)
    have b1 := Int.emod_lt_of_pos bud0 (show (0 : Int) < 2000 by decide)
    have HN := Lib.hid fun W => Number_any bud0 2000 W (by omega) (by omega)
    generalize bud0 % 2000 = bud at *
    have hlaw := takes_law HOK.out b0 (show bud ≤ 100000 by omega)
    have HBe := Lib.hid fun W h => Best_any A c B d p bud ea W (HL.out.below h) (HCC.out.below h) (HS.out.below h)
    go_wp2_with fail
    rcases hlaw.either with he | he
    ·
      have HNO := Lib.hid he
      clear hlaw he
      go_cut [6, 7] (fun s e w' => (∃ R : Nat, s = .pointer (some ⟨R, 0, none⟩)) ∧ e = .iface 130 (.pointer (some (ea 1))) ∧ Below w2.heap.size w2 w')
      case first =>
        go_region_held3 (fun w' => w'.cell? ⟨w.heap.size, 0, none⟩ = some (.slice A p.lots.length c) ∧ w'.cell? ⟨w.heap.size, 1, none⟩ = some (.slice B p.caps.length d) ∧ w'.cell? ⟨w.heap.size, 2, none⟩ = some (.int .i64 p.need)) (go_keep)
          (first
            | (go_at_call 22; go_must (refine (HN.out _).mono ?_); rintro e w3 ⟨rfl, rfl⟩)
            | (go_at_call 15
               go_must (first | refine (HBe.out _ HB2.out.drew).mono ?_ | refine (HBe.out _ (bal HB2.out (.cells #[.slice none 0 0, .int .i64 0, .int .i64 0, .bool false, .int .i64 0] 34)).drew).mono ?_)
               rintro e w4 ⟨hb4, he4⟩
               rw [HNO.out] at he4
               simp only at he4
               subst he4
               unfold resV
               have hbw : Below w2.heap.size w2 w4 := (by first | exact btr (Below.refl w2.heap.size w2).drew hb4 | exact btr (bal (Below.refl w2.heap.size w2) (.cells #[.slice none 0 0, .int .i64 0, .int .i64 0, .bool false, .int .i64 0] 34)).drew hb4)
               have d0 := cellB hbw a0
               have d1 := cellB hbw a1
               have d2 := cellB hbw a2
               have HBW := Lib.hid hbw
               try (have hy : w4.heap[w2.heap.size]? = some (.cells #[.slice none 0 0, .int .i64 0, .int .i64 0, .bool false, .int .i64 0] 34 (0, 0)) := boxN (w := (w2.alloc (.cells #[.slice none 0 0, .int .i64 0, .int .i64 0, .bool false, .int .i64 0] 34)).drew) (heap_alloc_new w2 _) hb4
                    obtain ⟨y0, y1, y2, y3, y4⟩ := box5 hy
                    have f0 := frz hy 0
                    have f1 := frz hy 1
                    have f2 := frz hy 2
                    have f3 := frz hy 3
                    have f4 := frz hy 4
                    have HY := Lib.hid hy
                    clear hy)
               clear hb4 hbw))
        all_goals
          go_wp2_with fail
          go_meet
        all_goals
          first
            | (have hy := HY.out; exact ⟨⟨_, rfl⟩, rfl, bel5 HBW.out (Nat.le_refl _) _ _ _ _ _⟩)
            | exact ⟨⟨_, rfl⟩, rfl, bal HBW.out _⟩
      case rest =>
        obtain ⟨⟨R, rfl⟩, rfl, hb⟩ := hcut
        have HB3 := Lib.hid (btr HB2.out hb)
        clear a0 a1 a2 hb HBe HN
        have HI : Hid (∀ W, Below w.heap.size w W → Calls Tryd.prog 16 #[.iface 130 (.pointer (some (ea 1))), .int .i64 121] W fun e w' => e = .returned (.bool true) ∧ Below W.heap.size W w') := Lib.hid fun W h => Is_any ea (some 1) (fun g e => by cases e; decide) 121 W (HE.out.below h)
        go_wp2_with fail
        refine (HI.out _ HB3.out).mono ?_
        rintro e w4 ⟨rfl, hb4⟩
        have HB4 := Lib.hid (btr HB3.out hb4)
        clear hb4
        go_wp2_with fail
        go_ret
        exact ⟨rfl, HB4.out⟩
    · obtain ⟨hin, hnd, hle, hsw⟩ := hlaw.yes he
      have HNO := Lib.hid he
      have HIN := Lib.hid hin
      have HND := Lib.hid hnd
      have HLE := Lib.hid hle
      have HSWL := Lib.hid hsw
      clear hlaw he hin hnd hle hsw
      go_cut [6, 7] (fun s e w' => ∃ R g cap : Nat, s = .pointer (some ⟨R, 0, none⟩) ∧ e = .nilIface ∧ Below w2.heap.size w2 w' ∧ w'.heap[R]? = some (.cells #[.slice (some ⟨g, 0, none⟩) p.lots.length cap, .int .i64 (worthP p (takeB p bud)), .int .i64 (costP p (takeB p bud)), .bool (srch p bud).2, .int .i64 (srch p bud).1.looked] 34 (0, 0)) ∧ IntsAt w' (some ⟨g, 0, none⟩) (takeB p bud))
      case first =>
        go_region_held3 (fun w' => w'.cell? ⟨w.heap.size, 0, none⟩ = some (.slice A p.lots.length c) ∧ w'.cell? ⟨w.heap.size, 1, none⟩ = some (.slice B p.caps.length d) ∧ w'.cell? ⟨w.heap.size, 2, none⟩ = some (.int .i64 p.need)) (go_keep)
          (first
            | (go_at_call 22; go_must (refine (HN.out _).mono ?_); rintro e w3 ⟨rfl, rfl⟩)
            | (go_at_call 15
               go_must (first | refine (HBe.out _ HB2.out.drew).mono ?_ | refine (HBe.out _ (bal HB2.out (.cells #[.slice none 0 0, .int .i64 0, .int .i64 0, .bool false, .int .i64 0] 34)).drew).mono ?_)
               rintro e w4 ⟨hb4, he4⟩
               rw [HNO.out] at he4
               simp only at he4
               obtain ⟨g, cap, rfl, hi, hg, hcap⟩ := he4
               unfold resV
               rw [costV_in HOK.out HIN.out, worthV_in HOK.out HIN.out]
               have hbw : Below w2.heap.size w2 w4 := (by first | exact btr (Below.refl w2.heap.size w2).drew hb4 | exact btr (bal (Below.refl w2.heap.size w2) (.cells #[.slice none 0 0, .int .i64 0, .int .i64 0, .bool false, .int .i64 0] 34)).drew hb4)
               have d0 := cellB hbw a0
               have d1 := cellB hbw a1
               have d2 := cellB hbw a2
               have HBW := Lib.hid hbw
               have HI := Lib.hid hi
               try (have hgl : w2.heap.size < g := (by have : w2.heap.size + 1 ≤ g := (by simpa using hg); omega))
               try (have hy : w4.heap[w2.heap.size]? = some (.cells #[.slice none 0 0, .int .i64 0, .int .i64 0, .bool false, .int .i64 0] 34 (0, 0)) := boxN (w := (w2.alloc (.cells #[.slice none 0 0, .int .i64 0, .int .i64 0, .bool false, .int .i64 0] 34)).drew) (heap_alloc_new w2 _) hb4
                    obtain ⟨y0, y1, y2, y3, y4⟩ := box5 hy
                    have f0 := frz hy 0
                    have f1 := frz hy 1
                    have f2 := frz hy 2
                    have f3 := frz hy 3
                    have f4 := frz hy 4
                    have HY := Lib.hid hy
                    clear hy)
               clear hb4 hbw hi hg hcap))
        all_goals
          go_wp2_with fail
          go_meet
        all_goals
          first
            | (have hy := HY.out; exact ⟨_, _, _, rfl, rfl, bel5 HBW.out (Nat.le_refl _) _ _ _ _ _, fin5 hy _ _ _ _ _, ints5 HI.out (by omega) _ _ _ _ _⟩)
            | exact ⟨_, _, _, rfl, rfl, bal HBW.out _, heap_alloc_new _ _, HI.out.below (bal (Below.refl _ _) _)⟩
      case rest =>
        obtain ⟨R, g, cap, rfl, rfl, hb, hr, hi⟩ := hcut
        have HB3 := Lib.hid (btr HB2.out hb)
        have HX3 := Lib.hid (boxN HX2.out hb)
        have HR3 := Lib.hid hr
        have HI3 := Lib.hid hi
        clear a0 a1 a2 hb hr hi HBe HN
        obtain ⟨a0, a1, a2⟩ := box3 HX3.out
        obtain ⟨r0, r1, r2, r3, r4⟩ := box5 HR3.out
        have HG : Hid (∀ W, Below w.heap.size w W → IntsAt W (some ⟨g, 0, none⟩) (takeB p bud) → Calls Tryd.prog 28 #[pv A c B d p, .agg #[.slice (some ⟨g, 0, none⟩) p.lots.length cap, .int .i64 (worthP p (takeB p bud)), .int .i64 (costP p (takeB p bud)), .bool (srch p bud).2, .int .i64 (srch p bud).1.looked]] W fun e w' => (∃ g, 0 ≤ g ∧ e = .returned (.tuple #[.int .i64 g, .nilIface])) ∧ Below W.heap.size W w') := Lib.hid fun W h h' => by
          have := Gap_ok A c B d p (some ⟨g, 0, none⟩) cap (takeB p bud) (srch p bud).2 (srch p bud).1.looked ea W (HL.out.below h) (HCC.out.below h) h' (HS.out.below h) HOK.out HIN.out HND.out
          rw [HIN.out.1] at this
          exact this
        have HK : Hid (∀ W, Below w.heap.size w W → IntsAt W (some ⟨g, 0, none⟩) (takeB p bud) → Calls Tryd.prog 30 #[pv A c B d p, .agg #[.slice (some ⟨g, 0, none⟩) p.lots.length cap, .int .i64 (worthP p (takeB p bud)), .int .i64 (costP p (takeB p bud)), .bool (srch p bud).2, .int .i64 (srch p bud).1.looked]] W fun e w' => e = .returned .nilIface ∧ Below W.heap.size W w') := Lib.hid fun W h h' => by
          have := Check_ok A c B d p (some ⟨g, 0, none⟩) cap (takeB p bud) (srch p bud).2 (srch p bud).1.looked ea W (HL.out.below h) (HCC.out.below h) h' (HS.out.below h) HOK.out HIN.out HND.out
          rw [HIN.out.1] at this
          exact this
        have HLe : Hid (∀ W, Below w.heap.size w W → Calls Tryd.prog 29 #[pv A c B d p, .int .i64 0, .int .i64 p.need] W fun e w' => e = .returned (.tuple #[.int .i64 (leastV p 0 p.need), .bool (leastB p 0 p.need)]) ∧ Below W.heap.size W w') := Lib.hid fun W h => by
          have := Least_any A c B d p ea W (HL.out.below h) (HCC.out.below h) (HS.out.below h) HOK.out 0 (by omega) p.need HOK.out.need1
          simpa using this
        have HSw : Hid (∀ W, Below w.heap.size w W → IntsAt W (some ⟨g, 0, none⟩) (takeB p bud) → Calls Tryd.prog 31 #[pv A c B d p, .slice (some ⟨g, 0, none⟩) p.lots.length cap] W (GivesSwap (swapP p (takeB p bud)) W)) := Lib.hid fun W h h' => by
          have := Swap_any A c B d p (some ⟨g, 0, none⟩) cap (takeB p bud) ea W (HL.out.below h) (HCC.out.below h) h' (HS.out.below h)
          rw [HIN.out.1] at this
          exact this
        go_wp2_with fail
        refine (HG.out _ HB3.out HI3.out).mono ?_
        rintro e w4 ⟨⟨gp, hgp, rfl⟩, hb4⟩
        have HB4 := Lib.hid (btr HB3.out hb4)
        have HX4 := Lib.hid (boxN HX3.out hb4)
        have HR4 := Lib.hid (boxN HR3.out hb4)
        have HI4 := Lib.hid (HI3.out.below hb4)
        clear a0 a1 a2 r0 r1 r2 r3 r4 hb4 HG HX3 HR3 HI3
        obtain ⟨a0, a1, a2⟩ := box3 HX4.out
        obtain ⟨r0, r1, r2, r3, r4⟩ := box5 HR4.out
        have hgn : ¬ gp < 0 := by omega
        go_wp2_with fail
        refine (HLe.out _ HB4.out).mono ?_
        rintro e w5 ⟨rfl, hb5⟩
        have HB5 := Lib.hid (btr HB4.out hb5)
        have HX5 := Lib.hid (boxN HX4.out hb5)
        have HR5 := Lib.hid (boxN HR4.out hb5)
        have HI5 := Lib.hid (HI4.out.below hb5)
        clear a0 a1 a2 r0 r1 r2 r3 r4 hb5 HLe HX4 HR4 HI4
        obtain ⟨a0, a1, a2⟩ := box3 HX5.out
        obtain ⟨r0, r1, r2, r3, r4⟩ := box5 HR5.out
        go_wp2_with fail
        refine (HK.out _ HB5.out HI5.out).mono ?_
        rintro e w6 ⟨rfl, hb6⟩
        have HB6 := Lib.hid (btr HB5.out hb6)
        have HX6 := Lib.hid (boxN HX5.out hb6)
        have HR6 := Lib.hid (boxN HR5.out hb6)
        have HI6 := Lib.hid (HI5.out.below hb6)
        clear a0 a1 a2 r0 r1 r2 r3 r4 hb6 HK HX5 HR5 HI5
        obtain ⟨a0, a1, a2⟩ := box3 HX6.out
        obtain ⟨r0, r1, r2, r3, r4⟩ := box5 HR6.out
        have hle := HLE.out
        cases hlb : leastB p 0 p.need
        all_goals
          rw [hlb] at hle
          try (have hll : ¬ costP p (takeB p bud) < leastV p 0 p.need := by have := hle rfl; omega)
          clear hle
          go_wp2_with fail
        all_goals
          refine (HSw.out _ HB6.out HI6.out).mono ?_
          rintro e w7 ⟨hb7, he7⟩
          have HB7 := Lib.hid (btr HB6.out hb7)
          have HX7 := Lib.hid (boxN HX6.out hb7)
          have HR7 := Lib.hid (boxN HR6.out hb7)
          clear a0 a1 a2 r0 r1 r2 r3 r4 hb7 HSw HX6 HR6 HI6
          obtain ⟨a0, a1, a2⟩ := box3 HX7.out
          obtain ⟨r0, r1, r2, r3, r4⟩ := box5 HR7.out
          rcases hsp : swapP p (takeB p bud) with _ | x
          · rw [hsp] at he7
            simp only at he7
            subst he7
            clear hsp
            go_wp2_with fail
            go_ret
            exact ⟨rfl, HB7.out⟩
          · rw [hsp] at he7
            simp only at he7
            obtain ⟨gx, cx, rfl, hix, _⟩ := he7
            obtain ⟨xi, xe, xc, xs⟩ := HSWL.out x hsp
            have HIX := Lib.hid hix
            have HXI := Lib.hid xi
            have HXE := Lib.hid xe
            rw [xi.1]
            have HCo : Hid (∀ W, Below w.heap.size w W → IntsAt W (some ⟨gx, 0, none⟩) x → Calls Tryd.prog 26 #[pv A c B d p, .slice (some ⟨gx, 0, none⟩) p.lots.length cx] W fun e w' => e = .returned (.tuple #[.int .i64 (costP p x), .bool true]) ∧ Below W.heap.size W w') := Lib.hid fun W h h' => by
              have := Cost_any A c B d p (some ⟨gx, 0, none⟩) cx x ea W (HL.out.below h) (HCC.out.below h) h' (HS.out.below h)
              rw [HXI.out.1, costV_in HOK.out HXI.out, fitsB_of HOK.out HXI.out] at this
              exact this
            have HFi : Hid (∀ W, Below w.heap.size w W → IntsAt W (some ⟨gx, 0, none⟩) x → Calls Tryd.prog 25 #[pv A c B d p, .slice (some ⟨gx, 0, none⟩) p.lots.length cx] W fun e w' => e = .returned (.bool true) ∧ Below W.heap.size W w') := Lib.hid fun W h h' => by
              have := Fits_any A c B d p (some ⟨gx, 0, none⟩) cx x ea W (HL.out.below h) (HCC.out.below h) h' (HS.out.below h)
              rw [HXI.out.1, HXE.out] at this
              exact this
            have HXS := Lib.hid xs
            clear hsp hix xi xe xs
            go_wp2_with fail
            refine (HCo.out _ HB7.out HIX.out).mono ?_
            rintro e w8 ⟨rfl, hb8⟩
            have HB8 := Lib.hid (btr HB7.out hb8)
            have HX8 := Lib.hid (boxN HX7.out hb8)
            have HR8 := Lib.hid (boxN HR7.out hb8)
            have HI8 := Lib.hid (HIX.out.below hb8)
            clear a0 a1 a2 r0 r1 r2 r3 r4 hb8 HCo HX7 HR7 HIX
            obtain ⟨a0, a1, a2⟩ := box3 HX8.out
            obtain ⟨r0, r1, r2, r3, r4⟩ := box5 HR8.out
            go_wp2_with fail
            refine (HFi.out _ HB8.out HI8.out).mono ?_
            rintro e w9 ⟨rfl, hb9⟩
            have HB9 := Lib.hid (btr HB8.out hb9)
            have HR9 := Lib.hid (boxN HR8.out hb9)
            clear a0 a1 a2 r0 r1 r2 r3 r4 hb9 HFi HX8 HR8 HI8
            obtain ⟨r0, r1, r2, r3, r4⟩ := box5 HR9.out
            have hxs := HXS.out
            have hxc : ¬ costP p (takeB p bud) < costP p x := by omega
            cases hsu : (srch p bud).2
            · rw [hsu] at r3
              clear hsu hxs HXS
              go_wp2_with fail
              go_ret
              exact ⟨ret_bool (by simp; try omega), HB9.out⟩
            · rw [hsu] at r3
              have hee := hxs hsu
              rw [hee]
              clear hsu hxs HXS xc hxc
              go_wp2_with fail
              go_ret
              exact ⟨ret_bool (by simp; try omega), HB9.out⟩
  · rw [errV]
    clear hv
    obtain ⟨a0, a1, a2⟩ := box3 HX2.out
    go_wp2_with fail
    go_ret
    exact ⟨rfl, HB2.out⟩

end Go.Proofs.YtjaegolanbjgfaaDoor
