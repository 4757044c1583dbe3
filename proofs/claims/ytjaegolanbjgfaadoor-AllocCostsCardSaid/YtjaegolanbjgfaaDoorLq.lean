import Derived.Deep.RegionLaw
import Derived.LaidEql
import Derived.Test.YtjaegolanbjgfaaDoorMq
import Derived.Test.YtjaegolanbjgfaaDoorEs
import Derived.Test.YtjaegolanbjgfaaDoorAp
import Derived.WalkKit
import Derived.WalkSpells
import Derived.WalkLawsBesides
import Derived.Lib.Hide
import Derived.Deep.DeepCutAuto
import Derived.Deep.LoopGhost
import Derived.Deep.QuietTactic
import Derived.BigQuiet
import Derived.Deep.OwnRows
import Derived.StillTailTactics
import Derived.IntWalk
import Derived.Laws.BitsLemmas
import Derived.Laws.MathBits
import Derived.Laws.Bits64
import Derived.Deep.RegionHeld3
import Derived.BigRegion
import Derived.Lib.SliceRun
import Derived.Deep.AppendLies
set_option linter.unusedVariables false
set_option linter.unusedSimpArgs false
namespace Go.Proofs.YtjaegolanbjgfaaDoor
open Go.RowKit
set_option maxRecDepth 100000 in
set_option maxHeartbeats 4000000 in
theorem AllocCosts_any (A : Option Addr) (c : Nat) (B : Option Addr) (d : Nat) (p : Prob) (C : Option Addr) (cc : Nat) (ts : List Int) (more0 : Int) (ea : Nat → Addr) (w : World) (hL : LotsAt w A p.lots) (hC : IntsAt w B p.caps) (hT : IntsAt w C ts) (hs : Errs ea w) :
    Calls Tryd.prog 8 #[pv A c B d p, .slice C ts.length cc, .int .i64 more0] w fun e w' => e = .returned (.bool true) ∧ Below w.heap.size w w' := by
  have HB0 := Lib.hid (bal (Below.refl w.heap.size w) (.cells #[.slice A p.lots.length c, .slice B p.caps.length d, .int .i64 p.need] 25))
  have HX0 := Lib.hid (heap_alloc_new w (.cells #[.slice A p.lots.length c, .slice B p.caps.length d, .int .i64 p.need] 25))
  have HL := Lib.hid hL
  have HCC := Lib.hid hC
  have HTT := Lib.hid hT
  have HE := Lib.hid hs
  have HS := Lib.hid hs.s3
  have htl := hT.1
  clear hL hC hs hT
  go_enter Tryd.func8, Tryd.ntmps8
  go_wp2_with fail
  refine (first_any ea _ (HS.out.below HB0.out)).mono ?_
  rintro e w1 ⟨rfl, hb1⟩
  have HB1 := Lib.hid (btr HB0.out hb1)
  have HX1 := Lib.hid (boxN HX0.out hb1)
  obtain ⟨a0, a1, a2⟩ := box3 HX1.out
  clear hb1 HX0
  go_wp2_with fail
  refine (valid_any A c B d p ea _ (HL.out.below HB1.out) (HCC.out.below HB1.out) (HS.out.below HB1.out)).mono ?_
  rintro e w2 ⟨rfl, hb2⟩
  have HB2 := Lib.hid (btr HB1.out hb2)
  have HX2 := Lib.hid (boxN HX1.out hb2)
  clear hb2 HX1 a0 a1 a2
  rcases hv : valid p with _ | k
  · rw [errV]
    have HVN := Lib.hid hv
    have hok := ok_of_valid hv
    have HOK := Lib.hid hok
    have hm1 := hok.n8
    have hm0 := hok.n0
    clear hv hok
    obtain ⟨a0, a1, a2⟩ := box3 HX2.out
    by_cases h20 : ts.length ≤ 20
    · have h6' : decide ((20 : Int) < (ts.length : Int)) = false := by simp; omega
      go_wp2_with fail
      go_loopw [8] (fun i w' => ∃ k : Nat, k ≤ p.lots.length ∧ i = .int .i64 k ∧ w' = w2) (fun i _ => p.lots.length - (intOf i).toNat)
      case atStart => exact ⟨0, Nat.zero_le _, rfl, rfl⟩
      case round =>
        obtain ⟨k, hk, rfl, rfl⟩ := hrel
        by_cases hlt : k < p.lots.length
        · obtain ⟨b, o, rfl, u0, u1, u2, u3⟩ := (HL.out.below HB2.out).get (k := k) hlt
          have hki : (k : Int) < (p.lots.length : Int) := by omega
          have hl := HOK.out.lot k hlt
          by_cases hU : 12 < (gl p.lots k).u
          · go_wp2_with fail
            go_ret
            exact ⟨rfl, HB2.out⟩
          · have hU' : ¬ (12 : Int) < (gl p.lots k).u := hU
            go_wp2_with fail
            go_roundw
            case rel => exact ⟨k + 1, by omega, by go_num, trivial⟩
            case measure => simp only [intOf]; omega
        · have hkn : k = p.lots.length := by omega
          subst hkn
          go_wp2_with fail
          refine (Best_any A c B d p 4000 ea _ (HL.out.below HB2.out) (HCC.out.below HB2.out) (HS.out.below HB2.out)).mono ?_
          rintro e w4 ⟨hb4, he4⟩
          have hlaw := costs_law HOK.out
          have HB4 := Lib.hid (btr HB2.out hb4)
          have HX4 := Lib.hid (boxN HX2.out hb4)
          clear hb4 HX2 a0 a1 a2
          rcases hlaw.either with he | he
          · rw [he] at he4
            simp only at he4
            subst he4
            have hmost := hlaw.no he
            unfold resV
            have hbr := bal (Below.refl w4.heap.size w4) (.cells #[.slice none 0 0, .int .i64 0, .int .i64 0, .bool false, .int .i64 0] 34)
            have HB5 := Lib.hid (btr HB4.out hbr)
            have HX5 := Lib.hid (boxN HX4.out hbr)
            obtain ⟨a0, a1, a2⟩ := box3 HX5.out
            have HI : Hid (∀ W, Below w.heap.size w W → Calls Tryd.prog 16 #[.iface 130 (.pointer (some (ea 1))), .int .i64 121] W fun e w' => e = .returned (.bool true) ∧ Below W.heap.size W w') := Lib.hid fun W h => Is_any ea (some 1) (fun g e => by cases e; decide) 121 W (HE.out.below h)
            have HM := Lib.hid fun W h => Most_any A c B d p ea W (HL.out.below h) (HCC.out.below h) (HS.out.below h) hm1
            have HP5 := Lib.hid (show Below w4.heap.size w4 (w4.alloc (.cells #[.slice none 0 0, .int .i64 0, .int .i64 0, .bool false, .int .i64 0] 34)).drew from hbr.drew)
            clear hbr hlaw he
            go_wp2_with fail
            go_region_held3 (fun w' => w'.cell? ⟨w.heap.size, 0, none⟩ = some (.slice A p.lots.length c) ∧ w'.cell? ⟨w.heap.size, 1, none⟩ = some (.slice B p.caps.length d) ∧ w'.cell? ⟨w.heap.size, 2, none⟩ = some (.int .i64 p.need)) (go_keep)
              (first
                | (go_at_call 16; go_must (refine (HI.out _ (btr HB4.out HP5.out)).mono ?_); rintro e w6 ⟨rfl, hb6⟩; have d0 := cellB hb6 (cellB HP5.out (box3 HX4.out).1); have d1 := cellB hb6 (cellB HP5.out (box3 HX4.out).2.1); have d2 := cellB hb6 (cellB HP5.out (box3 HX4.out).2.2); have HB6 := Lib.hid (btr (btr HB4.out HP5.out) hb6); clear hb6)
                | (go_at_call 24; go_must (refine (HM.out _ HB6.out).mono ?_); rintro e w7 ⟨rfl, hb7⟩; have d0' := cellB hb7 d0; have d1' := cellB hb7 d1; have d2' := cellB hb7 d2; have HB7 := Lib.hid (btr HB6.out hb7); clear hb7))
            all_goals
              go_wp2_with fail
              go_ret
              exact ⟨ret_bool (by simp; try omega), HB7.out⟩
          · rw [he] at he4
            simp only at he4
            obtain ⟨g4, c4, rfl, hi4, hg4, hc4⟩ := he4
            obtain ⟨hen, hin, hlaw2⟩ := hlaw.yes he
            unfold resV
            rw [costV_in HOK.out hin]
            have hbr := bal (Below.refl w4.heap.size w4) (.cells #[.slice (some ⟨g4, 0, none⟩) p.lots.length c4, .int .i64 (worthV p (takeB p 4000)), .int .i64 (costP p (takeB p 4000)), .bool (srch p 4000).2, .int .i64 (srch p 4000).1.looked] 34)
            have hnr := heap_alloc_new w4 (.cells #[.slice (some ⟨g4, 0, none⟩) p.lots.length c4, .int .i64 (worthV p (takeB p 4000)), .int .i64 (costP p (takeB p 4000)), .bool (srch p 4000).2, .int .i64 (srch p 4000).1.looked] 34)
            have HB5 := Lib.hid (btr HB4.out hbr)
            have HX5 := Lib.hid (boxN HX4.out hbr)
            have HR5 := Lib.hid hnr
            have HI5 := Lib.hid (hi4.below hbr)
            have HLAW := Lib.hid hlaw2
            have HEN := Lib.hid hen
            have HIN := Lib.hid hin
            obtain ⟨a0, a1, a2⟩ := box3 HX5.out
            generalize worthV p (takeB p 4000) = wo at *
            generalize (srch p 4000).1.looked = lo at *
            have HFi : Hid (∀ W, Below w.heap.size w W → IntsAt W (some ⟨g4, 0, none⟩) (takeB p 4000) → Calls Tryd.prog 25 #[pv A c B d p, .slice (some ⟨g4, 0, none⟩) p.lots.length c4] W fun e w' => e = .returned (.bool true) ∧ Below W.heap.size W w') := Lib.hid fun W h h' => by
              have := Fits_any A c B d p (some ⟨g4, 0, none⟩) c4 (takeB p 4000) ea W (HL.out.below h) (HCC.out.below h) h' (HS.out.below h)
              rw [hin.1, hen] at this
              exact this
            obtain ⟨r0, r1, r2, r3, r4⟩ := box5 HR5.out
            clear hbr hnr hi4 hg4 hc4 hen hin hlaw2 hlaw he
            go_wp2_with fail
            refine (HFi.out _ HB5.out HI5.out).mono ?_
            rintro e w6 ⟨rfl, hb6⟩
            have HB6 := Lib.hid (btr HB5.out hb6)
            have HX6 := Lib.hid (boxN HX5.out hb6)
            have HR6 := Lib.hid (boxN HR5.out hb6)
            clear hb6 HFi a0 a1 a2 r0 r1 r2 r3 r4 HX5 HR5 HX4
            obtain ⟨a0, a1, a2⟩ := box3 HX6.out
            obtain ⟨r0, r1, r2, r3, r4⟩ := box5 HR6.out
            cases hsu : (srch p 4000).2
            · rw [hsu] at r3
              clear hsu HLAW
              go_wp2_with fail
              go_ret
              exact ⟨rfl, HB6.out⟩
            · rw [hsu] at r3
              obtain ⟨hmin, hmore⟩ := HLAW.out hsu
              have HMIN := Lib.hid hmin
              have HMORE := Lib.hid hmore
              rw [hsu] at HR6
              clear hsu HLAW hmin hmore
              go_wp2_with fail
              go_loopw [11, 12] (fun v i w' => ∃ k : Nat, k ≤ p.lots.length ∧ i = .int .i64 k ∧ Below w6.heap.size w6 w' ∧ Own w' w6.heap.size 3 v (pickT p.lots ts k)) (fun _ i _ => p.lots.length - (intOf i).toNat)
              case atStart => exact ⟨0, Nat.zero_le _, rfl, Below.refl _ _, Own.nil _ _ _⟩
              case round =>
                clear a0 a1 a2 r0 r1 r2 r3 r4
                obtain ⟨k, hk, rfl, hb, hown⟩ := hrel
                have HBW := Lib.hid hb
                have HO := Lib.hid hown
                have HX8 := Lib.hid (boxN HX6.out hb)
                have HR8 := Lib.hid (boxN HR6.out hb)
                have HBT := Lib.hid (btr HB6.out hb)
                obtain ⟨a0, a1, a2⟩ := box3 HX8.out
                clear hown hb
                by_cases hlt : k < p.lots.length
                · obtain ⟨b, o, rfl, u0, u1, u2, u3⟩ := (HL.out.below HBT.out).get (k := k) hlt
                  have hki : (k : Int) < (p.lots.length : Int) := by omega
                  have hl := HOK.out.lot k hlt
                  have hw1 : IntKind.i64.wrap ((gl p.lots k).u + 1) = (gl p.lots k).u + 1 := IntWalk.i64_in _ (by omega)
                  clear u1 u2 u3
                  by_cases hkt : k < ts.length
                  · obtain ⟨b2, o2, rfl, t0⟩ := (HTT.out.below HBT.out).get (k := k) hkt
                    have hkti : (k : Int) < (ts.length : Int) := by omega
                    have HN := Lib.hid fun W => Number_any (gi ts k) ((gl p.lots k).u + 1) W (by omega) (by omega)
                    have HEQ := Lib.hid (show pickN p.lots ts k = gi ts k % ((gl p.lots k).u + 1) by unfold pickN; rw [if_pos hkt])
                    go_wp2_with fail
                    go_region_held3 (fun w' => w'.cell? ⟨w.heap.size, 0, none⟩ = some (.slice (some ⟨b, o, none⟩) p.lots.length c) ∧ w'.cell? ⟨b, o + k * 4, none⟩ = some (.int .i64 (gl p.lots k).u) ∧ w'.cell? ⟨b2, o2 + k, none⟩ = some (.int .i64 (gi ts k))) (go_keep)
                      (first | (go_at_call 22; go_must (refine (HN.out _).mono ?_); rintro e w9 ⟨rfl, rfl⟩))
                    have HOD : Hid (Own wr.drew w6.heap.size 3 u11 (pickT p.lots ts k)) := HO
                    have hlp := pickT_len p.lots ts k
                    go_wp2_with (first | (at_builtin; go_must (refine app_ints (W := wr.drew) w6.heap.size rfl (.tmp 96) (.tmp 98) 32 3 rfl Tryd.underlying32 info3 u11 (pickT p.lots ts k) (gi ts k % ((gl p.lots k).u + 1)) wr.heap.size (by rfl) (by rfl) (by rfl) HOD.out ?c1 ?c2 ?_)))
                    case c1 => have := HBW.out.size; simp; omega
                    case c2 => rw [pickT_len]; omega
                    intro v1 x1 ho1 hg1
                    have hb1 := bgr HBW.out.drew HOD.out (Nat.le_refl _) hg1
                    have HO2 := Lib.hid ho1
                    clear hg1 ho1 u0
                    go_wp2_with fail
                    go_roundw
                    case rel => exact ⟨k + 1, by omega, by go_num, hb1, by rw [pickT_succ, HEQ.out]; exact HO2.out⟩
                    case measure => simp only [intOf]; omega
                  · have hkti : ¬ (k : Int) < (ts.length : Int) := by omega
                    have HEQ := Lib.hid (show pickN p.lots ts k = 0 by unfold pickN; rw [if_neg hkt])
                    go_wp2_with (first | (at_builtin; go_must (refine app_ints (W := wr) w6.heap.size rfl (.tmp 96) (.tmp 98) 32 3 rfl Tryd.underlying32 info3 u11 (pickT p.lots ts k) 0 wr.heap.size (by rfl) (by rfl) (by rfl) HO.out ?c1 ?c2 ?_)))
                    case c1 => have := HBW.out.size; simp; omega
                    case c2 => rw [pickT_len]; omega
                    intro v1 x1 ho1 hg1
                    have hb1 := bgr HBW.out HO.out (Nat.le_refl _) hg1
                    have HO2 := Lib.hid ho1
                    clear hg1 ho1 u0
                    go_wp2_with fail
                    go_roundw
                    case rel => exact ⟨k + 1, by omega, by go_num, hb1, by rw [pickT_succ, HEQ.out]; exact HO2.out⟩
                    case measure => simp only [intOf]; omega
                · have hkn : k = p.lots.length := by omega
                  subst hkn
                  obtain ⟨LA, lc, rfl, hli, hlc, hlb⟩ := HO.out.ints
                  have hpl := pickT_len p.lots ts p.lots.length
                  have hpin := pickT_in HOK.out ts
                  generalize pickT p.lots ts p.lots.length = ls at *
                  have HLI := Lib.hid hli
                  have HPL := Lib.hid hpl
                  have HPI := Lib.hid hpin
                  obtain ⟨r0, r1, r2, r3, r4⟩ := box5 HR8.out
                  have HCo : Hid (∀ W, Below w.heap.size w W → IntsAt W LA ls → Calls Tryd.prog 26 #[pv A c B d p, .slice LA p.lots.length lc] W fun e w' => e = .returned (.tuple #[.int .i64 (costP p ls), .bool true]) ∧ Below W.heap.size W w') := Lib.hid fun W h h' => by
                    have := Cost_any A c B d p LA lc ls ea W (HL.out.below h) (HCC.out.below h) h' (HS.out.below h)
                    rw [hpl, costV_in HOK.out hpin, fitsB_of HOK.out hpin] at this
                    exact this
                  have HFi : Hid (∀ W, Below w.heap.size w W → IntsAt W LA ls → Calls Tryd.prog 25 #[pv A c B d p, .slice LA p.lots.length lc] W fun e w' => e = .returned (.bool (enough p ls)) ∧ Below W.heap.size W w') := Lib.hid fun W h h' => by
                    have := Fits_any A c B d p LA lc ls ea W (HL.out.below h) (HCC.out.below h) h' (HS.out.below h)
                    rw [hpl] at this
                    exact this
                  clear hli hlc hlb hpl hpin HO
                  rw [HPL.out]
                  go_wp2_with fail
                  refine (HCo.out _ HBT.out HLI.out).mono ?_
                  rintro e x9 ⟨rfl, hb9⟩
                  have HB9 := Lib.hid (btr HBT.out hb9)
                  have HX9 := Lib.hid (boxN HX8.out hb9)
                  have HR9 := Lib.hid (boxN HR8.out hb9)
                  have HLI9 := Lib.hid (HLI.out.below hb9)
                  clear a0 a1 a2 r0 r1 r2 r3 r4 hb9 HCo HLI HX8 HR8
                  obtain ⟨a0, a1, a2⟩ := box3 HX9.out
                  obtain ⟨r0, r1, r2, r3, r4⟩ := box5 HR9.out
                  go_wp2_with fail
                  refine (HFi.out _ HB9.out HLI9.out).mono ?_
                  rintro e x10 ⟨rfl, hb10⟩
                  have HB10 := Lib.hid (btr HB9.out hb10)
                  have HX10 := Lib.hid (boxN HX9.out hb10)
                  have HR10 := Lib.hid (boxN HR9.out hb10)
                  have hcm : enough p ls = true → ¬ costP p ls < costP p (takeB p 4000) := fun h => by
                    have := HMIN.out ls HPI.out h
                    omega
                  clear a0 a1 a2 r0 r1 r2 r3 r4 hb10 HFi HX9 HR9 HLI9 HB9 HBT HBW
                  obtain ⟨a0, a1, a2⟩ := box3 HX10.out
                  obtain ⟨r0, r1, r2, r3, r4⟩ := box5 HR10.out
                  cases hee : enough p ls
                  all_goals
                    rw [hee] at hcm
                    try (have hcn := hcm rfl)
                    clear hcm
                    go_wp2_with fail
                  all_goals
                    have m0 := Int.emod_nonneg more0 (show (1000 : Int) ≠ 0 by decide)
                    have m1 := Int.emod_lt_of_pos more0 (show (0 : Int) < 1000 by decide)
                    have HNM := Lib.hid fun W => Number_any more0 1000 W (by omega) (by omega)
                    generalize more0 % 1000 = mm at *
                    have wm : IntKind.i64.wrap (p.need + mm) = p.need + mm := IntWalk.i64_in _ (by have := HOK.out.need0; have := HOK.out.need1; omega)
                    have hq0 := heap_alloc_new x10 (.cells #[.slice A p.lots.length c, .slice B p.caps.length d, .int .i64 p.need] 25)
                    have hbq := bal (Below.refl x10.heap.size x10) (.cells #[.slice A p.lots.length c, .slice B p.caps.length d, .int .i64 p.need] 25)
                    have hlw := World.block_lt_of_cell? x10 _ a0
                    generalize hW0 : x10.alloc (.cells #[.slice A p.lots.length c, .slice B p.caps.length d, .int .i64 p.need] 25) = W0 at *
                    clear hW0
                    have z2 := cellB hbq a2
                    obtain ⟨q0, q1, q2⟩ := box3 hq0
                    have fq2 := frz hq0 2
                    have hne1 : ¬ x10.heap.size = w.heap.size := by simp only at hlw; omega
                    have hne2 : ¬ w.heap.size = x10.heap.size := by simp only at hlw; omega
                    have HQ0 := Lib.hid hq0
                    have HBQ := Lib.hid hbq
                    clear hq0 hbq hlw a0 a1 a2
                    go_wp2_with fail
                    go_region_held3 (fun w' => w'.cell? ⟨w.heap.size, 2, none⟩ = some (.int .i64 p.need)) (first | go_keep | exact cell_far z2 hne1)
                      (first | (go_at_call 22; go_must (refine (HNM.out _).mono ?_); rintro e w9 ⟨rfl, rfl⟩))
                  all_goals
                    have HQ11 : Hid ((W0.setCell ⟨x10.heap.size, 2, none⟩ (.int .i64 (p.need + mm))).drew.heap[x10.heap.size]? = some (.cells #[.slice A p.lots.length c, .slice B p.caps.length d, .int .i64 (p.need + mm)] 25 (0, 0))) := Lib.hid ((heap_set HQ0.out (i := 2) (.int .i64 (p.need + mm))).trans (by simp))
                    have HB11 : Hid (Below x10.heap.size x10 (W0.setCell ⟨x10.heap.size, 2, none⟩ (.int .i64 (p.need + mm))).drew) := Lib.hid (HBQ.out.setCell (by simp) _).drew
                    generalize (W0.setCell ⟨x10.heap.size, 2, none⟩ (.int .i64 (p.need + mm))).drew = X11 at *
                    clear q0 q1 q2 fq2 z2 HQ0 HBQ r0 r1 r2 r3 r4 HNM
                    obtain ⟨q0, q1, q2⟩ := box3 HQ11.out
                    have HR11 := Lib.hid (boxN HR10.out HB11.out)
                    have HB12 := Lib.hid (btr HB10.out HB11.out)
                    obtain ⟨r0, r1, r2, r3, r4⟩ := box5 HR11.out
                    go_wp2_with fail
                    refine (Best_any A c B d (needP p (p.need + mm)) 4000 ea X11 (HL.out.below HB12.out) (HCC.out.below HB12.out) (HS.out.below HB12.out)).mono ?_
                    rintro e x12 ⟨hb12, he12⟩
                    have HB13 := Lib.hid (btr HB12.out hb12)
                    have HR12 := Lib.hid (boxN HR11.out hb12)
                    clear q0 q1 q2 r0 r1 r2 r3 r4 hb12
                    obtain ⟨r0, r1, r2, r3, r4⟩ := box5 HR12.out
                    have r2A := fun o => (World.cell?_alloc_lt x12 o _ (World.block_lt_of_cell? x12 _ r2)).trans r2
                    cases heq : errB (needP p (p.need + mm)) 4000 with
                    | some kk =>
                      rw [heq] at he12
                      simp only at he12
                      subst he12
                      unfold resV
                      clear heq
                      go_wp2_with fail
                      all_goals
                        go_ret
                        exact ⟨ret_bool (by simp; try omega), bal HB13.out _⟩
                    | none =>
                      rw [heq] at he12
                      simp only at he12
                      obtain ⟨g5, c5, rfl, _, _, _⟩ := he12
                      obtain ⟨i5, e5, l5⟩ := HMORE.out (p.need + mm) (by omega) heq
                      unfold resV
                      rw [e5]
                      generalize costP p (takeB (needP p (p.need + mm)) 4000) = cq at *
                      clear heq e5 i5
                      go_wp2_with fail
                      all_goals
                        go_ret
                        exact ⟨ret_bool (by simp; try omega), bal HB13.out _⟩
    · have h6' : ¬ (ts.length : Int) ≤ 20 := by omega
      go_wp2_with fail
      go_ret
      exact ⟨rfl, HB2.out⟩
  · rw [errV]
    clear hv
    obtain ⟨a0, a1, a2⟩ := box3 HX2.out
    go_wp2_with fail
    go_ret
    exact ⟨rfl, HB2.out⟩

end Go.Proofs.YtjaegolanbjgfaaDoor
