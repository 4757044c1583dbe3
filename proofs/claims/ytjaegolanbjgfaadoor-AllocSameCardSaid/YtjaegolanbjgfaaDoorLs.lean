import Derived.Deep.RegionLaw
import Derived.Test.YtjaegolanbjgfaaDoorLm
import Derived.Test.YtjaegolanbjgfaaDoorMp
import Derived.Test.YtjaegolanbjgfaaDoorSc
import Derived.WalkKit
import Derived.WalkSpells
import Derived.WalkLawsBesides
import Derived.Lib.Hide
import Derived.Deep.DeepCutAuto
import Derived.Deep.LoopGhost
import Derived.Deep.QuietTactic
import Derived.BigQuiet
import Derived.Deep.OwnRows
import Derived.StillTailTactics
import Derived.IntWalk
import Derived.Laws.BitsLemmas
import Derived.Laws.MathBits
import Derived.Laws.Bits64
import Derived.Deep.RegionHeld3
import Derived.BigRegion
import Derived.Lib.SliceRun
import Derived.Deep.AppendLies
set_option linter.unusedVariables false
set_option linter.unusedSimpArgs false
namespace Go.Proofs.YtjaegolanbjgfaaDoor
open Go.RowKit
set_option maxRecDepth 100000 in
set_option maxHeartbeats 4000000 in
theorem AllocSame_any (A : Option Addr) (c : Nat) (B : Option Addr) (d : Nat) (p : Prob) (by0 cost0 : Int) (ea : Nat → Addr) (w : World) (hL : LotsAt w A p.lots) (hC : IntsAt w B p.caps) (hs : Sent 3 ea w) (hAc : p.lots.length ≤ c) (hc63 : c ≤ 9223372036854775807) :
    Calls Tryd.prog 4 #[pv A c B d p, .int .i64 by0, .int .i64 cost0] w fun e w' => e = .returned (.bool true) ∧ Below w.heap.size w w' := by
  have HB0 := Lib.hid (bal (Below.refl w.heap.size w) (.cells #[.slice A p.lots.length c, .slice B p.caps.length d, .int .i64 p.need] 25))
  have HX0 := Lib.hid (heap_alloc_new w (.cells #[.slice A p.lots.length c, .slice B p.caps.length d, .int .i64 p.need] 25))
  have HL := Lib.hid hL
  have HCC := Lib.hid hC
  have HS := Lib.hid hs
  clear hL hC hs
  go_enter Tryd.func4, Tryd.ntmps4
  go_wp2_with fail
  refine (first_any ea _ (HS.out.below HB0.out)).mono ?_
  rintro e w1 ⟨rfl, hb1⟩
  have HB1 := Lib.hid (btr HB0.out hb1)
  have HX1 := Lib.hid (boxN HX0.out hb1)
  obtain ⟨a0, a1, a2⟩ := box3 HX1.out
  clear hb1 HX0
  go_wp2_with fail
  refine (valid_any A c B d p ea _ (HL.out.below HB1.out) (HCC.out.below HB1.out) (HS.out.below HB1.out)).mono ?_
  rintro e w2 ⟨rfl, hb2⟩
  have HB2 := Lib.hid (btr HB1.out hb2)
  have HX2 := Lib.hid (boxN HX1.out hb2)
  clear hb2 HX1 a0 a1 a2
  rcases hv : valid p with _ | k
  · rw [errV]
    have HVN := Lib.hid hv
    have hok := ok_of_valid hv
    have HOK := Lib.hid hok
    have hm1 := hok.n8
    have hm0 := hok.n0
    clear hv hok
    obtain ⟨a0, a1, a2⟩ := box3 HX2.out
    by_cases h6 : p.lots.length ≤ 6
    · have h6' : decide ((6 : Int) < (p.lots.length : Int)) = false := by simp; omega
      go_wp2_with fail
      go_loopw [8] (fun i w' => ∃ k : Nat, k ≤ p.lots.length ∧ i = .int .i64 k ∧ w' = w2) (fun i _ => p.lots.length - (intOf i).toNat)
      case atStart => exact ⟨0, Nat.zero_le _, rfl, rfl⟩
      case round =>
        obtain ⟨k, hk, rfl, rfl⟩ := hrel
        by_cases hlt : k < p.lots.length
        · obtain ⟨b, o, rfl, u0, u1, u2, u3⟩ := (HL.out.below HB2.out).get (k := k) hlt
          have hki : (k : Int) < (p.lots.length : Int) := by omega
          have hl := HOK.out.lot k hlt
          by_cases hU : 6 < (gl p.lots k).u
          · go_wp2_with fail
            go_ret
            exact ⟨rfl, HB2.out⟩
          · have hU' : ¬ (6 : Int) < (gl p.lots k).u := hU
            go_wp2_with fail
            go_roundw
            case rel => exact ⟨k + 1, by omega, by go_num, trivial⟩
            case measure => simp only [intOf]; omega
        · have hkn : k = p.lots.length := by omega
          subst hkn
          go_wp2_with fail
          refine (Number_any by0 p.lots.length _ (by omega) (by omega)).mono ?_
          rintro e w3 ⟨rfl, rfl⟩
          have k0 := Int.emod_nonneg by0 (show (p.lots.length : Int) ≠ 0 by omega)
          have k1 := Int.emod_lt_of_pos by0 (show (0 : Int) < (p.lots.length : Int) by omega)
          obtain ⟨k, hk⟩ := Int.eq_ofNat_of_zero_le k0
          rw [hk] at k1 ⊢
          have HK := Lib.hid (show k < p.lots.length by omega)
          clear k0 hk
          obtain ⟨b, o, rfl, _⟩ := (HL.out.below HB2.out).get (k := k) HK.out
          have kl : (k : Int) ≤ (p.lots.length : Int) := by omega
          have kl0 : (0 : Int) ≤ (k : Int) := by omega
          have kc : (k : Int) ≤ (c : Int) := by omega
          have lc : (p.lots.length : Int) ≤ (c : Int) := by omega
          go_wp2_with fail
          have hq0 := heap_alloc_new wr (.cells #[.slice none 0 0, .slice B p.caps.length d, .int .i64 p.need] 25)
          have hbq := bal (Below.refl wr.heap.size wr) (.cells #[.slice none 0 0, .slice B p.caps.length d, .int .i64 p.need] 25)
          have hsz0 : (wr.alloc (.cells #[.slice none 0 0, .slice B p.caps.length d, .int .i64 p.need] 25)).heap.size = wr.heap.size + 1 := by simp
          generalize hW0 : wr.alloc (.cells #[.slice none 0 0, .slice B p.caps.length d, .int .i64 p.need] 25) = W0 at *
          clear hW0
          have z0 := cellB hbq a0
          have hlw := World.block_lt_of_cell? wr _ a0
          have HSZ := Lib.hid (show w.heap.size < wr.heap.size ∧ W0.heap.size = wr.heap.size + 1 from ⟨hlw, hsz0⟩)
          have HQ0 := Lib.hid hq0
          have HBQ := Lib.hid hbq
          have hne1 : ¬ wr.heap.size = w.heap.size := by have := HSZ.out; omega
          have hne2 : ¬ w.heap.size = wr.heap.size := by have := HSZ.out; omega
          have kck : ¬ c = k := by have := HK.out; omega
          have HBU := Lib.hid (show Below W0.heap.size W0 (W0.alloc (.cells #[] 48)).drew from (bal (Below.refl W0.heap.size W0) (.cells #[] 48)).drew)
          have HO1 : Hid ((W0.alloc (.cells #[] 48)).drew.ownsRow W0.heap.size 48 4 (.slice (some ⟨W0.heap.size, 0, none⟩) 0 0) 0 []) :=
            Lib.hid ⟨rfl, Or.inr ⟨W0.heap.size, 0, #[], rfl, Nat.le_refl _, heap_alloc_new W0 _, Nat.le_refl _, Nat.zero_le _, rfl, rfl⟩⟩
          clear hq0 hbq hsz0 hlw a0 a1 a2
          go_region_held3 (fun w' => w'.cell? ⟨w.heap.size, 0, none⟩ = some (.slice (some ⟨b, o, none⟩) p.lots.length c)) (first | go_keep | exact cell_far z0' hne1)
            (first
              | (refine step_app (W := (W0.alloc (.cells #[] 48)).drew) W0.heap.size rfl (.tmp 56) (.tmp 60) 22 48 rfl Tryd.underlying22 (.agg #[.int .i64 0, .int .i64 0, .int .i64 0, .int .i64 0]) 4 32 info48 rfl (by decide) (.slice (some ⟨W0.heap.size, 0, none⟩) 0 0) 0 [] ⟨b, o + k * 4, none⟩ (p.lots.length - k) (c - k) (flat (p.lots.drop k)) (by rfl) (by rfl) HO1.out (by rw [flat_len, List.length_drop]) (lots_drop_cells (((HL.out.below HB2.out).below HBQ.out).below HBU.out)) (flat_one _) HBU.out.size (p.lots.length - k) (by omega) (by have := HK.out; omega) (by omega) (by simp only [maxLen]; omega) ?_
                 intro g1 cap1 x1 hown1 hgr1 hor1
                 have HO2 := Lib.hid hown1
                 have HB2' := Lib.hid (Below.grown HBU.out hgr1 HBU.out.size (by intro j hj; simp only [Value.ownBlock, Option.some.injEq] at hj; omega))
                 have z0' := cellB HB2'.out z0
                 clear hown1 hgr1 hor1)
              | (refine step_app (W := x1) W0.heap.size rfl (.tmp 61) (.tmp 65) 22 48 rfl Tryd.underlying22 (.agg #[.int .i64 0, .int .i64 0, .int .i64 0, .int .i64 0]) 4 32 info48 rfl (by decide) (.slice (some ⟨g1, 0, none⟩) (p.lots.length - k) cap1) (p.lots.length - k) ([] ++ flat (p.lots.drop k)) ⟨b, o, none⟩ k c (flat (p.lots.take k)) (by rfl) (by rfl) HO2.out (by have := HK.out; rw [flat_len, List.length_take, Nat.min_eq_left (by omega)]) (lots_take_cells (((HL.out.below HB2.out).below HBQ.out).below HB2'.out)) (flat_one _) HB2'.out.size p.lots.length (by have := HK.out; omega) hm0 (by omega) (by simp only [maxLen]; omega) ?_
                 intro g2 cap2 x2 hown2 hgr2 hor2
                 have HO3 := Lib.hid hown2
                 have HB3' := Lib.hid (Below.grown HB2'.out hgr2 HB2'.out.size (fun j hj => (World.ownsRow.lt HO2.out j hj).1))
                 have z0' := cellB HB3'.out z0
                 have q0 := (box3 (boxN HQ0.out HB3'.out)).1
                 have fq := frz (boxN HQ0.out HB3'.out) 0
                 clear hown2 hgr2 hor2))
          have HLR := Lib.hid (show (p.lots.drop k ++ p.lots.take k).length = p.lots.length by have := HK.out; simp; omega)
          have HQ4 := Lib.hid ((heap_set (boxN HQ0.out HB3'.out) (.slice (some ⟨g2, 0, none⟩) p.lots.length cap2)).trans (by simp) : (x2.setCell ⟨wr.heap.size, 0, none⟩ (.slice (some ⟨g2, 0, none⟩) p.lots.length cap2)).heap[wr.heap.size]? = some (.cells #[.slice (some ⟨g2, 0, none⟩) p.lots.length cap2, .slice B p.caps.length d, .int .i64 p.need] 25 (0, 0)))
          have HB4 := Lib.hid (show Below wr.heap.size wr (x2.setCell ⟨wr.heap.size, 0, none⟩ (.slice (some ⟨g2, 0, none⟩) p.lots.length cap2)) from (btr HBQ.out HB3'.out).setCell (by simp) _)
          have HO4 : Hid (OwnL (x2.setCell ⟨wr.heap.size, 0, none⟩ (.slice (some ⟨g2, 0, none⟩) p.lots.length cap2)) W0.heap.size (.slice (some ⟨g2, 0, none⟩) p.lots.length cap2) (p.lots.drop k ++ p.lots.take k)) := Lib.hid (by
            rw [OwnL, HLR.out, flat_append]
            refine World.ownsRow.kept (w := x2) (row := some wr.heap.size) HO3.out ⟨rfl, rfl, rfl, by simp [World.setCell], fun k hk hne => Below.heap_setCell _ _ _ _ (fun e => hne (by rw [e]))⟩ ?_
            right
            intro e
            have := (World.ownsRow.lt HO3.out _ (by rw [← e])).1
            have := HSZ.out
            omega)
          have z4 := cell_far (b := ⟨wr.heap.size, 0, none⟩) (u := .slice (some ⟨g2, 0, none⟩) p.lots.length cap2) z0' hne2
          have HSZ4 := Lib.hid (show W0.heap.size < (x2.setCell ⟨wr.heap.size, 0, none⟩ (.slice (some ⟨g2, 0, none⟩) p.lots.length cap2)).heap.size by have := (World.ownsRow.lt HO3.out g2 rfl); have := this.1; simp [World.setCell]; omega)
          generalize hX4 : x2.setCell ⟨wr.heap.size, 0, none⟩ (.slice (some ⟨g2, 0, none⟩) p.lots.length cap2) = X4 at *
          clear hX4 z0' z0 q0 fq HO1 HO2 HO3 HB2' HB3' HBU HQ0
          obtain ⟨q0, q1, q2⟩ := box3 HQ4.out
          have fq := frz HQ4.out 0
          have y0 := Int.emod_nonneg cost0 (show (50 : Int) ≠ 0 by decide)
          have y1 := Int.emod_lt_of_pos cost0 (show (0 : Int) < 50 by decide)
          have HNZ := Lib.hid fun W => Number_any cost0 50 W (by omega) (by omega)
          generalize cost0 % 50 = z at *
          go_wp2_with fail
          have q0A := cellB (bal (Below.refl X4.heap.size X4) (.cells #[.int .i64 2, .int .i64 0, .int .i64 z, .int .i64 0] 48)).drew q0
          go_region_law
            (first
              | (refine step_row (W := X4.drew) W0.heap.size rfl (.tmp 69) (.tmp 73) 22 48 rfl Tryd.underlying22 (.agg #[.int .i64 0, .int .i64 0, .int .i64 0, .int .i64 0]) 4 32 info48 rfl (by decide) (.slice (some ⟨g2, 0, none⟩) p.lots.length cap2) p.lots.length (flat (p.lots.drop k ++ p.lots.take k)) #[.int .i64 2, .int .i64 0, .int .i64 z, .int .i64 0] X4.heap.size (by rfl) (by rfl) rfl rfl (by simp [Value.oneCell']) (HLR.out ▸ HO4.out) (by have := HSZ4.out; simp; omega) (by omega) (by simp only [maxLen]; omega) ?_
                 intro g3 cap3 x3 hown3 hgr3
                 have HO5 := Lib.hid hown3
                 have HGR3 := Lib.hid hgr3
                 have q0' := hgr3.cell q0 (HO4.out.ne _ (by have := HSZ.out; simp; omega))
                 have fq' := grown_frozen hgr3 q0 (HO4.out.ne _ (by have := HSZ.out; simp; omega)) fq
                 clear hown3 hgr3)
              | (refine step_call 22 Tryd.f22 Tryd.func22 (by kernel_rfl) (by kernel_rfl) (.tmp 70) (.const (.int .i64 50)) #[3, 3] (.int .i64 cost0) (.int .i64 50) (.int .i64 z) rfl rfl (by rfl) (by rfl) (HNZ.out _) ?_))
          all_goals
            have HGW : Hid (X4.grownBy x3 (some g2)) := Lib.hid ⟨HGR3.out.os, HGR3.out.tape, HGR3.out.output, HGR3.out.size, HGR3.out.block⟩
            have HB5' := Lib.hid (Below.grown HB4.out HGW.out HB4.out.size (by intro j hj; simp only [Option.some.injEq] at hj; have := (World.ownsRow.lt HO4.out g2 rfl).1; have := HSZ.out; omega))
            have HQ5' := Lib.hid (((HGW.out.block wr.heap.size (Array.getElem?_eq_some_iff.1 HQ4.out).1 (HO4.out.ne _ (by have := HSZ.out; omega))).trans HQ4.out))
            have HQ5 : Hid ((x3.setCell ⟨wr.heap.size, 0, none⟩ (.slice (some ⟨g3, 0, none⟩) (p.lots.length + 1) cap3)).heap[wr.heap.size]? = some (.cells #[.slice (some ⟨g3, 0, none⟩) (p.lots.length + 1) cap3, .slice B p.caps.length d, .int .i64 p.need] 25 (0, 0))) := Lib.hid ((heap_set HQ5'.out _).trans (by simp))
            have HB5 : Hid (Below wr.heap.size wr (x3.setCell ⟨wr.heap.size, 0, none⟩ (.slice (some ⟨g3, 0, none⟩) (p.lots.length + 1) cap3))) := Lib.hid (HB5'.out.setCell (by simp) _)
            have HLN := Lib.hid (rotL_len p.lots k z (by have := HK.out; omega))
            have HO6 : Hid (OwnL (x3.setCell ⟨wr.heap.size, 0, none⟩ (.slice (some ⟨g3, 0, none⟩) (p.lots.length + 1) cap3)) W0.heap.size (.slice (some ⟨g3, 0, none⟩) (p.lots.length + 1) cap3) (rotL p.lots k z)) := Lib.hid (by
              rw [OwnL, HLN.out, rotL, flat_add]
              refine World.ownsRow.kept (w := x3) (row := some wr.heap.size) HO5.out ⟨rfl, rfl, rfl, by simp [World.setCell], fun k hk hne => Below.heap_setCell _ _ _ _ (fun e => hne (by rw [e]))⟩ ?_
              right
              intro e
              have := (World.ownsRow.lt HO5.out _ (by rw [← e])).1
              have := HSZ.out
              omega)
            have HLQ := Lib.hid HO6.out.lots.1
            generalize hX5 : x3.setCell ⟨wr.heap.size, 0, none⟩ (.slice (some ⟨g3, 0, none⟩) (p.lots.length + 1) cap3) = X5 at *
            clear hX5 q0' fq' q0 fq q0A HO4 HO5 HO6 HB5' HQ5' HQ4 HB4 HGR3 HGW
            obtain ⟨q0, q1, q2⟩ := box3 HQ5.out
            obtain ⟨a0, a1, a2⟩ := box3 (boxN HX2.out HB5.out)
            go_wp2_with fail
          all_goals
            have hlaw := same_law HOK.out (k := k) (by have := HK.out; omega) h6 ⟨y0, y1⟩
            have hoq := okRot HOK.out (k := k) (by have := HK.out; omega) h6 ⟨y0, y1⟩
            have HBS := Lib.hid (btr HB2.out HB5.out)
            refine (All_any (some ⟨b, o, none⟩) c B d p ea X5 (HL.out.below HBS.out) (HCC.out.below HBS.out) (HS.out.below HBS.out)).mono ?_
            rintro e w6 ⟨hb6, he6⟩
            have HB6 := Lib.hid (btr HBS.out hb6)
            have HQ6 := Lib.hid (boxN HQ5.out hb6)
            have HLQ6 := Lib.hid (HLQ.out.below hb6)
            clear a0 a1 a2 q0 q1 q2 hb6 HLQ HQ5 HB5
            rcases hlaw.either with he | he
            · rw [he] at he6
              simp only at he6
              subst he6
              unfold resV
              have hbr := bal (Below.refl w6.heap.size w6) (.cells #[.slice none 0 0, .int .i64 0, .int .i64 0, .bool false, .int .i64 0] 34)
              have HB7 := Lib.hid (btr HB6.out hbr)
              obtain ⟨r0, r1, r2⟩ := box3 HQ6.out
              obtain ⟨q0, q1, q2⟩ := box3 (boxN HQ6.out hbr)
              have HA := All_any (some ⟨g3, 0, none⟩) cap3 B d (rotP p k z) ea _ (HLQ6.out.below hbr) (HCC.out.below HB7.out) (HS.out.below HB7.out)
              simp only [pv, show (rotP p k z).lots.length = p.lots.length + 1 from HLN.out, show (rotP p k z).caps.length = p.caps.length from rfl, show (rotP p k z).need = p.need from rfl] at HA
              have HAA := Lib.hid HA
              have HLW := Lib.hid hlaw
              have HE := Lib.hid he
              clear HA hbr hlaw he
              go_wp2_with fail
              refine HAA.out.mono ?_
              rintro e w8 ⟨hb8, he8⟩
              rw [HLW.out.no HE.out] at he8
              simp only at he8
              subst he8
              unfold resV
              have HB8 := Lib.hid (btr HB7.out hb8)
              clear hb8 r0 r1 r2 q0 q1 q2 HAA
              go_wp2_with fail
              go_quiet (fail)
              go_wp2_with fail
              go_ret
              exact ⟨rfl, btr (bal HB8.out _) (bdN _ _)⟩
            · obtain ⟨e1, i1, i2, hcost⟩ := hlaw.yes he
              rw [he] at he6
              simp only at he6
              obtain ⟨g6, c6, rfl, hi6, hg6, hc6⟩ := he6
              unfold resV
              rw [costV_in HOK.out i1]
              have hbr := bal (Below.refl w6.heap.size w6) (.cells #[.slice (some ⟨g6, 0, none⟩) p.lots.length c6, .int .i64 (worthV p (takeB p 100000)), .int .i64 (costP p (takeB p 100000)), .bool (srch p 100000).2, .int .i64 (srch p 100000).1.looked] 34)
              have hnr := heap_alloc_new w6 (.cells #[.slice (some ⟨g6, 0, none⟩) p.lots.length c6, .int .i64 (worthV p (takeB p 100000)), .int .i64 (costP p (takeB p 100000)), .bool (srch p 100000).2, .int .i64 (srch p 100000).1.looked] 34)
              have HB7 := Lib.hid (btr HB6.out hbr)
              have HNR := Lib.hid hnr
              obtain ⟨r0, r1, r2⟩ := box3 HQ6.out
              obtain ⟨q0, q1, q2⟩ := box3 (boxN HQ6.out hbr)
              have HA := All_any (some ⟨g3, 0, none⟩) cap3 B d (rotP p k z) ea _ (HLQ6.out.below hbr) (HCC.out.below HB7.out) (HS.out.below HB7.out)
              simp only [pv, show (rotP p k z).lots.length = p.lots.length + 1 from HLN.out, show (rotP p k z).caps.length = p.caps.length from rfl, show (rotP p k z).need = p.need from rfl] at HA
              have HAA := Lib.hid HA
              have HCO := Lib.hid hcost
              have HE := Lib.hid e1
              have HOQ := Lib.hid hoq
              have HI2 := Lib.hid i2
              clear HA hbr hlaw he hi6 hg6 hc6 hnr hcost e1 i1 i2 hoq
              go_wp2_with fail
              refine HAA.out.mono ?_
              rintro e w8 ⟨hb8, he8⟩
              rw [HE.out] at he8
              simp only at he8
              obtain ⟨g8, c8, rfl, hi8, hg8, hc8⟩ := he8
              unfold resV
              rw [costV_in HOQ.out HI2.out]
              have HB8 := Lib.hid (btr HB7.out hb8)
              obtain ⟨s0, s1, s2, s3, s4⟩ := box5 (boxN HNR.out hb8)
              have nlt := World.block_lt_of_cell? w8 _ s0
              clear hb8 hi8 hg8 hc8 r0 r1 r2 q0 q1 q2 HAA HNR
              cases h1 : (srch p 100000).2
              · rw [h1] at s3
                clear h1 HCO
                go_wp2_with fail
                go_quiet (fail)
                go_wp2_with fail
                go_ret
                exact ⟨rfl, btr (bal HB8.out _) (bdN _ _)⟩
              · cases h2 : (srch (rotP p k z) 100000).2
                · rw [h1] at s3
                  clear h1 h2 HCO
                  go_wp2_with fail
                  go_quiet (fail)
                  go_wp2_with fail
                  go_ret
                  exact ⟨rfl, btr (bal HB8.out _) (bdN _ _)⟩
                · have hco := HCO.out h1 h2
                  rw [h1] at s3
                  rw [← hco]
                  clear h1 h2 hco HCO
                  go_wp2_with fail
                  go_quiet (fail)
                  go_wp2_with fail
                  go_ret
                  exact ⟨rfl, btr (bal HB8.out _) (bdN _ _)⟩
    · have h6' : ¬ (p.lots.length : Int) ≤ 6 := by omega
      go_wp2_with fail
      go_ret
      exact ⟨rfl, HB2.out⟩
  · rw [errV]
    clear hv
    obtain ⟨a0, a1, a2⟩ := box3 HX2.out
    go_wp2_with fail
    go_ret
    exact ⟨rfl, HB2.out⟩

end Go.Proofs.YtjaegolanbjgfaaDoor
