import Derived.Deep.RegionLaw
import Derived.LaidEql
import Derived.Test.YtjaegolanbjgfaaDoorGd
import Derived.Test.YtjaegolanbjgfaaDoorCh
import Derived.Test.YtjaegolanbjgfaaDoorMx
import Derived.Test.YtjaegolanbjgfaaDoorLm
import Derived.WalkKit
import Derived.WalkSpells
import Derived.WalkLawsBesides
import Derived.Lib.Hide
import Derived.Deep.DeepCutAuto
import Derived.Deep.LoopGhost
import Derived.Deep.QuietTactic
import Derived.BigQuiet
import Derived.Deep.OwnRows
import Derived.StillTailTactics
import Derived.IntWalk
import Derived.Laws.BitsLemmas
import Derived.Laws.MathBits
import Derived.Laws.Bits64
import Derived.Deep.RegionHeld3
import Derived.BigRegion
import Derived.Lib.SliceRun
import Derived.Deep.AppendLies
set_option linter.unusedVariables false
set_option linter.unusedSimpArgs false
namespace Go.Proofs.YtjaegolanbjgfaaDoor
open Go.RowKit
set_option maxHeartbeats 2000000 in
theorem best_pre {p : Prob} {bud : Int} (he : errB p bud = none) : inLots p.lots (takeB p bud) ∧ p.need ≤ worthP p (takeB p bud) ∧ 0 ≤ (srch p bud).1.looked ∧ (srch p bud).1.looked ≤ bud := by
  have hv : valid p = none := by
    unfold errB at he
    cases hv : valid p with
    | none => rfl
    | some k => rw [hv] at he; cases he
  have hok := ok_of_valid hv
  have hb : 0 ≤ bud ∧ bud ≤ 100000 := by
    unfold errB at he
    rw [hv] at he
    simp only at he
    split at he
    · cases he
    · omega
  have hg := greedy_of_none hok hb.1 hb.2 he
  have h := best_law hok hb.1 hg
  exact ⟨h.i, h.w, h.l0, h.l1⟩
theorem other_any (A : Option Addr) (l c : Nat) (B : Option Addr) (m d : Nat) (n : Int) (w : World) : Calls Tryd.prog 11 #[.agg #[.slice A l c, .slice B m d, .int .i64 n]] w fun e w' => e = .returned (.agg #[.slice A l c, .slice B m d, .int .i64 n]) ∧ Below w.heap.size w w' := by
  go_enter Tryd.func11, Tryd.ntmps11
  go_wp2_with fail
  refine bodyPost_ret (results_cell_row rfl _ _ (w.heap.size + 1) 27 _ _ _ rfl (by rw [show w.heap.size + 1 = (w.alloc (.cells #[.slice A l c, .slice B m d, .int .i64 n] 25)).heap.size by simp]; exact heap_alloc_new _ _) Tryd.underlying27 rfl (by kernel_rfl)) rfl ⟨rfl, bal (bal (Below.refl _ _) _) _⟩
theorem Is_bad {ea : Nat → Addr} {p : Prob} {bud b : Int} (hb : badE p bud = b) {g : Nat} (hg : errB p bud = some g) {W : World} (he : Errs ea W) :
    Calls Tryd.prog 16 #[.iface 130 (.pointer (some (ea g))), .int .i64 b] W fun e w' => e = .returned (.bool true) ∧ Below W.heap.size W w' := by
  have hI := Is_any ea (some g) (fun g' e => by cases e; exact errB_cases p bud g hg) b W he
  rw [show decide (codeE (some g) = b) = true by rw [← hg, errB_code, hb]; simp] at hI
  exact hI
theorem errB_bad {p : Prob} {bud : Int} (h : badE p bud ≠ 0) : ∃ g, errB p bud = some g := by
  cases hg : errB p bud with
  | some g => exact ⟨g, rfl⟩
  | none => rw [← errB_code, hg] at h; exact absurd rfl h
theorem errB_fine {p : Prob} {bud : Int} (h : badE p bud = 0) : errB p bud = none := by
  cases hg : errB p bud with
  | none => rfl
  | some g =>
    rw [← errB_code, hg] at h
    exfalso
    unfold codeE at h
    simp only at h
    omega
set_option maxRecDepth 100000 in
set_option maxHeartbeats 8000000 in
theorem AllocBest_any (A : Option Addr) (c : Nat) (B : Option Addr) (d : Nat) (p : Prob) (bud : Int) (ea : Nat → Addr) (w : World) (hL : LotsAt w A p.lots) (hC : IntsAt w B p.caps) (hs : Errs ea w) :
    Calls Tryd.prog 3 #[pv A c B d p, .int .i64 bud] w fun e w' => e = .returned (.bool true) ∧ Below w.heap.size w w' := by
  have HB0 := Lib.hid (bal (Below.refl w.heap.size w) (.cells #[.slice A p.lots.length c, .slice B p.caps.length d, .int .i64 p.need] 25))
  have HX0 := Lib.hid (heap_alloc_new w (.cells #[.slice A p.lots.length c, .slice B p.caps.length d, .int .i64 p.need] 25))
  have HL := Lib.hid hL
  have HCC := Lib.hid hC
  have HE := Lib.hid hs
  have HS := Lib.hid hs.s3
  have hl1 := hL.1
  have hl2 := hC.1
  clear hL hC hs
  go_enter Tryd.func3, Tryd.ntmps3
  go_wp2_with fail
  refine (first_any ea _ (HS.out.below HB0.out)).mono ?_
  rintro e w1 ⟨rfl, hb1⟩
  have HB1 := Lib.hid (btr HB0.out hb1)
  have HX1 := Lib.hid (boxN HX0.out hb1)
  obtain ⟨a0, a1, a2⟩ := box3 HX1.out
  clear hb1 HX0
  by_cases h20 : 20 < p.lots.length
  · have t1 : decide ((20 : Int) < (p.lots.length : Int)) = true := by simp; omega
    go_wp2_with fail
    go_ret
    exact ⟨rfl, HB1.out⟩
  · by_cases h21 : 20 < p.caps.length
    · have t1 : decide ((20 : Int) < (p.lots.length : Int)) = false := by simp; omega
      have t2 : decide ((20 : Int) < (p.caps.length : Int)) = true := by simp; omega
      go_wp2_with fail
      go_ret
      exact ⟨rfl, HB1.out⟩
    · have t1 : decide ((20 : Int) < (p.lots.length : Int)) = false := by simp; omega
      have t2 : decide ((20 : Int) < (p.caps.length : Int)) = false := by simp; omega
      go_wp2_with fail
      refine (other_any A p.lots.length c B p.caps.length d p.need w1).mono ?_
      rintro e w2 ⟨rfl, hb2⟩
      have hbx := btr hb2 (bal (Below.refl w2.heap.size w2) (.cells #[.slice A p.lots.length c, .slice B p.caps.length d, .int .i64 p.need] 27))
      have HB2 := Lib.hid (btr HB1.out hb2)
      have HX2 := Lib.hid (boxN HX1.out hb2)
      have HB3 := Lib.hid (btr HB1.out hbx)
      have HX3 := Lib.hid (boxN HX1.out hbx)
      have HY3 := Lib.hid (heap_alloc_new w2 (.cells #[.slice A p.lots.length c, .slice B p.caps.length d, .int .i64 p.need] 27))
      clear hb2 hbx a0 a1 a2
      go_wp2_with fail
      generalize w2.alloc (.cells #[.slice A p.lots.length c, .slice B p.caps.length d, .int .i64 p.need] 27) = W3 at *
      refine (ValidR_any A c B d p W3 (HL.out.below HB3.out) (HCC.out.below HB3.out)).mono ?_
      rintro e w4 ⟨rfl, hb4⟩
      have HB4 := Lib.hid (btr HB3.out hb4)
      have HX4 := Lib.hid (boxN HX3.out hb4)
      have HY4 := Lib.hid (boxN HY3.out hb4)
      clear hb4 HX3 HY3 HB3 HB2 HX2
      obtain ⟨a0, a1, a2⟩ := box3 HX4.out
      obtain ⟨x0, x1, x2⟩ := box3 HY4.out
      by_cases hz : codeR p = 0
      · have HZ := Lib.hid hz
        have hok := ok_of_valid (codeR_zero.1 hz)
        have HOK := Lib.hid hok
        have hl8 := hok.n8
        rw [hz]
        clear hok
        by_cases hbl : bud < 0
        · have HBD : Hid (badE p bud = 103) := Lib.hid (by unfold badE; rw [if_neg (by rw [HZ.out]; decide), if_pos (Or.inl hbl)])
          clear hz
          go_wp2_with fail
          go_quiet (fail)
          have HQ := Lib.hid (btr HB4.out (bdN w4 nq))
          go_wp2_with fail
          refine (Best_any A c B d p bud ea (w4.drewN nq) (HL.out.below (HQ).out) (HCC.out.below (HQ).out) (HS.out.below (HQ).out)).mono ?_
          rintro e wE ⟨hbE, heE⟩
          have HBE2 := Lib.hid (btr (HQ).out hbE)
          obtain ⟨g, hg⟩ := errB_bad (p := p) (bud := bud) (by rw [HBD.out]; decide)
          rw [hg] at heE
          simp only at heE
          subst heE
          unfold resV
          have HI2 := Lib.hid (Is_bad HBD.out hg (HE.out.below (bal HBE2.out (.cells #[.slice none 0 0, .int .i64 0, .int .i64 0, .bool false, .int .i64 0] 34))))
          have HNE := Lib.hid (heap_alloc_new wE (.cells #[.slice none 0 0, .int .i64 0, .int .i64 0, .bool false, .int .i64 0] 34))
          clear hg hbE
          go_wp2_with fail
          refine HI2.out.mono ?_
          rintro e wF ⟨rfl, hbF⟩
          have HBF := Lib.hid (btr (bal HBE2.out _) hbF)
          obtain ⟨r0, r1, r2, r3, r4⟩ := box5 (boxN HNE.out hbF)
          clear hbF HI2
          go_wp2_with fail
          all_goals
            go_ret
            exact ⟨rfl, HBF.out⟩
        · by_cases hbh : 100000 < bud
          · have HBD : Hid (badE p bud = 103) := Lib.hid (by unfold badE; rw [if_neg (by rw [HZ.out]; decide), if_pos (Or.inr hbh)])
            clear hz
            have hbl' : 0 ≤ bud := by omega
            go_wp2_with fail
            go_quiet (fail)
            have HQ := Lib.hid (btr HB4.out (bdN w4 nq))
            go_wp2_with fail
            refine (Best_any A c B d p bud ea (w4.drewN nq) (HL.out.below (HQ).out) (HCC.out.below (HQ).out) (HS.out.below (HQ).out)).mono ?_
            rintro e wE ⟨hbE, heE⟩
            have HBE2 := Lib.hid (btr (HQ).out hbE)
            obtain ⟨g, hg⟩ := errB_bad (p := p) (bud := bud) (by rw [HBD.out]; decide)
            rw [hg] at heE
            simp only at heE
            subst heE
            unfold resV
            have HI2 := Lib.hid (Is_bad HBD.out hg (HE.out.below (bal HBE2.out (.cells #[.slice none 0 0, .int .i64 0, .int .i64 0, .bool false, .int .i64 0] 34))))
            have HNE := Lib.hid (heap_alloc_new wE (.cells #[.slice none 0 0, .int .i64 0, .int .i64 0, .bool false, .int .i64 0] 34))
            clear hg hbE
            go_wp2_with fail
            refine HI2.out.mono ?_
            rintro e wF ⟨rfl, hbF⟩
            have HBF := Lib.hid (btr (bal HBE2.out _) hbF)
            obtain ⟨r0, r1, r2, r3, r4⟩ := box5 (boxN HNE.out hbF)
            clear hbF HI2
            go_wp2_with fail
            all_goals
              go_ret
              exact ⟨rfl, HBF.out⟩
          · have hbl' : 0 ≤ bud := by omega
            have hbh' : bud ≤ 100000 := by omega
            go_wp2_with fail
            refine (Choices_any A c B d p w4 (HL.out.below HB4.out) HOK.out).mono ?_
            rintro e w5 ⟨rfl, hb5⟩
            have HB5 := Lib.hid (btr HB4.out hb5)
            have HX5 := Lib.hid (boxN HX4.out hb5)
            have HY5 := Lib.hid (boxN HY4.out hb5)
            clear hb5 HX4 HY4 a0 a1 a2 x0 x1 x2
            by_cases hch : 3000 < choF p 3000 p.lots.length
            · have tc : decide ((3000 : Int) < min (choF p 3000 p.lots.length) 3001) = true := by simp; omega
              go_wp2_with fail
              go_ret
              exact ⟨rfl, HB5.out⟩
            · have tc : decide ((3000 : Int) < min (choF p 3000 p.lots.length) 3001) = false := by simp; omega
              have HCH := Lib.hid hch
              clear hch
              obtain ⟨a0, a1, a2⟩ := box3 HX5.out
              obtain ⟨x0, x1, x2⟩ := box3 HY5.out
              by_cases hmo : worthP p (units p.lots) < p.need
              · have HBD : Hid (badE p bud = 121) := Lib.hid (by unfold badE; rw [if_neg (by rw [HZ.out]; decide), if_neg (by omega), if_pos hmo])
                have HB5D := Lib.hid HB5.out.drew
                have HX5D := Lib.hid (boxN HX5.out (Below.refl w5.heap.size w5).drew)
                have HY5D := Lib.hid (boxN HY5.out (Below.refl w5.heap.size w5).drew)
                clear hz
                go_wp2_with fail
                go_region_held3 (fun w' => w'.cell? ⟨w2.heap.size, 0, none⟩ = some (.slice A p.lots.length c) ∧ w'.cell? ⟨w2.heap.size, 1, none⟩ = some (.slice B p.caps.length d) ∧ w'.cell? ⟨w2.heap.size, 2, none⟩ = some (.int .i64 p.need)) (go_keep)
                  (first | (go_at_call 14; go_must (refine (MostR_any A c B d p _ (HL.out.below HB5D.out) (HCC.out.below HB5D.out) HOK.out).mono ?_); rintro e w6 ⟨rfl, hb6⟩; have HB6 := Lib.hid (btr HB5D.out hb6); have HY6 := Lib.hid (boxN HY5D.out hb6); have HX6 := Lib.hid (boxN HX5D.out hb6); obtain ⟨a0, a1, a2⟩ := box3 HX6.out; obtain ⟨x0, x1, x2⟩ := box3 HY6.out; clear hb6))
                have tm : decide (worthP p (units p.lots) < p.need) = true := by simp; omega
                go_wp2_with fail
                refine (Best_any A c B d p bud ea w6 (HL.out.below (HB6).out) (HCC.out.below (HB6).out) (HS.out.below (HB6).out)).mono ?_
                rintro e wE ⟨hbE, heE⟩
                have HBE2 := Lib.hid (btr (HB6).out hbE)
                obtain ⟨g, hg⟩ := errB_bad (p := p) (bud := bud) (by rw [HBD.out]; decide)
                rw [hg] at heE
                simp only at heE
                subst heE
                unfold resV
                have HI2 := Lib.hid (Is_bad HBD.out hg (HE.out.below (bal HBE2.out (.cells #[.slice none 0 0, .int .i64 0, .int .i64 0, .bool false, .int .i64 0] 34))))
                have HNE := Lib.hid (heap_alloc_new wE (.cells #[.slice none 0 0, .int .i64 0, .int .i64 0, .bool false, .int .i64 0] 34))
                clear hg hbE
                go_wp2_with fail
                refine HI2.out.mono ?_
                rintro e wF ⟨rfl, hbF⟩
                have HBF := Lib.hid (btr (bal HBE2.out _) hbF)
                obtain ⟨r0, r1, r2, r3, r4⟩ := box5 (boxN HNE.out hbF)
                clear hbF HI2
                go_wp2_with fail
                all_goals
                  go_ret
                  exact ⟨rfl, HBF.out⟩
              · have HBD : Hid (badE p bud = 0) := Lib.hid (by unfold badE; rw [if_neg (by rw [HZ.out]; decide), if_neg (by omega), if_neg hmo])
                have HB5D := Lib.hid HB5.out.drew
                have HX5D := Lib.hid (boxN HX5.out (Below.refl w5.heap.size w5).drew)
                have HY5D := Lib.hid (boxN HY5.out (Below.refl w5.heap.size w5).drew)
                clear hz
                go_wp2_with fail
                go_region_held3 (fun w' => w'.cell? ⟨w2.heap.size, 0, none⟩ = some (.slice A p.lots.length c) ∧ w'.cell? ⟨w2.heap.size, 1, none⟩ = some (.slice B p.caps.length d) ∧ w'.cell? ⟨w2.heap.size, 2, none⟩ = some (.int .i64 p.need)) (go_keep)
                  (first | (go_at_call 14; go_must (refine (MostR_any A c B d p _ (HL.out.below HB5D.out) (HCC.out.below HB5D.out) HOK.out).mono ?_); rintro e w6 ⟨rfl, hb6⟩; have HB6 := Lib.hid (btr HB5D.out hb6); have HY6 := Lib.hid (boxN HY5D.out hb6); have HX6 := Lib.hid (boxN HX5D.out hb6); obtain ⟨a0, a1, a2⟩ := box3 HX6.out; obtain ⟨x0, x1, x2⟩ := box3 HY6.out; clear hb6))
                have tm : decide (worthP p (units p.lots) < p.need) = false := by simp; omega
                go_wp2_with fail
                clear hmo
                refine (Best_any A c B d p bud ea w6 (HL.out.below HB6.out) (HCC.out.below HB6.out) (HS.out.below HB6.out)).mono ?_
                rintro e wE ⟨hbE, heE⟩
                have HBE2 := Lib.hid (btr HB6.out hbE)
                have HYE := Lib.hid (boxN HY6.out hbE)
                have hnone := errB_fine HBD.out
                rw [hnone] at heE
                simp only at heE
                obtain ⟨g, cap, rfl, hT, hgb, hcap⟩ := heE
                obtain ⟨hin, hnw, hl0, hl1⟩ := best_pre hnone
                unfold resV
                rw [costV_in HOK.out hin, worthV_in HOK.out hin]
                have HDOC : Hid (∀ best found, Least p best found → best ≤ costP p (takeB p bud) ∧ ((srch p bud).2 = true → costP p (takeB p bud) = best) ∧ costP p (takeB p bud) ≤ costP p (greedyT p) ∧ p.need ≤ worthP p (greedyT p) ∧ ((srch p bud).2 = false → choF p 3000 p.lots.length ≤ 3000 → bud < choF p 3000 p.lots.length)) := Lib.hid fun b f h => ⟨(best_doc h hnone).b, (best_doc h hnone).s, (best_doc h hnone).g, (best_doc h hnone).gw, (best_doc h hnone).c⟩
                have hlt := hin.1
                have HIN := Lib.hid hin
                have HWR : Hid (∀ W, IntsAt W (some ⟨g, 0, none⟩) (takeB p bud) → LotsAt W A p.lots → IntsAt W B p.caps → Calls Tryd.prog 17 #[pv A c B d p, .slice (some ⟨g, 0, none⟩) p.lots.length cap] W fun e w' => e = .returned (.tuple #[.int .i64 (worthP p (takeB p bud)), .bool true]) ∧ Below W.heap.size W w') :=
                  Lib.hid fun W h1 h2 h3 => by have h := WorthR_any A c B d p (some ⟨g, 0, none⟩) cap (takeB p bud) W h2 h3 h1 HOK.out HIN.out; rw [hlt] at h; exact h
                have HCR : Hid (∀ W, IntsAt W (some ⟨g, 0, none⟩) (takeB p bud) → LotsAt W A p.lots → IntsAt W B p.caps → Calls Tryd.prog 18 #[pv A c B d p, .slice (some ⟨g, 0, none⟩) p.lots.length cap] W fun e w' => e = .returned (.tuple #[.int .i64 (costP p (takeB p bud)), .bool true]) ∧ Below W.heap.size W w') :=
                  Lib.hid fun W h1 h2 h3 => by have h := CostR_any A c B d p (some ⟨g, 0, none⟩) cap (takeB p bud) W h2 h3 h1 HOK.out HIN.out; rw [hlt] at h; exact h
                clear hin hnone hlt hgb hcap hbE HZ
                generalize takeB p bud = ts at *
                generalize costP p ts = co at *
                generalize worthP p ts = wo at *
                generalize (srch p bud).2 = su at *
                generalize (srch p bud).1.looked = lk at *
                have HT := Lib.hid (hT.below (bal (Below.refl wE.heap.size wE) (.cells #[.slice (some ⟨g, 0, none⟩) p.lots.length cap, .int .i64 wo, .int .i64 co, .bool su, .int .i64 lk] 34)))
                have HBR := Lib.hid (bal HBE2.out (.cells #[.slice (some ⟨g, 0, none⟩) p.lots.length cap, .int .i64 wo, .int .i64 co, .bool su, .int .i64 lk] 34))
                have HYR := Lib.hid (boxN HYE.out (bal (Below.refl wE.heap.size wE) (.cells #[.slice (some ⟨g, 0, none⟩) p.lots.length cap, .int .i64 wo, .int .i64 co, .bool su, .int .i64 lk] 34)))
                have HRR := Lib.hid (heap_alloc_new wE (.cells #[.slice (some ⟨g, 0, none⟩) p.lots.length cap, .int .i64 wo, .int .i64 co, .bool su, .int .i64 lk] 34))
                have HI := Lib.hid (Is_any ea none (fun g e => by cases e) 0 _ (HE.out.below HBR.out))
                rw [show decide (codeE none = 0) = true from rfl] at HI
                clear hT
                go_wp2_with fail
                refine HI.out.mono ?_
                rintro e w8 ⟨rfl, hb8⟩
                have HT8 := Lib.hid (HT.out.below hb8)
                have HB8 := Lib.hid (btr HBR.out hb8)
                have HY8 := Lib.hid (boxN HYR.out hb8)
                have HR8 := Lib.hid (boxN HRR.out hb8)
                obtain ⟨x0, x1, x2⟩ := box3 HY8.out
                obtain ⟨r0, r1, r2, r3, r4⟩ := box5 HR8.out
                have hRx : wE.heap.size ≠ w2.heap.size := by
                  have h1 := (Array.getElem?_eq_some_iff.1 HYE.out).1
                  omega
                clear hb8 HT HBR HYR HRR HI
                go_wp2_with fail
                refine (HWR.out w8 HT8.out (HL.out.below HB8.out) (HCC.out.below HB8.out)).mono ?_
                rintro e w9 ⟨rfl, hb9⟩
                have HT9 := Lib.hid (HT8.out.below hb9)
                have HB9 := Lib.hid (btr HB8.out hb9)
                have HY9 := Lib.hid (boxN HY8.out hb9)
                have HR9 := Lib.hid (boxN HR8.out hb9)
                clear x0 x1 x2 r0 r1 r2 r3 r4 hb9 HWR HT8 HB8 HY8 HR8
                obtain ⟨x0, x1, x2⟩ := box3 HY9.out
                obtain ⟨r0, r1, r2, r3, r4⟩ := box5 HR9.out
                go_wp2_with fail
                refine (HCR.out w9 HT9.out (HL.out.below HB9.out) (HCC.out.below HB9.out)).mono ?_
                rintro e w10 ⟨rfl, hb10⟩
                have HT10 := Lib.hid (HT9.out.below hb10)
                have HB10 := Lib.hid (btr HB9.out hb10)
                have HY10 := Lib.hid (boxN HY9.out hb10)
                have HR10 := Lib.hid (boxN HR9.out hb10)
                clear x0 x1 x2 r0 r1 r2 r3 r4 hb10 HCR HT9 HB9 HY9 HR9
                obtain ⟨x0, x1, x2⟩ := box3 HY10.out
                obtain ⟨r0, r1, r2, r3, r4⟩ := box5 HR10.out
                go_wp2_with fail
                refine (Cheapest_any A c B d p w10 (HL.out.below HB10.out) (HCC.out.below HB10.out) HOK.out).mono ?_
                rintro e w11 ⟨hb11, best, found, rfl, hleast⟩
                obtain ⟨hDb, hDs, hDg, hDgw, hDc⟩ := HDOC.out best found hleast
                have HDC := Lib.hid hDc
                have HB11 := Lib.hid (btr HB10.out hb11)
                have HY11 := Lib.hid (boxN HY10.out hb11)
                have HR11 := Lib.hid (boxN HR10.out hb11)
                clear x0 x1 x2 r0 r1 r2 r3 r4 hb11 HT10 HB10 HY10 HR10 HDOC hleast hDc
                obtain ⟨x0, x1, x2⟩ := box3 HY11.out
                go_wp2_with fail
                refine (GreedyR_any A c B d p w11 (HL.out.below HB11.out) (HCC.out.below HB11.out) HOK.out).mono ?_
                rintro e w12 ⟨hb12, he12⟩
                rw [if_neg (by omega)] at he12
                obtain ⟨G, gc, rfl, hG, hgc⟩ := he12
                have hgi := greedy_in HOK.out
                have HG := Lib.hid hG
                have HCG : Hid (∀ W, IntsAt W G (greedyT p) → LotsAt W A p.lots → IntsAt W B p.caps → Calls Tryd.prog 18 #[pv A c B d p, .slice G p.lots.length gc] W fun e w' => e = .returned (.tuple #[.int .i64 (costP p (greedyT p)), .bool true]) ∧ Below W.heap.size W w') :=
                  Lib.hid fun W h1 h2 h3 => by have h := CostR_any A c B d p G gc (greedyT p) W h2 h3 h1 HOK.out (greedy_in HOK.out); rw [(greedy_in HOK.out).1] at h; exact h
                have HB12 := Lib.hid (btr HB11.out hb12)
                have HY12 := Lib.hid (boxN HY11.out hb12)
                have HR12 := Lib.hid (boxN HR11.out hb12)
                clear x0 x1 x2 hb12 HB11 HY11 HR11 hG hgi hgc hDgw
                generalize greedyT p = gt at *
                generalize costP p gt = gco at *
                obtain ⟨x0, x1, x2⟩ := box3 HY12.out
                go_wp2_with fail
                refine (HCG.out w12 HG.out (HL.out.below HB12.out) (HCC.out.below HB12.out)).mono ?_
                rintro e w13 ⟨rfl, hb13⟩
                have HB13 := Lib.hid (btr HB12.out hb13)
                have HY13 := Lib.hid (boxN HY12.out hb13)
                have HR13 := Lib.hid (boxN HR12.out hb13)
                clear x0 x1 x2 hb13 HB12 HY12 HR12 HCG HG
                obtain ⟨x0, x1, x2⟩ := box3 HY13.out
                obtain ⟨r0, r1, r2, r3, r4⟩ := box5 HR13.out
                have u1 : decide (co < best) = false := by simp; omega
                have u2 : decide (gco < co) = false := by simp; omega
                cases su with
                | true =>
                  have u3 := hDs rfl
                  subst u3
                  have u4 : (co == co) = true := by simp
                  go_wp2_with fail
                  go_ret
                  exact ⟨rfl, HB13.out⟩
                | false =>
                  have u5 := HDC.out rfl (by have := HCH.out; omega)
                  have u6 : decide (bud < min (choF p 3000 p.lots.length) 3001) = true := by have := HCH.out; simp; omega
                  go_wp2_with fail
                  refine (Choices_any A c B d p w13 (HL.out.below HB13.out) HOK.out).mono ?_
                  rintro e w14 ⟨rfl, hb14⟩
                  have HB14 := Lib.hid (btr HB13.out hb14)
                  clear hb14
                  go_wp2_with fail
                  go_ret
                  exact ⟨by simp [u6], HB14.out⟩
      · have hc : badE p bud = codeR p := by unfold badE; rw [if_pos hz]
        have hk : codeR p = 103 ∨ codeR p = 105 := by
          unfold codeR at hz ⊢
          split
          · exact Or.inr rfl
          · exact Or.inl rfl
          · rename_i h; rw [h] at hz; exact absurd rfl hz
        rcases hk with hk | hk
        · rw [hk] at hc ⊢
          have HBD := Lib.hid hc
          clear hc hz hk
          go_wp2_with fail
          go_quiet (fail)
          have HQ := Lib.hid (btr HB4.out (bdN w4 nq))
          go_wp2_with fail
          refine (Best_any A c B d p bud ea (w4.drewN nq) (HL.out.below (HQ).out) (HCC.out.below (HQ).out) (HS.out.below (HQ).out)).mono ?_
          rintro e wE ⟨hbE, heE⟩
          have HBE2 := Lib.hid (btr (HQ).out hbE)
          obtain ⟨g, hg⟩ := errB_bad (p := p) (bud := bud) (by rw [HBD.out]; decide)
          rw [hg] at heE
          simp only at heE
          subst heE
          unfold resV
          have HI2 := Lib.hid (Is_bad HBD.out hg (HE.out.below (bal HBE2.out (.cells #[.slice none 0 0, .int .i64 0, .int .i64 0, .bool false, .int .i64 0] 34))))
          have HNE := Lib.hid (heap_alloc_new wE (.cells #[.slice none 0 0, .int .i64 0, .int .i64 0, .bool false, .int .i64 0] 34))
          clear hg hbE
          go_wp2_with fail
          refine HI2.out.mono ?_
          rintro e wF ⟨rfl, hbF⟩
          have HBF := Lib.hid (btr (bal HBE2.out _) hbF)
          obtain ⟨r0, r1, r2, r3, r4⟩ := box5 (boxN HNE.out hbF)
          clear hbF HI2
          go_wp2_with fail
          all_goals
            go_ret
            exact ⟨rfl, HBF.out⟩
        · rw [hk] at hc ⊢
          have HBD := Lib.hid hc
          clear hc hz hk
          go_wp2_with fail
          go_quiet (fail)
          have HQ := Lib.hid (btr HB4.out (bdN w4 nq))
          go_wp2_with fail
          refine (Best_any A c B d p bud ea (w4.drewN nq) (HL.out.below (HQ).out) (HCC.out.below (HQ).out) (HS.out.below (HQ).out)).mono ?_
          rintro e wE ⟨hbE, heE⟩
          have HBE2 := Lib.hid (btr (HQ).out hbE)
          obtain ⟨g, hg⟩ := errB_bad (p := p) (bud := bud) (by rw [HBD.out]; decide)
          rw [hg] at heE
          simp only at heE
          subst heE
          unfold resV
          have HI2 := Lib.hid (Is_bad HBD.out hg (HE.out.below (bal HBE2.out (.cells #[.slice none 0 0, .int .i64 0, .int .i64 0, .bool false, .int .i64 0] 34))))
          have HNE := Lib.hid (heap_alloc_new wE (.cells #[.slice none 0 0, .int .i64 0, .int .i64 0, .bool false, .int .i64 0] 34))
          clear hg hbE
          go_wp2_with fail
          refine HI2.out.mono ?_
          rintro e wF ⟨rfl, hbF⟩
          have HBF := Lib.hid (btr (bal HBE2.out _) hbF)
          obtain ⟨r0, r1, r2, r3, r4⟩ := box5 (boxN HNE.out hbF)
          clear hbF HI2
          go_wp2_with fail
          all_goals
            go_ret
            exact ⟨rfl, HBF.out⟩


end Go.Proofs.YtjaegolanbjgfaaDoor
