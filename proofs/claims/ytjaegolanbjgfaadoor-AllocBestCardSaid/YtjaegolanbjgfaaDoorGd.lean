import Derived.Deep.RegionLaw
import Derived.LaidEql
import Derived.Test.YtjaegolanbjgfaaDoorOd
import Derived.Test.YtjaegolanbjgfaaDoorGr
import Derived.Test.YtjaegolanbjgfaaDoorMt
import Derived.WalkKit
import Derived.WalkSpells
import Derived.WalkLawsBesides
import Derived.Lib.Hide
import Derived.Deep.DeepCutAuto
import Derived.Deep.LoopGhost
import Derived.Deep.QuietTactic
import Derived.BigQuiet
import Derived.Deep.OwnRows
import Derived.StillTailTactics
import Derived.IntWalk
import Derived.Laws.BitsLemmas
import Derived.Laws.MathBits
import Derived.Laws.Bits64
import Derived.Deep.RegionHeld3
import Derived.BigRegion
import Derived.Lib.SliceRun
import Derived.Deep.AppendLies
set_option linter.unusedVariables false
set_option linter.unusedSimpArgs false
namespace Go.Proofs.YtjaegolanbjgfaaDoor
open Go.RowKit
theorem worthR' (A : Option Addr) (c : Nat) (B : Option Addr) (d : Nat) (p : Prob) (T : Option Addr) (f n : Nat) (ts : List Int) (w : World) (hL : LotsAt w A p.lots) (hC : IntsAt w B p.caps) (hT : IntsAt w T ts) (hok : Ok p) (hi : inLots p.lots ts) (hn : ts.length = n) :
    Calls Tryd.prog 17 #[pv A c B d p, .slice T n f] w fun e w' => e = .returned (.tuple #[.int .i64 (worthP p ts), .bool true]) ∧ Below w.heap.size w w' := by subst hn; exact WorthR_any A c B d p T f ts w hL hC hT hok hi
set_option maxRecDepth 100000 in
set_option maxHeartbeats 8000000 in
theorem GreedyR_any (A : Option Addr) (c : Nat) (B : Option Addr) (d : Nat) (p : Prob) (w : World) (hL : LotsAt w A p.lots) (hC : IntsAt w B p.caps) (hok : Ok p) :
    Calls Tryd.prog 20 #[pv A c B d p] w (GivesGreedy p w) := by
  have HL := Lib.hid hL
  have HC := Lib.hid hC
  have HK := Lib.hid hok
  have hm1 := hok.n8
  have hm0 := hok.n0
  have hco : codeR p = 0 := by unfold codeR; rw [valid_of_ok hok]
  have HV : Hid (∀ W, Below w.heap.size w W → Calls Tryd.prog 12 #[pv A c B d p] W fun e w' => e = .returned (.int .i64 0) ∧ Below W.heap.size W w') := Lib.hid fun W h => by
    have := ValidR_any A c B d p W (hL.below h) (hC.below h)
    rw [hco] at this
    exact this
  have HOr := Lib.hid fun W h => OrderR_any A c p.lots W (hL.below h) hm1 (fun k hk => by have := hok.lot k hk; exact ⟨this.2.2.1, this.2.2.2.1, this.2.2.2.2.1, this.2.2.2.2.2.1⟩)
  have HB0 := Lib.hid (bal (Below.refl w.heap.size w) (.cells #[.slice A p.lots.length c, .slice B p.caps.length d, .int .i64 p.need] 27))
  have HX0 := Lib.hid (heap_alloc_new w (.cells #[.slice A p.lots.length c, .slice B p.caps.length d, .int .i64 p.need] 27))
  have hmk := run_make_row' (P := Tryd.prog) 32 3 (.int .i64 0) 8 Tryd.underlying32 info3 rfl .i64 .i64 p.lots.length (by omega) (by omega)
  clear hL hC hok hco
  go_enter Tryd.func20, Tryd.ntmps20
  go_wp2_with fail
  refine (HV.out _ HB0.out).mono ?_
  rintro e w1 ⟨rfl, hb1⟩
  have HB1 := Lib.hid (btr HB0.out hb1)
  have HX1 := Lib.hid (boxN HX0.out hb1)
  clear hb1 HX0 HV HB0
  obtain ⟨a0, a1, a2⟩ := box3 HX1.out
  have a0A := fun o => (World.cell?_alloc_lt w1 o _ (World.block_lt_of_cell? w1 _ a0)).trans a0
  go_wp2_with fail
  have HBz := Lib.hid (bal (Below.refl w1.heap.size w1) (.cells (madeCells #[.int .i64 0] p.lots.length) 3))
  have HOz := Lib.hid (own_zeros w1 p.lots.length (by omega))
  have HB2 := Lib.hid (btr HB1.out HBz.out)
  have HX2 := Lib.hid (boxN HX1.out HBz.out)
  have hsz := (Array.getElem?_eq_some_iff.1 HX1.out).1
  have HSZ := Lib.hid hsz
  refine (HOr.out _ HB2.out).mono ?_
  rintro e w3 ⟨hb3, v, rfl, hown⟩
  obtain ⟨O, co, rfl, hio, hco, hfr⟩ := hown.ints
  rw [(places_order p.lots).len] at hco ⊢
  have HG3 := Lib.hid (GW.mk (btr HB2.out hb3) (boxN HX2.out hb3) (HOz.out.below hb3) hio (inLots_zeros HK.out))
  have HFR := Lib.hid (fun b o e => (by have := hfr b o e; simp at this; omega : b ≠ w1.heap.size))
  clear a0A a0 a1 a2 hb3 hown hio hfr HOz HX2 HB2 HBz HX1 HOr hmk hsz
  generalize w1.heap.size = g0 at *
  have hg0 := HSZ.out
  go_wp2_with fail
  go_loopw [6, 7] (fun v i w' => ∃ (k : Nat) (ts : List Int), k ≤ p.lots.length ∧ i = .int .i64 k ∧ v = .int .i64 (worthP p ts) ∧
    GW w w.heap.size (.cells #[.slice A p.lots.length c, .slice B p.caps.length d, .int .i64 p.need] 27) g0 p.lots.length O (orderP p.lots) p.lots ts w' ∧ Hid (gall p ((orderP p.lots).drop k) ts = greedyT p)) (fun _ i _ => p.lots.length - (intOf i).toNat)
  case atStart => exact ⟨0, zeros p.lots.length, Nat.zero_le _, rfl, by rw [worth_zeros p _ (fun _ => Or.inr trivial)], HG3.out, rfl⟩
  case round =>
    obtain ⟨k, ts0, hk, rfl, rfl, hG, hall⟩ := hrel
    have HGW := Lib.hid hG
    clear hG
    by_cases hlt : k < p.lots.length
    · have hko : k < (orderP p.lots).length := by rw [(places_order p.lots).len]; exact hlt
      obtain ⟨ob, oo, rfl, r0⟩ := HGW.out.r.get hko
      obtain ⟨i, hi⟩ := Int.eq_ofNat_of_zero_le ((places_order p.lots).inr k hlt).1
      have hi2 := ((places_order p.lots).inr k hlt).2
      rw [hi] at r0 hi2
      have hall2 : gall p ((orderP p.lots).drop (k + 1)) (gfill p i (room p i ts0) ts0) = greedyT p := by
        have h := hall.out
        rw [drop_gi hko, hi] at h
        exact h
      have HA2 := Lib.hid hall2
      clear hi hall2 hall hko
      go_wp2_with fail
      go_loopg [6] (room p i ts0) (fun m v w' => ∃ ts : List Int, v = .int .i64 (worthP p ts) ∧
        GW w w.heap.size (.cells #[.slice A p.lots.length c, .slice B p.caps.length d, .int .i64 p.need] 27) g0 p.lots.length (some ⟨ob, oo, none⟩) (orderP p.lots) p.lots ts w' ∧ Hid (gall p ((orderP p.lots).drop (k + 1)) (gfill p i (room p i ts) ts) = greedyT p) ∧ room p i ts ≤ m)
      case atStart => exact ⟨ts0, rfl, HGW.out, HA2.out, Nat.le_refl _⟩
      case round =>
        obtain ⟨ts, rfl, hG, hall, hm⟩ := hrel
        have HG1 := Lib.hid hG
        have HA1 := Lib.hid hall.out
        obtain ⟨c0, c1, c2⟩ := box3 hG.x
        clear hG hall r0
        by_cases hn : worthP p ts < p.need
        · have hd : decide (worthP p ts < p.need) = true := decide_eq_true hn
          have HN := Lib.hid hn
          obtain ⟨t0, f0⟩ := own_row HG1.out.o (k := i) (by rw [HG1.out.i.1]; omega)
          obtain ⟨lb, lo, rfl, u0, u1, u2, u3⟩ := (HL.out.below HG1.out.b).get (k := i) (by omega)
          have hti := HG1.out.i.2 i (by omega)
          have hui := HK.out.lot i (by omega)
          have hu1 := hui.2.1
          clear hn u1 u2 u3 hui
          by_cases hu : gi ts i < (gl p.lots i).u
          · have hud : decide (gi ts i < (gl p.lots i).u) = true := decide_eq_true hu
            have HU := Lib.hid hu
            have hg' : gi ts i + 1 ≤ 1000 := by omega
            have hin := inLots_inc HG1.out.i (i := i) (by omega) hu
            have HIn := Lib.hid hin
            clear hu hin
            go_wp2_with fail
            go_quiet (fail)
            go_wp2_with fail
            have HG2 := Lib.hid ((HG1.out.below (bdN wr nq)).set (by omega) (by omega) HFR.out i (gi ts i + 1) HIn.out)
            refine (worthR' _ c B d p (some ⟨g0, 0, none⟩) p.lots.length p.lots.length (inc ts i) _ (HL.out.below HG2.out.b) (HC.out.below HG2.out.b) HG2.out.o.intsAt.1 HK.out HIn.out HIn.out.1).mono ?_
            rintro e w4 ⟨rfl, hb4⟩
            have HG4 := Lib.hid (HG2.out.below hb4)
            clear HG2 hb4 c0 c1 c2 t0 f0 u0 hd hud
            obtain ⟨t0, f0⟩ := own_row HG4.out.o (k := i) (by rw [HG4.out.i.1]; omega)
            have e0 : gi (ts.set i (gi ts i + 1)) i = gi ts i + 1 := by have := gi_inc ts i i (by rw [HG1.out.i.1]; omega); rwa [if_pos rfl] at this
            rw [e0] at t0
            clear e0
            by_cases hle : worthP p (inc ts i) ≤ worthP p ts
            · have HLE := Lib.hid hle
              clear hle
              have hld : decide (worthP p (inc ts i) ≤ worthP p ts) = true := decide_eq_true HLE.out
              go_wp2_with fail
              have hbk : (ts.set i (gi ts i + 1)).set i (gi ts i) = ts := inc_back ts i (by rw [HG1.out.i.1]; omega)
              have HG5 := Lib.hid (HG4.out.set (by omega) (by omega) HFR.out i (gi ts i) (by rw [hbk]; exact HG1.out.i))
              rw [hbk] at HG5
              go_roundw
              case rel => exact ⟨k + 1, ts, by omega, by go_num, rfl, HG5.out, by rw [gfill_back p i ts (by have := HN.out; omega) HLE.out] at HA1; exact HA1.out⟩
              case measure => simp only [intOf]; omega
            · have HLE := Lib.hid hle
              clear hle
              have hld : decide (worthP p (inc ts i) ≤ worthP p ts) = false := decide_eq_false HLE.out
              have hon := gfill_on p i ts (by rw [HG1.out.i.1]; omega) (by have := HN.out; omega) HU.out HLE.out
              have HON := Lib.hid hon
              clear hon
              go_wp2_with fail
              go_roundg (room p i (inc ts i))
              case measure => have := HON.out.2; omega
              case rel => exact ⟨inc ts i, rfl, HG4.out, by rw [HON.out.1] at HA1; exact HA1.out, Nat.le_refl _⟩
          · have hud : decide (gi ts i < (gl p.lots i).u) = false := decide_eq_false hu
            have HU := Lib.hid hu
            clear hu
            go_wp2_with fail
            go_quiet (fail)
            go_wp2_with fail
            go_roundw
            case rel => exact ⟨k + 1, ts, by omega, by go_num, rfl, HG1.out.below (bdN _ _), by rw [gfill_room p i ts (by have := HU.out; omega)] at HA1; exact HA1.out⟩
            case measure => simp only [intOf]; omega
        · have hd : decide (worthP p ts < p.need) = false := decide_eq_false hn
          have HN := Lib.hid hn
          clear hn
          go_wp2_with fail
          go_quiet (fail)
          go_wp2_with fail
          go_roundw
          case rel => exact ⟨k + 1, ts, by omega, by go_num, rfl, HG1.out.below (bdN _ _), by rw [gfill_full p i ts (by have := HN.out; omega)] at HA1; exact HA1.out⟩
          case measure => simp only [intOf]; omega
    · have hkn : k = p.lots.length := by omega
      have ht : ts0 = greedyT p := by
        have h := hall.out
        rw [List.drop_eq_nil_of_le (by rw [(places_order p.lots).len]; omega)] at h
        exact h
      subst ht
      obtain ⟨c0, c1, c2⟩ := box3 HGW.out.x
      have HI := Lib.hid HGW.out.o.intsAt.1
      have HKN := Lib.hid hkn
      clear hkn hall
      by_cases hn : worthP p (greedyT p) < p.need
      · have hd : decide (worthP p (greedyT p) < p.need) = true := decide_eq_true hn
        have HN := Lib.hid hn
        clear hn
        go_wp2_with fail
        go_ret2
        exact ⟨HGW.out.b, by rw [if_pos HN.out]; rfl⟩
      · have hd : decide (worthP p (greedyT p) < p.need) = false := decide_eq_false hn
        have HN := Lib.hid hn
        clear hn
        go_wp2_with fail
        go_ret2
        exact ⟨HGW.out.b, by rw [if_neg (by have := HN.out; omega)]; exact ⟨_, _, rfl, HI.out, Nat.le_refl _⟩⟩

end Go.Proofs.YtjaegolanbjgfaaDoor
