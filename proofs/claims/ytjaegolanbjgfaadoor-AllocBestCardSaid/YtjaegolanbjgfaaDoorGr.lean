import Derived.Test.YtjaegolanbjgfaaDoorOr
import Derived.Test.YtjaegolanbjgfaaDoorMc
import Derived.WalkKit
import Derived.WalkSpells
import Derived.WalkLawsBesides
import Derived.Lib.Hide
import Derived.Deep.DeepCutAuto
import Derived.Deep.LoopGhost
import Derived.Deep.QuietTactic
import Derived.BigQuiet
import Derived.Deep.OwnRows
import Derived.StillTailTactics
import Derived.IntWalk
import Derived.Laws.BitsLemmas
import Derived.Laws.MathBits
import Derived.Laws.Bits64
import Derived.Deep.RegionHeld3
import Derived.BigRegion
set_option linter.unusedVariables false
set_option linter.unusedSimpArgs false
namespace Go.Proofs.YtjaegolanbjgfaaDoor
open Go.RowKit
theorem Own.intsAt {w : World} {base : Nat} {e : TypeId} {g n c : Nat} {xs : List Int} (h : Own w base e (.slice (some ⟨g, 0, none⟩) n c) xs) : IntsAt w (some ⟨g, 0, none⟩) xs ∧ xs.length = n := by
  obtain ⟨A, c', e, hi, _⟩ := h.ints
  simp only [Value.slice.injEq] at e
  obtain ⟨rfl, rfl, rfl⟩ := e
  exact ⟨hi, rfl⟩
theorem own_zeros (W : World) (n : Nat) (hm : n ≤ 9223372036854775807) : Own (W.alloc (.cells (madeCells #[.int .i64 0] n) 3)) W.heap.size 3 (.slice (some ⟨W.heap.size, 0, none⟩) n n) (zeros n) := by
  have h := World.ownsRow_lit (base := W.heap.size) (e := 3) (size := 1) W (madeCells #[.int .i64 0] n) n (Nat.le_refl _) (by simpa [maxLen] using hm) (by simp [size_madeCells])
  have hl : (madeCells #[Value.int .i64 0] n).toList = (zeros n).map (Value.int .i64) := by
    apply List.ext_getElem
    · simp [zeros, madeCells]
    · intro i h1 h2
      simp [zeros, madeCells, Nat.mod_one]
  unfold Own
  rw [zeros_len, ← hl]
  exact h
def GivesGreedy (p : Prob) (w : World) (e : Ending) (w' : World) : Prop :=
  Below w.heap.size w w' ∧ if worthP p (greedyT p) < p.need then e = .returned (.tuple #[.slice none 0 0, .bool false]) else
    ∃ A c, e = .returned (.tuple #[.slice A p.lots.length c, .bool true]) ∧ IntsAt w' A (greedyT p) ∧ p.lots.length ≤ c
theorem Fair.of_ok {p : Prob} (h : Ok p) : Fair p.lots := fun k hk => by have := h.lot k hk; omega
theorem worth_any' (A : Option Addr) (c : Nat) (B : Option Addr) (d : Nat) (p : Prob) (T : Option Addr) (f n : Nat) (ts : List Int) (w : World) (hL : LotsAt w A p.lots) (hC : IntsAt w B p.caps) (hT : IntsAt w T ts) (hok : Ok p) (hi : inLots p.lots ts) (hn : ts.length = n) :
    Calls Tryd.prog 55 #[pv A c B d p, .slice T n f] w fun e w' => e = .returned (.int .i64 (worthP p ts)) ∧ Below w.heap.size w w' := by subst hn; exact worth_any A c B d p T f ts w hL hC hT hok hi
theorem box3 {w : World} {g t : Nat} {x y z : Value} (h : w.heap[g]? = some (.cells #[x, y, z] t (0, 0))) : w.cell? ⟨g, 0, none⟩ = some x ∧ w.cell? ⟨g, 1, none⟩ = some y ∧ w.cell? ⟨g, 2, none⟩ = some z :=
  ⟨cell_of_row _ _ 0 _ _ _ h, cell_of_row _ _ 1 _ _ _ h, cell_of_row _ _ 2 _ _ _ h⟩
theorem bdN (w : World) (n : Nat) : Below w.heap.size w (w.drewN n) := ⟨rfl, rfl, rfl, Nat.le_refl _, fun _ _ => rfl⟩
/-- The world in the greedy loops. -/
structure GW (w : World) (pb : Nat) (bx : Obj) (g n : Nat) (O : Option Addr) (os : List Int) (ls : List Lot) (ts : List Int) (w' : World) : Prop where
  b : Below w.heap.size w w'
  x : w'.heap[pb]? = some bx
  o : Own w' g 3 (.slice (some ⟨g, 0, none⟩) n n) ts
  r : IntsAt w' O os
  i : inLots ls ts
theorem GW.below {w : World} {pb : Nat} {bx : Obj} {g n : Nat} {O : Option Addr} {os : List Int} {ls : List Lot} {ts : List Int} {w1 w2 : World} (h : GW w pb bx g n O os ls ts w1) (hb : Below w1.heap.size w1 w2) : GW w pb bx g n O os ls ts w2 :=
  ⟨btr h.b hb, (hb.block _ (Array.getElem?_eq_some_iff.1 h.x).1).trans h.x, h.o.below hb, h.r.below hb, h.i⟩
theorem IntsAt.grown {w w' : World} {A : Option Addr} {xs : List Int} {g : Nat} (h : IntsAt w A xs) (hg : w.grownBy w' (some g)) (hA : ∀ b o, A = some ⟨b, o, none⟩ → b ≠ g) : IntsAt w' A xs :=
  ⟨h.1, fun hp => by
    obtain ⟨b, o, e, hc⟩ := h.2 hp
    have hn := hA b o e
    exact ⟨b, o, e, fun j hj => hg.cell (hc j hj) (by simpa using hn)⟩⟩
theorem GW.set {w : World} {pb : Nat} {bx : Obj} {g n : Nat} {O : Option Addr} {os : List Int} {ls : List Lot} {ts : List Int} {w1 : World} (h : GW w pb bx g n O os ls ts w1) (hpb : pb ≠ g) (hw : w.heap.size ≤ g) (hO : ∀ b o, O = some ⟨b, o, none⟩ → b ≠ g)
    (i : Nat) (x : Int) (hi : inLots ls (ts.set i x)) : GW w pb bx g n O os ls (ts.set i x) (w1.setCell ⟨g, i, none⟩ (.int .i64 x)) :=
  ⟨h.b.setCell hw _, (Below.heap_setCell _ _ _ _ hpb).trans h.x, (h.o.set i x).1, h.r.grown (h.o.set i x).2 hO, hi⟩
set_option maxRecDepth 100000 in
set_option maxHeartbeats 4000000 in
theorem Greedy_any (A : Option Addr) (c : Nat) (B : Option Addr) (d : Nat) (p : Prob) (ea : Nat → Addr) (w : World) (hL : LotsAt w A p.lots) (hC : IntsAt w B p.caps) (hs : Sent 3 ea w) (hok : Ok p) :
    Calls Tryd.prog 33 #[pv A c B d p] w (GivesGreedy p w) := by
  have HL := Lib.hid hL
  have HC := Lib.hid hC
  have HS := Lib.hid hs
  have HK := Lib.hid hok
  have hm1 := hok.n8
  have HV := Lib.hid (valid_of_ok hok)
  have HB0 := Lib.hid (bal (Below.refl w.heap.size w) (.cells #[.slice A p.lots.length c, .slice B p.caps.length d, .int .i64 p.need] 25))
  have hmk := run_make_row' (P := Tryd.prog) 32 3 (.int .i64 0) 8 Tryd.underlying32 info3 rfl .i64 .i64 p.lots.length (by omega) (by omega)
  clear hL hC hs hok
  go_enter Tryd.func33, Tryd.ntmps33
  go_wp2_with fail
  refine (valid_any A c B d p ea _ (HL.out.below HB0.out) (HC.out.below HB0.out) (HS.out.below HB0.out)).mono ?_
  rintro e w1 ⟨rfl, hb1⟩
  rw [HV.out, errV]
  have hbox1 : w1.heap[w.heap.size]? = some (.cells #[.slice A p.lots.length c, .slice B p.caps.length d, .int .i64 p.need] 25 (0, 0)) := (hb1.block _ (by simp)).trans (heap_alloc_new _ _)
  have HX1 := Lib.hid hbox1
  obtain ⟨c0, c1, c2⟩ := box3 hbox1
  have HBa := Lib.hid (btr HB0.out hb1)
  have l1 := World.block_lt_of_cell? w1 _ c0
  clear hb1 hbox1
  go_wp2_with fail
  have HBb := Lib.hid (bal (Below.refl w1.heap.size w1) (.cells (madeCells #[.int .i64 0] p.lots.length) 3))
  have hO1 := own_zeros w1 p.lots.length (by omega)
  have HBc := Lib.hid (btr HBa.out HBb.out)
  refine (worth_any' A c B d p (some ⟨w1.heap.size, 0, none⟩) p.lots.length p.lots.length (zeros p.lots.length) _ (HL.out.below HBc.out) (HC.out.below HBc.out) hO1.intsAt.1 HK.out (inLots_zeros HK.out) (zeros_len _)).mono ?_
  rintro e w2 ⟨rfl, hb2⟩
  have HO2 := Lib.hid (hO1.below hb2)
  have hbox2 := (hb2.block w.heap.size (by simp; omega)).trans ((HBb.out.block _ l1).trans HX1.out)
  have HX2 := Lib.hid hbox2
  obtain ⟨d0, d1, d2⟩ := box3 hbox2
  have HBd := Lib.hid (btr HBc.out hb2)
  have hg := HO2.out.form (by rw [zeros_len]; exact HK.out.n0)
  clear hbox2 hb2 hO1 c0 c1 c2 HX1 HB0 HBa HBb HBc hmk
  go_wp2_with fail
  refine (Order_any A c p.lots w2 (HL.out.below HBd.out) (Fair.of_ok HK.out) HK.out.n0 hm1).mono ?_
  rintro e w3 ⟨O, co, rfl, hio, hco, hfr, hb3⟩
  rw [(places_order p.lots).len] at hco ⊢
  have hg0 : w1.heap.size < w2.heap.size := by obtain ⟨_, _, e, _, h⟩ := hg; simp only [Value.slice.injEq, Option.some.injEq, Addr.mk.injEq] at e; omega
  clear hg
  generalize w1.heap.size = g0 at *
  have HO3 := Lib.hid (HO2.out.below hb3)
  have hbox3 := (hb3.block w.heap.size (by omega)).trans HX2.out
  have HX3 := Lib.hid hbox3
  have HBe := Lib.hid (btr HBd.out hb3)
  have HFR := Lib.hid (fun b o e => (by have := hfr b o e; omega : b ≠ g0))
  have HI := Lib.hid hio
  clear hbox3 HX2 HO2 HBd d0 d1 d2 hb3 hfr hio
  go_wp2_with fail
  have HG3 := Lib.hid (GW.mk HBe.out HX3.out HO3.out HI.out (inLots_zeros HK.out))
  clear HX3 HO3 HI HBe
  go_loopw [5, 23] (fun v i w' => ∃ (k : Nat) (ts : List Int), k ≤ p.lots.length ∧ i = .int .i64 k ∧ v = .int .i64 (worthP p ts) ∧
    GW w w.heap.size (.cells #[.slice A p.lots.length c, .slice B p.caps.length d, .int .i64 p.need] 25) g0 p.lots.length O (orderP p.lots) p.lots ts w' ∧ Hid (gall p ((orderP p.lots).drop k) ts = greedyT p)) (fun _ i _ => p.lots.length - (intOf i).toNat)
  case atStart => exact ⟨0, _, Nat.zero_le _, rfl, rfl, HG3.out, rfl⟩
  case round =>
    obtain ⟨k, ts0, hk, rfl, rfl, hG, hall⟩ := hrel
    have HGW := Lib.hid hG
    clear hG
    by_cases hlt : k < p.lots.length
    · have hko : k < (orderP p.lots).length := by rw [(places_order p.lots).len]; exact hlt
      obtain ⟨ob, oo, rfl, r0⟩ := HGW.out.r.get hko
      obtain ⟨i, hi⟩ := Int.eq_ofNat_of_zero_le ((places_order p.lots).inr k hlt).1
      have hi2 := ((places_order p.lots).inr k hlt).2
      rw [hi] at r0 hi2
      have hall2 : gall p ((orderP p.lots).drop (k + 1)) (gfill p i (room p i ts0) ts0) = greedyT p := by
        have h := hall.out
        rw [drop_gi hko, hi] at h
        exact h
      have HA2 := Lib.hid hall2
      clear hi hall2 hall hko
      go_wp2_with fail
      go_loopg [5] (room p i ts0) (fun m v w' => ∃ ts : List Int, v = .int .i64 (worthP p ts) ∧
        GW w w.heap.size (.cells #[.slice A p.lots.length c, .slice B p.caps.length d, .int .i64 p.need] 25) g0 p.lots.length (some ⟨ob, oo, none⟩) (orderP p.lots) p.lots ts w' ∧ Hid (gall p ((orderP p.lots).drop (k + 1)) (gfill p i (room p i ts) ts) = greedyT p) ∧ room p i ts ≤ m)
      case atStart => exact ⟨ts0, rfl, HGW.out, HA2.out, Nat.le_refl _⟩
      case round =>
        obtain ⟨ts, rfl, hG, hall, hm⟩ := hrel
        have HG1 := Lib.hid hG
        have HA1 := Lib.hid hall.out
        obtain ⟨c0, c1, c2⟩ := box3 hG.x
        clear hG hall r0
        by_cases hn : worthP p ts < p.need
        · have hd : decide (worthP p ts < p.need) = true := decide_eq_true hn
          have HN := Lib.hid hn
          obtain ⟨t0, f0⟩ := own_row HG1.out.o (k := i) (by rw [HG1.out.i.1]; omega)
          obtain ⟨lb, lo, rfl, u0, u1, u2, u3⟩ := (HL.out.below HG1.out.b).get (k := i) (by omega)
          have hti := HG1.out.i.2 i (by omega)
          have hui := HK.out.lot i (by omega)
          have hu1 := hui.2.1
          clear hn u1 u2 u3 hui
          by_cases hu : gi ts i < (gl p.lots i).u
          · have hud : decide (gi ts i < (gl p.lots i).u) = true := decide_eq_true hu
            have HU := Lib.hid hu
            have hg' : gi ts i + 1 ≤ 1000 := by omega
            have hin := inLots_inc HG1.out.i (i := i) (by omega) hu
            have HIn := Lib.hid hin
            clear hu hin
            go_wp2_with fail
            go_quiet (fail)
            go_wp2_with fail
            have HG2 := Lib.hid ((HG1.out.below (bdN wr nq)).set (by omega) (by omega) HFR.out i (gi ts i + 1) HIn.out)
            refine (worth_any' _ c B d p (some ⟨g0, 0, none⟩) p.lots.length p.lots.length (inc ts i) _ (HL.out.below HG2.out.b) (HC.out.below HG2.out.b) HG2.out.o.intsAt.1 HK.out HIn.out HIn.out.1).mono ?_
            rintro e w4 ⟨rfl, hb4⟩
            have HG4 := Lib.hid (HG2.out.below hb4)
            clear HG2 hb4 c0 c1 c2 t0 f0 u0 hd hud
            obtain ⟨t0, f0⟩ := own_row HG4.out.o (k := i) (by rw [HG4.out.i.1]; omega)
            have e0 : gi (ts.set i (gi ts i + 1)) i = gi ts i + 1 := by have := gi_inc ts i i (by rw [HG1.out.i.1]; omega); rwa [if_pos rfl] at this
            rw [e0] at t0
            clear e0
            by_cases hle : worthP p (inc ts i) ≤ worthP p ts
            · have HLE := Lib.hid hle
              clear hle
              have hld : decide (worthP p (inc ts i) ≤ worthP p ts) = true := decide_eq_true HLE.out
              go_wp2_with fail
              have hbk : (ts.set i (gi ts i + 1)).set i (gi ts i) = ts := inc_back ts i (by rw [HG1.out.i.1]; omega)
              have HG5 := Lib.hid (HG4.out.set (by omega) (by omega) HFR.out i (gi ts i) (by rw [hbk]; exact HG1.out.i))
              rw [hbk] at HG5
              go_roundw
              case rel => exact ⟨k + 1, ts, by omega, by go_num, rfl, HG5.out, by rw [gfill_back p i ts (by have := HN.out; omega) HLE.out] at HA1; exact HA1.out⟩
              case measure => simp only [intOf]; omega
            · have HLE := Lib.hid hle
              clear hle
              have hld : decide (worthP p (inc ts i) ≤ worthP p ts) = false := decide_eq_false HLE.out
              have hon := gfill_on p i ts (by rw [HG1.out.i.1]; omega) (by have := HN.out; omega) HU.out HLE.out
              have HON := Lib.hid hon
              clear hon
              go_wp2_with fail
              go_roundg (room p i (inc ts i))
              case measure => have := HON.out.2; omega
              case rel => exact ⟨inc ts i, rfl, HG4.out, by rw [HON.out.1] at HA1; exact HA1.out, Nat.le_refl _⟩
          · have hud : decide (gi ts i < (gl p.lots i).u) = false := decide_eq_false hu
            have HU := Lib.hid hu
            clear hu
            go_wp2_with fail
            go_quiet (fail)
            go_wp2_with fail
            go_roundw
            case rel => exact ⟨k + 1, ts, by omega, by go_num, rfl, HG1.out.below (bdN _ _), by rw [gfill_room p i ts (by have := HU.out; omega)] at HA1; exact HA1.out⟩
            case measure => simp only [intOf]; omega
        · have hd : decide (worthP p ts < p.need) = false := decide_eq_false hn
          have HN := Lib.hid hn
          clear hn
          go_wp2_with fail
          go_quiet (fail)
          go_wp2_with fail
          go_roundw
          case rel => exact ⟨k + 1, ts, by omega, by go_num, rfl, HG1.out.below (bdN _ _), by rw [gfill_full p i ts (by have := HN.out; omega)] at HA1; exact HA1.out⟩
          case measure => simp only [intOf]; omega
    · have hkn : k = p.lots.length := by omega
      have ht : ts0 = greedyT p := by
        have h := hall.out
        rw [List.drop_eq_nil_of_le (by rw [(places_order p.lots).len]; omega)] at h
        exact h
      subst ht
      obtain ⟨c0, c1, c2⟩ := box3 HGW.out.x
      have HI := Lib.hid HGW.out.o.intsAt.1
      have HKN := Lib.hid hkn
      clear hkn hall
      by_cases hn : worthP p (greedyT p) < p.need
      · have hd : decide (worthP p (greedyT p) < p.need) = true := decide_eq_true hn
        have HN := Lib.hid hn
        clear hn
        go_wp2_with fail
        go_ret2
        exact ⟨HGW.out.b, by rw [if_pos HN.out]; rfl⟩
      · have hd : decide (worthP p (greedyT p) < p.need) = false := decide_eq_false hn
        have HN := Lib.hid hn
        clear hn
        go_wp2_with fail
        go_ret2
        exact ⟨HGW.out.b, by rw [if_neg (by have := HN.out; omega)]; exact ⟨_, _, rfl, HI.out, Nat.le_refl _⟩⟩
end Go.Proofs.YtjaegolanbjgfaaDoor
