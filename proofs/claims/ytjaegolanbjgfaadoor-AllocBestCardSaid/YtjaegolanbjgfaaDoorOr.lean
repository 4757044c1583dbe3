import Derived.Test.YtjaegolanbjgfaaDoorFx
import Derived.Test.YtjaegolanbjgfaaDoorWh
import Derived.WalkKit
import Derived.WalkSpells
import Derived.WalkLawsBesides
import Derived.Lib.Hide
import Derived.Deep.DeepCutAuto
import Derived.Deep.LoopGhost
import Derived.Deep.QuietTactic
import Derived.BigQuiet
import Derived.Deep.OwnRows
import Derived.StillTailTactics
import Derived.IntWalk
import Derived.Laws.BitsLemmas
import Derived.Laws.MathBits
import Derived.Laws.Bits64
import Derived.Deep.RegionHeld3
import Derived.BigRegion
set_option linter.unusedVariables false
set_option linter.unusedSimpArgs false
namespace Go.Proofs.YtjaegolanbjgfaaDoor
open Go.RowKit
/-- Lots whose values and costs are small. -/
def Fair (ls : List Lot) : Prop := ∀ k, k < ls.length → 0 ≤ (gl ls k).v ∧ (gl ls k).v ≤ 1000000000 ∧ 0 ≤ (gl ls k).c ∧ (gl ls k).c ≤ 1000000000
def lt3 (ls : List Lot) (a b : Int) : Int := if ltL ls a b then -1 else if ltL ls b a then 1 else 0
theorem lt3_neg (ls : List Lot) (a b : Int) : decide (lt3 ls a b < 0) = ltL ls a b := by
  unfold lt3; split
  · simp [*]
  · split <;> simp [*]
set_option maxRecDepth 100000 in
set_option maxHeartbeats 1000000 in
theorem order1 (A : Option Addr) (c : Nat) (ls : List Lot) (a b : Nat) (pb : Nat) (w : World) (hL : LotsAt w A ls) (hF : Fair ls) (ha : a < ls.length) (hb : b < ls.length) (hp : w.cell? ⟨pb, 0, none⟩ = some (.slice A ls.length c)) :
    Calls Tryd.prog 57 #[.int .i64 a, .int .i64 b, .pointer (some ⟨pb, 0, none⟩)] w fun e w' => e = .returned (.int .i64 (lt3 ls a b)) ∧ Below w.heap.size w w' := by
  obtain ⟨o1, o2, rfl, a0, a1, a2, a3⟩ := hL.get ha
  obtain ⟨o1', o2', he, b0, b1, b2, b3⟩ := hL.get hb
  have he' : o1 = o1' ∧ o2 = o2' := by simpa using he
  obtain ⟨rfl, rfl⟩ := he'
  have hai : (a : Int) < (ls.length : Int) := by omega
  have hbi : (b : Int) < (ls.length : Int) := by omega
  have C1 := Lib.hid fun W => Cheaper_any (gl ls a) (gl ls b) W ⟨(hF a ha).1, (hF a ha).2.1⟩ (hF a ha).2.2 ⟨(hF b hb).1, (hF b hb).2.1⟩ (hF b hb).2.2
  have C2 := Lib.hid fun W => Cheaper_any (gl ls b) (gl ls a) W ⟨(hF b hb).1, (hF b hb).2.1⟩ (hF b hb).2.2 ⟨(hF a ha).1, (hF a ha).2.1⟩ (hF a ha).2.2
  clear hL hF he
  go_enter Tryd.func57, Tryd.ntmps57
  go_wp2_with fail
  go_region_held3 (fun w' => w'.cell? ⟨pb, 0, none⟩ = some (.slice (some ⟨o1, o2, none⟩) ls.length c) ∧ w'.cell? ⟨o1, o2 + a * 4, none⟩ = some (.int .i64 (gl ls a).u) ∧ w'.cell? ⟨o1, o2 + a * 4 + 1, none⟩ = some (.int .i64 (gl ls a).v) ∧ w'.cell? ⟨o1, o2 + a * 4 + 2, none⟩ = some (.int .i64 (gl ls a).c) ∧ w'.cell? ⟨o1, o2 + a * 4 + 3, none⟩ = some (.int .i64 (gl ls a).g)
      ∧ w'.cell? ⟨o1, o2 + b * 4, none⟩ = some (.int .i64 (gl ls b).u) ∧ w'.cell? ⟨o1, o2 + b * 4 + 1, none⟩ = some (.int .i64 (gl ls b).v) ∧ w'.cell? ⟨o1, o2 + b * 4 + 2, none⟩ = some (.int .i64 (gl ls b).c) ∧ w'.cell? ⟨o1, o2 + b * 4 + 3, none⟩ = some (.int .i64 (gl ls b).g)) (go_keep)
    (first
      | (go_at_call 58; go_must (refine (C1.out _).mono ?_); rintro e w1 ⟨rfl, hb1⟩; have hbw := btr (Below.refl w.heap.size w).drew hb1; have d0 := cellB hbw hp; have d1 := cellB hbw a0; have d2 := cellB hbw a1; have d3 := cellB hbw a2; have d4 := cellB hbw a3; have d5 := cellB hbw b0; have d6 := cellB hbw b1; have d7 := cellB hbw b2; have d8 := cellB hbw b3; clear hb1))
  cases h1 : cheaperB (gl ls a) (gl ls b)
  · have H1 := Lib.hid h1
    clear h1 hp a0 a1 a2 a3 b0 b1 b2 b3
    go_wp2_with fail
    go_region_held3 (fun w' => w'.cell? ⟨pb, 0, none⟩ = some (.slice (some ⟨o1, o2, none⟩) ls.length c) ∧ w'.cell? ⟨o1, o2 + a * 4, none⟩ = some (.int .i64 (gl ls a).u) ∧ w'.cell? ⟨o1, o2 + a * 4 + 1, none⟩ = some (.int .i64 (gl ls a).v) ∧ w'.cell? ⟨o1, o2 + a * 4 + 2, none⟩ = some (.int .i64 (gl ls a).c) ∧ w'.cell? ⟨o1, o2 + a * 4 + 3, none⟩ = some (.int .i64 (gl ls a).g)
      ∧ w'.cell? ⟨o1, o2 + b * 4, none⟩ = some (.int .i64 (gl ls b).u) ∧ w'.cell? ⟨o1, o2 + b * 4 + 1, none⟩ = some (.int .i64 (gl ls b).v) ∧ w'.cell? ⟨o1, o2 + b * 4 + 2, none⟩ = some (.int .i64 (gl ls b).c) ∧ w'.cell? ⟨o1, o2 + b * 4 + 3, none⟩ = some (.int .i64 (gl ls b).g)) (go_keep)
      (first
        | (go_at_call 58; go_must (refine (C2.out _).mono ?_); rintro e w2 ⟨rfl, hb2⟩; have hbv := btr (Below.refl w1.heap.size w1).drew hb2; have e0 := cellB hbv d0; have e1 := cellB hbv d1; have e2 := cellB hbv d2; have e3 := cellB hbv d3; have e4 := cellB hbv d4; have e5 := cellB hbv d5; have e6 := cellB hbv d6; have e7 := cellB hbv d7; have e8 := cellB hbv d8; clear hb2))
    cases h2 : cheaperB (gl ls b) (gl ls a)
    · have H2 := Lib.hid h2
      clear h2
      go_wp2_with fail
      go_ret
      exact ⟨ret_int (by have h1 := H1.out; have h2 := H2.out; simp [lt3, ltL, h1, h2]), btr hbw hbv⟩
    · have H2 := Lib.hid h2
      clear h2
      go_wp2_with fail
      go_ret
      exact ⟨ret_int (by have h1 := H1.out; have h2 := H2.out; simp [lt3, ltL, h1, h2]), btr hbw hbv⟩
  · have H1 := Lib.hid h1
    clear h1
    go_wp2_with fail
    go_ret
    exact ⟨ret_int (by have h1 := H1.out; simp [lt3, ltL, h1]), hbw⟩

theorem own_row {w : World} {base : Nat} {e : TypeId} {g n c : Nat} {xs : List Int} (h : Own w base e (.slice (some ⟨g, 0, none⟩) n c) xs) {k : Nat} (hk : k < xs.length) :
    w.cell? ⟨g, k, none⟩ = some (.int .i64 (gi xs k)) ∧ w.frozen? ⟨g, k, none⟩ = false := by
  have hc := World.ownsRow.cells h (g := g) rfl k (.int .i64 (gi xs k)) (by simp [gi, List.getD_eq_getElem?_getD, List.getElem?_eq_getElem hk])
  rw [add0] at hc
  refine ⟨hc, ?_⟩
  rcases h.2 with ⟨h', _⟩ | ⟨g', cap', cur, h', _, hh, _⟩
  · simp at h'
  · simp only [Value.slice.injEq, Option.some.injEq, Addr.mk.injEq] at h'
    obtain ⟨⟨rfl, _⟩, _⟩ := h'
    simp [World.frozen?, hh]
theorem Own.set {w : World} {base : Nat} {e : TypeId} {g n c : Nat} {xs : List Int} (h : Own w base e (.slice (some ⟨g, 0, none⟩) n c) xs) (i : Nat) (x : Int) :
    Own (w.setCell ⟨g, i, none⟩ (.int .i64 x)) base e (.slice (some ⟨g, 0, none⟩) n c) (xs.set i x) ∧ w.grownBy (w.setCell ⟨g, i, none⟩ (.int .i64 x)) (some g) := by
  have hl : n = xs.length := by
    rcases h.2 with ⟨h', _⟩ | ⟨g', cap', cur, h', _⟩
    · simp at h'
    · simp only [Value.slice.injEq] at h'; exact h'.2.1
  subst hl
  have hs := World.ownsRow.stored h i (.int .i64 x)
  unfold Own
  rw [List.length_set, List.map_set]
  exact hs
theorem grb {w w' : World} (h : Below w.heap.size w w') (row : Option Nat) : w.grownBy w' row := ⟨h.os, h.tape, h.output, h.size, fun i hi _ => h.block i hi⟩
theorem grt {w w1 w2 : World} {row : Option Nat} (h : w.grownBy w1 row) (k : w1.grownBy w2 row) : w.grownBy w2 row := World.grownBy.trans h k
theorem grN {w w1 : World} {row : Option Nat} (h : w.grownBy w1 row) (n : Nat) : w.grownBy (w1.drewN n) row := ⟨h.os, h.tape, h.output, h.size, h.block⟩
theorem LotsAt.grown {w w' : World} {A : Option Addr} {xs : List Lot} {g : Nat} (h : LotsAt w A xs) (hg : w.grownBy w' (some g)) (hA : ∀ b o, A = some ⟨b, o, none⟩ → b ≠ g) : LotsAt w' A xs :=
  ⟨h.1, fun hp => by
    obtain ⟨b, o, e, hc⟩ := h.2 hp
    have hn := hA b o e
    refine ⟨b, o, e, fun j hj => ?_⟩
    obtain ⟨c0, c1, c2, c3⟩ := hc j hj
    exact ⟨hg.cell c0 (by simpa using hn), hg.cell c1 (by simpa using hn), hg.cell c2 (by simpa using hn), hg.cell c3 (by simpa using hn)⟩⟩
set_option maxRecDepth 100000 in
set_option maxHeartbeats 2000000 in
theorem insertion (A : Option Addr) (c : Nat) (ls : List Lot) (pb base g cap : Nat) (xs : List Int) (w : World) (hL : LotsAt w A ls) (hF : Fair ls) (hp : w.cell? ⟨pb, 0, none⟩ = some (.slice A ls.length c))
    (hO : Own w base 3 (.slice (some ⟨g, 0, none⟩) ls.length cap) xs) (hP : Places ls.length xs) (h1 : 1 ≤ ls.length) (h8 : ls.length ≤ 8) (hpg : pb ≠ g) (hA : ∀ b o, A = some ⟨b, o, none⟩ → b ≠ g) :
    Calls Tryd.prog 79 #[.slice (some ⟨g, 0, none⟩) ls.length cap, .int .i64 0, .int .i64 ls.length, .func (.func 57) #[] #[.pointer (some ⟨pb, 0, none⟩)]] w fun e w' => e = .returned (.tuple #[]) ∧ Own w' base 3 (.slice (some ⟨g, 0, none⟩) ls.length cap) (isort (ltL ls) ls.length xs) ∧ w.grownBy w' (some g) := by
  have HL := Lib.hid hL
  have HF := Lib.hid hF
  have HP := Lib.hid hP
  have HA := Lib.hid hA
  have Hp := Lib.hid hp
  have HO := Lib.hid hO
  have HG := Lib.hid hpg
  clear hL hF hP hA hp hO hpg
  go_enter Tryd.func79, Tryd.ntmps79
  go_wp2_with fail
  go_loopw [8] (fun i w' => ∃ k : Nat, 1 ≤ k ∧ k ≤ ls.length ∧ i = .int .i64 k ∧ Own w' base 3 (.slice (some ⟨g, 0, none⟩) ls.length cap) (isort (ltL ls) k xs) ∧ w.grownBy w' (some g)) (fun i _ => ls.length - (intOf i).toNat)
  case atStart => exact ⟨1, by omega, by omega, rfl, HO.out, grb (Below.refl _ _) _⟩
  case round =>
    obtain ⟨k, hk1, hk, rfl, hown, hgr⟩ := hrel
    have HO1 := Lib.hid hown
    have HGR := Lib.hid hgr
    clear hown hgr
    by_cases hlt : k < ls.length
    · go_wp2_with fail
      go_loopw [9] (fun j w' => ∃ (m : Nat) (ys : List Int), m ≤ k ∧ j = .int .i64 m ∧ Own w' base 3 (.slice (some ⟨g, 0, none⟩) ls.length cap) ys ∧ w.grownBy w' (some g) ∧ Places ls.length ys ∧ Hid (sink (ltL ls) m ys = sink (ltL ls) k (isort (ltL ls) k xs))) (fun j _ => (intOf j).toNat)
      case atStart => exact ⟨k, _, Nat.le_refl _, rfl, HO1.out, HGR.out, Places.isort _ _ HP.out hk, rfl⟩
      case round =>
        obtain ⟨m, ys, hm, rfl, hown, hgr, hpl, hs⟩ := hrel
        have HO2 := Lib.hid hown
        have HGR2 := Lib.hid hgr
        have HPL := Lib.hid hpl
        clear hown hgr hpl
        rcases m with _ | m
        · go_wp2_with fail
          go_quiet (fail)
          go_wp2_with fail
          go_roundw
          case rel => exact ⟨k + 1, by omega, by omega, by go_num, by rw [isort, ← hs.out]; exact HO2.out, grN HGR2.out _⟩
          case measure => simp only [intOf]; omega
        · obtain ⟨j, hj⟩ : ∃ j, j = m + 1 := ⟨_, rfl⟩
          rw [← hj]
          obtain ⟨c0, f0⟩ := own_row HO2.out (k := j) (by rw [HPL.out.len]; omega)
          obtain ⟨c1, f1⟩ := own_row HO2.out (k := m) (by rw [HPL.out.len]; omega)
          obtain ⟨a, ha⟩ := Int.eq_ofNat_of_zero_le (HPL.out.inr j (by omega)).1
          obtain ⟨b, hb⟩ := Int.eq_ofNat_of_zero_le (HPL.out.inr m (by omega)).1
          have ha2 := (HPL.out.inr j (by omega)).2
          have hb2 := (HPL.out.inr m (by omega)).2
          rw [ha] at c0 ha2
          rw [hb] at c1 hb2
          have HA1 := Lib.hid ha
          have HB1 := Lib.hid hb
          have HJ := Lib.hid hj
          have hpc := HGR2.out.cell Hp.out (by simpa using HG.out)
          have CO := Lib.hid fun W (h : Below wr.heap.size wr W) => order1 A c ls a b pb W ((HL.out.grown HGR2.out HA.out).below h) HF.out (by omega) (by omega) (cellB h hpc)
          have i1 : (j : Int) < (ls.length : Int) := by omega
          have i2 : 0 < (j : Int) := by omega
          have i5 : 0 < j := by omega
          have i3 : IntKind.i64.wrap ((j : Int) - 1) = m := by rw [IntWalk.i64_in _ (by omega)]; omega
          have i4 : (m : Int) < (ls.length : Int) := by omega
          have HS := Lib.hid hs.out
          have HM := Lib.hid hm
          clear ha hb hpc hj hm hs
          go_wp2_with fail
          go_region_held3 (fun w' => w'.cell? ⟨g, j, none⟩ = some (.int .i64 a) ∧ w'.cell? ⟨g, m, none⟩ = some (.int .i64 b)) (go_keep)
            (first
              | (go_at_call 57; go_must (refine (CO.out _ (Below.refl wr.heap.size wr).drew).mono ?_); rintro e w1 ⟨rfl, hb1⟩; have hbw := btr (Below.refl wr.heap.size wr).drew hb1; have d0 := cellB hbw c0; have d1 := cellB hbw c1; clear hb1))
          rw [lt3_neg]
          have HO3 := Lib.hid (HO2.out.below hbw)
          have HGR3 := Lib.hid (grt HGR2.out (grb hbw (some g)))
          obtain ⟨_, g0⟩ := own_row HO3.out (k := j) (by rw [HPL.out.len]; omega)
          obtain ⟨_, g1⟩ := own_row HO3.out (k := m) (by rw [HPL.out.len]; omega)
          cases hlt3 : ltL ls a b
          · have H3 := Lib.hid hlt3
            clear hlt3
            go_wp2_with fail
            go_roundw
            case rel => exact ⟨k + 1, by omega, by omega, by go_num, by rw [isort, ← HS.out, sink, ← HJ.out, HA1.out, HB1.out, H3.out]; exact HO3.out, HGR3.out⟩
            case measure => simp only [intOf]; omega
          · have H3 := Lib.hid hlt3
            clear hlt3 c0 c1 f0 f1 CO
            obtain ⟨d2, g2⟩ := own_row (HO3.out.set j b).1 (k := m) (by rw [List.length_set, HPL.out.len]; omega)
            go_wp2_with fail
            go_region
            have HO4 := Lib.hid ((HO3.out.set j b).1.set m a)
            have HGR4 := Lib.hid (grt (grt HGR3.out (HO3.out.set j b).2) HO4.out.2)
            clear d0 d1 g0 g1 d2 g2 hbw
            go_wp2_with fail
            go_roundw
            case rel =>
              refine ⟨m, swap2 ys m, by have := HM.out; omega, rfl, ?_, grN HGR4.out 1, HPL.out.swap (by have := HJ.out; omega), ?_⟩
              · unfold swap2; rw [← HJ.out, HA1.out, HB1.out]; exact HO4.out.1
              · rw [← HS.out, sink, ← HJ.out, HA1.out, HB1.out, H3.out]; rfl
            case measure => have := HJ.out; simp only [intOf]; omega
    · have hkn : k = ls.length := by omega
      subst hkn
      go_wp2_with fail
      go_end0
      exact ⟨rfl, HO1.out, HGR.out⟩
theorem Own.form {w : World} {base : Nat} {e : TypeId} {v : Value} {xs : List Int} (h : Own w base e v xs) (hp : 0 < xs.length) : ∃ g cap, v = .slice (some ⟨g, 0, none⟩) xs.length cap ∧ base ≤ g ∧ g < w.heap.size := by
  rcases h.2 with ⟨rfl, hx⟩ | ⟨g, cap, cur, rfl, hg, hh, _⟩
  · omega
  · exact ⟨g, cap, rfl, hg, (Array.getElem?_eq_some_iff.1 hh).1⟩
section
variable (A : Option Addr) (c : Nat) (ls : List Lot) (pb base g cap : Nat) (xs : List Int) (w : World) (hL : LotsAt w A ls) (hF : Fair ls) (hp : w.cell? ⟨pb, 0, none⟩ = some (.slice A ls.length c))
    (hO : Own w base 3 (.slice (some ⟨g, 0, none⟩) ls.length cap) xs) (hP : Places ls.length xs) (h1 : 1 ≤ ls.length) (h8 : ls.length ≤ 8) (hpg : pb ≠ g) (hA : ∀ b o, A = some ⟨b, o, none⟩ → b ≠ g)
include hL hF hp hO hP h1 h8 hpg hA
set_option maxRecDepth 100000 in
set_option maxHeartbeats 1000000 in
theorem stable : Calls Tryd.prog 71 #[.slice (some ⟨g, 0, none⟩) ls.length cap, .int .i64 ls.length, .func (.func 57) #[] #[.pointer (some ⟨pb, 0, none⟩)]] w fun e w' => e = .returned (.tuple #[]) ∧ Own w' base 3 (.slice (some ⟨g, 0, none⟩) ls.length cap) (isort (ltL ls) ls.length xs) ∧ w.grownBy w' (some g) := by
  have H := Lib.hid (insertion A c ls pb base g cap xs w hL hF hp hO hP h1 h8 hpg hA)
  clear hL hF hp hO hP hpg hA
  have n1 : decide ((20 : Int) ≤ (ls.length : Int)) = false := decide_eq_false (by omega)
  go_enter Tryd.func71, Tryd.ntmps71
  go_wp2_with fail
  go_loop [7, 8] (fun x y => x = .int .i64 0 ∧ y = .int .i64 20) (fun _ _ => 0)
  case atStart => exact ⟨rfl, rfl⟩
  case round =>
    obtain ⟨rfl, rfl⟩ := hrel
    go_wp2_with fail
    refine H.out.mono ?_
    rintro e w1 ⟨rfl, ho, hg⟩
    have HO := Lib.hid ho
    have HG := Lib.hid hg
    clear ho hg
    go_wp2_with fail
    go_loop [6] (fun x => x = .int .i64 20) (fun _ => 0)
    case atStart => rfl
    case round =>
      obtain rfl := hrel
      go_wp2_with fail
      go_end0
      exact ⟨rfl, HO.out, HG.out⟩
set_option maxHeartbeats 1000000 in
theorem sortStable : Calls Tryd.prog 56 #[.slice (some ⟨g, 0, none⟩) ls.length cap, .func (.func 57) #[] #[.pointer (some ⟨pb, 0, none⟩)]] w fun e w' => e = .returned (.tuple #[]) ∧ Own w' base 3 (.slice (some ⟨g, 0, none⟩) ls.length cap) (isort (ltL ls) ls.length xs) ∧ w.grownBy w' (some g) := by
  have H := Lib.hid (stable A c ls pb base g cap xs w hL hF hp hO hP h1 h8 hpg hA)
  clear hL hF hp hO hP hpg hA
  go_enter Tryd.func56, Tryd.ntmps56
  go_wp2_with fail
  refine H.out.mono ?_
  rintro e w1 ⟨rfl, ho, hg⟩
  have HO := Lib.hid ho
  have HG := Lib.hid hg
  clear ho hg
  go_wp2_with fail
  go_end0
  exact ⟨rfl, HO.out, HG.out⟩
end
set_option maxRecDepth 100000 in
set_option maxHeartbeats 2000000 in
theorem Order_any (A : Option Addr) (c : Nat) (ls : List Lot) (w : World) (hL : LotsAt w A ls) (hF : Fair ls) (h1 : 1 ≤ ls.length) (h8 : ls.length ≤ 8) :
    Calls Tryd.prog 34 #[.slice A ls.length c] w (GivesInts (orderP ls) w) := by
  have HL := Lib.hid hL
  have HF := Lib.hid hF
  have HB0 := Lib.hid (bal (Below.refl w.heap.size w) (.cells #[.slice A ls.length c] 22))
  have HC0 := Lib.hid ((cellN w #[.slice A ls.length c] 22 0).trans rfl)
  clear hL hF
  go_enter Tryd.func34, Tryd.ntmps34
  go_wp2_with fail
  go_loopw [3, 7] (fun v i w' => ∃ k : Nat, k ≤ ls.length ∧ i = .int .i64 k ∧ Below (w.alloc (.cells #[.slice A ls.length c] 22)).heap.size (w.alloc (.cells #[.slice A ls.length c] 22)) w' ∧ Own w' (w.heap.size + 1) 3 v (upto k)) (fun _ i _ => ls.length - (intOf i).toNat)
  case atStart => exact ⟨0, Nat.zero_le _, rfl, Below.refl _ _, Own.nil _ _ _⟩
  case round =>
    obtain ⟨k, hk, rfl, hb, hown⟩ := hrel
    have HO := Lib.hid hown
    have HBB := Lib.hid hb
    have hsz : w.heap.size + 1 ≤ wr.heap.size := by have := hb.size; simpa using this
    clear hown hb
    by_cases hlt : k < ls.length
    · go_wp2_with (first | (at_builtin; go_must (refine app_ints (w.heap.size + 1) rfl (.tmp 10) (.tmp 12) 32 3 rfl Tryd.underlying32 info3 _ (upto k) (k : Int) _ rfl rfl rfl HO.out ?c1 ?c2 ?_)))
      case c1 => exact hsz
      case c2 => rw [upto_len]; omega
      intro v1 w1 ho1 hg1
      have hb1 := bgr HBB.out HO.out (by simp) hg1
      have HB1 := Lib.hid hb1
      have HO2 := Lib.hid ho1
      clear hg1 ho1 hb1
      go_wp2_with fail
      go_roundw
      case rel => exact ⟨k + 1, by omega, by go_num, HB1.out, by rw [upto_succ]; exact HO2.out⟩
      case measure => simp only [intOf]; omega
    · have hkn : k = ls.length := by omega
      subst hkn
      obtain ⟨g, cap, rfl, hg1, hg2⟩ := HO.out.form (by rw [upto_len]; omega)
      rw [upto_len]
      rw [upto_len] at HO
      have HS := Lib.hid (sortStable A c ls w.heap.size (w.heap.size + 1) g cap (upto ls.length) wr (HL.out.below (HB0.out.trans (HBB.out.mono (by simp)))) HF.out (cellB HBB.out HC0.out) HO.out (places_upto _) h1 h8 (by omega) (fun b o e => by obtain ⟨b', o', e', h0, _⟩ := HL.out.get (k := 0) (by omega); have := World.block_lt_of_cell? w _ h0; rw [e] at e'; simp only [Option.some.injEq, Addr.mk.injEq] at e'; simp only at this; omega))
      go_wp2_with fail
      refine HS.out.mono ?_
      rintro e w1 ⟨rfl, ho, hg⟩
      have HO1 := Lib.hid ho
      have HG1 := Lib.hid hg
      clear ho hg
      go_wp2_with fail
      go_ret
      have hb2 : Below w.heap.size w wr := HB0.out.trans (HBB.out.mono (by simp))
      obtain ⟨A', c', e', hi, hc, hfr⟩ := HO1.out.ints
      simp only [Value.slice.injEq] at e'
      obtain ⟨rfl, e2, rfl⟩ := e'
      exact ⟨_, cap, by rw [show (orderP ls).length = ls.length from (places_order ls).len]; rfl, hi, hc, fun b o e => by have := hfr b o e; omega, hb2.grown HG1.out hb2.size (fun k hk => by simp only [Option.some.injEq] at hk; omega)⟩
end Go.Proofs.YtjaegolanbjgfaaDoor
