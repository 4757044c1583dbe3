import Derived.Test.YtjaegolanbjgfaaDoorFi
import Derived.WalkKit
import Derived.WalkSpells
import Derived.WalkLawsBesides
import Derived.Lib.Hide
import Derived.Deep.DeepCutAuto
import Derived.Deep.LoopGhost
import Derived.Deep.QuietTactic
import Derived.BigQuiet
import Derived.Deep.OwnRows
import Derived.StillTailTactics
import Derived.IntWalk
set_option linter.unusedVariables false
set_option linter.unusedSimpArgs false
namespace Go.Proofs.YtjaegolanbjgfaaDoor
open Go.RowKit

theorem fitsB_yes {p : Prob} {ts : List Int} (h : fitsB p ts = true) : Ok p ∧ inLots p.lots ts := by
  simp only [fitsB, Bool.and_eq_true, Option.isNone_iff_eq_none, decide_eq_true_eq] at h
  exact ⟨ok_of_valid h.1, h.2⟩
theorem fitsB_of {p : Prob} {ts : List Int} (h : Ok p) (hi : inLots p.lots ts) : fitsB p ts = true := by
  simp [fitsB, valid_of_ok h, hi]
def worthV (p : Prob) (ts : List Int) : Int := if fitsB p ts then worthP p ts else 0
def costV (p : Prob) (ts : List Int) : Int := if fitsB p ts then costP p ts else 0
def enough (p : Prob) (ts : List Int) : Bool := fitsB p ts && decide (p.need ≤ worthP p ts)
theorem ret_ib {k : IntKind} {a b : Int} {c d : Bool} (h : a = b) (h' : c = d) : Ending.returned (.tuple #[.int k a, .bool c]) = .returned (.tuple #[.int k b, .bool d]) := by rw [h, h']

section
variable (A : Option Addr) (c : Nat) (B : Option Addr) (d : Nat) (p : Prob) (T : Option Addr) (f : Nat) (ts : List Int) (ea : Nat → Addr) (w : World) (hL : LotsAt w A p.lots) (hC : IntsAt w B p.caps) (hT : IntsAt w T ts) (hs : Sent 3 ea w)
include hL hC hT hs
set_option maxHeartbeats 1000000 in
theorem Worth_any :
    Calls Tryd.prog 37 #[pv A c B d p, .slice T ts.length f] w fun e w' => e = .returned (.tuple #[.int .i64 (worthV p ts), .bool (fitsB p ts)]) ∧ Below w.heap.size w w' := by
  have HL := Lib.hid hL
  have HC := Lib.hid hC
  have HT := Lib.hid hT
  have HS := Lib.hid hs
  have HB0 := Lib.hid (bal (Below.refl w.heap.size w) (.cells #[.slice A p.lots.length c, .slice B p.caps.length d, .int .i64 p.need] 25))
  clear hL hC hT hs
  go_enter Tryd.func37, Tryd.ntmps37
  go_wp2_with fail
  refine (fits_any A c B d p T f ts ea _ (HL.out.below HB0.out) (HC.out.below HB0.out) (HT.out.below HB0.out) (HS.out.below HB0.out)).mono ?_
  rintro e w1 ⟨rfl, hb1⟩
  have c0 := cellB hb1 (a := ⟨w.heap.size, 0, none⟩) (v := .slice A p.lots.length c) ((cellN w _ 25 0).trans rfl)
  have c1 := cellB hb1 (a := ⟨w.heap.size, 1, none⟩) (v := .slice B p.caps.length d) ((cellN w _ 25 1).trans rfl)
  have c2 := cellB hb1 (a := ⟨w.heap.size, 2, none⟩) (v := .int .i64 p.need) ((cellN w _ 25 2).trans rfl)
  have hb := btr HB0.out hb1
  clear hb1
  cases hf : fitsB p ts
  · have HF := Lib.hid hf
    clear hf
    go_wp2_with fail
    go_ret2
    exact ⟨ret_ib (by rw [worthV, HF.out]; rfl) HF.out.symm, hb⟩
  · have HF := Lib.hid hf
    clear hf
    go_wp2_with fail
    refine (worth_any A c B d p T f ts _ (HL.out.below hb) (HC.out.below hb) (HT.out.below hb) (fitsB_yes HF.out).1 (fitsB_yes HF.out).2).mono ?_
    rintro e w2 ⟨rfl, hb2⟩
    go_wp2_with fail
    go_ret2
    exact ⟨ret_ib (by rw [worthV, HF.out]; rfl) HF.out.symm, btr hb hb2⟩
set_option maxHeartbeats 1000000 in
theorem Fits_any :
    Calls Tryd.prog 25 #[pv A c B d p, .slice T ts.length f] w fun e w' => e = .returned (.bool (enough p ts)) ∧ Below w.heap.size w w' := by
  have HL := Lib.hid hL
  have HC := Lib.hid hC
  have HT := Lib.hid hT
  have HS := Lib.hid hs
  have HB0 := Lib.hid (bal (Below.refl w.heap.size w) (.cells #[.slice A p.lots.length c, .slice B p.caps.length d, .int .i64 p.need] 25))
  clear hL hC hT hs
  go_enter Tryd.func25, Tryd.ntmps25
  go_wp2_with fail
  refine (Worth_any A c B d p T f ts ea _ (HL.out.below HB0.out) (HC.out.below HB0.out) (HT.out.below HB0.out) (HS.out.below HB0.out)).mono ?_
  rintro e w1 ⟨rfl, hb1⟩
  have c0 := cellB hb1 (a := ⟨w.heap.size, 0, none⟩) (v := .slice A p.lots.length c) ((cellN w _ 25 0).trans rfl)
  have c1 := cellB hb1 (a := ⟨w.heap.size, 1, none⟩) (v := .slice B p.caps.length d) ((cellN w _ 25 1).trans rfl)
  have c2 := cellB hb1 (a := ⟨w.heap.size, 2, none⟩) (v := .int .i64 p.need) ((cellN w _ 25 2).trans rfl)
  have hb := btr HB0.out hb1
  clear hb1
  cases hf : fitsB p ts
  · have HF := Lib.hid hf
    clear hf
    go_wp2_with fail
    go_ret
    exact ⟨ret_bool (by rw [enough, HF.out]; rfl), hb⟩
  · have HF := Lib.hid hf
    clear hf
    go_wp2_with fail
    all_goals (go_ret; exact ⟨ret_bool (by rw [enough, HF.out]; simp [worthV, HF.out]), hb⟩)
set_option maxHeartbeats 1000000 in
theorem Cost_any :
    Calls Tryd.prog 26 #[pv A c B d p, .slice T ts.length f] w fun e w' => e = .returned (.tuple #[.int .i64 (costV p ts), .bool (fitsB p ts)]) ∧ Below w.heap.size w w' := by
  have HL := Lib.hid hL
  have HC := Lib.hid hC
  have HT := Lib.hid hT
  have HS := Lib.hid hs
  have HB0 := Lib.hid (bal (Below.refl w.heap.size w) (.cells #[.slice A p.lots.length c, .slice B p.caps.length d, .int .i64 p.need] 25))
  clear hL hC hT hs
  go_enter Tryd.func26, Tryd.ntmps26
  go_wp2_with fail
  refine (fits_any A c B d p T f ts ea _ (HL.out.below HB0.out) (HC.out.below HB0.out) (HT.out.below HB0.out) (HS.out.below HB0.out)).mono ?_
  rintro e w1 ⟨rfl, hb1⟩
  have c0 := cellB hb1 (a := ⟨w.heap.size, 0, none⟩) (v := .slice A p.lots.length c) ((cellN w _ 25 0).trans rfl)
  have hb := btr HB0.out hb1
  clear hb1
  cases hf : fitsB p ts
  · have HF := Lib.hid hf
    clear hf
    go_wp2_with fail
    go_ret2
    exact ⟨ret_ib (by rw [costV, HF.out]; rfl) HF.out.symm, hb⟩
  · have HF := Lib.hid hf
    obtain ⟨hok, hi⟩ := fitsB_yes hf
    have hm1 := hok.n8
    have hm2 : ts.length ≤ 8 := by have := hi.1; omega
    have HK := Lib.hid hok
    have HI := Lib.hid hi
    clear hf hok hi
    go_wp2_with fail
    go_loop [6, 15] (fun s i => ∃ k : Nat, k ≤ ts.length ∧ i = .int .i64 k ∧ s = .int .i64 (csum p.lots ts k)) (fun _ i => ts.length - (intOf i).toNat)
    case atStart => exact ⟨0, Nat.zero_le _, rfl, rfl⟩
    case round =>
      obtain ⟨k, hk, rfl, rfl⟩ := hrel
      by_cases hlt : k < ts.length
      · have hlt2 : k < p.lots.length := by have := HI.out.1; omega
        obtain ⟨b, o, rfl, t0⟩ := (HT.out.below hb).get hlt
        obtain ⟨b2, o2, rfl, u0, u1, u2, u3⟩ := (HL.out.below hb).get hlt2
        have tb := tc_bd HK.out HI.out hlt2
        have sb := csum_bd HK.out HI.out k (by omega)
        clear u0 u1 u3
        go_wp2_with fail
        go_round
        case rel => exact ⟨k + 1, by omega, by go_num, rfl⟩
        case measure => simp only [intOf]; omega
      · have hkn : k = p.lots.length := by have := HI.out.1; omega
        have HKN := Lib.hid hkn
        clear hkn
        go_wp2_with fail
        go_ret2
        exact ⟨ret_ib (by rw [costV, HF.out, HKN.out]; rfl) HF.out.symm, hb⟩
end
end Go.Proofs.YtjaegolanbjgfaaDoor
