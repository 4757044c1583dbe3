import Derived.Test.YtjaegolanbjgfaaDoorBase
import Derived.WalkKit
import Derived.WalkSpells
import Derived.WalkLawsBesides
import Derived.Lib.Hide
import Derived.Deep.DeepCutAuto
import Derived.Deep.LoopGhost
import Derived.Deep.QuietTactic
import Derived.BigQuiet
set_option linter.unusedVariables false
set_option linter.unusedSimpArgs false
namespace Go.Proofs.YtjaegolanbjgfaaDoor
open Go.RowKit

set_option maxHeartbeats 400000 in
theorem indexInts (A : Option Addr) (xs : List Int) (c : Nat) (w : World) (h : IntsAt w A xs) :
    Calls Tryd.prog 66 #[.slice A xs.length c, .func (.func 47) #[] #[]] w (SomeIdx (xs.any fun x => !decide (0 ≤ x ∧ x ≤ 1000000000000)) w) := by
  have hm := h.1
  have H := Lib.hid h
  clear h
  go_enter Tryd.func66, Tryd.ntmps66
  go_wp2
  go_loopw [5, 8] (fun _ i w' => ∃ k : Nat, k ≤ xs.length ∧ i = .int .i64 k ∧ Below w.heap.size w w' ∧ Hid (∀ j, j < k → (!decide (0 ≤ gi xs j ∧ gi xs j ≤ 1000000000000)) = false)) (fun _ i _ => xs.length - (intOf i).toNat)
  case atStart => exact ⟨0, Nat.zero_le _, rfl, Below.refl _ _, fun j hj => absurd hj (by omega)⟩
  case round =>
    obtain ⟨k, hk, rfl, hb, ho⟩ := hrel
    by_cases hlt : k < xs.length
    · obtain ⟨b, o, rfl, h0⟩ := (H.out.below hb).get hlt
      go_wp2_with fail
      refine (valid2 (gi xs k) _).mono ?_
      rintro e w1 ⟨rfl, hb1⟩
      have hb2 := btr hb hb1
      clear hb hb1
      cases hx : !decide (0 ≤ gi xs k ∧ gi xs k ≤ 1000000000000)
      · have HX := Lib.hid hx
        clear hx
        go_wp2
        go_roundw
        case rel => exact ⟨k + 1, by omega, by go_num, hb2, fun j hj => by rcases Nat.lt_or_ge j k with h | h; exact ho j h; rw [show j = k by omega]; exact HX⟩
        case measure => simp only [intOf]; omega
      · have HX := Lib.hid hx
        clear hx
        go_wp2
        go_ret
        exact ⟨k, rfl, by rw [any_at (p := fun x => !decide (0 ≤ x ∧ x ≤ 1000000000000)) 0 HX.out hlt]; simp, hb2⟩
    · go_wp2
      go_ret
      exact ⟨-1, rfl, by rw [any_take (p := fun x => !decide (0 ≤ x ∧ x ≤ 1000000000000)) 0 ho.out (by omega)]; rfl, hb⟩

set_option maxHeartbeats 400000 in
theorem containsLots (A : Option Addr) (xs : List Lot) (c : Nat) (p : Lot → Bool) (pb : Addr) (w : World) (h : LotsAt w A xs)
    (hp : ∀ x w1, Below w.heap.size w w1 → Calls Tryd.prog 44 #[lv x, .pointer (some pb)] w1 fun e w' => e = .returned (.bool (p x)) ∧ Below w1.heap.size w1 w') :
    Calls Tryd.prog 43 #[.slice A xs.length c, .func (.func 44) #[] #[.pointer (some pb)]] w fun e w' => e = .returned (.bool (xs.any p)) ∧ Below w.heap.size w w' := by
  have H := indexLots A xs c p pb w h hp
  clear h hp
  go_enter Tryd.func43, Tryd.ntmps43
  go_wp2_with fail
  refine H.mono ?_
  rintro e w1 ⟨i, rfl, hi, hb⟩
  have HI := Lib.hid hi
  clear hi H
  go_wp2
  all_goals (go_ret; exact ⟨ret_bool (by rw [← HI.out]), hb⟩)

set_option maxHeartbeats 400000 in
theorem containsInts (A : Option Addr) (xs : List Int) (c : Nat) (w : World) (h : IntsAt w A xs) :
    Calls Tryd.prog 46 #[.slice A xs.length c, .func (.func 47) #[] #[]] w fun e w' => e = .returned (.bool (xs.any fun x => !decide (0 ≤ x ∧ x ≤ 1000000000000))) ∧ Below w.heap.size w w' := by
  have H := indexInts A xs c w h
  clear h
  go_enter Tryd.func46, Tryd.ntmps46
  go_wp2_with fail
  refine H.mono ?_
  rintro e w1 ⟨i, rfl, hi, hb⟩
  have HI := Lib.hid hi
  clear hi H
  go_wp2
  all_goals (go_ret; exact ⟨ret_bool (by rw [← HI.out]), hb⟩)

/-- A problem as a value. -/
abbrev pv (A : Option Addr) (c : Nat) (B : Option Addr) (d : Nat) (p : Prob) : Value := .agg #[.slice A p.lots.length c, .slice B p.caps.length d, .int .i64 p.need]
/-- The errors: the variables' places. -/
def Sent (n : Nat) (ea : Nat → Addr) (w : World) : Prop := ∀ g, g < n → g ≠ 5 → g ≠ 6 → w.cell? ⟨g, 0, none⟩ = some (.iface 130 (.pointer (some (ea g))))
theorem Sent.below {n : Nat} {ea : Nat → Addr} {w w' : World} (h : Sent n ea w) (hb : Below w.heap.size w w') : Sent n ea w' := fun g h0 h5 h6 => cellB hb (h g h0 h5 h6)
def errV (ea : Nat → Addr) : Option Nat → Value
  | none => .nilIface
  | some g => .iface 130 (.pointer (some (ea g)))
set_option maxHeartbeats 1000000 in
theorem valid_any (A : Option Addr) (c : Nat) (B : Option Addr) (d : Nat) (p : Prob) (ea : Nat → Addr) (w : World) (hL : LotsAt w A p.lots) (hC : IntsAt w B p.caps) (hs : Sent 3 ea w) :
    Calls Tryd.prog 21 #[pv A c B d p] w fun e w' => e = .returned (errV ea (valid p)) ∧ Below w.heap.size w w' := by
  have s2 := hs 2 (by omega) (by omega) (by omega)
  have l2 := World.block_lt_of_cell? w _ s2
  have s0 := hs 0 (by omega) (by omega) (by omega)
  have l0 := World.block_lt_of_cell? w _ s0
  have HL := Lib.hid hL
  have HC := Lib.hid hC
  have hm1 := hL.1
  have hm2 := hC.1
  clear hL hC hs
  by_cases hmany : p.lots.length = 0 ∨ 8 < p.lots.length ∨ p.caps.length = 0 ∨ 8 < p.caps.length
  · have hM : valid p = some 2 := by unfold valid many; rw [if_pos (decide_eq_true hmany)]
    have HM := Lib.hid hM
    have HX := Lib.hid hmany
    clear hmany hM
    go_enter Tryd.func21, Tryd.ntmps21
    go_wp2_with fail
    all_goals first
      | (go_ret; exact ⟨by rw [HM.out]; rfl, bal (Below.refl _ _) _⟩)
      | (exfalso; have hX := HX.out; have h_ := ‹_ ∧ _›; simp only [beq_eq_false_iff_ne] at h_; omega)
  · have hN : many p = false := decide_eq_false hmany
    have HN := Lib.hid hN
    have n1 : ((p.lots.length : Int) == 0) = false := beq_eq_false_iff_ne.2 (by omega)
    have n2 : decide (8 < (p.lots.length : Int)) = false := decide_eq_false (by omega)
    have n3 : ((p.caps.length : Int) == 0) = false := beq_eq_false_iff_ne.2 (by omega)
    have n4 : decide (8 < (p.caps.length : Int)) = false := decide_eq_false (by omega)
    clear hmany hN
    have hb0 : Below w.heap.size w (w.alloc (.cells #[.slice A p.lots.length c, .slice B p.caps.length d, .int .i64 p.need] 25)) := bal (Below.refl _ _) _
    have HB0 := Lib.hid hb0
    clear hb0
    go_enter Tryd.func21, Tryd.ntmps21
    go_wp2_with fail
    refine (containsLots A p.lots c (fun x => !lotOk x p.caps.length) _ _ (HL.out.below HB0.out) (fun x w1 hb1 => valid1 x w.heap.size (.slice A p.lots.length c) B p.caps.length d w1 (cellB hb1 ((cellN w _ 25 0).trans rfl)) (cellB hb1 ((cellN w _ 25 1).trans rfl)))).mono ?_
    rintro e w1 ⟨rfl, hb1⟩
    have c0 := cellB hb1 (a := ⟨w.heap.size, 0, none⟩) (v := .slice A p.lots.length c) ((cellN w _ 25 0).trans rfl)
    have c1 := cellB hb1 (a := ⟨w.heap.size, 1, none⟩) (v := .slice B p.caps.length d) ((cellN w _ 25 1).trans rfl)
    have c2 := cellB hb1 (a := ⟨w.heap.size, 2, none⟩) (v := .int .i64 p.need) ((cellN w _ 25 2).trans rfl)
    have hb := btr HB0.out hb1
    clear HB0 hb1
    replace s0 := cellB hb s0
    replace l0 := World.block_lt_of_cell? w1 _ s0
    cases hx : p.lots.any fun x => !lotOk x p.caps.length
    · have HX := Lib.hid hx
      clear hx
      go_wp2_with fail
      refine (containsInts B p.caps d w1 (HC.out.below hb)).mono ?_
      rintro e w2 ⟨rfl, hb2⟩
      have c2' := cellB hb2 c2
      have hb := btr hb hb2
      replace s0 := cellB hb2 s0
      replace l0 := World.block_lt_of_cell? w2 _ s0
      clear hb2 c0 c1 c2
      cases hy : p.caps.any fun x => !decide (0 ≤ x ∧ x ≤ 1000000000000)
      · have HY := Lib.hid hy
        clear hy
        go_wp2_with (first | (go_at_call 48; refine (within_any _ _ _).mono ?_; rintro e w' ⟨rfl, rfl⟩))
        all_goals (go_ret; exact ⟨by unfold valid badNums; rw [HN.out, HX.out, HY.out]; simp only [Bool.false_or]; first | (rw [if_neg (by simp), if_pos (by simp at *; omega)]; rfl) | (rw [if_neg (by simp), if_neg (by simp at *; omega)]; rfl), hb⟩)
      · have HY := Lib.hid hy
        clear hy
        go_wp2_with fail
        go_ret
        exact ⟨by unfold valid badNums; rw [HN.out, HX.out, HY.out]; rfl, hb⟩
    · have HX := Lib.hid hx
      clear hx
      go_wp2_with fail
      go_ret
      exact ⟨by unfold valid badNums; rw [HN.out, HX.out]; rfl, hb⟩
end Go.Proofs.YtjaegolanbjgfaaDoor
