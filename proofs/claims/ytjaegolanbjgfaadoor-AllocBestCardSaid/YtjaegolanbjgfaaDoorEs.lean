import Derived.Deep.RegionLaw
import Derived.LaidEql
import Derived.Test.YtjaegolanbjgfaaDoorEr
import Derived.Test.YtjaegolanbjgfaaDoorLm
import Derived.WalkKit
import Derived.WalkSpells
import Derived.WalkLawsBesides
import Derived.Lib.Hide
import Derived.Deep.DeepCutAuto
import Derived.Deep.LoopGhost
import Derived.Deep.QuietTactic
import Derived.BigQuiet
import Derived.Deep.OwnRows
import Derived.StillTailTactics
import Derived.IntWalk
import Derived.Laws.BitsLemmas
import Derived.Laws.MathBits
import Derived.Laws.Bits64
import Derived.Deep.RegionHeld3
import Derived.BigRegion
import Derived.Lib.SliceRun
import Derived.Deep.AppendLies
set_option linter.unusedVariables false
set_option linter.unusedSimpArgs false
namespace Go.Proofs.YtjaegolanbjgfaaDoor
open Go.RowKit
def codeOf (k : Nat) : Nat := posL.idxOf k
theorem idx_at {k : Nat} (h : k ∈ posL) : posL[codeOf k]? = some k := by
  have : ∀ k ∈ posL, posL[posL.idxOf k]? = some k := by decide
  exact this k h
theorem idx_lt {k : Nat} (h : k ∈ posL) : codeOf k < 21 := by
  have : ∀ k ∈ posL, posL.idxOf k < 21 := by decide
  exact this k h
theorem idx_only {k i g : Nat} (hi : i < 21) (hg : posL[i]? = some g) (e : k = g) : i = codeOf k := by
  have : ∀ i, i < 21 → posL.idxOf (posL.getD i 0) = i := by decide
  have h := this i hi
  rw [List.getD_eq_getElem?_getD, hg] at h
  subst e
  exact h.symm
theorem posL_get {i : Nat} (hi : i < 21) : ∃ g, posL[i]? = some g ∧ g ∈ posL := by
  have hl : posL.length = 21 := by decide
  exact ⟨posL[i]'(by omega), List.getElem?_eq_getElem (by omega), List.getElem_mem _⟩
set_option maxRecDepth 100000 in
set_option maxHeartbeats 2000000 in
theorem sentinel_any (ea : Nat → Addr) (k : Nat) (hk : k ∈ posL) (w : World) (he : Errs ea w) :
    Calls Tryd.prog 75 #[.iface 130 (.pointer (some (ea k)))] w fun e w' => e = .returned (.int .i64 (101 + codeOf k)) ∧ Below w.heap.size w w' := by
  have HE := Lib.hid he
  have HK := Lib.hid hk
  have hcl := idx_lt hk
  clear he hk
  go_enter Tryd.func75, Tryd.ntmps75
  go_wp2_with fail
  refine (sentinels_any ea _ HE.out.s).mono ?_
  rintro e w1 ⟨hb1, g, rfl, hg, hh⟩
  have HB1 := Lib.hid hb1
  have HH := Lib.hid hh
  have HE1 := Lib.hid (HE.out.below hb1)
  clear hb1 hh hg
  go_wp2_with fail
  go_loopw [4] (fun i w' => ∃ j : Nat, j ≤ codeOf k ∧ i = .int .i64 j ∧ w' = w1) (fun i _ => 21 - (intOf i).toNat)
  case atStart => exact ⟨0, Nat.zero_le _, rfl, rfl⟩
  case round =>
    obtain ⟨j, hj, rfl, rfl⟩ := hrel
    have hj21 : j < 21 := by omega
    obtain ⟨h, hp, hm⟩ := posL_get hj21
    have hji : (j : Int) < 21 := by omega
    have hc : wr.cell? ⟨g, j, none⟩ = some (.iface 130 (.pointer (some (ea h)))) := by
      rw [cell_of_row wr g j _ _ _ HH.out, List.getElem?_toArray, List.getElem?_map, hp]; rfl
    have HA := Lib.hid (Alike_any ea k h HK.out hm wr HE1.out)
    by_cases hkh : k = h
    · have hjk := idx_only hj21 hp hkh
      have wj : IntKind.i64.wrap (101 + (j : Int)) = 101 + (j : Int) := IntWalk.i64_in _ (by omega)
      rw [show decide (k = h) = true by simp [hkh]] at HA
      have HJK := Lib.hid hjk
      clear hjk hkh hp hj
      go_wp2_with fail
      refine HA.out.mono ?_
      rintro e w2 ⟨rfl, rfl⟩
      go_wp2_with fail
      go_ret
      exact ⟨ret_int (by rw [HJK.out]), HB1.out⟩
    · have hjl : j + 1 ≤ codeOf k := by
        rcases Nat.lt_or_ge j (codeOf k) with h' | h'
        · omega
        · have e : j = codeOf k := by omega
          rw [e, idx_at HK.out] at hp
          exact absurd (Option.some.inj hp) hkh
      rw [show decide (k = h) = false by simp [hkh]] at HA
      go_wp2_with fail
      refine HA.out.mono ?_
      rintro e w2 ⟨rfl, rfl⟩
      go_wp2_with fail
      go_roundw
      case rel => exact ⟨j + 1, hjl, by go_num, trivial⟩
      case measure => simp only [intOf]; omega
theorem assert_at (a : Addr) (w : World) : (Instr.typeAssert (.iface 130 (.pointer (some a))) 36 109 true).run Tryd.prog w = .ok (.tuple #[.pointer none, .bool false]) w := by kernel_rfl
set_option maxHeartbeats 2000000 in
theorem Bare_any (k : Int) (w : World) : Calls Tryd.prog 39 #[.int .i64 k] w fun e w' => e = .returned (.agg #[.int .i64 k, .bool false, .int .i64 0]) ∧ Below w.heap.size w w' := by
  go_enter Tryd.func39, Tryd.ntmps39
  go_wp2_with fail
  refine bodyPost_ret (results_cell_row rfl _ _ w.heap.size 72 _ _ _ rfl (heap_alloc_new w _) Tryd.underlying72 rfl (by kernel_rfl)) rfl ⟨rfl, bal (Below.refl _ _) _⟩
set_option maxHeartbeats 2000000 in
theorem None_any (w : World) : Calls Tryd.prog 74 #[] w fun e w' => e = .returned (.agg #[.int .i64 0, .bool false, .int .i64 0]) ∧ Below w.heap.size w w' := by
  go_enter Tryd.func74, Tryd.ntmps74
  go_wp2_with fail
  refine bodyPost_ret (results_cell_row rfl _ _ w.heap.size 72 _ _ _ rfl (heap_alloc_new w _) Tryd.underlying72 rfl (by kernel_rfl)) rfl ⟨rfl, bal (Below.refl _ _) _⟩
set_option maxRecDepth 100000 in
set_option maxHeartbeats 2000000 in
theorem Fault_any (ea : Nat → Addr) (k : Nat) (hk : k ∈ posL) (w : World) (he : Errs ea w) :
    Calls Tryd.prog 62 #[.iface 130 (.pointer (some (ea k)))] w fun e w' => e = .returned (.agg #[.int .i64 (101 + codeOf k), .bool false, .int .i64 0]) ∧ Below w.heap.size w w' := by
  have H := Lib.hid fun W h => sentinel_any ea k hk W (he.below h)
  have hta := fun W => assert_at (ea k) W
  have HB0 := Lib.hid (bal (Below.refl w.heap.size w) (.cells #[.int .i64 0, .bool false, .int .i64 0] 72))
  have HX0 := Lib.hid (heap_alloc_new w (.cells #[.int .i64 0, .bool false, .int .i64 0] 72))
  clear he hk
  go_enter Tryd.func62, Tryd.ntmps62
  go_wp2_with fail
  refine (H.out _ HB0.out).mono ?_
  rintro e w1 ⟨rfl, hb1⟩
  have HB1 := Lib.hid (btr HB0.out hb1)
  have HX1 := Lib.hid (boxN HX0.out hb1)
  clear hb1 HB0 HX0
  go_wp2_with fail
  refine (Bare_any _ _).mono ?_
  rintro e w2 ⟨rfl, hb2⟩
  have HB2 := Lib.hid (btr HB1.out hb2)
  have HX2 := Lib.hid (boxN HX1.out hb2)
  obtain ⟨a0, a1, a2⟩ := box3 HX2.out
  have f0 := frz HX2.out 0
  have f1 := frz HX2.out 1
  have f2 := frz HX2.out 2
  clear hb2
  go_wp2_with fail
  refine bodyPost_ret (results_cell_row rfl _ _ w.heap.size 72 _ _ _ rfl (heap_set (heap_set (heap_set HX2.out _) _) _) Tryd.underlying72 rfl (by kernel_rfl)) rfl ⟨by simp, ((HB2.out.setCell (by simp) _).setCell (by simp) _).setCell (by simp) _⟩
set_option maxHeartbeats 2000000 in
theorem Fault_nil (w : World) : Calls Tryd.prog 62 #[.nilIface] w fun e w' => e = .returned (.agg #[.int .i64 0, .bool false, .int .i64 0]) ∧ Below w.heap.size w w' := by
  have HB0 := Lib.hid (bal (Below.refl w.heap.size w) (.cells #[.int .i64 0, .bool false, .int .i64 0] 72))
  have HX0 := Lib.hid (heap_alloc_new w (.cells #[.int .i64 0, .bool false, .int .i64 0] 72))
  go_enter Tryd.func62, Tryd.ntmps62
  go_wp2_with fail
  refine (None_any _).mono ?_
  rintro e w2 ⟨rfl, hb2⟩
  have HB2 := Lib.hid (btr HB0.out hb2)
  have HX2 := Lib.hid (boxN HX0.out hb2)
  obtain ⟨a0, a1, a2⟩ := box3 HX2.out
  have f0 := frz HX2.out 0
  have f1 := frz HX2.out 1
  have f2 := frz HX2.out 2
  clear hb2
  go_wp2_with fail
  refine bodyPost_ret (results_cell_row rfl _ _ w.heap.size 72 _ _ _ rfl (heap_set (heap_set (heap_set HX2.out _) _) _) Tryd.underlying72 rfl (by kernel_rfl)) rfl ⟨by simp, ((HB2.out.setCell (by simp) _).setCell (by simp) _).setCell (by simp) _⟩
set_option maxHeartbeats 2000000 in
theorem SameFault_any (a b : Int) (w : World) : Calls Tryd.prog 61 #[.agg #[.int .i64 a, .bool false, .int .i64 0], .agg #[.int .i64 b, .bool false, .int .i64 0]] w fun e w' => e = .returned (.bool (decide (a = b))) ∧ Below w.heap.size w w' := by
  go_enter Tryd.func61, Tryd.ntmps61
  by_cases hab : a = b
  · subst hab
    go_wp2_with fail
    go_ret
    exact ⟨ret_bool (by simp), bal (bal (Below.refl _ _) _) _⟩
  · have hab' : (a == b) = false := by simp [hab]
    go_wp2_with fail
    go_ret
    exact ⟨ret_bool (by simp [hab]), bal (bal (Below.refl _ _) _) _⟩
set_option maxHeartbeats 2000000 in
theorem Same_any (ev : Value) (cd c : Int) (w : World) (hF : ∀ W, Below w.heap.size w W → Calls Tryd.prog 62 #[ev] W fun e w' => e = .returned (.agg #[.int .i64 cd, .bool false, .int .i64 0]) ∧ Below W.heap.size W w') :
    Calls Tryd.prog 38 #[ev, .agg #[.int .i64 c, .bool false, .int .i64 0]] w fun e w' => e = .returned (.bool (decide (cd = c))) ∧ Below w.heap.size w w' := by
  have HF := Lib.hid hF
  have HB0 := Lib.hid (bal (Below.refl w.heap.size w) (.cells #[.int .i64 c, .bool false, .int .i64 0] 72)).drew
  have hx := heap_alloc_new w (.cells #[.int .i64 c, .bool false, .int .i64 0] 72)
  have HXD : Hid ((w.alloc (.cells #[.int .i64 c, .bool false, .int .i64 0] 72)).drew.heap[w.heap.size]? = some (.cells #[.int .i64 c, .bool false, .int .i64 0] 72 (0, 0))) := Lib.hid hx
  obtain ⟨b0, b1, b2⟩ := box3 hx
  clear hF hx
  go_enter Tryd.func38, Tryd.ntmps38
  go_wp2_with fail
  go_region_held3 (fun w' => w'.cell? ⟨w.heap.size, 0, none⟩ = some (.int .i64 c) ∧ w'.cell? ⟨w.heap.size, 1, none⟩ = some (.bool false) ∧ w'.cell? ⟨w.heap.size, 2, none⟩ = some (.int .i64 0)) (go_keep)
    (first
      | (go_at_call 62; go_must (refine (HF.out _ HB0.out).mono ?_); rintro e w2 ⟨rfl, hb2⟩; have e0 := (box3 (boxN HXD.out hb2)).1; have e1 := (box3 (boxN HXD.out hb2)).2.1; have e2 := (box3 (boxN HXD.out hb2)).2.2; have HB2 := Lib.hid (btr HB0.out hb2); clear hb2)
      | (go_at_call 61; go_must (refine (SameFault_any cd c _).mono ?_); rintro e w3 ⟨rfl, hb3⟩; have g0 := cellB hb3 e0; have g1 := cellB hb3 e1; have g2 := cellB hb3 e2; have HB3 := Lib.hid (btr HB2.out hb3); clear hb3))
  all_goals
    go_wp2_with fail
    go_ret
    exact ⟨rfl, HB3.out⟩
def codeE : Option Nat → Int
  | none => 0
  | some k => 101 + codeOf k
set_option maxHeartbeats 2000000 in
theorem Is_any (ea : Nat → Addr) (k : Option Nat) (hk : ∀ g, k = some g → g ∈ posL) (c : Int) (w : World) (he : Errs ea w) :
    Calls Tryd.prog 16 #[errV ea k, .int .i64 c] w fun e w' => e = .returned (.bool (decide (codeE k = c))) ∧ Below w.heap.size w w' := by
  have HFa : Hid (∀ W, Below w.heap.size w W → Calls Tryd.prog 62 #[errV ea k] W fun e w' => e = .returned (.agg #[.int .i64 (codeE k), .bool false, .int .i64 0]) ∧ Below W.heap.size W w') := Lib.hid (by
    intro W h
    cases k with
    | none => exact Fault_nil W
    | some g => exact Fault_any ea g (hk g rfl) W (he.below h))
  clear he hk
  generalize errV ea k = ev at *
  generalize codeE k = cd at *
  have HSm := Lib.hid fun W h => Same_any ev cd c W (fun W' h' => HFa.out W' (btr h h'))
  go_enter Tryd.func16, Tryd.ntmps16
  go_wp2_with fail
  refine (Bare_any _ _).mono ?_
  rintro e w1 ⟨rfl, hb1⟩
  have HB1 := Lib.hid hb1
  clear hb1
  go_wp2_with fail
  refine (HSm.out _ HB1.out).mono ?_
  rintro e w2 ⟨rfl, hb2⟩
  have HB2 := Lib.hid (btr HB1.out hb2)
  clear hb2
  go_wp2_with fail
  go_ret
  exact ⟨rfl, HB2.out⟩

end Go.Proofs.YtjaegolanbjgfaaDoor
