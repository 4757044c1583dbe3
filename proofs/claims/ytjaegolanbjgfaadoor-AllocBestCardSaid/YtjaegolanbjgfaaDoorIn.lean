import Derived.Deep.RegionLaw
import Derived.LaidEql
import Derived.Test.YtjaegolanbjgfaaDoorMw
import Derived.Test.YtjaegolanbjgfaaDoorRe
import Derived.WalkKit
import Derived.WalkSpells
import Derived.WalkLawsBesides
import Derived.Lib.Hide
import Derived.Deep.DeepCutAuto
import Derived.Deep.LoopGhost
import Derived.Deep.QuietTactic
import Derived.BigQuiet
import Derived.Deep.OwnRows
import Derived.StillTailTactics
import Derived.IntWalk
import Derived.Laws.BitsLemmas
import Derived.Laws.MathBits
import Derived.Laws.Bits64
import Derived.Deep.RegionHeld3
import Derived.BigRegion
import Derived.Lib.SliceRun
import Derived.Deep.AppendLies
set_option linter.unusedVariables false
set_option linter.unusedSimpArgs false
namespace Go.Proofs.YtjaegolanbjgfaaDoor
open Go.RowKit
set_option maxRecDepth 100000 in
set_option maxHeartbeats 4000000 in
theorem Ints_any (A : Option Addr) (c : Nat) (xs : List Int) (w : World) (hX : IntsAt w A xs) (h8 : xs.length ≤ 8) :
    Calls Tryd.prog 64 #[.slice A xs.length c] w fun e w' => Below w.heap.size w w' ∧ ∃ v, e = .returned v ∧ Own w' w.heap.size 3 v xs := by
  have HX := Lib.hid hX
  clear hX
  obtain ⟨i0, hi0, hzz⟩ := Option.map_eq_some_iff.1 info3
  simp only [Prod.mk.injEq] at hzz
  obtain ⟨W0, hr, hown0, hg0⟩ := run_make_own (P := Tryd.prog) w w.heap.size 32 3 i0 (.int .i64 0) 1 Tryd.underlying32 hi0 hzz.1 hzz.2.1 .i64 .i64 xs.length (by rw [hzz.2.2]; omega) (by simp only [maxLen]; omega) (Nat.le_refl _)
  have HB0 := Lib.hid (show Below w.heap.size w W0 from ⟨hg0.os, hg0.tape, hg0.output, hg0.size, fun k hk => hg0.block k hk (by simp)⟩)
  have HO0 : Hid (Own W0 w.heap.size 3 (.slice (some ⟨w.heap.size, 0, none⟩) 0 xs.length) []) := Lib.hid hown0
  clear hown0 hg0 hzz hi0 i0
  go_enter Tryd.func64, Tryd.ntmps64
  go_wp2_with fail
  clear hr
  go_loopw [3, 4] (fun v i w' => ∃ k : Nat, k ≤ xs.length ∧ i = .int .i64 k ∧ Below w.heap.size w w' ∧ Own w' w.heap.size 3 v (xs.take k)) (fun _ i _ => xs.length - (intOf i).toNat)
  case atStart => exact ⟨0, Nat.zero_le _, rfl, HB0.out, HO0.out⟩
  case round =>
    obtain ⟨k, hk, rfl, hb, hown⟩ := hrel
    have HB := Lib.hid hb
    have HO := Lib.hid hown
    clear hb hown HO0 HB0
    by_cases hlt : k < xs.length
    · obtain ⟨b, o, rfl, t0⟩ := (HX.out.below HB.out).get (k := k) hlt
      have hki : (k : Int) < (xs.length : Int) := by omega
      have hlk : (xs.take k).length = k := by rw [List.length_take]; omega
      go_wp2_with (first | (at_builtin; go_must (refine app_ints (W := wr) w.heap.size rfl (.tmp 14) (.tmp 19) 32 3 rfl Tryd.underlying32 info3 u3 (xs.take k) (gi xs k) wr.heap.size (by rfl) (by rfl) (by rfl) HO.out ?c1 ?c2 ?_)))
      case c1 => exact HB.out.size
      case c2 => rw [hlk]; omega
      intro v1 w1 ho1 hg1
      have hb1 := bgr HB.out HO.out (Nat.le_refl _) hg1
      have HO2 := Lib.hid ho1
      have HTK := Lib.hid (show xs.take (k + 1) = xs.take k ++ [gi xs k] by rw [List.take_succ_eq_append_getElem hlt]; simp [gi, List.getD_eq_getElem?_getD, hlt])
      clear hg1 ho1 t0 hlk
      go_wp2_with fail
      go_roundw
      case rel => exact ⟨k + 1, by omega, by go_num, hb1, by rw [HTK.out]; exact HO2.out⟩
      case measure => simp only [intOf]; omega
    · have hkn : k = xs.length := by omega
      subst hkn
      rw [List.take_length] at HO
      go_wp2_with fail
      go_ret
      exact ⟨HB.out, _, rfl, HO.out⟩

end Go.Proofs.YtjaegolanbjgfaaDoor
