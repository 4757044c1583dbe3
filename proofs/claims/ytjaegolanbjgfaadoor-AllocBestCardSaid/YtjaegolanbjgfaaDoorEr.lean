import Derived.Deep.RegionLaw
import Derived.LaidEql
import Derived.Test.YtjaegolanbjgfaaDoorBd
import Derived.WalkKit
import Derived.WalkSpells
import Derived.WalkLawsBesides
import Derived.Lib.Hide
import Derived.Deep.DeepCutAuto
import Derived.Deep.LoopGhost
import Derived.Deep.QuietTactic
import Derived.BigQuiet
import Derived.Deep.OwnRows
import Derived.StillTailTactics
import Derived.IntWalk
import Derived.Laws.BitsLemmas
import Derived.Laws.MathBits
import Derived.Laws.Bits64
import Derived.Deep.RegionHeld3
import Derived.BigRegion
import Derived.Lib.SliceRun
import Derived.Deep.AppendLies
set_option linter.unusedVariables false
set_option linter.unusedSimpArgs false
namespace Go.Proofs.YtjaegolanbjgfaaDoor
open Go.RowKit
def posL : List Nat := [7, 3, 0, 8, 2, 9, 10, 11, 12, 13, 14, 15, 16, 17, 4, 18, 19, 20, 21, 22, 1]
/-- The errors are different ones. -/
def Apart (ea : Nat → Addr) : Prop := ∀ g h, g ∈ posL → h ∈ posL → ea g = ea h → g = h
def errAt (ea : Nat → Addr) (g : Nat) : Value := .iface 130 (.pointer (some (ea g)))
theorem posL_nodup : posL.Nodup := by decide
theorem posL_mem (g : Nat) (h : g < 23) (h5 : g ≠ 5) (h6 : g ≠ 6) : g ∈ posL := by
  have : ∀ g, g < 23 → g ≠ 5 → g ≠ 6 → g ∈ posL := by decide
  exact this g h h5 h6
set_option maxRecDepth 100000 in
set_option maxHeartbeats 4000000 in
theorem sentinels_any (ea : Nat → Addr) (w : World) (hs : Sent 23 ea w) :
    Calls Tryd.prog 85 #[] w fun e w' => Below w.heap.size w w' ∧ ∃ g, e = .returned (.slice (some ⟨g, 0, none⟩) 21 21) ∧ w.heap.size ≤ g ∧ w'.heap[g]? = some (.cells (posL.map (errAt ea)).toArray 36 (0, 0)) := by
  have s0 := hs 0 (by decide) (by decide) (by decide)
  have s1 := hs 1 (by decide) (by decide) (by decide)
  have s2 := hs 2 (by decide) (by decide) (by decide)
  have s3 := hs 3 (by decide) (by decide) (by decide)
  have s4 := hs 4 (by decide) (by decide) (by decide)
  have s7 := hs 7 (by decide) (by decide) (by decide)
  have s8 := hs 8 (by decide) (by decide) (by decide)
  have s9 := hs 9 (by decide) (by decide) (by decide)
  have s10 := hs 10 (by decide) (by decide) (by decide)
  have s11 := hs 11 (by decide) (by decide) (by decide)
  have s12 := hs 12 (by decide) (by decide) (by decide)
  have s13 := hs 13 (by decide) (by decide) (by decide)
  have s14 := hs 14 (by decide) (by decide) (by decide)
  have s15 := hs 15 (by decide) (by decide) (by decide)
  have s16 := hs 16 (by decide) (by decide) (by decide)
  have s17 := hs 17 (by decide) (by decide) (by decide)
  have s18 := hs 18 (by decide) (by decide) (by decide)
  have s19 := hs 19 (by decide) (by decide) (by decide)
  have s20 := hs 20 (by decide) (by decide) (by decide)
  have s21 := hs 21 (by decide) (by decide) (by decide)
  have s22 := hs 22 (by decide) (by decide) (by decide)
  clear hs
  go_enter Tryd.func85, Tryd.ntmps85
  go_wp2_with fail
  go_ret
  exact ⟨bal (Below.refl _ _) _, _, rfl, Nat.le_refl _, heap_alloc_new w _⟩
/-- The errors lie there: each in a block of its own kind, each a different one. -/
structure Errs (ea : Nat → Addr) (w : World) : Prop where
  s : Sent 23 ea w
  b : ∀ g, g ∈ posL → ∃ c t, w.heap[(ea g).block]? = some (.cells c t (0, 0))
  a : Apart ea
theorem Errs.below {ea : Nat → Addr} {w w' : World} (h : Errs ea w) (hb : Below w.heap.size w w') : Errs ea w' :=
  ⟨h.s.below hb, fun g hg => by obtain ⟨c, t, e⟩ := h.b g hg; exact ⟨c, t, boxN e hb⟩, h.a⟩
theorem Errs.s3 {ea : Nat → Addr} {w : World} (h : Errs ea w) : Sent 3 ea w := fun g h1 h2 h3 => h.s g (by omega) h2 h3
theorem eql_same (a : Addr) (w : World) : (binOp .eql 36 (.iface 130 (.pointer (some a))) (.iface 130 (.pointer (some a)))).run Tryd.prog w = .ok (.bool true) w := by
  obtain ⟨i, hi, hc⟩ := Option.map_eq_some_iff.1 (show (Tryd.prog.info? 130).map (·.comparable) = some true by kernel_rfl)
  obtain ⟨j, hj, _⟩ := Option.map_eq_some_iff.1 (show (Tryd.prog.info? 149).map (·.size) = some 1 by kernel_rfl)
  exact run_eql_iface_ptr_same w a Tryd.underlying36 Tryd.underlying130 hi hc hj
theorem eql_other {a b : Addr} {w : World} {ca cb : Array Value} {ta tb : TypeId} (hne : a ≠ b) (ha : w.heap[a.block]? = some (.cells ca ta (0, 0))) (hb : w.heap[b.block]? = some (.cells cb tb (0, 0))) :
    (binOp .eql 36 (.iface 130 (.pointer (some a))) (.iface 130 (.pointer (some b)))).run Tryd.prog w = .ok (.bool false) w := by
  obtain ⟨i, hi, hc⟩ := Option.map_eq_some_iff.1 (show (Tryd.prog.info? 130).map (·.comparable) = some true by kernel_rfl)
  obtain ⟨j, hj, hs⟩ := Option.map_eq_some_iff.1 (show (Tryd.prog.info? 149).map (·.size) = some 1 by kernel_rfl)
  exact run_eql_iface_ptr_other w Tryd.underlying36 Tryd.underlying130 hi hc hj (by omega) hne ha hb
set_option maxRecDepth 100000 in
set_option maxHeartbeats 2000000 in
theorem Alike_any (ea : Nat → Addr) (g h : Nat) (hg : g ∈ posL) (hh : h ∈ posL) (w : World) (he : Errs ea w) :
    Calls Tryd.prog 86 #[.iface 130 (.pointer (some (ea g))), .iface 130 (.pointer (some (ea h)))] w fun e w' => e = .returned (.bool (decide (g = h))) ∧ w = w' := by
  by_cases hgh : g = h
  · subst hgh
    have heq := eql_same (ea g) w
    go_enter Tryd.func86, Tryd.ntmps86
    go_wp2_with fail
    go_ret
    exact ⟨by simp, rfl⟩
  · obtain ⟨c1, t1, h1⟩ := he.b g hg
    obtain ⟨c2, t2, h2⟩ := he.b h hh
    have heq := eql_other (fun e => hgh (he.a g h hg hh e)) h1 h2
    clear h1 h2
    go_enter Tryd.func86, Tryd.ntmps86
    go_wp2_with fail
    go_ret
    exact ⟨by simp [hgh], rfl⟩

end Go.Proofs.YtjaegolanbjgfaaDoor
