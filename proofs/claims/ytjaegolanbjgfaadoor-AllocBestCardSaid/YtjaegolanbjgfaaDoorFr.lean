import Derived.Test.YtjaegolanbjgfaaDoorAl
import Derived.WalkKit
import Derived.WalkSpells
import Derived.WalkLawsBesides
import Derived.Lib.Hide
import Derived.Deep.DeepCutAuto
import Derived.Deep.LoopGhost
import Derived.Deep.QuietTactic
import Derived.BigQuiet
import Derived.Deep.OwnRows
import Derived.StillTailTactics
import Derived.IntWalk
import Derived.Laws.BitsLemmas
import Derived.Laws.MathBits
import Derived.Laws.Bits64
import Derived.Deep.RegionHeld3
import Derived.BigRegion
import Derived.Lib.SliceRun
import Derived.Deep.AppendLies
set_option linter.unusedVariables false
set_option linter.unusedSimpArgs false
namespace Go.Proofs.YtjaegolanbjgfaaDoor
open Go.RowKit
def pf : Prob := ⟨[⟨3, 5, 1, 0⟩], [0], 0⟩
theorem pf_none : errB pf 100000 = none := by decide
theorem pf_take : takeB pf 100000 = [0] := by decide
theorem pf_sure : (srch pf 100000).2 = true := by decide
theorem pf_cost : costV pf (takeB pf 100000) = 0 := by decide
theorem ints_heap {w : World} {g t : Nat} {cs : Array Value} (h : w.heap[g]? = some (.cells cs t (0, 0))) (xs : List Int) (e : cs.toList = xs.map (Value.int .i64)) (hl : xs.length ≤ 9223372036854775807) : IntsAt w (some ⟨g, 0, none⟩) xs := by
  refine ⟨hl, fun _ => ⟨g, 0, rfl, fun j hj => ?_⟩⟩
  rw [cell_of_row w g (0 + j) cs t _ h, Nat.zero_add, ← Array.getElem?_toList, e, List.getElem?_map, List.getElem?_eq_getElem hj]
  simp [gi, List.getD_eq_getElem?_getD, hj]
theorem lots_heap {w : World} {g t : Nat} {cs : Array Value} (h : w.heap[g]? = some (.cells cs t (0, 0))) (ls : List Lot) (e : cs.toList = flat ls) (hl : ls.length ≤ 9223372036854775807) : LotsAt w (some ⟨g, 0, none⟩) ls := by
  refine ⟨hl, fun _ => ⟨g, 0, rfl, fun j hj => ?_⟩⟩
  have k : ∀ i, i < 4 → w.cell? ⟨g, j * 4 + i, none⟩ = (lotCells (gl ls j))[i]? := fun i hi => (cell_of_row w g (j * 4 + i) cs t _ h).trans (by rw [← Array.getElem?_toList, e, flat_at ls j i hj hi])
  simp only [Nat.zero_add]
  exact ⟨k 0 (by omega), k 1 (by omega), k 2 (by omega), k 3 (by omega)⟩
set_option maxRecDepth 100000 in
set_option maxHeartbeats 2000000 in
theorem first_any (ea : Nat → Addr) (w : World) (hs : Sent 3 ea w) : Calls Tryd.prog 10 #[] w fun e w' => e = .returned (.bool true) ∧ Below w.heap.size w w' := by
  have HS := Lib.hid hs
  clear hs
  go_enter Tryd.func10, Tryd.ntmps10
  obtain ⟨x1, x2, x3⟩ := three_new w (.cells #[.int .i64 3, .int .i64 5, .int .i64 1, .int .i64 0] 48) (.cells #[.int .i64 0] 2) (.cells #[.slice (some ⟨w.heap.size, 0, none⟩) 1 1, .slice (some ⟨w.heap.size + 1, 0, none⟩) 1 1, .int .i64 0] 25)
  have HB := Lib.hid (bal (bal (bal (Below.refl w.heap.size w) (.cells #[.int .i64 3, .int .i64 5, .int .i64 1, .int .i64 0] 48)) (.cells #[.int .i64 0] 2)) (.cells #[.slice (some ⟨w.heap.size, 0, none⟩) 1 1, .slice (some ⟨w.heap.size + 1, 0, none⟩) 1 1, .int .i64 0] 25))
  have HA := Lib.hid (All_any (some ⟨w.heap.size, 0, none⟩) 1 (some ⟨w.heap.size + 1, 0, none⟩) 1 pf ea _ (lots_heap x1 [⟨3, 5, 1, 0⟩] rfl (by decide)) (ints_heap x2 [0] rfl (by decide)) (HS.out.below HB.out))
  clear x1 x2 x3
  go_wp2_with fail
  refine HA.out.mono ?_
  rintro e w1 ⟨hb1, he⟩
  rw [pf_none] at he
  simp only at he
  obtain ⟨g, cap, rfl, hi, hg, hc⟩ := he
  rw [pf_sure, pf_cost]
  rw [pf_take] at hi
  obtain ⟨b, o, e', h0⟩ := hi.get (k := 0) (by decide)
  simp only [Option.some.injEq, Addr.mk.injEq, and_true] at e'
  obtain ⟨rfl, rfl⟩ := e'
  have h1 : w1.cell? ⟨g, 0, none⟩ = some (.int .i64 0) := h0
  have hl := World.block_lt_of_cell? w1 _ h1
  have hn1 : ¬ w1.heap.size = g := by simp only at hl; omega
  have hn2 : ¬ g = w1.heap.size := by simp only at hl; omega
  have hb := btr HB.out hb1
  have HBB := Lib.hid hb
  clear hi h0 hb1 hb hg hc
  unfold resV
  have hpl : pf.lots.length = 1 := rfl
  rw [hpl]
  clear hpl
  go_wp2_with fail
  go_ret
  exact ⟨rfl, bal HBB.out _⟩

end Go.Proofs.YtjaegolanbjgfaaDoor
