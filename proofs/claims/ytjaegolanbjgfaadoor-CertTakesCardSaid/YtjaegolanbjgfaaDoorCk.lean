import Derived.Deep.RegionLaw
import Derived.LaidEql
import Derived.Test.YtjaegolanbjgfaaDoorSw
import Derived.WalkKit
import Derived.WalkSpells
import Derived.WalkLawsBesides
import Derived.Lib.Hide
import Derived.Deep.DeepCutAuto
import Derived.Deep.LoopGhost
import Derived.Deep.QuietTactic
import Derived.BigQuiet
import Derived.Deep.OwnRows
import Derived.StillTailTactics
import Derived.IntWalk
import Derived.Laws.BitsLemmas
import Derived.Laws.MathBits
import Derived.Laws.Bits64
import Derived.Deep.RegionHeld3
import Derived.BigRegion
import Derived.Lib.SliceRun
import Derived.Deep.AppendLies
set_option linter.unusedVariables false
set_option linter.unusedSimpArgs false
namespace Go.Proofs.YtjaegolanbjgfaaDoor
open Go.RowKit
theorem gl_c0 {p : Prob} (hok : Ok p) (k : Nat) : 0 ≤ (gl p.lots k).c ∧ 0 ≤ (gl p.lots k).v := by
  by_cases h : k < p.lots.length
  · have := hok.lot k h; omega
  · have : gl p.lots k = z0 := by unfold gl; rw [List.getD_eq_getElem?_getD, List.getElem?_eq_none (by omega)]; rfl
    rw [this]; exact ⟨Int.le_refl _, Int.le_refl _⟩
theorem least_nonneg {p : Prob} (hok : Ok p) (s : Nat) (left : Int) : 0 ≤ leastV p s left := by
  unfold leastV
  split
  · exact Int.le_refl _
  split
  · exact Int.le_refl _
  · rename_i hl _
    have h := gl_c0 hok (rateAt p s).toNat
    have hm : 0 ≤ left * (gl p.lots (rateAt p s).toNat).c := Int.mul_nonneg (by omega) h.1
    unfold ansq
    split
    · have hd := Int.ediv_nonneg hm h.2
      unfold ceilq
      split <;> omega
    · exact Int.le_refl _
section
variable (A : Option Addr) (c : Nat) (B : Option Addr) (d : Nat) (p : Prob) (T : Option Addr) (f : Nat) (ts : List Int) (su : Bool) (lo : Int) (ea : Nat → Addr) (w : World) (hL : LotsAt w A p.lots) (hC : IntsAt w B p.caps) (hT : IntsAt w T ts) (hs : Sent 3 ea w) (hok : Ok p) (hi : inLots p.lots ts) (hw : p.need ≤ worthP p ts)
include hL hC hT hs hok hi hw
set_option maxRecDepth 100000 in
set_option maxHeartbeats 4000000 in
theorem Check_ok : Calls Tryd.prog 30 #[pv A c B d p, resV T ts.length f (worthP p ts) (costP p ts) su lo] w fun e w' => e = .returned .nilIface ∧ Below w.heap.size w w' := by
  have HL := Lib.hid hL
  have HC := Lib.hid hC
  have HT := Lib.hid hT
  have HS := Lib.hid hs
  have HV := Lib.hid (valid_of_ok hok)
  have HW : Hid (∀ W, Below w.heap.size w W → Calls Tryd.prog 37 #[pv A c B d p, .slice T ts.length f] W fun e w' => e = .returned (.tuple #[.int .i64 (worthP p ts), .bool true]) ∧ Below W.heap.size W w') := Lib.hid fun W h => by
    have := Worth_any A c B d p T f ts ea W (hL.below h) (hC.below h) (hT.below h) (hs.below h)
    rw [worthV_in hok hi, fitsB_of hok hi] at this
    exact this
  have HCo : Hid (∀ W, Below w.heap.size w W → Calls Tryd.prog 26 #[pv A c B d p, .slice T ts.length f] W fun e w' => e = .returned (.tuple #[.int .i64 (costP p ts), .bool true]) ∧ Below W.heap.size W w') := Lib.hid fun W h => by
    have := Cost_any A c B d p T f ts ea W (hL.below h) (hC.below h) (hT.below h) (hs.below h)
    rw [costV_in hok hi, fitsB_of hok hi] at this
    exact this
  have hwl : ¬ worthP p ts < p.need := by omega
  generalize worthP p ts = wo at *
  generalize costP p ts = co at *
  have HB0 := Lib.hid (bal (bal (Below.refl w.heap.size w) (.cells #[.slice A p.lots.length c, .slice B p.caps.length d, .int .i64 p.need] 25)) (.cells #[.slice T ts.length f, .int .i64 wo, .int .i64 co, .bool su, .int .i64 lo] 34))
  clear hL hC hT hs hok hi hw
  unfold resV
  go_enter Tryd.func30, Tryd.ntmps30
  go_wp2_with fail
  refine (valid_any A c B d p ea _ (HL.out.below HB0.out) (HC.out.below HB0.out) (HS.out.below HB0.out)).mono ?_
  rintro e w1 ⟨rfl, hb1⟩
  rw [HV.out, errV]
  have HB1 := Lib.hid (btr HB0.out hb1)
  have HX1 := Lib.hid (boxN ((heap_alloc_old _ _ (by simp)).trans (heap_alloc_new w _) : ((w.alloc (.cells #[.slice A p.lots.length c, .slice B p.caps.length d, .int .i64 p.need] 25)).alloc (.cells #[.slice T ts.length f, .int .i64 wo, .int .i64 co, .bool su, .int .i64 lo] 34)).heap[w.heap.size]? = some (.cells #[.slice A p.lots.length c, .slice B p.caps.length d, .int .i64 p.need] 25 (0, 0))) hb1)
  have HY1 := Lib.hid (boxN (heap_alloc_new (w.alloc (.cells #[.slice A p.lots.length c, .slice B p.caps.length d, .int .i64 p.need] 25)) (.cells #[.slice T ts.length f, .int .i64 wo, .int .i64 co, .bool su, .int .i64 lo] 34)) hb1)
  rw [show (w.alloc (.cells #[.slice A p.lots.length c, .slice B p.caps.length d, .int .i64 p.need] 25)).heap.size = w.heap.size + 1 by simp] at HY1
  clear hb1
  obtain ⟨a0, a1, a2⟩ := box3 HX1.out
  obtain ⟨r0, r1, r2, r3, r4⟩ := box5 HY1.out
  go_wp2_with fail
  refine (HW.out _ HB1.out).mono ?_
  rintro e w2 ⟨rfl, hb2⟩
  have HB2 := Lib.hid (btr HB1.out hb2)
  have HX2 := Lib.hid (boxN HX1.out hb2)
  have HY2 := Lib.hid (boxN HY1.out hb2)
  clear hb2 a0 a1 a2 r0 r1 r2 r3 r4 HX1 HY1
  obtain ⟨a0, a1, a2⟩ := box3 HX2.out
  obtain ⟨r0, r1, r2, r3, r4⟩ := box5 HY2.out
  go_wp2_with fail
  refine (HCo.out _ HB2.out).mono ?_
  rintro e w3 ⟨rfl, hb3⟩
  have HB3 := Lib.hid (btr HB2.out hb3)
  have HX3 := Lib.hid (boxN HX2.out hb3)
  have HY3 := Lib.hid (boxN HY2.out hb3)
  clear hb3 a0 a1 a2 r0 r1 r2 r3 r4 HX2 HY2
  obtain ⟨a0, a1, a2⟩ := box3 HX3.out
  obtain ⟨r0, r1, r2, r3, r4⟩ := box5 HY3.out
  go_wp2_with fail
  go_ret
  exact ⟨rfl, HB3.out⟩
set_option maxRecDepth 100000 in
set_option maxHeartbeats 4000000 in
theorem Gap_ok : Calls Tryd.prog 28 #[pv A c B d p, resV T ts.length f (worthP p ts) (costP p ts) su lo] w fun e w' => (∃ g, 0 ≤ g ∧ e = .returned (.tuple #[.int .i64 g, .nilIface])) ∧ Below w.heap.size w w' := by
  have HL := Lib.hid hL
  have HC := Lib.hid hC
  have HS := Lib.hid hs
  have hc0 := cost_bd hok hi
  have HCk := Lib.hid fun W h => Check_ok A c B d p T f ts su lo ea W (hL.below h) (hC.below h) (hT.below h) (hs.below h) hok hi hw
  have HLe : Hid (∀ W, Below w.heap.size w W → Calls Tryd.prog 29 #[pv A c B d p, .int .i64 0, .int .i64 p.need] W fun e w' => e = .returned (.tuple #[.int .i64 (leastV p 0 p.need), .bool (leastB p 0 p.need)]) ∧ Below W.heap.size W w') := Lib.hid fun W h => by
    have := Least_any A c B d p ea W (hL.below h) (hC.below h) (hs.below h) hok 0 (by omega) p.need hok.need1
    simpa using this
  have HB0 := Lib.hid (bal (bal (Below.refl w.heap.size w) (.cells #[.slice A p.lots.length c, .slice B p.caps.length d, .int .i64 p.need] 25)) (.cells #[.slice T ts.length f, .int .i64 (worthP p ts), .int .i64 (costP p ts), .bool su, .int .i64 lo] 34))
  have hl0 := least_nonneg hok 0 p.need
  have hl1 := least_law hok hi hw
  generalize worthP p ts = wo at *
  generalize costP p ts = co at *
  generalize leastV p 0 p.need = lv at *
  generalize leastB p 0 p.need = lb at *
  clear hL hC hT hs hi hw
  unfold resV at *
  go_enter Tryd.func28, Tryd.ntmps28
  go_wp2_with fail
  refine (HCk.out _ HB0.out).mono ?_
  rintro e w1 ⟨rfl, hb1⟩
  have HB1 := Lib.hid (btr HB0.out hb1)
  have HX1 := Lib.hid (boxN ((heap_alloc_old _ _ (by simp)).trans (heap_alloc_new w _) : ((w.alloc (.cells #[.slice A p.lots.length c, .slice B p.caps.length d, .int .i64 p.need] 25)).alloc (.cells #[.slice T ts.length f, .int .i64 wo, .int .i64 co, .bool su, .int .i64 lo] 34)).heap[w.heap.size]? = some (.cells #[.slice A p.lots.length c, .slice B p.caps.length d, .int .i64 p.need] 25 (0, 0))) hb1)
  have HY1 := Lib.hid (boxN (heap_alloc_new (w.alloc (.cells #[.slice A p.lots.length c, .slice B p.caps.length d, .int .i64 p.need] 25)) (.cells #[.slice T ts.length f, .int .i64 wo, .int .i64 co, .bool su, .int .i64 lo] 34)) hb1)
  rw [show (w.alloc (.cells #[.slice A p.lots.length c, .slice B p.caps.length d, .int .i64 p.need] 25)).heap.size = w.heap.size + 1 by simp] at HY1
  clear hb1 HCk
  obtain ⟨a0, a1, a2⟩ := box3 HX1.out
  obtain ⟨r0, r1, r2, r3, r4⟩ := box5 HY1.out
  go_wp2_with fail
  refine (HLe.out _ HB1.out).mono ?_
  rintro e w2 ⟨rfl, hb2⟩
  have HB2 := Lib.hid (btr HB1.out hb2)
  have HX2 := Lib.hid (boxN HX1.out hb2)
  have HY2 := Lib.hid (boxN HY1.out hb2)
  clear hb2 a0 a1 a2 r0 r1 r2 r3 r4 HX1 HY1
  obtain ⟨r0, r1, r2, r3, r4⟩ := box5 HY2.out
  cases hb : lb
  · subst hb
    clear hl1
    go_wp2_with fail
    go_ret2
    exact ⟨⟨0, Int.le_refl _, rfl⟩, HB2.out⟩
  · have hle := hl1 hb
    subst hb
    have wv : IntKind.i64.wrap (co - lv) = co - lv := IntWalk.i64_in _ (by omega)
    clear hl1
    go_wp2_with fail
    go_ret2
    exact ⟨⟨co - lv, by omega, rfl⟩, HB2.out⟩
end
def pg : Prob := ⟨[⟨3, 5, 2, 0⟩], [0], 6⟩
theorem pg_two : swapP pg [2] = none := by decide
theorem pg_three : swapP pg [3] = some [2] := by decide
set_option maxRecDepth 100000 in
set_option maxHeartbeats 4000000 in
theorem firstC_any (ea : Nat → Addr) (w : World) (hs : Sent 3 ea w) : Calls Tryd.prog 27 #[] w fun e w' => e = .returned (.bool true) ∧ Below w.heap.size w w' := by
  have HS := Lib.hid hs
  clear hs
  obtain ⟨x1, x2, x3⟩ := three_new w (.cells #[.int .i64 3, .int .i64 5, .int .i64 2, .int .i64 0] 48) (.cells #[.int .i64 0] 2) (.cells #[.slice (some ⟨w.heap.size, 0, none⟩) 1 1, .slice (some ⟨w.heap.size + 1, 0, none⟩) 1 1, .int .i64 6] 25)
  have hb3 := bal (bal (bal (Below.refl w.heap.size w) (.cells #[.int .i64 3, .int .i64 5, .int .i64 2, .int .i64 0] 48)) (.cells #[.int .i64 0] 2)) (.cells #[.slice (some ⟨w.heap.size, 0, none⟩) 1 1, .slice (some ⟨w.heap.size + 1, 0, none⟩) 1 1, .int .i64 6] 25)
  have hz : (((w.alloc (.cells #[.int .i64 3, .int .i64 5, .int .i64 2, .int .i64 0] 48)).alloc (.cells #[.int .i64 0] 2)).alloc (.cells #[.slice (some ⟨w.heap.size, 0, none⟩) 1 1, .slice (some ⟨w.heap.size + 1, 0, none⟩) 1 1, .int .i64 6] 25)).heap.size = w.heap.size + 1 + 1 + 1 := by simp
  have HZ := Lib.hid hz
  have HB3 := Lib.hid hb3
  have HLo := Lib.hid (lots_heap x1 [⟨3, 5, 2, 0⟩] rfl (by decide))
  have HCa := Lib.hid (ints_heap x2 [0] rfl (by decide))
  have HX3 := Lib.hid x3
  clear x1 x2 x3 hb3 hz
  go_enter Tryd.func27, Tryd.ntmps27
  go_wp2_with fail
  generalize (((w.alloc (.cells #[.int .i64 3, .int .i64 5, .int .i64 2, .int .i64 0] 48)).alloc (.cells #[.int .i64 0] 2)).alloc (.cells #[.slice (some ⟨w.heap.size, 0, none⟩) 1 1, .slice (some ⟨w.heap.size + 1, 0, none⟩) 1 1, .int .i64 6] 25)) = W3 at *
  rw [← HZ.out]
  have hn4 := heap_alloc_new W3 (.cells #[.int .i64 2] 3)
  have hb4 := bal (Below.refl W3.heap.size W3) (.cells #[.int .i64 2] 3)
  refine (Swap_any (some ⟨w.heap.size, 0, none⟩) 1 (some ⟨w.heap.size + 1, 0, none⟩) 1 pg (some ⟨W3.heap.size, 0, none⟩) 1 [2] ea _ (HLo.out.below hb4) (HCa.out.below hb4) (ints_heap hn4 [2] rfl (by decide)) (HS.out.below (btr HB3.out hb4))).mono ?_
  rintro e w5 ⟨hb5, he5⟩
  rw [pg_two] at he5
  simp only at he5
  subst he5
  have HB5 := Lib.hid (btr hb4 hb5)
  have HX5 := Lib.hid (boxN HX3.out HB5.out)
  clear hn4 hb4 hb5
  obtain ⟨a0, a1, a2⟩ := box3 HX5.out
  go_wp2_with fail
  have hn6 := heap_alloc_new w5 (.cells #[.int .i64 3] 3)
  have hb6 := btr HB5.out (bal (Below.refl w5.heap.size w5) (.cells #[.int .i64 3] 3))
  refine (Swap_any (some ⟨w.heap.size, 0, none⟩) 1 (some ⟨w.heap.size + 1, 0, none⟩) 1 pg (some ⟨w5.heap.size, 0, none⟩) 1 [3] ea _ (HLo.out.below hb6) (HCa.out.below hb6) (ints_heap hn6 [3] rfl (by decide)) (HS.out.below (btr HB3.out hb6))).mono ?_
  rintro e w7 ⟨hb7, he7⟩
  rw [pg_three] at he7
  simp only at he7
  obtain ⟨g, cap, rfl, hi, hg⟩ := he7
  obtain ⟨b, o, e', t0⟩ := hi.get (k := 0) (by decide)
  simp only [Option.some.injEq, Addr.mk.injEq, and_true] at e'
  obtain ⟨rfl, rfl⟩ := e'
  have t1 : w7.cell? ⟨g, 0, none⟩ = some (.int .i64 2) := t0
  have HBE := Lib.hid (btr HB3.out (btr hb6 hb7))
  clear hn6 hb6 hb7 hi hg t0 a0 a1 a2
  rw [show [(2 : Int)].length = 1 from rfl]
  go_wp2_with fail
  all_goals (go_ret; exact ⟨rfl, HBE.out⟩)

end Go.Proofs.YtjaegolanbjgfaaDoor
