import Derived.Test.YtjaegolanbjgfaaDoorSo
import Derived.Test.YtjaegolanbjgfaaDoorMe
import Derived.WalkKit
import Derived.WalkSpells
import Derived.WalkLawsBesides
import Derived.Lib.Hide
import Derived.Deep.DeepCutAuto
import Derived.Deep.LoopGhost
import Derived.Deep.QuietTactic
import Derived.BigQuiet
import Derived.Deep.OwnRows
import Derived.StillTailTactics
import Derived.IntWalk
import Derived.Laws.BitsLemmas
import Derived.Laws.MathBits
import Derived.Laws.Bits64
import Derived.Deep.RegionHeld3
import Derived.BigRegion
import Derived.Lib.SliceRun
import Derived.Deep.AppendLies
set_option linter.unusedVariables false
set_option linter.unusedSimpArgs false
namespace Go.Proofs.YtjaegolanbjgfaaDoor
open Go.RowKit
/-- The search's block. -/
abbrev sbox (A : Option Addr) (c : Nat) (B : Option Addr) (d : Nat) (p : Prob) (bv : Value) (cost looked bud : Int) (v : Value) : Obj :=
  .cells #[.slice A p.lots.length c, .slice B p.caps.length d, .int .i64 p.need, bv, .int .i64 cost, .int .i64 looked, .int .i64 bud, v] 69 (0, 0)
theorem box8 {w : World} {g t : Nat} {a b c d e f h i : Value} (hh : w.heap[g]? = some (.cells #[a, b, c, d, e, f, h, i] t (0, 0))) :
    w.cell? ⟨g, 0, none⟩ = some a ∧ w.cell? ⟨g, 1, none⟩ = some b ∧ w.cell? ⟨g, 2, none⟩ = some c ∧ w.cell? ⟨g, 3, none⟩ = some d ∧ w.cell? ⟨g, 4, none⟩ = some e ∧ w.cell? ⟨g, 5, none⟩ = some f ∧ w.cell? ⟨g, 6, none⟩ = some h ∧ w.cell? ⟨g, 7, none⟩ = some i :=
  ⟨cell_of_row _ _ 0 _ _ _ hh, cell_of_row _ _ 1 _ _ _ hh, cell_of_row _ _ 2 _ _ _ hh, cell_of_row _ _ 3 _ _ _ hh, cell_of_row _ _ 4 _ _ _ hh, cell_of_row _ _ 5 _ _ _ hh, cell_of_row _ _ 6 _ _ _ hh, cell_of_row _ _ 7 _ _ _ hh⟩
theorem frz {w : World} {g t : Nat} {cs : Array Value} (h : w.heap[g]? = some (.cells cs t (0, 0))) (i : Nat) : w.frozen? ⟨g, i, none⟩ = false := by simp [World.frozen?, h]
abbrev stv (T : Option Addr) (f : Nat) (x : St) : Value := .agg #[.slice T x.take.length f, .int .i64 x.n, .int .i64 x.cost]
theorem grS {w w1 : World} {S : Nat} (h : w.grownBy w1 (some S)) (i : Nat) (v : Value) : w.grownBy (w1.setCell ⟨S, i, none⟩ v) (some S) :=
  World.grownBy.trans h ⟨rfl, rfl, rfl, by simp [World.setCell], fun k _ hne => Below.heap_setCell _ _ _ _ (fun e => hne (by rw [e]))⟩
def GivesEnds (S : Nat) (A : Option Addr) (c : Nat) (B : Option Addr) (d : Nat) (p : Prob) (bv : Value) (cost looked bud : Int) (v : Value) (T : Option Addr) (f : Nat) (x : St) (w : World) (e : Ending) (w' : World) : Prop :=
  e = .returned (.bool (endsB p cost x)) ∧ w.grownBy w' (some S) ∧
  w'.heap[S]? = some (sbox A c B d p (if impB p cost x then .slice T x.take.length f else bv) (if impB p cost x then x.cost else cost) looked bud v)
set_option maxRecDepth 100000 in
set_option maxHeartbeats 4000000 in
theorem ends_any (S : Nat) (A : Option Addr) (c : Nat) (B : Option Addr) (d : Nat) (p : Prob) (bv : Value) (cost looked bud : Int) (v : Value) (T : Option Addr) (f : Nat) (x : St) (ea : Nat → Addr) (w : World)
    (hL : LotsAt w A p.lots) (hC : IntsAt w B p.caps) (hs : Sent 3 ea w) (hok : Ok p) (hc : p.lots.length ≤ c) (hT : IntsAt w T x.take) (hx : StOk p x) (h0 : 0 ≤ cost) (h1 : cost ≤ 8000000000000)
    (hS : w.heap[S]? = some (sbox A c B d p bv cost looked bud v)) :
    Calls Tryd.prog 59 #[.pointer (some ⟨S, 0, none⟩), stv T f x] w (GivesEnds S A c B d p bv cost looked bud v T f x w) := by
  have hm1 := hok.n8
  have hn := hx.n
  have hcb := cost_bd hok hx.i
  rw [← hx.c] at hcb
  have hwb := worth_bd hok hx.i
  have hn0 := hok.need0
  have hn1 := hok.need1
  have hbox : (w.alloc (.cells #[.slice T x.take.length f, .int .i64 x.n, .int .i64 x.cost] 91)).heap[S]? = some (sbox A c B d p bv cost looked bud v) := (heap_alloc_old _ _ (Array.getElem?_eq_some_iff.1 hS).1).trans hS
  have HW := Lib.hid (show worthV p x.take = worthP p x.take by unfold worthV; rw [fitsB_of hok hx.i, if_pos rfl])
  have HB0 := Lib.hid (bal (Below.refl w.heap.size w) (.cells #[.slice T x.take.length f, .int .i64 x.n, .int .i64 x.cost] 91))
  have CW := Lib.hid fun W h => Worth_any A c B d p T f x.take ea W (hL.below h) (hC.below h) (hT.below h) (hs.below h)
  have CC := Lib.hid fun left W h => Can_any A c B d p ea W (hL.below h) (hC.below h) (hs.below h) hok x.n hn left hc
  have CL := Lib.hid fun left W h hl => Least_any A c B d p ea W (hL.below h) (hC.below h) (hs.below h) hok x.n hn left hl
  have HS := Lib.hid hS
  obtain ⟨s0, s1, s2, s3, s4, s5, s6, s7⟩ := box8 hbox
  obtain ⟨x0, x1, x2⟩ := box3 (heap_alloc_new w (.cells #[.slice T x.take.length f, .int .i64 x.n, .int .i64 x.cost] 91))
  clear hL hC hs hok hT hx hS hbox
  go_enter Tryd.func59, Tryd.ntmps59
  go_wp2_with fail
  go_region_held3 (fun w' => w'.cell? ⟨w.heap.size, 0, none⟩ = some (.slice T x.take.length f) ∧ w'.cell? ⟨S, 0, none⟩ = some (.slice A p.lots.length c) ∧ w'.cell? ⟨S, 1, none⟩ = some (.slice B p.caps.length d) ∧ w'.cell? ⟨S, 2, none⟩ = some (.int .i64 p.need)) (go_keep)
    (first
      | (go_at_call 37; go_must (refine (CW.out _ HB0.out.drew).mono ?_); rintro e w1 ⟨rfl, hb1⟩; have y0 := cellB (w := World.drew _) hb1 x0; have y1 := cellB (w := World.drew _) hb1 x1; have y2 := cellB (w := World.drew _) hb1 x2; have t0 := cellB (w := World.drew _) hb1 s0; have t1 := cellB (w := World.drew _) hb1 s1; have t2 := cellB (w := World.drew _) hb1 s2; have t3 := cellB (w := World.drew _) hb1 s3; have t4 := cellB (w := World.drew _) hb1 s4; have HB1 := Lib.hid (btr HB0.out.drew hb1)))
  rw [HW.out]
  have wl : IntKind.i64.wrap (p.need - worthP p x.take) = leftP p x := IntWalk.i64_in _ (by omega)
  have HL := Lib.hid (show leftP p x ≤ 1000000000000 by unfold leftP; omega)
  have hS1 := Lib.hid (boxN HS.out HB1.out)
  clear s0 s1 s2 s3 s4 s5 s6 s7 x0 x1 x2 CW hwb
  by_cases hl : leftP p x ≤ 0
  · have dl : decide (leftP p x ≤ 0) = true := decide_eq_true hl
    have HD := Lib.hid hl
    clear hl
    have E1 := Lib.hid (show endsB p cost x = true by unfold endsB; rw [if_pos HD.out])
    by_cases hi : x.cost < cost
    · have di : decide (x.cost < cost) = true := decide_eq_true hi
      have E2 := Lib.hid (show impB p cost x = true by unfold impB; rw [dl, di]; rfl)
      have f3 := frz hS1.out 3
      have f4 := frz hS1.out 4
      clear hi
      go_wp2_with fail
      go_quiet (fail)
      go_wp2_with fail
      go_region
      go_wp2_with fail
      go_ret
      refine ⟨by rw [E1.out]; rfl, grS (grS (grN (grb HB1.out (some S)) _) _ _) _ _, ?_⟩
      rw [E2.out]
      exact heap_set (heap_set hS1.out _) _
    · have di : decide (x.cost < cost) = false := decide_eq_false hi
      have E2 := Lib.hid (show impB p cost x = false by unfold impB; rw [dl, di]; rfl)
      clear hi
      go_wp2_with fail
      go_quiet (fail)
      go_wp2_with fail
      go_ret
      refine ⟨by rw [E1.out]; rfl, grN (grb HB1.out (some S)) _, ?_⟩
      rw [E2.out]
      exact hS1.out
  · have dl : decide (leftP p x ≤ 0) = false := decide_eq_false hl
    have HD := Lib.hid hl
    clear hl
    have E2 := Lib.hid (show impB p cost x = false by unfold impB; rw [dl]; rfl)
    by_cases hnl : x.n = p.lots.length
    · have dn : ((x.n : Int) == (p.lots.length : Int)) = true := by rw [hnl]; simp
      have dn2 : decide ((x.n : Int) = (p.lots.length : Int)) = true := by rw [hnl]; simp
      have E1 := Lib.hid (show endsB p cost x = true by unfold endsB; rw [if_neg HD.out, if_pos hnl])
      clear hnl
      go_wp2_with fail
      go_quiet (fail)
      go_wp2_with fail
      go_ret
      refine ⟨by rw [E1.out]; rfl, grN (grb HB1.out (some S)) _, ?_⟩
      rw [E2.out]
      exact hS1.out
    · have dn : ((x.n : Int) == (p.lots.length : Int)) = false := by rw [beq_eq_false_iff_ne]; omega
      have dn2 : decide ((x.n : Int) = (p.lots.length : Int)) = false := by rw [decide_eq_false_iff_not]; omega
      have dn3 : ¬ (x.n : Int) = (p.lots.length : Int) := by omega
      have EA := Lib.hid (show canB p x.n (leftP p x) = false → endsB p cost x = true from fun h => by unfold endsB; rw [if_neg HD.out, if_neg hnl, if_pos h])
      have EB := Lib.hid (show canB p x.n (leftP p x) = true → leastB p x.n (leftP p x) = false → endsB p cost x = true from fun h h' => by unfold endsB; rw [if_neg HD.out, if_neg hnl, if_neg (by rw [h]; decide), if_pos h'])
      have EC := Lib.hid (show canB p x.n (leftP p x) = true → leastB p x.n (leftP p x) = true → endsB p cost x = decide (cost - x.cost ≤ leastV p x.n (leftP p x)) from fun h h' => by unfold endsB; rw [if_neg HD.out, if_neg hnl, if_neg (by rw [h]; decide), if_neg (by rw [h']; decide)])
      clear hnl
      go_wp2_with fail
      go_region_held3 (fun w' => w'.cell? ⟨w.heap.size, 1, none⟩ = some (.int .i64 x.n) ∧ w'.cell? ⟨S, 0, none⟩ = some (.slice A p.lots.length c) ∧ w'.cell? ⟨S, 1, none⟩ = some (.slice B p.caps.length d) ∧ w'.cell? ⟨S, 2, none⟩ = some (.int .i64 p.need)) (go_keep)
        (first
          | (go_at_call 73; go_must (refine (CC.out (leftP p x) _ HB1.out.drew).mono ?_); rintro e w2 ⟨rfl, hb2⟩; have z0 := cellB (w := World.drew _) hb2 y0; have z1 := cellB (w := World.drew _) hb2 y1; have z2 := cellB (w := World.drew _) hb2 y2; have v0 := cellB (w := World.drew _) hb2 t0; have v1 := cellB (w := World.drew _) hb2 t1; have v2 := cellB (w := World.drew _) hb2 t2; have v3 := cellB (w := World.drew _) hb2 t3; have v4 := cellB (w := World.drew _) hb2 t4; have HB2 := Lib.hid (btr HB1.out.drew hb2)))
      have hS2 := Lib.hid (boxN HS.out HB2.out)
      clear y0 y1 y2 t0 t1 t2 t3 t4 CC
      cases hcan : canB p x.n (leftP p x)
      · have E1 := Lib.hid (EA.out hcan)
        clear hcan
        go_wp2_with fail
        go_ret
        refine ⟨by rw [E1.out]; rfl, grb HB2.out (some S), ?_⟩
        rw [E2.out]
        exact hS2.out
      · have HCAN := Lib.hid hcan
        clear hcan
        go_wp2_with fail
        go_region_held3 (fun w' => w'.cell? ⟨w.heap.size, 1, none⟩ = some (.int .i64 x.n) ∧ w'.cell? ⟨S, 0, none⟩ = some (.slice A p.lots.length c) ∧ w'.cell? ⟨S, 1, none⟩ = some (.slice B p.caps.length d) ∧ w'.cell? ⟨S, 2, none⟩ = some (.int .i64 p.need)) (go_keep)
          (first
            | (go_at_call 29; go_must (refine (CL.out (leftP p x) _ HB2.out.drew HL.out).mono ?_); rintro e w3 ⟨rfl, hb3⟩; have y0 := cellB (w := World.drew _) hb3 z0; have y1 := cellB (w := World.drew _) hb3 z1; have y2 := cellB (w := World.drew _) hb3 z2; have t0 := cellB (w := World.drew _) hb3 v0; have t1 := cellB (w := World.drew _) hb3 v1; have t2 := cellB (w := World.drew _) hb3 v2; have t4 := cellB (w := World.drew _) hb3 v4; have HB3 := Lib.hid (btr HB2.out.drew hb3)))
        have hS3 := Lib.hid (boxN HS.out HB3.out)
        have wc : IntKind.i64.wrap (cost - x.cost) = cost - x.cost := IntWalk.i64_in _ (by omega)
        clear z0 z1 z2 v0 v1 v2 v3 v4 CL
        cases hle : leastB p x.n (leftP p x)
        · have E1 := Lib.hid (EB.out HCAN.out hle)
          clear hle
          go_wp2_with fail
          go_quiet (fail)
          go_wp2_with fail
          go_ret
          refine ⟨by rw [E1.out]; rfl, grN (grb HB3.out (some S)) _, ?_⟩
          rw [E2.out]
          exact hS3.out
        · have E1 := Lib.hid (EC.out HCAN.out hle)
          clear hle
          go_wp2_with fail
          go_quiet (fail)
          go_wp2_with fail
          go_ret
          refine ⟨by rw [E1.out]; rfl, grN (grb HB3.out (some S)) _, ?_⟩
          rw [E2.out]
          exact hS3.out

end Go.Proofs.YtjaegolanbjgfaaDoor
