import Derived.Test.YtjaegolanbjgfaaDoorOp
import Derived.WalkKit
import Derived.ProofKit
import Derived.OpenShut
import Derived.Deep.DeepHandedRow
import Derived.Deep.DeepWitnessRowRef
import Derived.Stop.LaidErr
import Derived.LaidMore
import Derived.LaidOnce
import Derived.LaidSub
import Derived.Lib.SmallJoins
import Derived.Deep.Slices
import Derived.Carry
set_option linter.unusedVariables false
set_option linter.unusedSimpArgs false
namespace Go.Proofs.YtjaegolanbjgfaaDoor
open Go.RowKit
open Go.ChangeShapes Go.WideShapes
set_option maxRecDepth 100000 in
/-- A slice that is read: its length, its capacity. -/
theorem slice_caps {H : Type} {enc : TypeId × Value → H} {W : World} {n : Nat} {t e : TypeId} {A : Option Addr} {l c : Nat} {x : DataW H × List MemPlace} (ht : Tryd.prog.underlying t = some (.slice e)) (h : DataW.trod enc Tryd.prog W 0 (fun _ => true) true n t [.slice A l c] = some x) :
    l ≤ c ∧ c ≤ 9223372036854775807 := by
  rcases Deep.open_slice ht h with ⟨e, _⟩ | ⟨a, len, cap, m, n, D, Pl, e, hb, hl, hm, _, _, _⟩
  · simp only [List.cons.injEq, Value.slice.injEq, and_true] at e
    omega
  · simp only [List.cons.injEq, Value.slice.injEq, and_true] at e
    simp only [maxLen] at hm
    omega
set_option maxRecDepth 100000 in
/-- A problem, read, with its rows' capacities. -/
theorem open_prob2 {H : Type} {enc : TypeId × Value → H} {W : World} {r : Reach} {b0 : Nat} {v : Value} {d : DataW H} {ps : List MemPlace} (hv : Value.okWide Tryd.prog W r b0 25 v) (hd : DataW.Trod enc Tryd.prog W 0 (fun _ => true) true 25 v d ps) :
    ∃ (A : Option Addr) (c : Nat) (B : Option Addr) (e : Nat) (p : Prob), v = pv A c B e p ∧ LotsAt W A p.lots ∧ IntsAt W B p.caps ∧ (p.lots.length ≤ c ∧ c ≤ 9223372036854775807) := by
  obtain ⟨v0, v1, v2, y0, y1, y2, n, rfl, rfl, rfl, h0, h1, h2⟩ := Joins.open_agg3 Tryd.underlying25 (by kernel_rfl) (by kernel_rfl) hv hd
  obtain ⟨A, c, ls, rfl, hL⟩ := open_lots h0
  have hc := slice_caps Tryd.underlying22 h0
  obtain ⟨B, e, xs, rfl, hC⟩ := open_row Tryd.underlying23 Tryd.underlying2 (by kernel_rfl) h1
  obtain ⟨z, e2, _, _⟩ := DataW.trod_int Tryd.underlying2 h2
  simp only [List.cons.injEq, and_true] at e2
  subst e2
  exact ⟨A, c, B, e, ⟨ls, xs, z⟩, rfl, hL, hC, hc⟩
set_option maxRecDepth 100000 in
/-- A slice of numbers, read, as an argument. -/
theorem open_ints_arg {H : Type} {enc : TypeId × Value → H} {W : World} {r : Reach} {b0 : Nat} {v : Value} {d : DataW H} {ps : List MemPlace} (hv : Value.okWide Tryd.prog W r b0 32 v) (hd : DataW.Trod enc Tryd.prog W 0 (fun _ => true) true 32 v d ps) :
    ∃ (C : Option Addr) (cc : Nat) (ts : List Int), v = .slice C ts.length cc ∧ IntsAt W C ts := by
  obtain ⟨a, l, c, rfl⟩ := okWide_slice Tryd.underlying32 hv
  obtain ⟨n, hn⟩ := hd
  exact open_row Tryd.underlying32 Tryd.underlying3 (by kernel_rfl) (by simpa [Value.cells] using hn)

end Go.Proofs.YtjaegolanbjgfaaDoor
