import Derived.Test.YtjaegolanbjgfaaDoorCm
import Derived.Test.YtjaegolanbjgfaaDoorEs
import Derived.WalkKit
import Derived.ProofKit
import Derived.OpenShut
import Derived.Deep.DeepHandedRow
import Derived.Deep.DeepWitnessRowRef
import Derived.Stop.LaidErr
import Derived.LaidMore
import Derived.LaidOnce
import Derived.LaidSub
import Derived.Lib.SmallJoins
import Derived.Deep.Slices
import Derived.Carry
set_option linter.unusedVariables false
set_option linter.unusedSimpArgs false
namespace Go.Proofs.YtjaegolanbjgfaaDoor
open Go.RowKit
open Go.ChangeShapes Go.WideShapes Go.ChangeAt
set_option maxRecDepth 100000 in
/-- What a listed error is: its variable, its cell, its block. -/
theorem laid_err {n : String} {text : List UInt8} {r : List (String × DataW Unit)} {W : World} {g : Nat}
    (h : laidMet Tryd.prog ((n, .iface "*errors.errorString" (.ptr (.agg [.lit (.string text)]))) :: r) W)
    (hg : Tryd.prog.globalNamed n = some g) (ht : (Tryd.prog.globals[g]?).map (·.type) = some 36) :
    ∃ (a : Addr) (s : ByteArray), W.cell? ⟨g, 0, none⟩ = some (.iface 130 (.pointer (some a))) ∧ W.cell? a = some (.string s) ∧ s.data.toList = text ∧ ∃ c t, W.heap[a.block]? = some (.cells c t (0, 0)) := by
  obtain ⟨ps, ⟨g0, t0, cs0, f0, p0, q0, hg0, ht0, hv0, hd0, _, e0⟩, _, hrows⟩ := h
  obtain rfl := Option.some.inj (hg.symm.trans hg0)
  obtain rfl := Option.some.inj (ht.symm.trans ht0)
  subst e0
  obtain ⟨l0⟩ := cs0
  have ok0 : ∀ u v, l0 = [.iface u v] → Value.okWide Tryd.prog W .any 0 u v := fun u v e => by
    subst e
    exact (hrows g 0 (by simp [MemPlace.row])).2 u v (by simpa using World.var?_cell hg0 hv0 0)
  obtain ⟨a0, s0, rfl, hc0, hs0, hz0, rfl⟩ := errorString_of_trod Tryd.underlying36 row130 Tryd.underlying130 Tryd.underlying149 rfl rfl (by kernel_rfl) (by kernel_rfl) (by kernel_rfl) hd0 ok0
  obtain ⟨c0, t0, hb0⟩ := (hrows a0.block a0.off (by simp [MemPlace.row])).1
  exact ⟨a0, s0, by simpa using World.var?_cell hg0 hv0 0, hc0, hs0, c0, t0, hb0⟩
theorem gn7 : Tryd.prog.globalNamed "pledge/api.ErrEnd" = some 7 := by kernel_rfl
theorem gt7 : (Tryd.prog.globals[7]?).map (·.type) = some 36 := by kernel_rfl
theorem gn3 : Tryd.prog.globalNamed "pledge/api.ErrShape" = some 3 := by kernel_rfl
theorem gt3 : (Tryd.prog.globals[3]?).map (·.type) = some 36 := by kernel_rfl
theorem gn0 : Tryd.prog.globalNamed "pledge/api.ErrRange" = some 0 := by kernel_rfl
theorem gt0 : (Tryd.prog.globals[0]?).map (·.type) = some 36 := by kernel_rfl
theorem gn8 : Tryd.prog.globalNamed "pledge/api.ErrOver" = some 8 := by kernel_rfl
theorem gt8 : (Tryd.prog.globals[8]?).map (·.type) = some 36 := by kernel_rfl
theorem gn2 : Tryd.prog.globalNamed "pledge/api.ErrMany" = some 2 := by kernel_rfl
theorem gt2 : (Tryd.prog.globals[2]?).map (·.type) = some 36 := by kernel_rfl
theorem gn9 : Tryd.prog.globalNamed "pledge/api.ErrNone" = some 9 := by kernel_rfl
theorem gt9 : (Tryd.prog.globals[9]?).map (·.type) = some 36 := by kernel_rfl
theorem gn10 : Tryd.prog.globalNamed "pledge/api.ErrThere" = some 10 := by kernel_rfl
theorem gt10 : (Tryd.prog.globals[10]?).map (·.type) = some 36 := by kernel_rfl
theorem gn11 : Tryd.prog.globalNamed "pledge/api.ErrFull" = some 11 := by kernel_rfl
theorem gt11 : (Tryd.prog.globals[11]?).map (·.type) = some 36 := by kernel_rfl
theorem gn12 : Tryd.prog.globalNamed "pledge/api.ErrCrash" = some 12 := by kernel_rfl
theorem gt12 : (Tryd.prog.globals[12]?).map (·.type) = some 36 := by kernel_rfl
theorem gn13 : Tryd.prog.globalNamed "pledge/api.ErrTwice" = some 13 := by kernel_rfl
theorem gt13 : (Tryd.prog.globals[13]?).map (·.type) = some 36 := by kernel_rfl
theorem gn14 : Tryd.prog.globalNamed "pledge/api.ErrKind" = some 14 := by kernel_rfl
theorem gt14 : (Tryd.prog.globals[14]?).map (·.type) = some 36 := by kernel_rfl
theorem gn15 : Tryd.prog.globalNamed "pledge/api.ErrBarred" = some 15 := by kernel_rfl
theorem gt15 : (Tryd.prog.globals[15]?).map (·.type) = some 36 := by kernel_rfl
theorem gn16 : Tryd.prog.globalNamed "pledge/api.ErrShort" = some 16 := by kernel_rfl
theorem gt16 : (Tryd.prog.globals[16]?).map (·.type) = some 36 := by kernel_rfl
theorem gn17 : Tryd.prog.globalNamed "pledge/api.ErrBreach" = some 17 := by kernel_rfl
theorem gt17 : (Tryd.prog.globals[17]?).map (·.type) = some 36 := by kernel_rfl
theorem gn4 : Tryd.prog.globalNamed "pledge/api.ErrNeed" = some 4 := by kernel_rfl
theorem gt4 : (Tryd.prog.globals[4]?).map (·.type) = some 36 := by kernel_rfl
theorem gn18 : Tryd.prog.globalNamed "pledge/api.ErrBound" = some 18 := by kernel_rfl
theorem gt18 : (Tryd.prog.globals[18]?).map (·.type) = some 36 := by kernel_rfl
theorem gn19 : Tryd.prog.globalNamed "pledge/api.ErrDay" = some 19 := by kernel_rfl
theorem gt19 : (Tryd.prog.globals[19]?).map (·.type) = some 36 := by kernel_rfl
theorem gn20 : Tryd.prog.globalNamed "pledge/api.ErrWord" = some 20 := by kernel_rfl
theorem gt20 : (Tryd.prog.globals[20]?).map (·.type) = some 36 := by kernel_rfl
theorem gn21 : Tryd.prog.globalNamed "pledge/api.ErrNumber" = some 21 := by kernel_rfl
theorem gt21 : (Tryd.prog.globals[21]?).map (·.type) = some 36 := by kernel_rfl
theorem gn22 : Tryd.prog.globalNamed "pledge/api.ErrBudget" = some 22 := by kernel_rfl
theorem gt22 : (Tryd.prog.globals[22]?).map (·.type) = some 36 := by kernel_rfl
theorem gn1 : Tryd.prog.globalNamed "pledge/api.ErrNothing" = some 1 := by kernel_rfl
theorem gt1 : (Tryd.prog.globals[1]?).map (·.type) = some 36 := by kernel_rfl
def textAt : Nat → List UInt8
  | 7 => [105, 116, 32, 101, 110, 100, 115, 32, 116, 111, 111, 32, 101, 97, 114, 108, 121]
  | 3 => [110, 111, 116, 32, 97, 115, 32, 105, 116, 32, 104, 97, 115, 32, 116, 111, 32, 98, 101]
  | 0 => [97, 32, 110, 117, 109, 98, 101, 114, 32, 111, 117, 116, 32, 111, 102, 32, 105, 116, 115, 32, 114, 97, 110, 103, 101]
  | 8 => [116, 111, 111, 32, 103, 114, 101, 97, 116, 32, 97, 32, 110, 117, 109, 98, 101, 114]
  | 2 => [116, 111, 111, 32, 109, 97, 110, 121]
  | 9 => [116, 104, 101, 114, 101, 32, 105, 115, 32, 110, 111, 110, 101]
  | 10 => [116, 104, 101, 114, 101, 32, 105, 115, 32, 111, 110, 101]
  | 11 => [116, 104, 101, 114, 101, 32, 105, 115, 32, 110, 111, 32, 114, 111, 111, 109]
  | 12 => [105, 116, 32, 105, 115, 32, 100, 111, 119, 110]
  | 13 => [100, 111, 110, 101, 32, 97, 108, 114, 101, 97, 100, 121]
  | 14 => [110, 111, 32, 115, 117, 99, 104, 32, 107, 105, 110, 100]
  | 15 => [110, 111, 116, 32, 101, 108, 105, 103, 105, 98, 108, 101]
  | 16 => [110, 111, 116, 32, 101, 110, 111, 117, 103, 104, 32, 116, 104, 101, 114, 101]
  | 17 => [97, 32, 108, 105, 109, 105, 116, 32, 119, 111, 117, 108, 100, 32, 98, 101, 32, 98, 114, 111, 107, 101, 110]
  | 4 => [108, 101, 115, 115, 32, 116, 104, 97, 110, 32, 119, 104, 97, 116, 32, 105, 115, 32, 110, 101, 101, 100, 101, 100]
  | 18 => [98, 111, 117, 110, 100, 32, 98, 121, 32, 97, 32, 99, 97, 108, 108]
  | 19 => [110, 111, 116, 32, 111, 110, 32, 116, 104, 105, 115, 32, 100, 97, 121]
  | 20 => [110, 111, 32, 115, 117, 99, 104, 32, 119, 111, 114, 100]
  | 21 => [110, 111, 116, 32, 97, 32, 110, 117, 109, 98, 101, 114]
  | 22 => [110, 111, 116, 32, 108, 111, 111, 107, 101, 100, 32, 97, 116, 32, 97, 108, 108]
  | 1 => [105, 116, 32, 99, 97, 110, 39, 116, 32, 98, 101, 32, 100, 111, 110, 101]
  | _ => []
theorem text_apart : ∀ g ∈ posL, ∀ h ∈ posL, textAt g = textAt h → g = h := by decide
/-- What is listed of one error. -/
def ErrAt (W : World) (g : Nat) (a : Addr) : Prop := W.cell? ⟨g, 0, none⟩ = some (.iface 130 (.pointer (some a))) ∧ ∃ s : ByteArray, W.cell? a = some (.string s) ∧ s.data.toList = textAt g ∧ ∃ c t, W.heap[a.block]? = some (.cells c t (0, 0))
theorem errs_of_each {W : World} (h : ∀ g ∈ posL, ∃ a, ErrAt W g a) : ∃ ea, Errs ea W := by
  classical
  refine ⟨fun g => if hg : g ∈ posL then Classical.choose (h g hg) else ⟨0, 0, none⟩, ?_, ?_, ?_⟩
  · intro g h1 h5 h6
    have hg := posL_mem g h1 h5 h6
    simp only [dif_pos hg]
    exact (Classical.choose_spec (h g hg)).1
  · intro g hg
    simp only [dif_pos hg]
    obtain ⟨_, s, _, _, hb⟩ := Classical.choose_spec (h g hg)
    exact hb
  · intro g k hg hk e
    simp only [dif_pos hg, dif_pos hk] at e
    obtain ⟨_, s, hs, ht, _⟩ := Classical.choose_spec (h g hg)
    obtain ⟨_, s', hs', ht', _⟩ := Classical.choose_spec (h k hk)
    rw [e] at hs
    have es : s = s' := by
      have := hs.symm.trans hs'
      simpa using this
    exact text_apart g hg k hk (by rw [← ht, ← ht', es])
set_option maxRecDepth 100000 in
theorem sents_of_laid {W : World} (h0 : laidMet Tryd.prog Rows.allocCostsRow.laid W) : ∃ ea, Errs ea W := by
  have k7 := laid_err h0 gn7 gt7
  have h1 := h0.tail
  have k3 := laid_err h1 gn3 gt3
  have h2 := h1.tail
  have k0 := laid_err h2 gn0 gt0
  have h3 := h2.tail
  have k8 := laid_err h3 gn8 gt8
  have h4 := h3.tail
  have k2 := laid_err h4 gn2 gt2
  have h5 := h4.tail
  have k9 := laid_err h5 gn9 gt9
  have h6 := h5.tail
  have k10 := laid_err h6 gn10 gt10
  have h7 := h6.tail
  have k11 := laid_err h7 gn11 gt11
  have h8 := h7.tail
  have k12 := laid_err h8 gn12 gt12
  have h9 := h8.tail
  have k13 := laid_err h9 gn13 gt13
  have h10 := h9.tail
  have k14 := laid_err h10 gn14 gt14
  have h11 := h10.tail
  have k15 := laid_err h11 gn15 gt15
  have h12 := h11.tail
  have k16 := laid_err h12 gn16 gt16
  have h13 := h12.tail
  have k17 := laid_err h13 gn17 gt17
  have h14 := h13.tail
  have k4 := laid_err h14 gn4 gt4
  have h15 := h14.tail
  have k18 := laid_err h15 gn18 gt18
  have h16 := h15.tail
  have k19 := laid_err h16 gn19 gt19
  have h17 := h16.tail
  have k20 := laid_err h17 gn20 gt20
  have h18 := h17.tail
  have k21 := laid_err h18 gn21 gt21
  have h19 := h18.tail
  have k22 := laid_err h19 gn22 gt22
  have h20 := h19.tail
  have k1 := laid_err h20 gn1 gt1
  refine errs_of_each fun g hg => ?_
  simp only [posL, List.mem_cons, List.not_mem_nil, or_false] at hg
  rcases hg with rfl | rfl | rfl | rfl | rfl | rfl | rfl | rfl | rfl | rfl | rfl | rfl | rfl | rfl | rfl | rfl | rfl | rfl | rfl | rfl | rfl
  · obtain ⟨a, s, h1, h2, h3, h4⟩ := k7; exact ⟨a, h1, s, h2, h3, h4⟩
  · obtain ⟨a, s, h1, h2, h3, h4⟩ := k3; exact ⟨a, h1, s, h2, h3, h4⟩
  · obtain ⟨a, s, h1, h2, h3, h4⟩ := k0; exact ⟨a, h1, s, h2, h3, h4⟩
  · obtain ⟨a, s, h1, h2, h3, h4⟩ := k8; exact ⟨a, h1, s, h2, h3, h4⟩
  · obtain ⟨a, s, h1, h2, h3, h4⟩ := k2; exact ⟨a, h1, s, h2, h3, h4⟩
  · obtain ⟨a, s, h1, h2, h3, h4⟩ := k9; exact ⟨a, h1, s, h2, h3, h4⟩
  · obtain ⟨a, s, h1, h2, h3, h4⟩ := k10; exact ⟨a, h1, s, h2, h3, h4⟩
  · obtain ⟨a, s, h1, h2, h3, h4⟩ := k11; exact ⟨a, h1, s, h2, h3, h4⟩
  · obtain ⟨a, s, h1, h2, h3, h4⟩ := k12; exact ⟨a, h1, s, h2, h3, h4⟩
  · obtain ⟨a, s, h1, h2, h3, h4⟩ := k13; exact ⟨a, h1, s, h2, h3, h4⟩
  · obtain ⟨a, s, h1, h2, h3, h4⟩ := k14; exact ⟨a, h1, s, h2, h3, h4⟩
  · obtain ⟨a, s, h1, h2, h3, h4⟩ := k15; exact ⟨a, h1, s, h2, h3, h4⟩
  · obtain ⟨a, s, h1, h2, h3, h4⟩ := k16; exact ⟨a, h1, s, h2, h3, h4⟩
  · obtain ⟨a, s, h1, h2, h3, h4⟩ := k17; exact ⟨a, h1, s, h2, h3, h4⟩
  · obtain ⟨a, s, h1, h2, h3, h4⟩ := k4; exact ⟨a, h1, s, h2, h3, h4⟩
  · obtain ⟨a, s, h1, h2, h3, h4⟩ := k18; exact ⟨a, h1, s, h2, h3, h4⟩
  · obtain ⟨a, s, h1, h2, h3, h4⟩ := k19; exact ⟨a, h1, s, h2, h3, h4⟩
  · obtain ⟨a, s, h1, h2, h3, h4⟩ := k20; exact ⟨a, h1, s, h2, h3, h4⟩
  · obtain ⟨a, s, h1, h2, h3, h4⟩ := k21; exact ⟨a, h1, s, h2, h3, h4⟩
  · obtain ⟨a, s, h1, h2, h3, h4⟩ := k22; exact ⟨a, h1, s, h2, h3, h4⟩
  · obtain ⟨a, s, h1, h2, h3, h4⟩ := k1; exact ⟨a, h1, s, h2, h3, h4⟩
set_option maxRecDepth 100000 in
theorem metAll (os : Os) (args : Array Value) : laidMet Tryd.prog Rows.allocCostsRow.laid ((World.doorLaid Tryd.prog 4000 os).forCall (fun _ _ => 0) ⟨#[], args, []⟩).memory :=
  laidMet_of_run' 8 (by kernel_rfl) (by kernel_rfl)

end Go.Proofs.YtjaegolanbjgfaaDoor
