import Derived.Test.YtjaegolanbjgfaaDoorLm
import Derived.Test.YtjaegolanbjgfaaDoorCards
import Derived.Test.YtjaegolanbjgfaaDoorTie
import Derived.WalkKit
import Derived.ProofKit
import Derived.OpenShut
import Derived.Deep.DeepHandedRow
import Derived.Deep.DeepWitnessRowRef
import Derived.Stop.LaidErr
import Derived.LaidMore
import Derived.LaidOnce
import Derived.LaidSub
set_option linter.unusedVariables false
set_option linter.unusedSimpArgs false
namespace Go.Proofs.YtjaegolanbjgfaaDoor
open Go.ChangeShapes Go.WideShapes Go.ChangeAt Go.RowKit
theorem own : ownKnob Tryd.prog.godebug = none := by kernel_rfl
theorem gR : Tryd.prog.globalNamed "pledge/api.ErrRange" = some 0 := by kernel_rfl
theorem gN : Tryd.prog.globalNamed "pledge/api.ErrNothing" = some 1 := by kernel_rfl
theorem gM : Tryd.prog.globalNamed "pledge/api.ErrMany" = some 2 := by kernel_rfl
theorem tR : (Tryd.prog.globals[0]?).map (·.type) = some 36 := by kernel_rfl
theorem tN : (Tryd.prog.globals[1]?).map (·.type) = some 36 := by kernel_rfl
theorem tM : (Tryd.prog.globals[2]?).map (·.type) = some 36 := by kernel_rfl
theorem star : "*" ++ "errors.errorString" = "*errors.errorString" := by decide
theorem row130 (u : TypeId) (h : Tryd.prog.typeName? 3 u = some "*errors.errorString") : u = 130 :=
  typeName_ptr_named (nm := "errors.errorString") (by rw [star]; kernel_rfl) (by kernel_rfl) (by decide) u (by rw [star]; exact h)
theorem met (os : Os) (args : Array Value) : laidMet Tryd.prog Rows.allocMoreRow.laid ((World.doorLaid Tryd.prog 4000 os).forCall (fun _ _ => 0) ⟨#[], args, []⟩).memory :=
  laidMet_of_run' 8 (by kernel_rfl) (by kernel_rfl)
theorem sent_of_laid {W : World} (h : laidMet Tryd.prog Rows.allocMoreRow.laid W) : ∃ ea, Sent 3 ea W := by
  obtain ⟨a0, s0, v0, _⟩ := laid_sentinel h gR tR Tryd.underlying36 row130 Tryd.underlying130 Tryd.underlying149 rfl rfl (by kernel_rfl) (by kernel_rfl) (by kernel_rfl)
  obtain ⟨a2, s2, v2, _⟩ := laid_sentinel h.tail gM tM Tryd.underlying36 row130 Tryd.underlying130 Tryd.underlying149 rfl rfl (by kernel_rfl) (by kernel_rfl) (by kernel_rfl)
  obtain ⟨a1, s1, v1, _⟩ := laid_sentinel h.tail.tail gN tN Tryd.underlying36 row130 Tryd.underlying130 Tryd.underlying149 rfl rfl (by kernel_rfl) (by kernel_rfl) (by kernel_rfl)
  have c0 : W.cell? ⟨0, 0, none⟩ = some (.iface 130 (.pointer (some a0))) := by simpa using World.var?_cell gR v0 0
  have c1 : W.cell? ⟨1, 0, none⟩ = some (.iface 130 (.pointer (some a1))) := by simpa using World.var?_cell gN v1 0
  have c2 : W.cell? ⟨2, 0, none⟩ = some (.iface 130 (.pointer (some a2))) := by simpa using World.var?_cell gM v2 0
  refine ⟨fun g => if g = 0 then a0 else if g = 1 then a1 else a2, fun g h1 _ _ => ?_⟩
  match g, h1 with
  | 0, _ => exact c0
  | 1, _ => exact c1
  | 2, _ => exact c2
abbrev zeroArgs : Array Value := #[.agg #[.slice none 0 0, .slice none 0 0, .int .i64 0], .int .i64 0, .int .i64 0]
theorem reads (os : Os) {H : Type} (enc : TypeId × Value → H) : DataW.whole enc Tryd.prog ((World.doorLaid Tryd.prog 4000 os).forCall (fun _ _ => 0) ⟨#[], zeroArgs, []⟩).memory Tryd.f7.params.toList Rows.allocMoreSpec.vars false zeroArgs.toList 8 = some ([.agg [.nil, .nil, .lit (.int .i64 0)], .lit (.int .i64 0), .lit (.int .i64 0)], [], []) := by kernel_rfl
end Go.Proofs.YtjaegolanbjgfaaDoor
