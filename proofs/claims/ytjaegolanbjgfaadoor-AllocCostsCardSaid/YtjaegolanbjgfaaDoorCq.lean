/- Proved: AllocCosts (pledgelaw20) returns true for every problem, every choice and every number, changes nothing that was there, and never panics: the card Rows.AllocCostsCardSaid. Conditions: none. -/
import Derived.Test.YtjaegolanbjgfaaDoorCr
import Derived.Test.YtjaegolanbjgfaaDoorOq
import Derived.Test.YtjaegolanbjgfaaDoorLq
import Derived.WalkKit
import Derived.ProofKit
import Derived.OpenShut
import Derived.Deep.DeepHandedRow
import Derived.Deep.DeepWitnessRowRef
import Derived.Stop.LaidErr
import Derived.LaidMore
import Derived.LaidOnce
import Derived.LaidSub
import Derived.Lib.SmallJoins
import Derived.Deep.Slices
import Derived.Carry
set_option linter.unusedVariables false
set_option linter.unusedSimpArgs false
namespace Go.Proofs.YtjaegolanbjgfaaDoor
open Go.RowKit
open Go.ChangeShapes Go.WideShapes Go.ChangeAt
abbrev allocCostsZero : Array Value := #[.agg #[.slice none 0 0, .slice none 0 0, .int .i64 0], .slice none 0 0, .int .i64 0]
set_option maxRecDepth 100000 in
theorem allocCosts_reads (os : Os) {H : Type} (enc : TypeId × Value → H) : DataW.whole enc Tryd.prog ((World.doorLaid Tryd.prog 4000 os).forCall (fun _ _ => 0) ⟨#[], allocCostsZero, []⟩).memory Tryd.f8.params.toList Rows.allocCostsSpec.vars false allocCostsZero.toList 8 = some ([.agg [.nil, .nil, .lit (.int .i64 0)], .nil, .lit (.int .i64 0)], [], []) := by kernel_rfl
set_option maxRecDepth 100000 in
/-- What the walk gives, for every argument and every world that holds the errors. -/
theorem allocCosts_contract (H : Type) (enc : TypeId × Value → H) (W : World) (base : Nat) (args : Array Value) (ds gs : List (DataW H)) (before : List MemPlace)
    (hval : ∀ (j : Nat) (t : TypeId) (v : Value), Tryd.f8.params[j]? = some t → args[j]? = some v → Value.okWide Tryd.prog W .any base t v)
    (hW : DataW.Whole enc Tryd.prog Tryd.f8.params.toList Rows.allocCostsSpec.vars false W args.toList ds gs before) (hL : laidMet Tryd.prog Rows.allocCostsRow.laid W) :
    Calls Tryd.prog 8 args W fun e W' => ∃ v, e = .returned v ∧ Rows.allocCostsSpec.post enc Tryd.prog Tryd.f8 false true false false W args v W' := by
  have hW' := hW
  obtain ⟨ea, hs⟩ := sents_of_laid hL
  obtain ⟨p, q, hA0, hV, rfl, hfz, hnd⟩ := hW
  have hA : DataW.TrodAll enc Tryd.prog W 0 (fun _ => true) true Tryd.f8.params.toList args.toList ds p := hA0
  rw [Tryd.params8] at hA hval
  obtain ⟨v0, vs0, d0, ds0, p0, q0, hargs, rfl, rfl, h0, r0⟩ := trodAll_cons hA
  obtain ⟨v1, vs1, d1, ds1, p1, q1, rfl, rfl, rfl, h1, r1⟩ := trodAll_cons r0
  obtain ⟨v2, vs2, d2, ds2, p2, q2, rfl, rfl, rfl, h2, r2⟩ := trodAll_cons r1
  obtain ⟨rfl, rfl, rfl⟩ := trodAll_nil r2
  obtain rfl : args = #[v0, v1, v2] := by cases args; simp_all
  obtain ⟨A, c, B, e, p, rfl, hLo, hCa, hAc, hc63⟩ := open_prob2 (hval 0 25 v0 rfl rfl) h0
  obtain ⟨C, cc, ts, rfl, hT⟩ := open_ints_arg (hval 1 32 v1 rfl rfl) h1
  obtain ⟨z2, rfl, rfl, rfl, _⟩ := open_int Tryd.underlying3 (hval 2 3 v2 rfl rfl) h2
  clear hA0 hA h0 h1 h2 r0 r1 r2 hval
  refine (AllocCosts_any A c B e p C cc ts z2 ea W hLo hCa hT hs).mono fun e W' ⟨he, hb⟩ => ?_
  subst he
  exact ⟨_, rfl, post_true (by kernel_rfl) rfl (of_decide_eq_true (by kernel_rfl)) rfl hW' hb⟩
set_option maxRecDepth 100000 in
theorem allocCosts_lifted (os : Os) (started : os.Started) (H : Type) (enc : TypeId × Value → H) (F : Stop.Interp) :
    ReturnsInHanded {} Tryd.checked os 8 .any ((OpenSpec.ofChange Rows.allocCostsSpec).preRow enc Tryd.prog Tryd.f8 Rows.allocCostsRow.domain false Rows.allocCostsRow.laid) (((OpenSpec.ofChange Rows.allocCostsSpec).at F).post enc Tryd.prog Tryd.f8 false true false false) := by
  refine returnsInHanded_of_row (C := Tryd.checked) (s := OpenSpec.ofChange Rows.allocCostsSpec) own started (by kernel_rfl) Tryd.func8
    (witness_row_atRef (enc := enc) (C := Tryd.checked) false (World.doorLaid Tryd.prog 4000 os) allocCostsZero rfl (by kernel_rfl) (by kernel_rfl) (by kernel_rfl)
      (OpenSpec.preRow_of_cond 8 (allocCosts_reads os enc) (by kernel_rfl) (fun k hk => by cases hk) (by kernel_rfl) (metAll os _))) ?_
  intro W base args ds gs before hval hW _ _ _ hL _ _
  exact allocCosts_contract H enc W base args ds gs before hval hW (laidMetH_iff.1 hL).1
set_option maxRecDepth 100000 in
theorem allocCosts_said : Rows.AllocCostsSaid :=
  OpenClaim.holds_of_cond 8 Tryd.f8 rfl rfl rfl rfl rfl rfl rfl ⟨rfl, rfl, rfl, rfl, rfl⟩ rfl rfl rfl rfl rfl (by kernel_rfl) Tryd.func8 (by kernel_rfl)
    (of_decide_eq_true (by kernel_rfl)) (by unfold Func.isWrapper; first | (rw [if_pos (by decide +kernel)]; kernel_rfl) | (rw [if_neg (by decide +kernel)]; exact ⟨rfl, rfl⟩))
    (fun os started H enc _ F => by rw [OpenClaim.pre_eq_preRow]; exact allocCosts_lifted os started H enc F)
/-- No parameter wants a stand-in. -/
theorem allocCosts_plain (f : FuncId) (fn : Func) (hf : Tryd.pinned.checked.prog.funcNamed "pledge/pledgelaw20.AllocCosts" = some f) (hfn : Tryd.pinned.checked.prog.funcs[f]? = some fn) :
    true = Tryd.pinned.checked.prog.looks [] ∧ ∀ (j : Nat) (t : TypeId), fn.params[j]? = some t → Tryd.pinned.checked.prog.wantsStandIn t = false := by
  obtain rfl : f = 8 := Option.some.inj ((show Tryd.prog.funcNamed "pledge/pledgelaw20.AllocCosts" = some 8 by kernel_rfl).symm.trans hf) |>.symm
  obtain rfl : fn = Tryd.f8 := (Option.some.inj (Tryd.func8.symm.trans hfn)).symm
  refine ⟨by kernel_rfl, fun j t ht => ?_⟩
  rw [Tryd.params8] at ht
  have hm := Array.mem_of_getElem? ht
  simp only [List.mem_toArray, List.mem_cons, List.not_mem_nil, or_false] at hm
  have w25 : Tryd.prog.wantsStandIn 25 = false := by kernel_rfl
  have w3 : Tryd.prog.wantsStandIn 3 = false := by kernel_rfl
  have w32 : Tryd.prog.wantsStandIn 32 = false := by kernel_rfl
  rcases hm with rfl | rfl | rfl
  · exact w25
  · exact w32
  · exact w3
set_option maxRecDepth 100000 in
/-- THE CARD. -/
theorem allocCosts_card : Rows.AllocCostsCardSaid :=
  Claim7.holds_tied_plain_at .later [] _ _ _ _ allocCosts_said (fun _ h => by cases h) (by kernel_rfl) (fun _ h => by cases h) allocCosts_row_tie rfl ⟨rfl, rfl⟩ (by kernel_rfl) rfl allocCosts_plain (by kernel_rfl)

end Go.Proofs.YtjaegolanbjgfaaDoor
