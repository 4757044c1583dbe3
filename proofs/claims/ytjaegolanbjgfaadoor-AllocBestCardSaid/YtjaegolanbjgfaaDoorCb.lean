/- Proved: AllocBest (pledgelaw20) returns true for every problem and every budget, changes nothing that was there, and never panics: the card Rows.AllocBestCardSaid. Conditions: none. -/
import Derived.Test.YtjaegolanbjgfaaDoorCr
import Derived.Test.YtjaegolanbjgfaaDoorOq
import Derived.Test.YtjaegolanbjgfaaDoorLb
import Derived.WalkKit
import Derived.ProofKit
import Derived.OpenShut
import Derived.Deep.DeepHandedRow
import Derived.Deep.DeepWitnessRowRef
import Derived.Stop.LaidErr
import Derived.LaidMore
import Derived.LaidOnce
import Derived.LaidSub
import Derived.Lib.SmallJoins
import Derived.Deep.Slices
import Derived.Carry
set_option linter.unusedVariables false
set_option linter.unusedSimpArgs false
namespace Go.Proofs.YtjaegolanbjgfaaDoor
open Go.RowKit
open Go.ChangeShapes Go.WideShapes Go.ChangeAt
abbrev allocBestZero : Array Value := #[.agg #[.slice none 0 0, .slice none 0 0, .int .i64 0], .int .i64 0]
set_option maxRecDepth 100000 in
theorem allocBest_reads (os : Os) {H : Type} (enc : TypeId × Value → H) : DataW.whole enc Tryd.prog ((World.doorLaid Tryd.prog 4000 os).forCall (fun _ _ => 0) ⟨#[], allocBestZero, []⟩).memory Tryd.f3.params.toList Rows.allocBestSpec.vars false allocBestZero.toList 8 = some ([.agg [.nil, .nil, .lit (.int .i64 0)], .lit (.int .i64 0)], [], []) := by kernel_rfl
set_option maxRecDepth 100000 in
/-- What the walk gives, for every argument and every world that holds the errors. -/
theorem allocBest_contract (H : Type) (enc : TypeId × Value → H) (W : World) (base : Nat) (args : Array Value) (ds gs : List (DataW H)) (before : List MemPlace)
    (hval : ∀ (j : Nat) (t : TypeId) (v : Value), Tryd.f3.params[j]? = some t → args[j]? = some v → Value.okWide Tryd.prog W .any base t v)
    (hW : DataW.Whole enc Tryd.prog Tryd.f3.params.toList Rows.allocBestSpec.vars false W args.toList ds gs before) (hL : laidMet Tryd.prog Rows.allocBestRow.laid W) :
    Calls Tryd.prog 3 args W fun e W' => ∃ v, e = .returned v ∧ Rows.allocBestSpec.post enc Tryd.prog Tryd.f3 false true false false W args v W' := by
  have hW' := hW
  obtain ⟨ea, hs⟩ := sents_of_laid hL
  obtain ⟨p, q, hA0, hV, rfl, hfz, hnd⟩ := hW
  have hA : DataW.TrodAll enc Tryd.prog W 0 (fun _ => true) true Tryd.f3.params.toList args.toList ds p := hA0
  rw [Tryd.params3] at hA hval
  obtain ⟨v0, vs0, d0, ds0, p0, q0, hargs, rfl, rfl, h0, r0⟩ := trodAll_cons hA
  obtain ⟨v1, vs1, d1, ds1, p1, q1, rfl, rfl, rfl, h1, r1⟩ := trodAll_cons r0
  obtain ⟨rfl, rfl, rfl⟩ := trodAll_nil r1
  obtain rfl : args = #[v0, v1] := by cases args; simp_all
  obtain ⟨A, c, B, e, p, rfl, hLo, hCa, hAc, hc63⟩ := open_prob2 (hval 0 25 v0 rfl rfl) h0
  obtain ⟨z1, rfl, rfl, rfl, _⟩ := open_int Tryd.underlying3 (hval 1 3 v1 rfl rfl) h1
  clear hA0 hA h0 h1 r0 r1 hval
  refine (AllocBest_any A c B e p z1 ea W hLo hCa hs).mono fun e W' ⟨he, hb⟩ => ?_
  subst he
  exact ⟨_, rfl, post_true (by kernel_rfl) rfl (of_decide_eq_true (by kernel_rfl)) rfl hW' hb⟩
set_option maxRecDepth 100000 in
theorem allocBest_lifted (os : Os) (started : os.Started) (H : Type) (enc : TypeId × Value → H) (F : Stop.Interp) :
    ReturnsInHanded {} Tryd.checked os 3 .any ((OpenSpec.ofChange Rows.allocBestSpec).preRow enc Tryd.prog Tryd.f3 Rows.allocBestRow.domain false Rows.allocBestRow.laid) (((OpenSpec.ofChange Rows.allocBestSpec).at F).post enc Tryd.prog Tryd.f3 false true false false) := by
  refine returnsInHanded_of_row (C := Tryd.checked) (s := OpenSpec.ofChange Rows.allocBestSpec) own started (by kernel_rfl) Tryd.func3
    (witness_row_atRef (enc := enc) (C := Tryd.checked) false (World.doorLaid Tryd.prog 4000 os) allocBestZero rfl (by kernel_rfl) (by kernel_rfl) (by kernel_rfl)
      (OpenSpec.preRow_of_cond 8 (allocBest_reads os enc) (by kernel_rfl) (fun k hk => by cases hk) (by kernel_rfl) (metAll os _))) ?_
  intro W base args ds gs before hval hW _ _ _ hL _ _
  exact allocBest_contract H enc W base args ds gs before hval hW (laidMetH_iff.1 hL).1
set_option maxRecDepth 100000 in
theorem allocBest_said : Rows.AllocBestSaid :=
  OpenClaim.holds_of_cond 3 Tryd.f3 rfl rfl rfl rfl rfl rfl rfl ⟨rfl, rfl, rfl, rfl, rfl⟩ rfl rfl rfl rfl rfl (by kernel_rfl) Tryd.func3 (by kernel_rfl)
    (of_decide_eq_true (by kernel_rfl)) (by unfold Func.isWrapper; first | (rw [if_pos (by decide +kernel)]; kernel_rfl) | (rw [if_neg (by decide +kernel)]; exact ⟨rfl, rfl⟩))
    (fun os started H enc _ F => by rw [OpenClaim.pre_eq_preRow]; exact allocBest_lifted os started H enc F)
/-- No parameter wants a stand-in. -/
theorem allocBest_plain (f : FuncId) (fn : Func) (hf : Tryd.pinned.checked.prog.funcNamed "pledge/pledgelaw20.AllocBest" = some f) (hfn : Tryd.pinned.checked.prog.funcs[f]? = some fn) :
    true = Tryd.pinned.checked.prog.looks [] ∧ ∀ (j : Nat) (t : TypeId), fn.params[j]? = some t → Tryd.pinned.checked.prog.wantsStandIn t = false := by
  obtain rfl : f = 3 := Option.some.inj ((show Tryd.prog.funcNamed "pledge/pledgelaw20.AllocBest" = some 3 by kernel_rfl).symm.trans hf) |>.symm
  obtain rfl : fn = Tryd.f3 := (Option.some.inj (Tryd.func3.symm.trans hfn)).symm
  refine ⟨by kernel_rfl, fun j t ht => ?_⟩
  rw [Tryd.params3] at ht
  have hm := Array.mem_of_getElem? ht
  simp only [List.mem_toArray, List.mem_cons, List.not_mem_nil, or_false] at hm
  have w25 : Tryd.prog.wantsStandIn 25 = false := by kernel_rfl
  have w3 : Tryd.prog.wantsStandIn 3 = false := by kernel_rfl
  have w32 : Tryd.prog.wantsStandIn 32 = false := by kernel_rfl
  rcases hm with rfl | rfl
  · exact w25
  · exact w3
set_option maxRecDepth 100000 in
/-- THE CARD. -/
theorem allocBest_card : Rows.AllocBestCardSaid :=
  Claim7.holds_tied_plain_at .later [] _ _ _ _ allocBest_said (fun _ h => by cases h) (by kernel_rfl) (fun _ h => by cases h) allocBest_row_tie rfl ⟨rfl, rfl⟩ (by kernel_rfl) rfl allocBest_plain (by kernel_rfl)

end Go.Proofs.YtjaegolanbjgfaaDoor
