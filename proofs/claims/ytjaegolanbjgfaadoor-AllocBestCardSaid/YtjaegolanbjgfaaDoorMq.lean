/- Plain law: what is sure costs no more than any take that fits; no less, if more is needed. -/
import Derived.Test.YtjaegolanbjgfaaDoorMp
import Derived.Test.YtjaegolanbjgfaaDoorLm
set_option linter.unusedVariables false
set_option linter.unusedSimpArgs false
namespace Go.Proofs.YtjaegolanbjgfaaDoor
theorem gi_units {ls : List Lot} {k : Nat} (h : k < ls.length) : gi (units ls) k = (gl ls k).u := by
  simp [gi, units, gl, List.getD_eq_getElem?_getD, h]
theorem units_in {p : Prob} (hok : Ok p) : inLots p.lots (units p.lots) :=
  ⟨units_len _, fun k hk => by rw [gi_units hk]; exact ⟨(hok.lot k hk).1, Int.le_refl _⟩⟩
/-- The choice that the law makes of any numbers. -/
def pickN (ls : List Lot) (ts : List Int) (i : Nat) : Int := if i < ts.length then gi ts i % ((gl ls i).u + 1) else 0
def pickT (ls : List Lot) (ts : List Int) (k : Nat) : List Int := (List.range k).map (pickN ls ts)
theorem pickT_len (ls : List Lot) (ts : List Int) (k : Nat) : (pickT ls ts k).length = k := by simp [pickT]
theorem pickT_succ (ls : List Lot) (ts : List Int) (k : Nat) : pickT ls ts (k + 1) = pickT ls ts k ++ [pickN ls ts k] := by simp [pickT, List.range_succ]
theorem pickT_in {p : Prob} (hok : Ok p) (ts : List Int) : inLots p.lots (pickT p.lots ts p.lots.length) := by
  refine ⟨pickT_len _ _ _, fun k hk => ?_⟩
  have e : gi (pickT p.lots ts p.lots.length) k = pickN p.lots ts k := by
    have := gi_map (pickN p.lots ts) p.lots.length k hk []
    simpa [pickT] using this
  rw [e]
  have hu := (hok.lot k hk).1
  unfold pickN
  split
  · have h1 := Int.emod_nonneg (gi ts k) (show (gl p.lots k).u + 1 ≠ 0 by omega)
    have h2 := Int.emod_lt_of_pos (gi ts k) (show 0 < (gl p.lots k).u + 1 by omega)
    omega
  · omega
def needP (p : Prob) (n : Int) : Prob := ⟨p.lots, p.caps, n⟩
theorem worth_need (p : Prob) (n : Int) (ts : List Int) : worthP (needP p n) ts = worthP p ts := by
  have : ∀ m, wsum (needP p n) ts m = wsum p ts m := by
    intro m
    induction m with
    | zero => rfl
    | succ m ih => unfold wsum; rw [ih]; rfl
  exact this _
structure Costs (p : Prob) : Prop where
  either : errB p 4000 = some 1 ∨ errB p 4000 = none
  no : errB p 4000 = some 1 → worthV p (units p.lots) < p.need
  yes : errB p 4000 = none → enough p (takeB p 4000) = true ∧ inLots p.lots (takeB p 4000) ∧
    ((srch p 4000).2 = true → (∀ ts, inLots p.lots ts → enough p ts = true → costP p (takeB p 4000) ≤ costP p ts) ∧
      ∀ n, p.need ≤ n → errB (needP p n) 4000 = none → inLots p.lots (takeB (needP p n) 4000) ∧ costV (needP p n) (takeB (needP p n) 4000) = costP p (takeB (needP p n) 4000) ∧ costP p (takeB p 4000) ≤ costP p (takeB (needP p n) 4000))
theorem costs_law {p : Prob} (hok : Ok p) : Costs p := by
  have he := errB_ok hok (bud := 4000) (by omega) (by omega)
  refine ⟨?_, fun h => ?_, fun h => ?_⟩
  · rw [he]; split
    · exact Or.inl rfl
    · exact Or.inr rfl
  · rw [he] at h
    split at h
    · rename_i hg
      have := greedy_most hok hg (units_in hok)
      rw [worthV_in hok (units_in hok)]
      omega
    · cases h
  · have hb := best_law hok (bud := 4000) (by omega) (greedy_of_none hok (by omega) (by omega) h)
    refine ⟨?_, hb.i, fun hs => ⟨fun ts hi hw => ?_, fun n hn hq => ?_⟩⟩
    · unfold enough; rw [fitsB_of hok hb.i]; simpa using hb.w
    · unfold enough at hw
      simp only [Bool.and_eq_true, decide_eq_true_eq] at hw
      exact hb.sure hs ts hi hw.2
    · have hoq : Ok (needP p n) := by
        unfold errB at hq
        cases hv : valid (needP p n) with
        | none => exact ok_of_valid hv
        | some k => rw [hv] at hq; cases hq
      have hbq := best_law hoq (bud := 4000) (by omega) (greedy_of_none hoq (by omega) (by omega) hq)
      have hw := hbq.w
      rw [worth_need] at hw
      refine ⟨hbq.i, costV_in hoq hbq.i, hb.sure hs _ hbq.i ?_⟩
      have : (needP p n).need = n := rfl
      omega
end Go.Proofs.YtjaegolanbjgfaaDoor
