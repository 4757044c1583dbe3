/- Plain law: what Best says is what the document says. -/
import Derived.Test.YtjaegolanbjgfaaDoorMt
import Derived.Test.YtjaegolanbjgfaaDoorRe
import Derived.Test.YtjaegolanbjgfaaDoorMv
import Derived.Test.YtjaegolanbjgfaaDoorEs
set_option linter.unusedVariables false
set_option linter.unusedSimpArgs false
namespace Go.Proofs.YtjaegolanbjgfaaDoor
theorem choF_small {p : Prob} (most : Int) : ∀ k, choF p most p.lots.length ≤ most → k ≤ p.lots.length → choF p most k ≤ most := by
  intro k hm hk
  rcases (show choF p most k ≤ most ∨ most < choF p most k by omega) with h | h
  · exact h
  · have := choF_stop p most h (p.lots.length - k)
    rw [show k + (p.lots.length - k) = p.lots.length by omega] at this
    omega
theorem choF_prod {p : Prob} (hok : Ok p) {most : Int} (hm : choF p most p.lots.length ≤ most) : ∀ k, k ≤ p.lots.length → choF p most k = (prodN ((List.range k).map (width p)) : Nat)
  | 0, _ => by simp [choF, prodN]
  | k + 1, hk => by
    have ih := choF_prod hok hm k (by omega)
    have hs := choF_small most k hm (by omega)
    have hl := (hok.lot k hk).1
    rw [List.range_succ, List.map_append, prodN_append]
    show (if choF p most k ≤ most then choF p most k * ((gl p.lots k).u + 1) else choF p most k) = _
    rw [if_pos hs, ih]
    simp only [List.map_cons, List.map_nil, prodN, Nat.mul_one, width]
    rw [Int.natCast_mul]
    congr 1
    omega
def badE (p : Prob) (bud : Int) : Int := if codeR p ≠ 0 then codeR p else if bud < 0 ∨ 100000 < bud then 103 else if worthP p (units p.lots) < p.need then 121 else 0
theorem codeR_zero {p : Prob} : codeR p = 0 ↔ valid p = none := by
  unfold codeR
  constructor
  · intro h
    split at h
    · cases h
    · cases h
    · assumption
  · intro h; rw [h]
theorem most_iff {p : Prob} (hok : Ok p) : worthP p (greedyT p) < p.need ↔ worthP p (units p.lots) < p.need := by
  constructor
  · intro h
    have := greedy_most hok h (units_in hok)
    omega
  · intro h
    have := stuck_most hok (units_in hok) (greedy_in hok) (fun i hi => Or.inl (gi_units hi))
    omega
theorem errB_code (p : Prob) (bud : Int) : codeE (errB p bud) = badE p bud := by
  unfold badE errB
  cases hv : valid p with
  | some k =>
    have hc : codeR p ≠ 0 := fun h => by rw [codeR_zero.1 h] at hv; cases hv
    rw [if_pos hc]
    have hk : k = 2 ∨ k = 0 := by
      unfold valid at hv
      split at hv
      · simp at hv; omega
      split at hv
      · simp at hv; omega
      · cases hv
    unfold codeR
    rw [hv]
    rcases hk with rfl | rfl <;> rfl
  | none =>
    have hok := ok_of_valid hv
    have hcz := codeR_zero.2 hv
    have hcn : ¬ (codeR p ≠ 0) := fun h => h hcz
    show codeE (if bud < 0 ∨ 100000 < bud then some 0 else if worthP p (greedyT p) < p.need then some 1 else none) = _
    conv => rhs; rw [if_neg hcn]
    by_cases hb : bud < 0 ∨ 100000 < bud
    · conv => rhs; rw [if_pos hb]
      conv => lhs; rw [if_pos hb]
      rfl
    · conv => rhs; rw [if_neg hb]
      conv => lhs; rw [if_neg hb]
      by_cases h : worthP p (greedyT p) < p.need
      · conv => rhs; rw [if_pos ((most_iff hok).1 h)]
        conv => lhs; rw [if_pos h]
        rfl
      · conv => rhs; rw [if_neg (fun h' => h ((most_iff hok).2 h'))]
        conv => lhs; rw [if_neg h]
        rfl
theorem errB_cases (p : Prob) (bud : Int) : ∀ g, errB p bud = some g → g ∈ posL := by
  intro g h
  unfold errB at h
  cases hv : valid p with
  | some k =>
    rw [hv] at h
    simp only [Option.some.injEq] at h
    subst h
    unfold valid at hv
    split at hv
    · simp at hv; subst hv; decide
    split at hv
    · simp at hv; subst hv; decide
    · cases hv
  | none =>
    rw [hv] at h
    simp only at h
    split at h
    · simp at h; subst h; decide
    split at h
    · simp at h; subst h; decide
    · cases h
structure BestDoc (p : Prob) (bud best : Int) (found : Bool) : Prop where
  i : inLots p.lots (takeB p bud)
  w : p.need ≤ worthP p (takeB p bud)
  l0 : 0 ≤ (srch p bud).1.looked
  l1 : (srch p bud).1.looked ≤ bud
  b : best ≤ costP p (takeB p bud)
  s : (srch p bud).2 = true → costP p (takeB p bud) = best
  g : costP p (takeB p bud) ≤ costP p (greedyT p)
  gw : p.need ≤ worthP p (greedyT p)
  c : (srch p bud).2 = false → choF p 3000 p.lots.length ≤ 3000 → bud < choF p 3000 p.lots.length
theorem best_doc {p : Prob} {bud best : Int} {found : Bool} (hl : Least p best found) (he : errB p bud = none) : BestDoc p bud best found := by
  have hv : valid p = none := by
    unfold errB at he
    cases hv : valid p with
    | none => rfl
    | some k => rw [hv] at he; cases he
  have hok := ok_of_valid hv
  have hb : 0 ≤ bud ∧ bud ≤ 100000 := by
    unfold errB at he
    rw [hv] at he
    simp only at he
    split at he
    · cases he
    · omega
  have hg := greedy_of_none hok hb.1 hb.2 he
  have h := best_law hok hb.1 hg
  obtain ⟨hf, hle⟩ := hl.all _ h.i h.w
  refine ⟨h.i, h.w, h.l0, h.l1, hle, fun hs => ?_, h.le, hg, fun hs hc => ?_⟩
  · obtain ⟨ts, a, b, e⟩ := hl.ex hf
    have := h.sure hs ts a b
    omega
  · rcases (show bud < choF p 3000 p.lots.length ∨ choF p 3000 p.lots.length ≤ bud by omega) with h' | h'
    · exact h'
    · have hp := choF_prod hok hc p.lots.length (Nat.le_refl _)
      have hlf := leaf_all (sortedP p)
      rw [widths_sorted, lenS] at hlf
      have : (srch p bud).2 = true := sure_law hok (by rw [hlf]; unfold widths; omega)
      rw [this] at hs
      cases hs
end Go.Proofs.YtjaegolanbjgfaaDoor
