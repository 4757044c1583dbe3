/- Plain law: what the search finds is right; one unit less that still fits is never cheaper than what is sure. -/
import Derived.Test.YtjaegolanbjgfaaDoorMq
set_option linter.unusedVariables false
set_option linter.unusedSimpArgs false
namespace Go.Proofs.YtjaegolanbjgfaaDoor
theorem gsumZ (ls : List Lot) (n g : Nat) : ∀ k, gsum ls (zeros n) g k = 0
  | 0 => rfl
  | k + 1 => by unfold gsum; rw [gsumZ ls n g k, gi_zeros]; simp
theorem worth_zeros (p : Prob) (n : Nat) (hc : ∀ g, 0 ≤ gi p.caps g ∨ True) : worthP p (zeros n) = 0 := by
  have : ∀ m, wsum p (zeros n) m = 0 := by
    intro m
    induction m with
    | zero => rfl
    | succ m ih =>
      unfold wsum
      rw [ih, gsumZ]
      unfold capped
      split <;> omega
  exact this _
theorem csumZ (ls : List Lot) (n : Nat) : ∀ k, csum ls (zeros n) k = 0
  | 0 => rfl
  | k + 1 => by unfold csum; rw [csumZ ls n k, gi_zeros]; simp
/-- The bound is below what every choice costs that is enough. -/
theorem least_law {p : Prob} (hok : Ok p) {ts : List Int} (hi : inLots p.lots ts) (hw : p.need ≤ worthP p ts) (hb : leastB p 0 p.need = true) : leastV p 0 p.need ≤ costP p ts := by
  have hz := worth_zeros p p.lots.length (fun _ => Or.inr trivial)
  have hx : StOk p ⟨zeros p.lots.length, 0, 0⟩ := ⟨Nat.zero_le _, inLots_zeros hok, (csumZ _ _ _).symm, fun k _ => gi_zeros _ _⟩
  have hl : leftP p ⟨zeros p.lots.length, 0, 0⟩ = p.need := by unfold leftP; simp only; rw [hz]; omega
  have hc := (cost_bd hok hi).1
  by_cases hn : p.need ≤ 0
  · unfold leastV; rw [if_pos hn]; exact hc
  · have hend : endsB p (costP p ts + 1) ⟨zeros p.lots.length, 0, 0⟩ = false := by
      cases he : endsB p (costP p ts + 1) ⟨zeros p.lots.length, 0, 0⟩ with
      | false => rfl
      | true =>
        have := ends_right hok hx hi (fun k hk => absurd hk (Nat.not_lt_zero _)) hw he
        have himp : impB p (costP p ts + 1) ⟨zeros p.lots.length, 0, 0⟩ = false := by
          unfold impB; rw [hl]; simp; omega
        rw [himp] at this
        simp only [Bool.false_eq_true, if_false] at this
        omega
    unfold endsB at hend
    rw [hl, if_neg hn] at hend
    split at hend
    · cases hend
    split at hend
    · cases hend
    split at hend
    · cases hend
    · simp only [decide_eq_false_iff_not] at hend
      omega
/-- One less of one lot; the first lot of which one less is enough. -/
def dec (ts : List Int) (i : Nat) : List Int := ts.set i (gi ts i - 1)
def swapF (p : Prob) (ts : List Int) : Nat → Option (List Int)
  | 0 => none
  | m + 1 => if enough p (dec ts (ts.length - (m + 1))) then some (dec ts (ts.length - (m + 1))) else swapF p ts m
def swapP (p : Prob) (ts : List Int) : Option (List Int) := if enough p ts then swapF p ts ts.length else none
theorem enough_yes {p : Prob} {ts : List Int} (h : enough p ts = true) : inLots p.lots ts ∧ p.need ≤ worthP p ts := by
  unfold enough at h
  simp only [Bool.and_eq_true, decide_eq_true_eq] at h
  exact ⟨(fitsB_yes h.1).2, h.2⟩
theorem csum_dec (ls : List Lot) (ts : List Int) (i : Nat) (hi : i < ts.length) (hc : ∀ k, k < ls.length → 0 ≤ (gl ls k).c) : ∀ k, k ≤ ls.length → csum ls (dec ts i) k ≤ csum ls ts k
  | 0, _ => Int.le_refl _
  | k + 1, hk => by
    unfold csum
    have ih := csum_dec ls ts i hi hc k (by omega)
    have h0 := hc k (by omega)
    have : gi (dec ts i) k ≤ gi ts k := by
      unfold dec
      rw [gi_set _ _ _ _ hi]
      split
      · subst k; omega
      · exact Int.le_refl _
    have := Int.mul_le_mul_of_nonneg_right this h0
    omega
theorem swapF_law {p : Prob} (hok : Ok p) {ts x : List Int} (hl : ts.length = p.lots.length) : ∀ m, m ≤ ts.length → swapF p ts m = some x → enough p x = true ∧ costP p x ≤ costP p ts
  | 0, _, h => by cases h
  | m + 1, hm, h => by
    unfold swapF at h
    split at h
    · rename_i he
      simp only [Option.some.injEq] at h
      subst h
      refine ⟨he, ?_⟩
      unfold costP
      exact csum_dec p.lots ts _ (by omega) (fun k hk => (hok.lot k hk).2.2.2.2.1) _ (Nat.le_refl _)
    · exact swapF_law hok hl m (by omega) h
structure Takes (p : Prob) (bud : Int) : Prop where
  either : errB p bud = some 1 ∨ errB p bud = none
  yes : errB p bud = none → inLots p.lots (takeB p bud) ∧ p.need ≤ worthP p (takeB p bud) ∧ (leastB p 0 p.need = true → leastV p 0 p.need ≤ costP p (takeB p bud)) ∧
    ∀ x, swapP p (takeB p bud) = some x → inLots p.lots x ∧ enough p x = true ∧ costP p x ≤ costP p (takeB p bud) ∧ ((srch p bud).2 = true → costP p x = costP p (takeB p bud))
theorem takes_law {p : Prob} (hok : Ok p) {bud : Int} (h0 : 0 ≤ bud) (h1 : bud ≤ 100000) : Takes p bud := by
  have he := errB_ok hok h0 h1
  refine ⟨?_, fun h => ?_⟩
  · rw [he]; split
    · exact Or.inl rfl
    · exact Or.inr rfl
  · have hb := best_law hok h0 (greedy_of_none hok h0 h1 h)
    refine ⟨hb.i, hb.w, fun hl => least_law hok hb.i hb.w hl, fun x hx => ?_⟩
    unfold swapP at hx
    split at hx
    · obtain ⟨a, b⟩ := swapF_law hok hb.i.1 _ (Nat.le_refl _) hx
      obtain ⟨i, w⟩ := enough_yes a
      exact ⟨i, a, b, fun hs => Int.le_antisymm b (hb.sure hs x i w)⟩
    · cases hx
end Go.Proofs.YtjaegolanbjgfaaDoor
