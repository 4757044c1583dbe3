/- Plain laws: what the search throws away is no cheaper. No program in sight. -/
import Derived.Test.YtjaegolanbjgfaaDoorMg
set_option linter.unusedVariables false
set_option linter.unusedSimpArgs false
namespace Go.Proofs.YtjaegolanbjgfaaDoor
theorem fsum_add (F G : Nat → Int) : ∀ n, fsum (fun k => F k + G k) n = fsum F n + fsum G n
  | 0 => rfl
  | n + 1 => by unfold fsum; rw [fsum_add F G n]; omega
theorem fsum_zero : ∀ n, fsum (fun _ => 0) n = 0
  | 0 => rfl
  | n + 1 => by unfold fsum; rw [fsum_zero n]; rfl
theorem fsum_nonneg {F : Nat → Int} (n : Nat) (h : ∀ k, k < n → 0 ≤ F k) : 0 ≤ fsum F n := by
  have := fsum_le (F := fun _ => 0) (G := F) n h
  rw [fsum_zero] at this; exact this
theorem fsum_comm (H : Nat → Nat → Int) (n : Nat) : ∀ m, fsum (fun g => fsum (fun k => H g k) n) m = fsum (fun k => fsum (fun g => H g k) m) n
  | 0 => by simp only [fsum]; rw [fsum_zero]
  | m + 1 => by
    have e : fsum (fun k => fsum (fun g => H g k) (m + 1)) n = fsum (fun k => fsum (fun g => H g k) m + H m k) n := rfl
    rw [e, fsum_add, ← fsum_comm H n m]; rfl
theorem fsum_mul (F : Nat → Int) (c : Int) : ∀ n, fsum (fun k => F k * c) n = fsum F n * c
  | 0 => by simp [fsum]
  | n + 1 => by unfold fsum; rw [fsum_mul F c n, Int.add_mul]
theorem fsum_one (y x : Int) (h0 : 0 ≤ x) : ∀ m : Nat, fsum (fun g => if x = (g : Int) then y else 0) m = if x < m then y else 0
  | 0 => by rw [if_neg (by omega)]; rfl
  | m + 1 => by
    unfold fsum
    rw [fsum_one y x h0 m]
    by_cases h : x < m
    · rw [if_pos h, if_neg (by omega), if_pos (by omega)]; omega
    · by_cases h2 : x = m
      · rw [if_neg h, if_pos h2, if_pos (by omega)]; omega
      · rw [if_neg h, if_neg h2, if_neg (by omega)]; rfl
theorem fsum_shift (G : Nat → Int) (s : Nat) : ∀ m, fsum (fun k => if k < s then 0 else G k) (s + m) = fsum (fun k => G (s + k)) m
  | 0 => by
    rw [Nat.add_zero, fsum_congr (G := fun _ => 0) s (fun k hk => by rw [if_pos hk]), fsum_zero]; rfl
  | m + 1 => by
    rw [Nat.add_succ]
    unfold fsum
    rw [fsum_shift G s m, if_neg (by omega)]
/-- One choice goes on from a beginning. -/
def Ext (x : St) (ts : List Int) : Prop := ∀ k, k < x.n → gi ts k = gi x.take k
/-- What lies behind a beginning. -/
def tailS (q : Prob) (n : Nat) (F : Nat → Int) : Int := fsum (fun k => if k < n then 0 else F k) q.lots.length
theorem tail_split {q : Prob} {x : St} (hx : StOk q x) {ts : List Int} (he : Ext x ts) (F : Nat → Int → Int) (hF : ∀ k, F k 0 = 0) :
    fsum (fun k => F k (gi ts k)) q.lots.length = fsum (fun k => F k (gi x.take k)) q.lots.length + tailS q x.n (fun k => F k (gi ts k)) := by
  unfold tailS
  rw [← fsum_add]
  refine fsum_congr _ fun k hk => ?_
  show F k (gi ts k) = F k (gi x.take k) + (if k < x.n then 0 else F k (gi ts k))
  by_cases h : k < x.n
  · rw [if_pos h, he k h]; omega
  · rw [if_neg h, hx.z k (by omega), hF]; omega
theorem cost_split {q : Prob} {x : St} (hx : StOk q x) {ts : List Int} (he : Ext x ts) : costP q ts = x.cost + tailS q x.n (fun k => gi ts k * (gl q.lots k).c) := by
  rw [hx.c]; unfold costP
  rw [csum_fsum, csum_fsum]
  exact tail_split hx he (fun k t => t * (gl q.lots k).c) (fun k => Int.zero_mul _)
theorem capped_add {c a b : Int} (hb : 0 ≤ b) : capped c (a + b) ≤ capped c a + b := by unfold capped; split <;> omega
theorem worth_split {q : Prob} (hok : Ok q) {x : St} (hx : StOk q x) {ts : List Int} (hi : inLots q.lots ts) (he : Ext x ts) : worthP q ts ≤ worthP q x.take + tailS q x.n (fun k => gi ts k * (gl q.lots k).v) := by
  have hy : ∀ k, k < q.lots.length → 0 ≤ gi ts k * (gl q.lots k).v := fun k hk => (tv_bd hok hi hk).1
  have hgs : ∀ g : Nat, gsum q.lots ts g q.lots.length = gsum q.lots x.take g q.lots.length + tailS q x.n (fun k => if (gl q.lots k).g = g then gi ts k * (gl q.lots k).v else 0) := fun g => by
    rw [gsum_fsum, gsum_fsum]
    exact tail_split hx he (fun k t => if (gl q.lots k).g = g then t * (gl q.lots k).v else 0) (fun k => by split; exact Int.zero_mul _; rfl)
  have h0 : ∀ g : Nat, 0 ≤ tailS q x.n (fun k => if (gl q.lots k).g = g then gi ts k * (gl q.lots k).v else 0) := fun g => fsum_nonneg _ fun k hk => by
    split
    · omega
    · dsimp only
      split
      · exact hy k hk
      · omega
  have key : ∀ m : Nat, wsum q ts m ≤ wsum q x.take m + fsum (fun g => tailS q x.n (fun k => if (gl q.lots k).g = (g : Int) then gi ts k * (gl q.lots k).v else 0)) m := by
    intro m
    induction m with
    | zero => simp [wsum, fsum]
    | succ m ih =>
      unfold wsum fsum
      rw [hgs m]
      have := capped_add (c := gi q.caps m) (a := gsum q.lots x.take m q.lots.length) (h0 m)
      omega
  have e1 := key q.caps.length
  have e2 : fsum (fun g : Nat => tailS q x.n (fun k => if (gl q.lots k).g = (g : Int) then gi ts k * (gl q.lots k).v else 0)) q.caps.length ≤ tailS q x.n (fun k => gi ts k * (gl q.lots k).v) := by
    unfold tailS
    rw [fsum_comm]
    refine fsum_le _ fun k hk => ?_
    have hl := hok.lot k hk
    by_cases h : k < x.n
    · rw [fsum_congr (G := fun _ => 0) _ (fun g hg => by rw [if_pos h]), fsum_zero, if_pos h]; exact Int.le_refl _
    · rw [fsum_congr (G := fun g : Nat => if (gl q.lots k).g = (g : Int) then gi ts k * (gl q.lots k).v else 0) _ (fun g hg => by rw [if_neg h]), fsum_one _ _ hl.2.2.2.2.2.2.1, if_neg h]
      split
      · exact Int.le_refl _
      · exact hy k hk
  unfold worthP
  omega
theorem canSum_fsum (ls : List Lot) (s : Nat) : ∀ m, canSum ls s m = fsum (fun k => (gl ls (s + k)).u * (gl ls (s + k)).v) m
  | 0 => rfl
  | m + 1 => by unfold canSum fsum; rw [canSum_fsum ls s m]
theorem tail_shift (q : Prob) (n : Nat) (hn : n ≤ q.lots.length) (F : Nat → Int) : tailS q n F = fsum (fun k => F (n + k)) (q.lots.length - n) := by
  unfold tailS
  have e : q.lots.length = n + (q.lots.length - n) := by omega
  conv => lhs; rw [e]
  exact fsum_shift F n _
theorem tail_can {q : Prob} (hok : Ok q) {n : Nat} (hn : n ≤ q.lots.length) {ts : List Int} (hi : inLots q.lots ts) : tailS q n (fun k => gi ts k * (gl q.lots k).v) ≤ canSum q.lots n (q.lots.length - n) := by
  rw [tail_shift q n hn, canSum_fsum]
  refine fsum_le _ fun k hk => ?_
  have hl := hok.lot (n + k) (by omega)
  exact Int.mul_le_mul_of_nonneg_right (hi.2 (n + k) (by omega)).2 hl.2.2.1
theorem rbest_none (ls : List Lot) (s : Nat) : ∀ k, rbest ls s k < 0 → ∀ j, j < k → ¬ (0 < (gl ls (s + j)).v ∧ 0 < (gl ls (s + j)).u)
  | 0, _, j, hj => by omega
  | k + 1, h, j, hj => by
    unfold rbest at h
    simp only at h
    split at h
    · omega
    · rename_i hc
      rcases Nat.lt_or_ge j k with h' | h'
      · exact rbest_none ls s k h j h'
      · rw [show j = k by omega]
        intro ⟨a, b⟩
        exact hc ⟨a, b, Or.inl h⟩
theorem rate_trans {ca va cb vb cj vj : Int} (hva : 0 < va) (hvb : 0 < vb) (hvj : 0 ≤ vj) (h1 : ca * vb < cb * va) (h2 : cb * vj ≤ cj * vb) : ca * vj ≤ cj * va := by
  have e1 : ca * vb * vj ≤ cb * va * vj := Int.mul_le_mul_of_nonneg_right (by omega) hvj
  have e2 : cb * vj * va ≤ cj * vb * va := Int.mul_le_mul_of_nonneg_right h2 (by omega)
  have e3 : vb * (ca * vj) ≤ vb * (cj * va) := by
    have a1 : vb * (ca * vj) = ca * vb * vj := by ac_rfl
    have a2 : vb * (cj * va) = cj * vb * va := by ac_rfl
    have a3 : cb * va * vj = cb * vj * va := by ac_rfl
    omega
  exact Int.le_of_mul_le_mul_left e3 hvb
theorem rbest_opt (ls : List Lot) (s : Nat) (hls : ∀ k, 0 ≤ (gl ls k).v) : ∀ k, 0 ≤ rbest ls s k → ∀ j, j < k → 0 < (gl ls (s + j)).v → 0 < (gl ls (s + j)).u →
    (gl ls (rbest ls s k).toNat).c * (gl ls (s + j)).v ≤ (gl ls (s + j)).c * (gl ls (rbest ls s k).toNat).v
  | 0, _, j, hj, _, _ => by omega
  | k + 1, h, j, hj, hv, hu => by
    have hp := rbest_pos ls s k
    by_cases hc : 0 < (gl ls (s + k)).v ∧ 0 < (gl ls (s + k)).u ∧ (rbest ls s k < 0 ∨ cheaperB (gl ls (s + k)) (gl ls (rbest ls s k).toNat) = true)
    · rw [← rbest_yes rfl hc, Int.toNat_natCast]
      rcases Nat.lt_or_ge j k with h' | h'
      · rcases hc.2.2 with h3 | h3
        · exact absurd ⟨hv, hu⟩ (rbest_none ls s k h3 j h')
        · rcases Int.lt_or_le (rbest ls s k) 0 with h4 | h4
          · exact absurd ⟨hv, hu⟩ (rbest_none ls s k h4 j h')
          · have ih := rbest_opt ls s hls k h4 j h' hv hu
            have hb := (hp h4).1
            unfold cheaperB at h3
            rw [if_neg (by omega)] at h3
            exact rate_trans hc.1 hb (by omega) (of_decide_eq_true h3) ih
      · rw [show j = k by omega]; exact Int.le_refl _
    · have e := rbest_no (ls := ls) (s := s) (k := k) rfl hc
      rw [← e] at h ⊢
      rcases Nat.lt_or_ge j k with h' | h'
      · exact rbest_opt ls s hls k h j h' hv hu
      · have ejk : j = k := by omega
        subst ejk
        have hb := (hp h).1
        have hn : ¬ (cheaperB (gl ls (s + j)) (gl ls (rbest ls s j).toNat) = true) := fun h3 => hc ⟨hv, hu, Or.inr h3⟩
        unfold cheaperB at hn
        rw [if_neg (by omega)] at hn
        have := by simpa using hn
        omega
theorem ceil_le {n v T : Int} (hv : 0 < v) (h : n ≤ T * v) : ceilq n v ≤ T := by
  have e := Int.mul_ediv_add_emod n v
  have m0 := Int.emod_nonneg n (show v ≠ 0 by omega)
  have m1 := Int.emod_lt_of_pos n hv
  unfold ceilq
  have key : ∀ z : Int, T ≤ z → T * v ≤ v * z := fun z hz => by rw [Int.mul_comm v z]; exact Int.mul_le_mul_of_nonneg_right hz (by omega)
  split
  · apply Classical.byContradiction; intro hh
    have := key (n / v) (by omega)
    omega
  · apply Classical.byContradiction; intro hh
    have := key (n / v - 1) (by omega)
    rw [Int.mul_sub] at this
    omega
end Go.Proofs.YtjaegolanbjgfaaDoor
