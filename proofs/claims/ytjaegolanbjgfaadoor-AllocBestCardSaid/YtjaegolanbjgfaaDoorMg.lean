/- Plain laws: sums over an order; what is sure is the cheapest. No program in sight. -/
import Derived.Test.YtjaegolanbjgfaaDoorMf
set_option linter.unusedVariables false
set_option linter.unusedSimpArgs false
namespace Go.Proofs.YtjaegolanbjgfaaDoor
def fsum (F : Nat → Int) : Nat → Int
  | 0 => 0
  | k + 1 => fsum F k + F k
theorem fsum_congr {F G : Nat → Int} : ∀ n, (∀ k, k < n → F k = G k) → fsum F n = fsum G n
  | 0, _ => rfl
  | n + 1, h => by unfold fsum; rw [fsum_congr n (fun k hk => h k (by omega)), h n (by omega)]
theorem fsum_le {F G : Nat → Int} : ∀ n, (∀ k, k < n → F k ≤ G k) → fsum F n ≤ fsum G n
  | 0, _ => Int.le_refl _
  | n + 1, h => by unfold fsum; have := fsum_le n (fun k hk => h k (by omega)); have := h n (by omega); omega
theorem fsum_set (F : Int → Int) (xs : List Int) (i : Nat) (v : Int) (hi : i < xs.length) : ∀ n, fsum (fun k => F (gi (xs.set i v) k)) n = fsum (fun k => F (gi xs k)) n + if i < n then F v - F (gi xs i) else 0
  | 0 => by simp [fsum]
  | n + 1 => by
    unfold fsum
    rw [fsum_set F xs i v hi n, gi_set _ _ _ _ hi]
    rcases Nat.lt_trichotomy i n with h | h | h
    · rw [if_pos h, if_neg (by omega), if_pos (by omega)]; omega
    · subst h; rw [if_neg (by omega), if_pos rfl, if_pos (by omega)]; omega
    · rw [if_neg (by omega), if_neg (by omega), if_neg (by omega)]; omega
theorem fsum_swap (F : Int → Int) (xs : List Int) (j n : Nat) (hj : j + 1 < xs.length) (hn : j + 1 < n) : fsum (fun k => F (gi (swap2 xs j) k)) n = fsum (fun k => F (gi xs k)) n := by
  unfold swap2
  rw [fsum_set F _ j _ (by simp; omega), fsum_set F _ (j + 1) _ hj, gi_set _ _ _ _ hj, if_pos hn, if_pos (show j < n by omega), if_neg (show ¬ j = j + 1 by omega)]
  omega
theorem fsum_sink (F : Int → Int) (lt : Int → Int → Bool) (n : Nat) : ∀ (k : Nat) (xs : List Int), xs.length = n → k < n → fsum (fun i => F (gi (sink lt k xs) i)) n = fsum (fun i => F (gi xs i)) n
  | 0, xs, _, _ => rfl
  | k + 1, xs, hl, hk => by
    unfold sink
    split
    · rw [fsum_sink F lt n k _ (by rw [swap2_len]; exact hl) (by omega), fsum_swap F xs k n (by omega) (by omega)]
    · rfl
theorem sink_len (lt : Int → Int → Bool) : ∀ (k : Nat) (xs : List Int), (sink lt k xs).length = xs.length
  | 0, xs => rfl
  | k + 1, xs => by
    unfold sink
    split
    · rw [sink_len lt k, swap2_len]
    · rfl
theorem isort_len (lt : Int → Int → Bool) : ∀ (k : Nat) (xs : List Int), (isort lt k xs).length = xs.length
  | 0, xs => rfl
  | k + 1, xs => by unfold isort; rw [sink_len, isort_len lt k]
theorem fsum_isort (F : Int → Int) (lt : Int → Int → Bool) (n : Nat) : ∀ (k : Nat) (xs : List Int), xs.length = n → k ≤ n → fsum (fun i => F (gi (isort lt k xs) i)) n = fsum (fun i => F (gi xs i)) n
  | 0, xs, _, _ => rfl
  | k + 1, xs, hl, hk => by
    unfold isort
    rw [fsum_sink F lt n k _ (by rw [isort_len]; exact hl) (by omega), fsum_isort F lt n k xs hl (by omega)]
/-- A sum over the order of the rates is the sum. -/
theorem fsum_order (F : Int → Int) (ls : List Lot) : fsum (fun k => F (gi (orderP ls) k)) ls.length = fsum (fun k => F k) ls.length := by
  unfold orderP
  rw [fsum_isort F _ _ _ _ (upto_len _) (Nat.le_refl _)]
  exact fsum_congr _ fun k hk => by rw [gi_upto _ _ hk]
theorem gsum_fsum (ls : List Lot) (ts : List Int) (g : Nat) : ∀ k, gsum ls ts g k = fsum (fun k => if (gl ls k).g = g then gi ts k * (gl ls k).v else 0) k
  | 0 => rfl
  | k + 1 => by unfold gsum fsum; rw [gsum_fsum ls ts g k]
theorem csum_fsum (ls : List Lot) (ts : List Int) : ∀ k, csum ls ts k = fsum (fun k => gi ts k * (gl ls k).c) k
  | 0 => rfl
  | k + 1 => by unfold csum fsum; rw [csum_fsum ls ts k]
theorem glS (p : Prob) {k : Nat} (hk : k < p.lots.length) : gl (sortedP p).lots k = gl p.lots (gi (orderP p.lots) k).toNat := by
  have h : k < (orderP p.lots).length := by rw [(places_order p.lots).len]; exact hk
  simp [gl, gi, sortedP, List.getD_eq_getElem?_getD, h]
theorem lenS (p : Prob) : (sortedP p).lots.length = p.lots.length := by simp [sortedP, (places_order p.lots).len]
/-- A choice, and the same choice in the order of the rates: of the same worth and cost. -/
theorem gsum_order (p : Prob) (ts bs : List Int) (h : ∀ k, k < p.lots.length → gi bs k = gi ts (gi (orderP p.lots) k).toNat) (g : Nat) : gsum (sortedP p).lots bs g p.lots.length = gsum p.lots ts g p.lots.length := by
  rw [gsum_fsum, gsum_fsum, ← show fsum (fun k => (fun x : Int => if (gl p.lots x.toNat).g = g then gi ts x.toNat * (gl p.lots x.toNat).v else 0) (gi (orderP p.lots) k)) p.lots.length = fsum (fun k => if (gl p.lots k).g = g then gi ts k * (gl p.lots k).v else 0) p.lots.length from fsum_order (fun x : Int => if (gl p.lots x.toNat).g = g then gi ts x.toNat * (gl p.lots x.toNat).v else 0) p.lots]
  exact fsum_congr _ fun k hk => by rw [glS p hk, h k hk]
theorem cost_order (p : Prob) (ts bs : List Int) (h : ∀ k, k < p.lots.length → gi bs k = gi ts (gi (orderP p.lots) k).toNat) : costP (sortedP p) bs = costP p ts := by
  unfold costP
  rw [lenS, csum_fsum, csum_fsum, ← show fsum (fun k => (fun x : Int => gi ts x.toNat * (gl p.lots x.toNat).c) (gi (orderP p.lots) k)) p.lots.length = fsum (fun k => gi ts k * (gl p.lots k).c) p.lots.length from fsum_order (fun x : Int => gi ts x.toNat * (gl p.lots x.toNat).c) p.lots]
  exact fsum_congr _ fun k hk => by rw [glS p hk, h k hk]
theorem worth_order (p : Prob) (ts bs : List Int) (h : ∀ k, k < p.lots.length → gi bs k = gi ts (gi (orderP p.lots) k).toNat) : worthP (sortedP p) bs = worthP p ts := by
  have key : ∀ g, wsum (sortedP p) bs g = wsum p ts g := by
    intro g
    induction g with
    | zero => rfl
    | succ g ih => unfold wsum; rw [ih, lenS, gsum_order p ts bs h g]; rfl
  exact key _
end Go.Proofs.YtjaegolanbjgfaaDoor
