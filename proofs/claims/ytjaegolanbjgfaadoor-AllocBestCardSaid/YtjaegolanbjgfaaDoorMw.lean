/- Plain law: putting each into its place among those ahead of it is the same as sinking it. -/
import Derived.Test.YtjaegolanbjgfaaDoorMk
set_option linter.unusedVariables false
set_option linter.unusedSimpArgs false
namespace Go.Proofs.YtjaegolanbjgfaaDoor
def posR (lt : Int → Int → Bool) (x : Int) (A : List Int) : Nat → Nat
  | 0 => 0
  | k + 1 => if lt x (gi A k) then posR lt x A k else k + 1
def insR (lt : Int → Int → Bool) (x : Int) (A : List Int) : List Int := A.take (posR lt x A A.length) ++ x :: A.drop (posR lt x A A.length)
def outR (ls : List Lot) : Nat → List Int
  | 0 => []
  | k + 1 => insR (ltL ls) k (outR ls k)
theorem posR_le (lt : Int → Int → Bool) (x : Int) (A : List Int) : ∀ k, posR lt x A k ≤ k
  | 0 => Nat.le_refl _
  | k + 1 => by
    have := posR_le lt x A k
    unfold posR; split <;> omega
theorem insR_len (lt : Int → Int → Bool) (x : Int) (A : List Int) : (insR lt x A).length = A.length + 1 := by
  have := posR_le lt x A A.length
  simp [insR]; omega
theorem outR_len (ls : List Lot) : ∀ k, (outR ls k).length = k
  | 0 => rfl
  | k + 1 => by unfold outR; rw [insR_len, outR_len ls k]
theorem gi_append_left {A B : List Int} {k : Nat} (h : k < A.length) : gi (A ++ B) k = gi A k := by
  unfold gi; rw [List.getD_eq_getElem?_getD, List.getD_eq_getElem?_getD, List.getElem?_append_left h]
theorem gi_append_at (A : List Int) (x : Int) (B : List Int) : gi (A ++ x :: B) A.length = x := by
  unfold gi; rw [List.getD_eq_getElem?_getD, List.getElem?_append_right (Nat.le_refl _)]; simp
theorem gi_append_next (A : List Int) (x y : Int) (B : List Int) : gi (A ++ x :: y :: B) (A.length + 1) = y := by
  unfold gi; rw [List.getD_eq_getElem?_getD, List.getElem?_append_right (by omega)]; simp
theorem swap2_mid (A : List Int) (a x : Int) (C : List Int) : swap2 (A ++ a :: x :: C) A.length = A ++ x :: a :: C := by
  unfold swap2
  rw [gi_append_at, gi_append_next]
  rw [List.set_append_right _ _ (by omega), List.set_append_right _ _ (by omega)]
  simp
theorem posR_append (lt : Int → Int → Bool) (x : Int) (A B : List Int) : ∀ k, k ≤ A.length → posR lt x (A ++ B) k = posR lt x A k
  | 0, _ => rfl
  | k + 1, h => by
    unfold posR
    rw [gi_append_left (by omega), posR_append lt x A B k (by omega)]
theorem sink_ins (lt : Int → Int → Bool) (x : Int) : ∀ (m : Nat) (A C : List Int), A.length = m → sink lt m (A ++ x :: C) = A.take (posR lt x A m) ++ x :: (A.drop (posR lt x A m) ++ C)
  | 0, A, C, h => by
    have : A = [] := by cases A with | nil => rfl | cons _ _ => simp at h
    subst this
    simp [sink, posR]
  | m + 1, A, C, h => by
    obtain ⟨A', a, rfl⟩ : ∃ A' a, A = A' ++ [a] := by
      rcases List.eq_nil_or_concat A with h' | ⟨A', a, h'⟩
      · subst h'; simp at h
      · exact ⟨A', a, by rw [h', List.concat_eq_append]⟩
    have hA : A'.length = m := by simpa using h
    have e : A' ++ [a] ++ x :: C = A' ++ a :: x :: C := by simp
    have ga : gi (A' ++ [a]) m = a := by rw [← hA]; exact gi_append_at A' a []
    unfold sink posR
    rw [e, ga, ← hA, gi_append_next, gi_append_at]
    by_cases hl : lt x a = true
    · rw [if_pos hl, if_pos hl, swap2_mid]
      have ih := sink_ins lt x m A' (a :: C) hA
      rw [hA, ih, posR_append lt x A' [a] m (by omega)]
      have hp := posR_le lt x A' m
      rw [List.take_append_of_le_length (by omega), List.drop_append_of_le_length (by omega)]
      simp
    · rw [if_neg hl, if_neg hl]
      rw [List.take_of_length_le (by simp), List.drop_of_length_le (by simp)]
      simp
theorem upto_split {n k : Nat} (h : k < n) : (upto n).drop k = (k : Int) :: (upto n).drop (k + 1) := by
  rw [drop_gi (by rw [upto_len]; exact h), gi_upto n k h]
theorem isort_out (ls : List Lot) : ∀ k, k ≤ ls.length → isort (ltL ls) k (upto ls.length) = outR ls k ++ (upto ls.length).drop k
  | 0, _ => by simp [isort, outR]
  | k + 1, h => by
    have ih := isort_out ls k (by omega)
    unfold isort
    rw [ih, upto_split h, sink_ins (ltL ls) k k _ _ (outR_len ls k)]
    show _ = insR (ltL ls) k (outR ls k) ++ _
    unfold insR
    rw [outR_len]
    simp
theorem outR_order (ls : List Lot) : outR ls ls.length = orderP ls := by
  have := isort_out ls ls.length (Nat.le_refl _)
  rw [List.drop_of_length_le (by rw [upto_len]; exact Nat.le_refl _), List.append_nil] at this
  exact this.symm
end Go.Proofs.YtjaegolanbjgfaaDoor
