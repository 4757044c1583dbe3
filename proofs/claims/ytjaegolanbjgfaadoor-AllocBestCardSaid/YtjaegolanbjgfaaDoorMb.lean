/- Plain laws: an insertion sort by exchanges; the order of lots. No program in sight. -/
import Derived.Test.YtjaegolanbjgfaaDoorMa
set_option linter.unusedVariables false
set_option linter.unusedSimpArgs false
namespace Go.Proofs.YtjaegolanbjgfaaDoor
theorem gi_set (xs : List Int) (i j : Nat) (v : Int) (hi : i < xs.length) : gi (xs.set i v) j = if j = i then v else gi xs j := by
  unfold gi
  simp only [List.getD_eq_getElem?_getD, List.getElem?_set]
  by_cases e : j = i
  · subst e; simp [hi]
  · rw [if_neg e, if_neg (fun h => e h.symm)]
/-- Two neighbours change places. -/
def swap2 (xs : List Int) (j : Nat) : List Int := (xs.set (j + 1) (gi xs j)).set j (gi xs (j + 1))
theorem swap2_len (xs : List Int) (j : Nat) : (swap2 xs j).length = xs.length := by simp [swap2]
theorem gi_swap2 (xs : List Int) (j k : Nat) (hj : j + 1 < xs.length) : gi (swap2 xs j) k = if k = j then gi xs (j + 1) else if k = j + 1 then gi xs j else gi xs k := by
  unfold swap2
  rw [gi_set _ _ _ _ (by simp; omega), gi_set _ _ _ _ hj]
def sink (lt : Int → Int → Bool) : Nat → List Int → List Int
  | 0, xs => xs
  | j + 1, xs => if lt (gi xs (j + 1)) (gi xs j) then sink lt j (swap2 xs j) else xs
def isort (lt : Int → Int → Bool) : Nat → List Int → List Int
  | 0, xs => xs
  | k + 1, xs => sink lt k (isort lt k xs)
/-- Places of n things: n of them, each once. -/
structure Places (n : Nat) (xs : List Int) : Prop where
  len : xs.length = n
  inr : ∀ j, j < n → 0 ≤ gi xs j ∧ gi xs j < n
  inj : ∀ i j, i < n → j < n → gi xs i = gi xs j → i = j
theorem Places.swap {n : Nat} {xs : List Int} (h : Places n xs) {j : Nat} (hj : j + 1 < n) : Places n (swap2 xs j) := by
  have hl := h.len
  refine ⟨by rw [swap2_len]; exact hl, fun k hk => ?_, fun a b ha hb => ?_⟩
  · rw [gi_swap2 _ _ _ (by omega)]
    split
    · exact h.inr _ hj
    split
    · exact h.inr _ (by omega)
    · exact h.inr _ hk
  · rw [gi_swap2 _ _ _ (by omega), gi_swap2 _ _ _ (by omega)]
    intro he
    have key : ∀ x y, x < n → y < n → gi xs x = gi xs y → x = y := h.inj
    split at he <;> split at he <;> (try split at he) <;> (try split at he) <;> first | omega | (have := key _ _ (by omega) (by omega) he; omega)
theorem Places.sink {n : Nat} (lt : Int → Int → Bool) : ∀ (k : Nat) {xs : List Int}, Places n xs → k < n → Places n (sink lt k xs)
  | 0, xs, h, _ => h
  | k + 1, xs, h, hk => by
    unfold YtjaegolanbjgfaaDoor.sink
    split
    · exact Places.sink lt k (h.swap hk) (by omega)
    · exact h
theorem Places.isort {n : Nat} (lt : Int → Int → Bool) : ∀ (k : Nat) {xs : List Int}, Places n xs → k ≤ n → Places n (isort lt k xs)
  | 0, xs, h, _ => h
  | k + 1, xs, h, hk => Places.sink lt k (Places.isort lt k h (by omega)) (by omega)
/-- 0, 1, .. -/
def upto (n : Nat) : List Int := (List.range n).map Int.ofNat
theorem upto_len (n : Nat) : (upto n).length = n := by simp [upto]
theorem upto_succ (n : Nat) : upto (n + 1) = upto n ++ [(n : Int)] := by simp [upto, List.range_succ]
theorem gi_upto (n j : Nat) (h : j < n) : gi (upto n) j = j := by simp [gi, upto, List.getD_eq_getElem?_getD, h]
theorem places_upto (n : Nat) : Places n (upto n) := ⟨upto_len n, fun j hj => by rw [gi_upto n j hj]; omega, fun i j hi hj h => by rw [gi_upto n i hi, gi_upto n j hj] at h; omega⟩
/-- One lot costs less than another one for what it is worth. -/
def cheaperB (a b : Lot) : Bool := if a.v = 0 ∨ b.v = 0 then decide (b.v < a.v) else decide (a.c * b.v < b.c * a.v)
def ltL (ls : List Lot) (a b : Int) : Bool := cheaperB (gl ls a.toNat) (gl ls b.toNat)
def orderP (ls : List Lot) : List Int := isort (ltL ls) ls.length (upto ls.length)
theorem places_order (ls : List Lot) : Places ls.length (orderP ls) := Places.isort _ _ (places_upto _) (Nat.le_refl _)
end Go.Proofs.YtjaegolanbjgfaaDoor
