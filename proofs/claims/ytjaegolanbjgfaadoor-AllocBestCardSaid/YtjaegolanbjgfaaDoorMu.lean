/- Plain law: how many choices there are, whatever the order of the lots. -/
import Derived.Test.YtjaegolanbjgfaaDoorMk
import Derived.Test.YtjaegolanbjgfaaDoorMj
set_option linter.unusedVariables false
set_option linter.unusedSimpArgs false
namespace Go.Proofs.YtjaegolanbjgfaaDoor
def prodN : List Nat → Nat
  | [] => 1
  | a :: r => a * prodN r
theorem prodN_append (a b : List Nat) : prodN (a ++ b) = prodN a * prodN b := by
  induction a with
  | nil => simp [prodN]
  | cons x r ih => simp only [List.cons_append, prodN, ih, Nat.mul_assoc]
theorem prodN_perm {a b : List Nat} (h : a.Perm b) : prodN a = prodN b := by
  induction h with
  | nil => rfl
  | cons x _ ih => simp only [prodN, ih]
  | swap x y l => simp only [prodN]; rw [← Nat.mul_assoc, ← Nat.mul_assoc, Nat.mul_comm y x]
  | trans _ _ h1 h2 => exact h1.trans h2
theorem order_perm (ls : List Lot) : (orderP ls).Perm (upto ls.length) := by
  have hp := places_order ls
  have hu := places_upto ls.length
  have nd : ∀ {xs : List Int}, Places ls.length xs → xs.Nodup := by
    intro xs h
    rw [List.nodup_iff_pairwise_ne, List.pairwise_iff_getElem]
    intro i j hi hj hij e
    have := h.inj i j (by rw [← h.len]; exact hi) (by rw [← h.len]; exact hj) (by simp [gi, List.getD_eq_getElem?_getD, hi, hj, e])
    omega
  rw [List.perm_ext_iff_of_nodup (nd hp) (nd hu)]
  intro a
  constructor
  · intro ha
    have := order_mem ls a ha
    rw [show a = ((a.toNat : Nat) : Int) by omega]
    simp only [upto, List.mem_map, List.mem_range]
    exact ⟨a.toNat, by omega, rfl⟩
  · intro ha
    simp only [upto, List.mem_map, List.mem_range] at ha
    obtain ⟨k, hk, rfl⟩ := ha
    obtain ⟨x, hx, e⟩ := order_all ls hk
    rw [e] at hx
    exact hx
def widths (q : Prob) : List Nat := (List.range q.lots.length).map (width q)
theorem leafN_prod (q : Prob) : ∀ k, k ≤ q.lots.length → prodN ((List.range (q.lots.length - k)).map (width q)) * leafN q k = prodN (widths q)
  | 0, _ => by simp [leafN, widths]
  | k + 1, h => by
    rw [← leafN_prod q k (by omega), show q.lots.length - k = (q.lots.length - (k + 1)) + 1 by omega, List.range_succ, List.map_append, prodN_append]
    simp only [List.map_cons, List.map_nil, prodN, Nat.mul_one, leafN]
    rw [Nat.mul_assoc]
theorem leaf_all (q : Prob) : leafN q q.lots.length = prodN (widths q) := by
  have := leafN_prod q q.lots.length (Nat.le_refl _)
  simpa [prodN] using this
theorem widths_sorted (p : Prob) : prodN (widths (sortedP p)) = prodN (widths p) := by
  have e1 : widths (sortedP p) = (orderP p.lots).map fun i => (gl p.lots i.toNat).u.toNat + 1 := by
    unfold widths
    apply List.ext_getElem
    · simp [lenS, (places_order p.lots).len]
    · intro i h1 h2
      simp only [List.length_map, List.length_range] at h1 h2
      rw [lenS] at h1
      simp only [List.getElem_map, List.getElem_range, width]
      rw [glS p h1]
      simp [gi, List.getD_eq_getElem?_getD, h2]
  have e2 : widths p = (upto p.lots.length).map fun i => (gl p.lots i.toNat).u.toNat + 1 := by
    unfold widths upto
    rw [List.map_map]
    apply List.map_congr_left
    intro k hk
    simp [width]
  rw [e1, e2]
  exact prodN_perm ((order_perm p.lots).map _)
end Go.Proofs.YtjaegolanbjgfaaDoor
