/- Plain law: the order of lots, and a lot that is worth nothing, change nothing of what the cheapest costs. No program in sight. -/
import Derived.Test.YtjaegolanbjgfaaDoorMn
set_option linter.unusedVariables false
set_option linter.unusedSimpArgs false
namespace Go.Proofs.YtjaegolanbjgfaaDoor
/-- None is said just where every choice is worth too little. -/
def CanDo (p : Prob) : Prop := ∃ ts, inLots p.lots ts ∧ p.need ≤ worthP p ts
theorem errB_can {p : Prob} (h : Ok p) {bud : Int} (h0 : 0 ≤ bud) (h1 : bud ≤ 100000) : (errB p bud = none ∧ CanDo p) ∨ (errB p bud = some 1 ∧ ¬ CanDo p) := by
  rw [errB_ok h h0 h1]
  by_cases hg : worthP p (greedyT p) < p.need
  · refine Or.inr ⟨if_pos hg, fun ⟨ts, hi, hw⟩ => ?_⟩
    have := greedy_most h hg hi
    omega
  · exact Or.inl ⟨if_neg hg, greedyT p, greedy_in h, by omega⟩
theorem fsum_split (F : Nat → Int) (a : Nat) : ∀ b, fsum F (a + b) = fsum F a + fsum (fun i => F (a + i)) b
  | 0 => by simp [fsum]
  | b + 1 => by
    show fsum F (a + b) + F (a + b) = fsum F a + (fsum (fun i => F (a + i)) b + F (a + b))
    rw [fsum_split F a b]; omega
def rotI (n k j : Nat) : Nat := if j < n - k then j + k else j + k - n
theorem rotI_lt {n k j : Nat} (hk : k ≤ n) (hj : j < n) : rotI n k j < n := by unfold rotI; split <;> omega
theorem rotI_back {n k j : Nat} (hk : k ≤ n) (hj : j < n) : rotI n (n - k) (rotI n k j) = j := by unfold rotI; split <;> split <;> omega
theorem fsum_rot (F : Nat → Int) {n k : Nat} (hk : k ≤ n) : fsum (fun j => F (rotI n k j)) n = fsum F n := by
  have e1 : fsum (fun j => F (rotI n k j)) ((n - k) + k) = fsum (fun j => F (k + j)) (n - k) + fsum F k := by
    rw [fsum_split]
    congr 1
    · refine fsum_congr _ fun j hj => ?_
      unfold rotI; rw [if_pos hj, Nat.add_comm]
    · refine fsum_congr _ fun j hj => ?_
      unfold rotI; rw [if_neg (by omega)]
      congr 1; omega
  have e2 : fsum F (k + (n - k)) = fsum F k + fsum (fun j => F (k + j)) (n - k) := fsum_split F k (n - k)
  rw [show (n - k) + k = n by omega] at e1
  rw [show k + (n - k) = n by omega] at e2
  rw [e1, e2]; omega
/-- The lots turned, and one more that is worth nothing. -/
def rotL (ls : List Lot) (k : Nat) (z : Int) : List Lot := ls.drop k ++ ls.take k ++ [⟨2, 0, z, 0⟩]
def rotP (p : Prob) (k : Nat) (z : Int) : Prob := ⟨rotL p.lots k z, p.caps, p.need⟩
theorem rotL_len (ls : List Lot) (k : Nat) (z : Int) (hk : k ≤ ls.length) : (rotL ls k z).length = ls.length + 1 := by
  simp [rotL]; omega
theorem gl_rot {ls : List Lot} {k j : Nat} (z : Int) (hk : k ≤ ls.length) (hj : j < ls.length) : gl (rotL ls k z) j = gl ls (rotI ls.length k j) := by
  unfold gl rotL rotI
  rw [List.getD_eq_getElem?_getD, List.getD_eq_getElem?_getD]
  rw [List.getElem?_append_left (by simp; omega)]
  by_cases h : j < ls.length - k
  · rw [if_pos h, List.getElem?_append_left (by simp; omega), List.getElem?_drop, Nat.add_comm]
  · rw [if_neg h, List.getElem?_append_right (by simp; omega), List.getElem?_take]
    simp only [List.length_drop]
    rw [if_pos (by omega), show j - (ls.length - k) = j + k - ls.length by omega]
theorem gl_rot_last {ls : List Lot} {k : Nat} (z : Int) (hk : k ≤ ls.length) : gl (rotL ls k z) ls.length = ⟨2, 0, z, 0⟩ := by
  unfold gl rotL
  rw [List.getD_eq_getElem?_getD, List.getElem?_append_right (by simp; omega)]
  simp
  rw [show ls.length - (ls.length - k + min k ls.length) = 0 by omega]
  rfl
theorem okRot {p : Prob} (h : Ok p) {k : Nat} (hk : k ≤ p.lots.length) (h6 : p.lots.length ≤ 6) {z : Int} (hz : 0 ≤ z ∧ z < 50) : Ok (rotP p k z) := by
  have hl : (rotP p k z).lots.length = p.lots.length + 1 := rotL_len _ _ _ hk
  refine ⟨by omega, by omega, h.m0, h.m8, fun j hj => ?_, h.cap, h.need0, h.need1⟩
  rw [hl] at hj
  by_cases hjn : j < p.lots.length
  · show 0 ≤ (gl (rotL p.lots k z) j).u ∧ _
    rw [show (rotP p k z).lots = rotL p.lots k z from rfl, gl_rot z hk hjn]
    exact h.lot _ (rotI_lt hk hjn)
  · have : j = p.lots.length := by omega
    subst this
    rw [show (rotP p k z).lots = rotL p.lots k z from rfl, gl_rot_last z hk]
    have := h.m0
    have e : (rotP p k z).caps.length = p.caps.length := rfl
    simp only [e]
    omega
theorem rot_sums {p : Prob} {k : Nat} (hk : k ≤ p.lots.length) (z : Int) {ts rs : List Int} (h : ∀ j, j < p.lots.length → gi rs j = gi ts (rotI p.lots.length k j)) :
    worthP (rotP p k z) rs = worthP p ts ∧ costP (rotP p k z) rs = costP p ts + gi rs p.lots.length * z := by
  have hl : (rotL p.lots k z).length = p.lots.length + 1 := rotL_len _ _ _ hk
  constructor
  · have hg : ∀ g, gsum (rotL p.lots k z) rs g (rotL p.lots k z).length = gsum p.lots ts g p.lots.length := by
      intro g
      rw [hl]
      show gsum (rotL p.lots k z) rs g p.lots.length + _ = _
      rw [gl_rot_last z hk]
      simp only [Int.mul_zero, ite_self, Int.add_zero]
      rw [gsum_fsum, gsum_fsum, ← fsum_rot (fun i => if (gl p.lots i).g = g then gi ts i * (gl p.lots i).v else 0) hk]
      refine fsum_congr _ fun j hj => ?_
      rw [gl_rot z hk hj, h j hj]
    have hw : ∀ m, wsum (rotP p k z) rs m = wsum p ts m := by
      intro m
      induction m with
      | zero => rfl
      | succ m ih =>
        unfold wsum
        rw [ih]
        show _ + capped (gi p.caps m) (gsum (rotL p.lots k z) rs m (rotL p.lots k z).length) = _
        rw [hg]
    exact hw _
  · show csum (rotL p.lots k z) rs (rotL p.lots k z).length = _
    rw [hl]
    show csum (rotL p.lots k z) rs p.lots.length + gi rs p.lots.length * (gl (rotL p.lots k z) p.lots.length).c = csum p.lots ts p.lots.length + _
    rw [gl_rot_last z hk]
    rw [csum_fsum, csum_fsum, ← fsum_rot (fun i => gi ts i * (gl p.lots i).c) hk]
    congr 1
    refine fsum_congr _ fun j hj => ?_
    rw [gl_rot z hk hj, h j hj]
theorem gi_map (f : Nat → Int) (n j : Nat) (h : j < n) (xs : List Int) : gi ((List.range n).map f ++ xs) j = f j := by
  unfold gi
  rw [List.getD_eq_getElem?_getD, List.getElem?_append_left (by simp; exact h), List.getElem?_map, List.getElem?_range h]; rfl
theorem rot_to {p : Prob} {k : Nat} (hk : k ≤ p.lots.length) {z : Int} {ts : List Int} (hi : inLots p.lots ts) :
    ∃ rs, inLots (rotP p k z).lots rs ∧ worthP (rotP p k z) rs = worthP p ts ∧ costP (rotP p k z) rs = costP p ts := by
  have hl : (rotP p k z).lots.length = p.lots.length + 1 := rotL_len _ _ _ hk
  let rs := (List.range p.lots.length).map (fun j => gi ts (rotI p.lots.length k j)) ++ [0]
  have hr : ∀ j, j < p.lots.length → gi rs j = gi ts (rotI p.lots.length k j) := fun j hj => gi_map _ _ _ hj _
  have hz : gi rs p.lots.length = 0 := by
    show gi ((List.range p.lots.length).map (fun j => gi ts (rotI p.lots.length k j)) ++ [0]) p.lots.length = 0
    unfold gi
    rw [List.getD_eq_getElem?_getD, List.getElem?_append_right (by simp)]
    simp
  have hs := rot_sums hk z (ts := ts) (rs := rs) hr
  refine ⟨rs, ⟨by rw [hl]; simp [rs], fun j hj => ?_⟩, hs.1, by rw [hs.2, hz]; simp⟩
  rw [hl] at hj
  rw [show (rotP p k z).lots = rotL p.lots k z from rfl]
  by_cases hjn : j < p.lots.length
  · rw [hr j hjn, gl_rot z hk hjn]
    exact hi.2 _ (rotI_lt hk hjn)
  · have : j = p.lots.length := by omega
    subst this
    rw [hz, gl_rot_last z hk]
    simp
theorem rot_from {p : Prob} {k : Nat} (hk : k ≤ p.lots.length) {z : Int} (hz : 0 ≤ z) {rs : List Int} (hi : inLots (rotP p k z).lots rs) :
    ∃ ts, inLots p.lots ts ∧ worthP (rotP p k z) rs = worthP p ts ∧ costP p ts ≤ costP (rotP p k z) rs := by
  have hl : (rotP p k z).lots.length = p.lots.length + 1 := rotL_len _ _ _ hk
  have hi2 := hi.2
  rw [show (rotP p k z).lots = rotL p.lots k z from rfl] at hi2
  let ts := (List.range p.lots.length).map (fun i => gi rs (rotI p.lots.length (p.lots.length - k) i)) ++ []
  have ht : ∀ i, i < p.lots.length → gi ts i = gi rs (rotI p.lots.length (p.lots.length - k) i) := fun j hj => gi_map _ _ _ hj _
  have hr : ∀ j, j < p.lots.length → gi rs j = gi ts (rotI p.lots.length k j) := fun j hj => by
    rw [ht _ (rotI_lt hk hj), rotI_back hk hj]
  have hs := rot_sums hk z (ts := ts) (rs := rs) hr
  refine ⟨ts, ⟨by simp [ts], fun i hin => ?_⟩, hs.1, ?_⟩
  · have hr' := rotI_lt (n := p.lots.length) (k := p.lots.length - k) (by omega) hin
    have h1 := hi2 (rotI p.lots.length (p.lots.length - k) i) (by rw [rotL_len _ _ _ hk]; omega)
    rw [gl_rot z hk hr'] at h1
    have hb := rotI_back (n := p.lots.length) (k := p.lots.length - k) (by omega) hin
    rw [show p.lots.length - (p.lots.length - k) = k by omega] at hb
    rw [hb] at h1
    rw [ht i hin]
    exact h1
  · have h1 := hi2 p.lots.length (by rw [rotL_len _ _ _ hk]; omega)
    have := Int.mul_nonneg h1.1 hz
    rw [hs.2]; omega
theorem rot_can {p : Prob} {k : Nat} (hk : k ≤ p.lots.length) {z : Int} (hz : 0 ≤ z) : CanDo (rotP p k z) ↔ CanDo p := by
  constructor
  · rintro ⟨rs, hi, hw⟩
    obtain ⟨ts, h1, h2, _⟩ := rot_from hk hz hi
    exact ⟨ts, h1, by rw [← h2]; exact hw⟩
  · rintro ⟨ts, hi, hw⟩
    obtain ⟨rs, h1, h2, _⟩ := rot_to (z := z) hk hi
    exact ⟨rs, h1, by rw [h2]; exact hw⟩
structure Same (p q : Prob) : Prop where
  no : errB p 100000 = some 1 → errB q 100000 = some 1
  yes : errB p 100000 = none → errB q 100000 = none ∧ inLots p.lots (takeB p 100000) ∧ inLots q.lots (takeB q 100000) ∧ ((srch p 100000).2 = true → (srch q 100000).2 = true → costP p (takeB p 100000) = costP q (takeB q 100000))
  either : errB p 100000 = some 1 ∨ errB p 100000 = none
theorem same_law {p : Prob} (hok : Ok p) {k : Nat} (hk : k ≤ p.lots.length) (h6 : p.lots.length ≤ 6) {z : Int} (hz : 0 ≤ z ∧ z < 50) : Same p (rotP p k z) := by
  have hq := okRot hok hk h6 hz
  have hc := rot_can (p := p) hk hz.1
  rcases errB_can hok (bud := 100000) (by omega) (by omega) with ⟨a, a'⟩ | ⟨a, a'⟩ <;>
    rcases errB_can hq (bud := 100000) (by omega) (by omega) with ⟨b, b'⟩ | ⟨b, b'⟩
  · have bp := best_law hok (bud := 100000) (by omega) (greedy_of_none hok (by omega) (by omega) a)
    have bq := best_law hq (bud := 100000) (by omega) (greedy_of_none hq (by omega) (by omega) b)
    refine ⟨fun h => (by rw [a] at h; cases h), fun _ => ⟨b, bp.i, bq.i, fun s1 s2 => ?_⟩, Or.inr a⟩
    obtain ⟨rs, r1, r2, r3⟩ := rot_to (z := z) hk bp.i
    obtain ⟨ts, t1, t2, t3⟩ := rot_from hk hz.1 bq.i
    have e1 := bq.sure s2 rs r1 (by rw [r2]; exact bp.w)
    have e2 := bp.sure s1 ts t1 (by rw [← t2]; exact bq.w)
    omega
  · exact absurd (hc.2 a') b'
  · exact absurd (hc.1 b') a'
  · exact ⟨fun _ => b, fun h => (by rw [a] at h; cases h), Or.inl a⟩
end Go.Proofs.YtjaegolanbjgfaaDoor
