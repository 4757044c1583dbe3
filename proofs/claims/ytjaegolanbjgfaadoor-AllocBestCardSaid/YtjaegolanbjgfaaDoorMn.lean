/- Plain laws: one lot; two lots, the one capped. No program in sight. -/
import Derived.Test.YtjaegolanbjgfaaDoorMj
import Derived.Test.YtjaegolanbjgfaaDoorMk
set_option linter.unusedVariables false
set_option linter.unusedSimpArgs false
namespace Go.Proofs.YtjaegolanbjgfaaDoor
theorem leafN_le {q : Prob} {U : Nat} (h : ∀ i, i < q.lots.length → (gl q.lots i).u ≤ U) : ∀ k, k ≤ q.lots.length → leafN q k ≤ (U + 1) ^ k
  | 0, _ => by simp [leafN]
  | k + 1, hk => by
    have ih := leafN_le h k (by omega)
    have hw : width q (q.lots.length - (k + 1)) ≤ U + 1 := by
      have := h (q.lots.length - (k + 1)) (by omega)
      unfold width; omega
    unfold leafN
    rw [Nat.pow_succ, Nat.mul_comm]
    exact Nat.mul_le_mul ih hw
theorem leafS_le {p : Prob} {U : Nat} (h : ∀ i, i < p.lots.length → (gl p.lots i).u ≤ U) : leafN (sortedP p) p.lots.length ≤ (U + 1) ^ p.lots.length := by
  have := leafN_le (q := sortedP p) (U := U) (fun i hi => by
    rw [lenS] at hi
    have hp := (places_order p.lots).inr i hi
    rw [glS p hi]
    exact h _ (by omega)) p.lots.length (by rw [lenS]; exact Nat.le_refl _)
  exact this
theorem errB_ok {p : Prob} (h : Ok p) {bud : Int} (h0 : 0 ≤ bud) (h1 : bud ≤ 100000) : errB p bud = if worthP p (greedyT p) < p.need then some 1 else none := by
  unfold errB; rw [valid_of_ok h]; simp only; rw [if_neg (by omega)]
/-- None is said just where every choice is worth less than is needed. -/
theorem errB_most {p : Prob} (h : Ok p) {bud : Int} (h0 : 0 ≤ bud) (h1 : bud ≤ 100000) {ts : List Int} (hi : inLots p.lots ts) (hm : ∀ rs, inLots p.lots rs → worthP p rs ≤ worthP p ts) :
    errB p bud = if worthP p ts < p.need then some 1 else none := by
  rw [errB_ok h h0 h1]
  have a := hm _ (greedy_in h)
  by_cases hg : worthP p (greedyT p) < p.need
  · have := greedy_most h hg hi
    rw [if_pos hg, if_pos (by omega)]
  · rw [if_neg hg, if_neg (by omega)]
theorem greedy_of_none {p : Prob} (h : Ok p) {bud : Int} (h0 : 0 ≤ bud) (h1 : bud ≤ 100000) (he : errB p bud = none) : p.need ≤ worthP p (greedyT p) := by
  rw [errB_ok h h0 h1] at he
  split at he
  · cases he
  · omega
def p1 (u v c n : Int) : Prob := ⟨[⟨u, v, c, 0⟩], [0], n⟩
theorem ok1 {u v c n : Int} (hu : 0 ≤ u ∧ u < 60) (hv : 0 ≤ v ∧ v < 100) (hc : 0 ≤ c ∧ c < 100) (hn : 0 ≤ n ∧ n < 5000) : Ok (p1 u v c n) := by
  refine ⟨by simp [p1], by simp [p1], by simp [p1], by simp [p1], fun k hk => ?_, fun k hk => ?_, hn.1, by simp only [p1]; omega⟩
  · have : k = 0 := by simp [p1] at hk; omega
    subst this
    simp only [p1, gl, List.getD_cons_zero, List.length_singleton]
    omega
  · have : k = 0 := by simp [p1] at hk; omega
    subst this
    simp [p1, gi]
theorem worth1 (u v c n : Int) (ts : List Int) : worthP (p1 u v c n) ts = gi ts 0 * v := by
  simp [worthP, p1, wsum, gsum, capped, gl, gi]
theorem cost1 (u v c n : Int) (ts : List Int) : costP (p1 u v c n) ts = gi ts 0 * c := by
  simp [costP, p1, csum, gl]
theorem in1 {u v c n : Int} {ts : List Int} (h : inLots (p1 u v c n).lots ts) : ts.length = 1 ∧ 0 ≤ gi ts 0 ∧ gi ts 0 ≤ u := by
  have h0 := h.2 0 (by simp [p1])
  simp only [p1, gl, List.getD_cons_zero] at h0
  exact ⟨h.1, h0⟩
theorem in1' {u v c n t : Int} (h0 : 0 ≤ t) (h1 : t ≤ u) : inLots (p1 u v c n).lots [t] := by
  refine ⟨rfl, fun k hk => ?_⟩
  have : k = 0 := by simp [p1] at hk; omega
  subst this
  simp only [p1, gl, List.getD_cons_zero, gi]
  omega
def k1 (v n : Int) : Int := if 0 < n then (n + v - 1).tdiv v else 0
structure One (u v c n : Int) : Prop where
  lt : u * v < n → errB (p1 u v c n) 100000 = some 1
  ge : n ≤ u * v → errB (p1 u v c n) 100000 = none ∧ (srch (p1 u v c n) 100000).2 = true ∧ costP (p1 u v c n) (takeB (p1 u v c n) 100000) = k1 v n * c ∧ n ≤ worthP (p1 u v c n) (takeB (p1 u v c n) 100000) ∧ (c = 0 ∨ gi (takeB (p1 u v c n) 100000) 0 = k1 v n) ∧ 0 ≤ k1 v n ∧ k1 v n ≤ 60 ∧ inLots (p1 u v c n).lots (takeB (p1 u v c n) 100000)
theorem k1_spec {u v n : Int} (hu : 0 ≤ u) (hv : 0 ≤ v) (h : n ≤ u * v) : 0 ≤ k1 v n ∧ n ≤ k1 v n * v ∧ ∀ t, 0 ≤ t → n ≤ t * v → k1 v n ≤ t := by
  unfold k1
  split
  · rename_i hn
    have hv0 : 0 < v := by
      rcases Int.lt_or_eq_of_le hv with h' | h'
      · exact h'
      · rw [← h'] at h; simp at h; omega
    have hne : v ≠ 0 := by omega
    rw [Int.tdiv_eq_ediv_of_nonneg (by omega)]
    have e1 := Int.mul_ediv_add_emod (n + v - 1) v
    have e2 := Int.emod_nonneg (n + v - 1) hne
    have e3 := Int.emod_lt_of_pos (n + v - 1) hv0
    refine ⟨Int.ediv_nonneg (by omega) (by omega), ?_, fun t h0 ht => ?_⟩
    · rw [Int.mul_comm]; omega
    · have : (n + v - 1) / v < t + 1 := by
        rw [Int.ediv_lt_iff_lt_mul hv0, Int.add_mul, Int.one_mul]
        omega
      omega
  · rename_i hn
    exact ⟨Int.le_refl _, by simp; omega, fun t h0 _ => h0⟩
theorem one_law {u v c n : Int} (hu : 0 ≤ u ∧ u < 60) (hv : 0 ≤ v ∧ v < 100) (hc : 0 ≤ c ∧ c < 100) (hn : 0 ≤ n ∧ n < 5000) : One u v c n := by
  have hok := ok1 hu hv hc hn
  have he : errB (p1 u v c n) 100000 = if u * v < n then some 1 else none := by
    have h := errB_most hok (bud := 100000) (by omega) (by omega) (ts := [u]) (in1' hu.1 (Int.le_refl _)) (fun rs hr => by
      rw [worth1, worth1]
      exact Int.mul_le_mul_of_nonneg_right (in1 hr).2.2 hv.1)
    rw [worth1] at h
    exact h
  refine ⟨fun h => by rw [he, if_pos h], fun h => ?_⟩
  have hnone : errB (p1 u v c n) 100000 = none := by rw [he, if_neg (by omega)]
  have hg := greedy_of_none hok (bud := 100000) (by omega) (by omega) hnone
  have hsure : (srch (p1 u v c n) 100000).2 = true := sure_law hok (by
    have := leafS_le (p := p1 u v c n) (U := 60) (fun i hi => by
      have : i = 0 := by simp [p1] at hi; omega
      subst this
      simp only [p1, gl, List.getD_cons_zero]; omega)
    have e : (p1 u v c n).lots.length = 1 := rfl
    rw [e] at this ⊢
    omega)
  have hb := best_law hok (bud := 100000) (by omega) hg
  obtain ⟨q0, q1, q2⟩ := k1_spec hu.1 hv.1 h
  have hku := q2 u hu.1 h
  have hw := hb.w
  have hle := hb.sure hsure [k1 v n] (in1' q0 hku) (by rw [worth1]; exact q1)
  rw [worth1] at hw
  rw [cost1, cost1] at hle
  have hkt := q2 _ (in1 hb.i).2.1 hw
  have e0 : gi [k1 v n] 0 = k1 v n := rfl
  rw [e0] at hle
  have hge : k1 v n * c ≤ gi (takeB (p1 u v c n) 100000) 0 * c := Int.mul_le_mul_of_nonneg_right hkt hc.1
  refine ⟨hnone, hsure, by rw [cost1]; omega, hb.w, ?_, q0, by omega, hb.i⟩
  by_cases hc0 : c = 0
  · exact Or.inl hc0
  · right
    have hcp : 0 < c := by omega
    have := Int.le_of_mul_le_mul_right hle hcp
    omega
end Go.Proofs.YtjaegolanbjgfaaDoor
