/- Plain law: two lots, the cheap one capped. No program in sight. -/
import Derived.Test.YtjaegolanbjgfaaDoorMn
set_option linter.unusedVariables false
set_option linter.unusedSimpArgs false
namespace Go.Proofs.YtjaegolanbjgfaaDoor
def p2 (c n x y : Int) : Prob := ⟨[⟨30, 1, x, 0⟩, ⟨20, 1, y, 1⟩], [c, 0], n⟩
theorem two_lt {k : Nat} (h : k < 2) : k = 0 ∨ k = 1 := by omega
theorem ok2 {c n x y : Int} (hc : 1 ≤ c ∧ c ≤ 20) (hn : 0 ≤ n ∧ n < 45) (hx : 0 ≤ x ∧ x < 9) (hy : x < y ∧ y < 18) : Ok (p2 c n x y) := by
  refine ⟨by simp [p2], by simp [p2], by simp [p2], by simp [p2], fun k hk => ?_, fun k hk => ?_, hn.1, by simp only [p2]; omega⟩
  · rcases two_lt (show k < 2 from hk) with rfl | rfl
    · simp [p2, gl]; omega
    · simp [p2, gl]; omega
  · rcases two_lt (show k < 2 from hk) with rfl | rfl
    · simp [p2, gi]; omega
    · simp [p2, gi]
theorem worth2 (c n x y : Int) (hc : 1 ≤ c) (ts : List Int) : worthP (p2 c n x y) ts = min (gi ts 0) c + gi ts 1 := by
  have e0 : gsum (p2 c n x y).lots ts 0 2 = gi ts 0 := by simp [gsum, p2, gl]
  have e1 : gsum (p2 c n x y).lots ts 1 2 = gi ts 1 := by simp [gsum, p2, gl]
  show wsum (p2 c n x y) ts 2 = _
  have el : (p2 c n x y).lots.length = 2 := rfl
  simp only [wsum, el, e0, e1]
  have g0 : gi (p2 c n x y).caps 0 = c := rfl
  have g1 : gi (p2 c n x y).caps 1 = 0 := rfl
  rw [g0, g1]
  unfold capped
  rw [if_pos (by omega), if_neg (by omega)]
  omega
theorem cost2 (c n x y : Int) (ts : List Int) : costP (p2 c n x y) ts = gi ts 0 * x + gi ts 1 * y := by
  show csum (p2 c n x y).lots ts 2 = _
  simp [csum, p2, gl]
theorem in2 {c n x y : Int} {ts : List Int} (h : inLots (p2 c n x y).lots ts) : 0 ≤ gi ts 0 ∧ gi ts 0 ≤ 30 ∧ 0 ≤ gi ts 1 ∧ gi ts 1 ≤ 20 := by
  have h0 := h.2 0 (by simp [p2])
  have h1 := h.2 1 (by simp [p2])
  have a : (gl (p2 c n x y).lots 0).u = 30 := rfl
  have b : (gl (p2 c n x y).lots 1).u = 20 := rfl
  omega
theorem in2' {c n x y t s : Int} (h : 0 ≤ t ∧ t ≤ 30) (h' : 0 ≤ s ∧ s ≤ 20) : inLots (p2 c n x y).lots [t, s] := by
  refine ⟨rfl, fun k hk => ?_⟩
  rcases two_lt (show k < 2 from hk) with rfl | rfl
  · exact h
  · exact h'
theorem cheap_law {c n x y t s : Int} (hx : 0 ≤ x) (hxy : x ≤ y) (hn : 0 ≤ n) (ht : 0 ≤ t) (hs : 0 ≤ s) (hw : n ≤ min t c + s) (hc : 0 ≤ c) : min n c * x + (n - min n c) * y ≤ t * x + s * y := by
  obtain ⟨m, hm⟩ : ∃ m, m = min t c := ⟨_, rfl⟩
  obtain ⟨k, hk⟩ : ∃ k, k = min n c := ⟨_, rfl⟩
  rw [← hk]
  rw [← hm] at hw
  have hmt : m * x ≤ t * x := Int.mul_le_mul_of_nonneg_right (by omega) hx
  rcases (show m < k ∨ k ≤ m by omega) with h | h
  · have h1 : (n - k) * y + (k - m) * y ≤ s * y := by
      rw [← Int.add_mul]
      exact Int.mul_le_mul_of_nonneg_right (by omega) (by omega)
    have h2 : (k - m) * x ≤ (k - m) * y := Int.mul_le_mul_of_nonneg_left hxy (by omega)
    have h3 : k * x = m * x + (k - m) * x := by rw [← Int.add_mul]; congr 1; omega
    omega
  · have h1 : (n - k) * y ≤ s * y := Int.mul_le_mul_of_nonneg_right (by omega) (by omega)
    have h2 : k * x ≤ m * x := Int.mul_le_mul_of_nonneg_right h hx
    omega
structure Two (c n x y : Int) : Prop where
  lt : c + 20 < n → errB (p2 c n x y) 100000 = some 1
  ge : n ≤ c + 20 → errB (p2 c n x y) 100000 = none ∧ (srch (p2 c n x y) 100000).2 = true ∧ costP (p2 c n x y) (takeB (p2 c n x y) 100000) = min n c * x + (n - min n c) * y ∧ n ≤ worthP (p2 c n x y) (takeB (p2 c n x y) 100000) ∧ inLots (p2 c n x y).lots (takeB (p2 c n x y) 100000)
theorem two_law {c n x y : Int} (hc : 1 ≤ c ∧ c ≤ 20) (hn : 0 ≤ n ∧ n < 45) (hx : 0 ≤ x ∧ x < 9) (hy : x < y ∧ y < 18) : Two c n x y := by
  have hok := ok2 hc hn hx hy
  have he : errB (p2 c n x y) 100000 = if c + 20 < n then some 1 else none := by
    have h := errB_most hok (bud := 100000) (by omega) (by omega) (ts := [30, 20]) (in2' (by omega) (by omega)) (fun rs hr => by
      rw [worth2 _ _ _ _ hc.1, worth2 _ _ _ _ hc.1]
      have := in2 hr
      have e0 : gi [30, 20] 0 = 30 := rfl
      have e1 : gi [30, 20] 1 = 20 := rfl
      omega)
    rw [worth2 _ _ _ _ hc.1] at h
    have e0 : gi [30, 20] 0 = 30 := rfl
    have e1 : gi [30, 20] 1 = 20 := rfl
    rw [e0, e1, show min (30 : Int) c = c by omega] at h
    exact h
  refine ⟨fun h => by rw [he, if_pos h], fun h => ?_⟩
  have hnone : errB (p2 c n x y) 100000 = none := by rw [he, if_neg (by omega)]
  have hg := greedy_of_none hok (bud := 100000) (by omega) (by omega) hnone
  have hsure : (srch (p2 c n x y) 100000).2 = true := sure_law hok (by
    have := leafS_le (p := p2 c n x y) (U := 30) (fun i hi => by
      rcases two_lt (show i < 2 from hi) with rfl | rfl
      · show (30 : Int) ≤ _; omega
      · show (20 : Int) ≤ _; omega)
    have e : (p2 c n x y).lots.length = 2 := rfl
    rw [e] at this ⊢
    omega)
  have hb := best_law hok (bud := 100000) (by omega) hg
  have hi := in2 hb.i
  have hw := hb.w
  rw [worth2 _ _ _ _ hc.1] at hw
  have hle := hb.sure hsure [min n c, n - min n c] (in2' (by omega) (by omega)) (by
    rw [worth2 _ _ _ _ hc.1]
    show n ≤ min (min n c) c + (n - min n c)
    omega)
  rw [cost2, cost2] at hle
  have e0 : gi [min n c, n - min n c] 0 = min n c := rfl
  have e1 : gi [min n c, n - min n c] 1 = n - min n c := rfl
  rw [e0, e1] at hle
  have hge := cheap_law (c := c) (n := n) hx.1 (by omega : x ≤ y) hn.1 hi.1 hi.2.2.1 hw (by omega)
  exact ⟨hnone, hsure, by rw [cost2]; omega, hb.w, hb.i⟩
end Go.Proofs.YtjaegolanbjgfaaDoor
