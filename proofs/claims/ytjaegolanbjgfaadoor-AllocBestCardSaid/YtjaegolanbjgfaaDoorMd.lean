/- Plain laws: a division of two words by one, as the library does it, where the divisor is small. No program in sight. -/
import Derived.Test.YtjaegolanbjgfaaDoorMc
import Derived.Laws.BitsLemmas
import Derived.Laws.MathBits
import Derived.Laws.Bits64
set_option linter.unusedVariables false
set_option linter.unusedSimpArgs false
namespace Go.Proofs.YtjaegolanbjgfaaDoor
theorem div_core {hi lo y P D p Q1 Q0 r1 r0 T T1 T0 U V Yn : Int} (hP : P = 4294967296 * p) (hp : 0 < p) (hPD : P * D = 18446744073709551616) (hD : 0 < D)
    (hU : U = hi * P + lo / D) (hT : T = lo % D * P) (hYn : Yn = y * p) (hT1 : T1 = T / 4294967296) (hT0 : T0 = T % 4294967296)
    (h1 : U = Yn * Q1 + r1) (hV : V = r1 * 4294967296 + T1) (h0 : V = Yn * Q0 + r0) (b0 : 0 ≤ r0) (b1 : r0 < Yn) :
    (hi * 18446744073709551616 + lo) / y = Q1 * 4294967296 + Q0 ∧ (r0 * 4294967296 + T0) = P * ((hi * 18446744073709551616 + lo) % y) := by
  have hPpos : 0 < P := by omega
  have hy : 0 < y := by
    apply Classical.byContradiction; intro h
    have : y * p ≤ 0 := Int.mul_nonpos_of_nonpos_of_nonneg (by omega) (by omega)
    omega
  have elo : lo = D * (lo / D) + lo % D := (Int.mul_ediv_add_emod lo D).symm
  have eN : (hi * 18446744073709551616 + lo) * P = U * 18446744073709551616 + T := by
    rw [hU, hT, ← hPD]
    conv => lhs; rw [elo]
    rw [Int.add_mul, Int.add_mul, Int.add_mul]
    have a1 : hi * (P * D) * P = hi * P * (P * D) := by ac_rfl
    have a2 : D * (lo / D) * P = lo / D * (P * D) := by ac_rfl
    rw [a1, a2]; omega
  have eT : T = T1 * 4294967296 + T0 := by omega
  have eQ : Yn * 4294967296 = y * P := by rw [hYn, hP]; ac_rfl
  have key : (hi * 18446744073709551616 + lo) * P = y * P * (Q1 * 4294967296 + Q0) + (r0 * 4294967296 + T0) := by
    rw [eN, ← eQ]
    have x1 : Yn * 4294967296 * (Q1 * 4294967296 + Q0) = (Yn * Q1) * 18446744073709551616 + (Yn * Q0) * 4294967296 := by
      rw [Int.mul_add]
      have : Yn * 4294967296 * (Q1 * 4294967296) = (Yn * Q1) * (4294967296 * 4294967296) := by ac_rfl
      have h2 : Yn * 4294967296 * Q0 = (Yn * Q0) * 4294967296 := by ac_rfl
      rw [this, h2]; omega
    rw [x1]
    generalize Yn * Q1 = A at *
    generalize Yn * Q0 = B at *
    omega
  have hr : r0 * 4294967296 + T0 = P * ((hi * 18446744073709551616 + lo) - y * (Q1 * 4294967296 + Q0)) := by
    rw [Int.mul_sub, Int.mul_comm P, key]
    have : P * (y * (Q1 * 4294967296 + Q0)) = y * P * (Q1 * 4294967296 + Q0) := by ac_rfl
    rw [this]; omega
  have hlt : r0 * 4294967296 + T0 < y * P := by rw [← eQ]; omega
  have hge : 0 ≤ r0 * 4294967296 + T0 := by omega
  generalize hR : (hi * 18446744073709551616 + lo) - y * (Q1 * 4294967296 + Q0) = R at *
  have hR0 : 0 ≤ R := by
    apply Classical.byContradiction; intro h
    have : P * R < 0 := Int.mul_neg_of_pos_of_neg hPpos (by omega)
    omega
  have hR1 : R < y := by
    apply Classical.byContradiction; intro h
    have : P * y ≤ P * R := Int.mul_le_mul_of_nonneg_left (by omega) (by omega)
    rw [Int.mul_comm P y] at this
    omega
  have hq := (Int.ediv_emod_unique (a := hi * 18446744073709551616 + lo) hy (q := Q1 * 4294967296 + Q0) (r := R)).2 ⟨by omega, hR0, hR1⟩
  exact ⟨hq.1, by rw [hq.2]; exact hr⟩
/-- The steps, as the walk writes them. -/
structure DivSteps (hi lo y P D Y Yn U T T1 T0 Q1 V Q0 : Int) : Prop where
  a1 : IntKind.u64.wrap (y * P) = Y
  a2 : Y / 4294967296 = Yn
  a3 : bits .and .u64 Y 4294967295 = 0
  a4 : bits .or .u64 (IntKind.u64.wrap (hi * P)) (lo / D) = U
  a5 : IntKind.u64.wrap (lo * P) = T
  a6 : T / 4294967296 = T1
  a7 : bits .and .u64 T 4294967295 = T0
  a8 : IntKind.u64.wrap (U.tdiv Yn) = Q1
  a9 : 0 < Yn
  a10 : 0 ≤ Q1 ∧ Q1 < 4294967296
  a11 : IntKind.u64.wrap (IntKind.u64.wrap (IntKind.u64.wrap (U * 4294967296) + T1) - IntKind.u64.wrap (Q1 * Y)) = V
  a12 : IntKind.u64.wrap (V.tdiv Yn) = Q0
  a13 : 0 ≤ Q0 ∧ Q0 < 4294967296
  a14 : IntKind.u64.wrap (IntKind.u64.wrap (Q1 * 4294967296) + Q0) = (hi * 18446744073709551616 + lo) / y
  a15 : IntKind.u64.wrap (IntKind.u64.wrap (IntKind.u64.wrap (V * 4294967296) + T0) - IntKind.u64.wrap (Q0 * Y)) / P = (hi * 18446744073709551616 + lo) % y
theorem div_steps {hi lo y : Int} {s : Nat} (h0 : 1 ≤ hi) (h1 : hi < y) (h2 : y ≤ 1000000000) (hl0 : 0 ≤ lo) (hl1 : lo < 18446744073709551616) (hs0 : 34 ≤ s) (hs1 : s ≤ 63)
    (hy : y * 2 ^ s < 18446744073709551616) :
    ∃ Y Yn U T T1 T0 Q1 V Q0, DivSteps hi lo y (2 ^ s) (2 ^ (64 - s)) Y Yn U T T1 T0 Q1 V Q0 := by
  obtain ⟨P, hPe⟩ : ∃ P : Int, P = 2 ^ s := ⟨_, rfl⟩
  obtain ⟨D, hDe⟩ : ∃ D : Int, D = 2 ^ (64 - s) := ⟨_, rfl⟩
  obtain ⟨p, hpe⟩ : ∃ p : Int, p = 2 ^ (s - 32) := ⟨_, rfl⟩
  have hP : P = 4294967296 * p := by rw [hPe, hpe, show (4294967296 : Int) = 2 ^ 32 by decide, ← Int.pow_add]; congr 1; omega
  have hp : 0 < p := by rw [hpe]; exact Int.pow_pos (by decide)
  have hD : 0 < D := by rw [hDe]; exact Int.pow_pos (by decide)
  have hPD : P * D = 18446744073709551616 := by rw [hPe, hDe, ← Int.pow_add, show s + (64 - s) = 64 by omega]; decide
  have hPpos : 0 < P := by omega
  rw [← hPe, ← hDe]
  rw [← hPe] at hy
  have ld0 : 0 ≤ lo / D := Int.ediv_nonneg hl0 (by omega)
  have ld1 : lo / D < P := by
    apply Int.ediv_lt_of_lt_mul hD
    rw [hPD]; exact hl1
  have hiP : hi * P ≤ y * P - P := by
    have : (hi + 1) * P ≤ y * P := Int.mul_le_mul_of_nonneg_right (by omega) (by omega)
    rw [Int.add_mul] at this; omega
  have hiP0 : 0 ≤ hi * P := Int.mul_nonneg (by omega) (by omega)
  have hYn : y * P = 4294967296 * (y * p) := by rw [hP]; ac_rfl
  have hYn0 : 0 < y * p := Int.mul_pos (by omega) hp
  have hU0 : 0 ≤ hi * P + lo / D := by omega
  have hU1 : hi * P + lo / D < y * P := by omega
  have lm0 : 0 ≤ lo % D := Int.emod_nonneg _ (by omega)
  have lm1 : lo % D < D := Int.emod_lt_of_pos _ hD
  have hT0 : 0 ≤ lo % D * P := Int.mul_nonneg lm0 (by omega)
  have hT1 : lo % D * P < 18446744073709551616 := by
    rw [← hPD, Int.mul_comm P D]; exact Int.mul_lt_mul_of_pos_right lm1 hPpos
  have eT : lo * P % 18446744073709551616 = lo % D * P := by
    have elo : lo = D * (lo / D) + lo % D := (Int.mul_ediv_add_emod lo D).symm
    have : lo * P = 18446744073709551616 * (lo / D) + lo % D * P := by
      conv => lhs; rw [elo]
      rw [Int.add_mul, ← hPD]
      have a2 : D * (lo / D) * P = P * D * (lo / D) := by ac_rfl
      rw [a2]
    rw [this]; omega
  obtain ⟨Yn, eYn⟩ : ∃ Yn, Yn = y * p := ⟨_, rfl⟩
  obtain ⟨U, eU⟩ : ∃ U, U = hi * P + lo / D := ⟨_, rfl⟩
  obtain ⟨T, eT'⟩ : ∃ T, T = lo % D * P := ⟨_, rfl⟩
  rw [← eYn] at hYn hYn0
  have d1 : U = Yn * (U / Yn) + U % Yn := (Int.mul_ediv_add_emod U Yn).symm
  have m10 : 0 ≤ U % Yn := Int.emod_nonneg _ (by omega)
  have m11 : U % Yn < Yn := Int.emod_lt_of_pos _ hYn0
  have q10 : 0 ≤ U / Yn := Int.ediv_nonneg (by omega) (by omega)
  have q11 : U / Yn < 4294967296 := Int.ediv_lt_of_lt_mul hYn0 (by omega)
  obtain ⟨V, eV⟩ : ∃ V, V = U % Yn * 4294967296 + T / 4294967296 := ⟨_, rfl⟩
  have hYn2 : Yn < 4294967296 := by omega
  have v0 : 0 ≤ V := by omega
  have v1 : V < 4294967296 * Yn := by omega
  have d0 : V = Yn * (V / Yn) + V % Yn := (Int.mul_ediv_add_emod V Yn).symm
  have m00 : 0 ≤ V % Yn := Int.emod_nonneg _ (by omega)
  have m01 : V % Yn < Yn := Int.emod_lt_of_pos _ hYn0
  have q00 : 0 ≤ V / Yn := Int.ediv_nonneg v0 (by omega)
  have q01 : V / Yn < 4294967296 := Int.ediv_lt_of_lt_mul hYn0 (by omega)
  have core := div_core hP hp hPD hD eU eT' eYn rfl rfl d1 eV d0 m00 m01
  refine ⟨4294967296 * Yn, Yn, U, T, T / 4294967296, T % 4294967296, U / Yn, V, V / Yn, ?_⟩
  have e1 : U / Yn * (4294967296 * Yn) = (Yn * (U / Yn)) * 4294967296 := by ac_rfl
  have e2 : V / Yn * (4294967296 * Yn) = (Yn * (V / Yn)) * 4294967296 := by ac_rfl
  constructor
  · rw [IntKind.wrap_u64]; omega
  · omega
  · rw [and_low32 _ (by omega) (by omega)]; omega
  · rw [IntKind.wrap_u64, show hi * P % 18446744073709551616 = hi * P by omega, eU]
    have e64 : (2 : Int) ^ 64 = 18446744073709551616 := by decide
    exact bits_join .u64 64 (by decide) (fun n a b => by rw [IntKind.wrap_u64]; omega) s (hi * P) (lo / D) hiP0 (by rw [← hPe]; exact Int.mul_emod_left _ _) (by omega) ld0 (by rw [← hPe]; exact ld1) (by omega)
  · rw [IntKind.wrap_u64, eT, eT']
  · rfl
  · rw [and_low32 _ (by omega) (by omega)]
  · rw [Int.tdiv_eq_ediv_of_nonneg (by omega), IntKind.wrap_u64]; omega
  · exact hYn0
  · exact ⟨q10, q11⟩
  · simp only [IntKind.wrap_u64]
    rw [e1]
    generalize Yn * (U / Yn) = A at *
    omega
  · rw [Int.tdiv_eq_ediv_of_nonneg v0, IntKind.wrap_u64]; omega
  · exact ⟨q00, q01⟩
  · simp only [IntKind.wrap_u64]; rw [core.1]; omega
  · have : IntKind.u64.wrap (IntKind.u64.wrap (IntKind.u64.wrap (V * 4294967296) + T % 4294967296) - IntKind.u64.wrap (V / Yn * (4294967296 * Yn))) = V % Yn * 4294967296 + T % 4294967296 := by
      simp only [IntKind.wrap_u64]
      rw [e2]
      generalize Yn * (V / Yn) = A at *
      omega
    rw [this, core.2, Int.mul_ediv_cancel_left _ (by omega)]
/-- A quotient, cut up; is it a number of 64 bits; the answer. -/
def ceilq (n c : Int) : Int := if 0 < n % c then n / c + 1 else n / c
def fitq (n c : Int) : Bool := decide (ceilq n c ≤ 9223372036854775807)
def ansq (n c : Int) : Int := if fitq n c then ceilq n c else 0
/-- The lot that costs least for what it is worth, of the first k from one on; -1: none. -/
def rbest (ls : List Lot) (s : Nat) : Nat → Int
  | 0 => -1
  | k + 1 => let b := rbest ls s k
    if 0 < (gl ls (s + k)).v ∧ 0 < (gl ls (s + k)).u ∧ (b < 0 ∨ cheaperB (gl ls (s + k)) (gl ls b.toNat) = true) then ((s + k : Nat) : Int) else b
theorem rbest_rng (ls : List Lot) (s : Nat) : ∀ k, rbest ls s k = -1 ∨ (s ≤ rbest ls s k ∧ rbest ls s k < (s + k : Nat))
  | 0 => Or.inl rfl
  | k + 1 => by
    have ih := rbest_rng ls s k
    unfold rbest
    simp only
    split
    · right; omega
    · rcases ih with ih | ih
      · exact Or.inl ih
      · right; omega
theorem rbest_no {ls : List Lot} {s k j : Nat} (hj : j = s + k) (h : ¬ (0 < (gl ls j).v ∧ 0 < (gl ls j).u ∧ (rbest ls s k < 0 ∨ cheaperB (gl ls j) (gl ls (rbest ls s k).toNat) = true))) : rbest ls s k = rbest ls s (k + 1) := by
  subst hj; conv => rhs; unfold rbest
  simp only; rw [if_neg h]
theorem rbest_yes {ls : List Lot} {s k j : Nat} (hj : j = s + k) (h : 0 < (gl ls j).v ∧ 0 < (gl ls j).u ∧ (rbest ls s k < 0 ∨ cheaperB (gl ls j) (gl ls (rbest ls s k).toNat) = true)) : (j : Int) = rbest ls s (k + 1) := by
  subst hj; conv => rhs; unfold rbest
  simp only; rw [if_pos h]
def rateAt (p : Prob) (s : Nat) : Int := rbest p.lots s (p.lots.length - s)
theorem rbest_pos (ls : List Lot) (s : Nat) : ∀ k, 0 ≤ rbest ls s k → 0 < (gl ls (rbest ls s k).toNat).v ∧ 0 < (gl ls (rbest ls s k).toNat).u
  | 0, h => by simp [rbest] at h
  | k + 1, h => by
    unfold rbest at h ⊢
    simp only at h ⊢
    split at h
    · rename_i hc; rw [if_pos hc, Int.toNat_natCast]; exact ⟨hc.1, hc.2.1⟩
    · rename_i hc; rw [if_neg hc]; exact rbest_pos ls s k h
theorem rate_pos (p : Prob) (s : Nat) (h : 0 ≤ rateAt p s) : 0 < (gl p.lots (rateAt p s).toNat).v := (rbest_pos _ _ _ h).1
/-- All that the lots from one on may be worth. -/
def canSum (ls : List Lot) (s : Nat) : Nat → Int
  | 0 => 0
  | k + 1 => canSum ls s k + (gl ls (s + k)).u * (gl ls (s + k)).v
def canB (p : Prob) (s : Nat) (left : Int) : Bool := decide (left ≤ canSum p.lots s (p.lots.length - s))
def leastV (p : Prob) (s : Nat) (left : Int) : Int := if left ≤ 0 then 0 else if rateAt p s < 0 then 0 else ansq (left * (gl p.lots (rateAt p s).toNat).c) (gl p.lots (rateAt p s).toNat).v
def leastB (p : Prob) (s : Nat) (left : Int) : Bool := if left ≤ 0 then true else if rateAt p s < 0 then false else fitq (left * (gl p.lots (rateAt p s).toNat).c) (gl p.lots (rateAt p s).toNat).v
theorem canSum_bd {p : Prob} (h : Ok p) (s : Nat) : ∀ k, s + k ≤ p.lots.length → 0 ≤ canSum p.lots s k ∧ canSum p.lots s k ≤ 1000000000000 * k
  | 0, _ => ⟨Int.le_refl _, Int.le_refl _⟩
  | k + 1, hk => by
    have ih := canSum_bd h s k (by omega)
    have a := h.lot (s + k) (by omega)
    have t := mul_bd a.1 (T := 1000) (by omega) a.2.2.1 a.2.2.2.1
    unfold canSum
    omega
end Go.Proofs.YtjaegolanbjgfaaDoor
