/- Plain words and laws of chapters 18 to 20: lots, what a choice is worth, what it costs. No program in sight. -/
set_option linter.unusedVariables false
set_option linter.unusedSimpArgs false
namespace Go.Proofs.YtjaegolanbjgfaaDoor
structure Lot where
  u : Int
  v : Int
  c : Int
  g : Int
def z0 : Lot := ⟨0, 0, 0, 0⟩
/-- Elements (not opened by the walk). -/
def gl (xs : List Lot) (k : Nat) : Lot := xs.getD k z0
def gi (xs : List Int) (k : Nat) : Int := xs.getD k 0
structure Prob where
  lots : List Lot
  caps : List Int
  need : Int
def lotOk (x : Lot) (m : Int) : Bool := decide (0 ≤ x.u ∧ x.u ≤ 1000 ∧ 0 ≤ x.v ∧ x.v ≤ 1000000000 ∧ 0 ≤ x.c ∧ x.c ≤ 1000000000 ∧ 0 ≤ x.g ∧ x.g < m)
def many (p : Prob) : Bool := decide (p.lots.length = 0 ∨ 8 < p.lots.length ∨ p.caps.length = 0 ∨ 8 < p.caps.length)
def badNums (p : Prob) : Bool := (p.lots.any fun x => !lotOk x p.caps.length) || (p.caps.any fun x => !decide (0 ≤ x ∧ x ≤ 1000000000000)) || !decide (0 ≤ p.need ∧ p.need ≤ 1000000000000)
def valid (p : Prob) : Option Nat := if many p then some 2 else if badNums p then some 0 else none

theorem gl_mem {xs : List Lot} {k : Nat} (h : k < xs.length) : gl xs k ∈ xs := by
  unfold gl; rw [List.getD_eq_getElem?_getD, List.getElem?_eq_getElem h]; exact List.getElem_mem h
theorem gi_mem {xs : List Int} {k : Nat} (h : k < xs.length) : gi xs k ∈ xs := by
  unfold gi; rw [List.getD_eq_getElem?_getD, List.getElem?_eq_getElem h]; exact List.getElem_mem h
/-- What a valid problem is. -/
structure Ok (p : Prob) : Prop where
  n0 : 0 < p.lots.length
  n8 : p.lots.length ≤ 8
  m0 : 0 < p.caps.length
  m8 : p.caps.length ≤ 8
  lot : ∀ k, k < p.lots.length → 0 ≤ (gl p.lots k).u ∧ (gl p.lots k).u ≤ 1000 ∧ 0 ≤ (gl p.lots k).v ∧ (gl p.lots k).v ≤ 1000000000 ∧ 0 ≤ (gl p.lots k).c ∧ (gl p.lots k).c ≤ 1000000000 ∧ 0 ≤ (gl p.lots k).g ∧ (gl p.lots k).g < p.caps.length
  cap : ∀ k, k < p.caps.length → 0 ≤ gi p.caps k ∧ gi p.caps k ≤ 1000000000000
  need0 : 0 ≤ p.need
  need1 : p.need ≤ 1000000000000
theorem ok_of_valid {p : Prob} (h : valid p = none) : Ok p := by
  unfold valid at h
  split at h
  · cases h
  split at h
  · cases h
  rename_i h1 h2
  simp only [many, decide_eq_true_eq] at h1
  simp only [badNums, Bool.or_eq_true, not_or, Bool.not_eq_true, List.any_eq_false, Bool.not_eq_eq_eq_not, Bool.not_false] at h2
  obtain ⟨⟨h3, h4⟩, h5⟩ := h2
  refine ⟨by omega, by omega, by omega, by omega, fun k hk => ?_, fun k hk => ?_, ?_, ?_⟩
  · have := h3 _ (gl_mem hk); simpa [lotOk] using this
  · have := h4 _ (gi_mem hk); simpa using this
  · simp at h5; omega
  · simp at h5; omega
theorem valid_of_ok {p : Prob} (h : Ok p) : valid p = none := by
  unfold valid
  rw [if_neg, if_neg]
  · simp only [badNums, Bool.or_eq_true, not_or, Bool.not_eq_true, List.any_eq_false, Bool.not_eq_eq_eq_not, Bool.not_false]
    refine ⟨⟨fun x hx => ?_, fun x hx => ?_⟩, ?_⟩
    · obtain ⟨i, hi, rfl⟩ := List.getElem_of_mem hx
      have := h.lot i hi
      simp only [gl, List.getD_eq_getElem?_getD, List.getElem?_eq_getElem hi, Option.getD_some] at this
      simpa [lotOk] using this
    · obtain ⟨i, hi, rfl⟩ := List.getElem_of_mem hx
      have := h.cap i hi
      simp only [gi, List.getD_eq_getElem?_getD, List.getElem?_eq_getElem hi, Option.getD_some] at this
      simpa using this
    · have := h.need0; have := h.need1; simp; omega
  · have := h.n0; have := h.n8; have := h.m0; have := h.m8; simp only [many, decide_eq_true_eq]; omega

/-- A choice is one of a problem. -/
def inLots (ls : List Lot) (ts : List Int) : Prop := ts.length = ls.length ∧ ∀ k, k < ls.length → 0 ≤ gi ts k ∧ gi ts k ≤ (gl ls k).u
instance (ls : List Lot) (ts : List Int) : Decidable (inLots ls ts) := inferInstanceAs (Decidable (_ ∧ _))
/-- What the first k lots of group g are worth, what a group counts, what the first m groups count; what the first k cost. -/
def gsum (ls : List Lot) (ts : List Int) (g : Nat) : Nat → Int
  | 0 => 0
  | k + 1 => gsum ls ts g k + if (gl ls k).g = g then gi ts k * (gl ls k).v else 0
def capped (c n : Int) : Int := if 0 < c then min n c else n
def wsum (p : Prob) (ts : List Int) : Nat → Int
  | 0 => 0
  | g + 1 => wsum p ts g + capped (gi p.caps g) (gsum p.lots ts g p.lots.length)
def csum (ls : List Lot) (ts : List Int) : Nat → Int
  | 0 => 0
  | k + 1 => csum ls ts k + gi ts k * (gl ls k).c
def worthP (p : Prob) (ts : List Int) : Int := wsum p ts p.caps.length
def costP (p : Prob) (ts : List Int) : Int := csum p.lots ts p.lots.length
theorem mul_bd {t v T V : Int} (h0 : 0 ≤ t) (h1 : t ≤ T) (h2 : 0 ≤ v) (h3 : v ≤ V) : 0 ≤ t * v ∧ t * v ≤ T * V :=
  ⟨Int.mul_nonneg h0 h2, Int.mul_le_mul h1 h3 h2 (Int.le_trans h0 h1)⟩
theorem tv_bd {p : Prob} {ts : List Int} (h : Ok p) (hi : inLots p.lots ts) {k : Nat} (hk : k < p.lots.length) :
    0 ≤ gi ts k * (gl p.lots k).v ∧ gi ts k * (gl p.lots k).v ≤ 1000000000000 := by
  have a := h.lot k hk; have b := hi.2 k hk
  have := mul_bd b.1 (T := 1000) (by omega) a.2.2.1 a.2.2.2.1
  omega
theorem tc_bd {p : Prob} {ts : List Int} (h : Ok p) (hi : inLots p.lots ts) {k : Nat} (hk : k < p.lots.length) :
    0 ≤ gi ts k * (gl p.lots k).c ∧ gi ts k * (gl p.lots k).c ≤ 1000000000000 := by
  have a := h.lot k hk; have b := hi.2 k hk
  have := mul_bd b.1 (T := 1000) (by omega) a.2.2.2.2.1 a.2.2.2.2.2.1
  omega
theorem gsum_bd {p : Prob} {ts : List Int} (h : Ok p) (hi : inLots p.lots ts) (g : Nat) : ∀ k, k ≤ p.lots.length → 0 ≤ gsum p.lots ts g k ∧ gsum p.lots ts g k ≤ 1000000000000 * k
  | 0, _ => ⟨Int.le_refl _, Int.le_refl _⟩
  | k + 1, hk => by
    have ih := gsum_bd h hi g k (by omega)
    have t := tv_bd h hi (k := k) (by omega)
    unfold gsum
    split <;> omega
theorem csum_bd {p : Prob} {ts : List Int} (h : Ok p) (hi : inLots p.lots ts) : ∀ k, k ≤ p.lots.length → 0 ≤ csum p.lots ts k ∧ csum p.lots ts k ≤ 1000000000000 * k
  | 0, _ => ⟨Int.le_refl _, Int.le_refl _⟩
  | k + 1, hk => by
    have ih := csum_bd h hi k (by omega)
    have t := tc_bd h hi (k := k) (by omega)
    unfold csum
    omega
theorem capped_bd {c n N : Int} (h0 : 0 ≤ n) (h1 : n ≤ N) (hc : 0 ≤ c) : 0 ≤ capped c n ∧ capped c n ≤ N := by
  unfold capped; split <;> omega
theorem wsum_bd {p : Prob} {ts : List Int} (h : Ok p) (hi : inLots p.lots ts) : ∀ g, g ≤ p.caps.length → 0 ≤ wsum p ts g ∧ wsum p ts g ≤ 8000000000000 * g
  | 0, _ => ⟨Int.le_refl _, Int.le_refl _⟩
  | g + 1, hg => by
    have ih := wsum_bd h hi g (by omega)
    have a := gsum_bd h hi g p.lots.length (Nat.le_refl _)
    have := h.n8
    have t := capped_bd (c := gi p.caps g) (N := 8000000000000) a.1 (by omega) (h.cap g (by omega)).1
    unfold wsum
    omega
theorem worth_bd {p : Prob} {ts : List Int} (h : Ok p) (hi : inLots p.lots ts) : 0 ≤ worthP p ts ∧ worthP p ts ≤ 64000000000000 := by
  have := wsum_bd h hi p.caps.length (Nat.le_refl _); have := h.m8; unfold worthP; omega
theorem cost_bd {p : Prob} {ts : List Int} (h : Ok p) (hi : inLots p.lots ts) : 0 ≤ costP p ts ∧ costP p ts ≤ 8000000000000 := by
  have := csum_bd h hi p.lots.length (Nat.le_refl _); have := h.n8; unfold costP; omega
end Go.Proofs.YtjaegolanbjgfaaDoor
