/- Plain law: all choices, one after another. -/
import Derived.Test.YtjaegolanbjgfaaDoorMu
set_option linter.unusedVariables false
set_option linter.unusedSimpArgs false
namespace Go.Proofs.YtjaegolanbjgfaaDoor
def Wd (ls : List Lot) : Nat → Int
  | 0 => 1
  | k + 1 => Wd ls k * ((gl ls k).u + 1)
def rk (ls : List Lot) (ts : List Int) : Nat → Int
  | 0 => 0
  | k + 1 => rk ls ts k + gi ts k * Wd ls k
theorem Wd_pos {p : Prob} (h : Ok p) : ∀ k, k ≤ p.lots.length → 1 ≤ Wd p.lots k
  | 0, _ => Int.le_refl _
  | k + 1, hk => by
    have ih := Wd_pos h k (by omega)
    have hl := h.lot k hk
    have := Int.mul_le_mul ih (show (1 : Int) ≤ (gl p.lots k).u + 1 by omega) (by omega) (by omega)
    unfold Wd; omega
theorem rk_bd {p : Prob} (h : Ok p) {ts : List Int} (hi : inLots p.lots ts) : ∀ k, k ≤ p.lots.length → 0 ≤ rk p.lots ts k ∧ rk p.lots ts k < Wd p.lots k
  | 0, _ => by simp [rk, Wd]
  | k + 1, hk => by
    have ih := rk_bd h hi k (by omega)
    have hw := Wd_pos h k (by omega)
    have ht := hi.2 k hk
    have a := Int.mul_le_mul_of_nonneg_right ht.2 (show 0 ≤ Wd p.lots k by omega)
    have b := Int.mul_nonneg ht.1 (show 0 ≤ Wd p.lots k by omega)
    have c : Wd p.lots (k + 1) = (gl p.lots k).u * Wd p.lots k + Wd p.lots k := by show Wd p.lots k * ((gl p.lots k).u + 1) = _; rw [Int.mul_add, Int.mul_one, Int.mul_comm]
    have d : rk p.lots ts (k + 1) = rk p.lots ts k + gi ts k * Wd p.lots k := rfl
    omega
theorem rk_inj {p : Prob} (h : Ok p) {a b : List Int} (ha : inLots p.lots a) (hb : inLots p.lots b) : ∀ k, k ≤ p.lots.length → rk p.lots a k = rk p.lots b k → ∀ j, j < k → gi a j = gi b j
  | 0, _, _, j, hj => by omega
  | k + 1, hk, e, j, hj => by
    have h1 := rk_bd h ha k (by omega)
    have h2 := rk_bd h hb k (by omega)
    have hw := Wd_pos h k (by omega)
    have e' : rk p.lots a k + gi a k * Wd p.lots k = rk p.lots b k + gi b k * Wd p.lots k := e
    have hk2 : gi a k = gi b k := by
      rcases (show gi a k < gi b k ∨ gi a k = gi b k ∨ gi b k < gi a k by omega) with h' | h' | h'
      · have := Int.mul_le_mul_of_nonneg_right (show gi a k + 1 ≤ gi b k by omega) (show 0 ≤ Wd p.lots k by omega)
        rw [Int.add_mul, Int.one_mul] at this
        omega
      · exact h'
      · have := Int.mul_le_mul_of_nonneg_right (show gi b k + 1 ≤ gi a k by omega) (show 0 ≤ Wd p.lots k by omega)
        rw [Int.add_mul, Int.one_mul] at this
        omega
    rcases Nat.lt_or_ge j k with h' | h'
    · rw [hk2] at e'
      exact rk_inj h ha hb k (by omega) (by omega) j h'
    · rw [show j = k by omega]; exact hk2
theorem csum_congr {ls : List Lot} {a b : List Int} : ∀ k, (∀ j, j < k → gi a j = gi b j) → csum ls a k = csum ls b k
  | 0, _ => rfl
  | k + 1, h => by unfold csum; rw [csum_congr k (fun j hj => h j (by omega)), h k (by omega)]
theorem gsum_congr {ls : List Lot} {a b : List Int} (g : Nat) : ∀ k, (∀ j, j < k → gi a j = gi b j) → gsum ls a g k = gsum ls b g k
  | 0, _ => rfl
  | k + 1, h => by unfold gsum; rw [gsum_congr g k (fun j hj => h j (by omega)), h k (by omega)]
theorem worth_congr {p : Prob} {a b : List Int} (h : ∀ j, j < p.lots.length → gi a j = gi b j) : worthP p a = worthP p b := by
  have : ∀ m, wsum p a m = wsum p b m := by
    intro m
    induction m with
    | zero => rfl
    | succ m ih => unfold wsum; rw [ih, gsum_congr m _ h]
  exact this _
/-- The digits below k are full: they are worth one less than the next. -/
theorem rk_full {ls : List Lot} {ts : List Int} : ∀ k, (∀ j, j < k → gi ts j = (gl ls j).u) → rk ls ts k = Wd ls k - 1
  | 0, _ => by simp [rk, Wd]
  | k + 1, h => by
    have ih := rk_full k (fun j hj => h j (by omega))
    have e : rk ls ts (k + 1) = rk ls ts k + gi ts k * Wd ls k := rfl
    have c : Wd ls (k + 1) = (gl ls k).u * Wd ls k + Wd ls k := by show Wd ls k * ((gl ls k).u + 1) = _; rw [Int.mul_add, Int.mul_one, Int.mul_comm]
    rw [e, ih, h k (by omega), c]; omega
theorem rk_zero {ls : List Lot} {ts : List Int} : ∀ k, (∀ j, j < k → gi ts j = 0) → rk ls ts k = 0
  | 0, _ => rfl
  | k + 1, h => by
    have e : rk ls ts (k + 1) = rk ls ts k + gi ts k * Wd ls k := rfl
    rw [e, rk_zero k (fun j hj => h j (by omega)), h k (by omega)]; simp
theorem rk_tail {ls : List Lot} {a b : List Int} {s : Nat} : ∀ m, (∀ j, s ≤ j → j < s + m → gi a j = gi b j) → rk ls a (s + m) - rk ls a s = rk ls b (s + m) - rk ls b s
  | 0, _ => by simp
  | m + 1, h => by
    have ih := rk_tail (ls := ls) m (fun j h1 h2 => h j h1 (by omega))
    have e1 : rk ls a (s + (m + 1)) = rk ls a (s + m) + gi a (s + m) * Wd ls (s + m) := rfl
    have e2 : rk ls b (s + (m + 1)) = rk ls b (s + m) + gi b (s + m) * Wd ls (s + m) := rfl
    rw [e1, e2, h (s + m) (by omega) (by omega)]; omega
/-- One step on. -/
theorem rk_next {p : Prob} {ts ns : List Int} {k : Nat} (hk : k < p.lots.length) (hf : ∀ j, j < k → gi ts j = (gl p.lots j).u) (hz : ∀ j, j < k → gi ns j = 0) (hn : gi ns k = gi ts k + 1) (ht : ∀ j, k < j → j < p.lots.length → gi ns j = gi ts j) :
    rk p.lots ns p.lots.length = rk p.lots ts p.lots.length + 1 := by
  have a := rk_full (ls := p.lots) k hf
  have b := rk_zero (ls := p.lots) k hz
  have c := rk_tail (ls := p.lots) (a := ns) (b := ts) (s := k + 1) (p.lots.length - (k + 1)) (fun j h1 h2 => ht j (by omega) (by omega))
  rw [show k + 1 + (p.lots.length - (k + 1)) = p.lots.length by omega] at c
  have e1 : rk p.lots ns (k + 1) = rk p.lots ns k + gi ns k * Wd p.lots k := rfl
  have e2 : rk p.lots ts (k + 1) = rk p.lots ts k + gi ts k * Wd p.lots k := rfl
  rw [e1, e2, hn, Int.add_mul, Int.one_mul] at c
  omega
/-- What is found among the choices ahead of one. -/
structure Found (p : Prob) (r : Int) (best : Int) (found : Bool) : Prop where
  ex : found = true → ∃ ts, inLots p.lots ts ∧ p.need ≤ worthP p ts ∧ costP p ts = best
  all : ∀ ts, inLots p.lots ts → p.need ≤ worthP p ts → rk p.lots ts p.lots.length < r → found = true ∧ best ≤ costP p ts
theorem Found.start {p : Prob} (h : Ok p) : Found p 0 0 false :=
  ⟨fun e => (by cases e), fun ts hi _ hr => by have := (rk_bd h hi _ (Nat.le_refl _)).1; omega⟩
theorem Found.skip {p : Prob} (h : Ok p) {ts : List Int} (hi : inLots p.lots ts) {best : Int} {found : Bool} (hf : Found p (rk p.lots ts p.lots.length) best found) (hn : ¬ p.need ≤ worthP p ts) : Found p (rk p.lots ts p.lots.length + 1) best found := by
  refine ⟨hf.ex, fun t ht hw hr => ?_⟩
  rcases Int.lt_or_eq_of_le (show rk p.lots t p.lots.length ≤ rk p.lots ts p.lots.length by omega) with h' | h'
  · exact hf.all t ht hw h'
  · have := rk_inj h ht hi _ (Nat.le_refl _) h'
    rw [worth_congr this] at hw
    exact absurd hw hn
def bestOf (best c : Int) (found : Bool) : Int := if found = false ∨ c < best then c else best
theorem Found.take {p : Prob} (h : Ok p) {ts : List Int} (hi : inLots p.lots ts) {best : Int} {found : Bool} (hf : Found p (rk p.lots ts p.lots.length) best found) (hn : p.need ≤ worthP p ts) : Found p (rk p.lots ts p.lots.length + 1) (bestOf best (costP p ts) found) true := by
  refine ⟨fun _ => ?_, fun t ht hw hr => ⟨rfl, ?_⟩⟩
  · unfold bestOf
    split
    · exact ⟨ts, hi, hn, rfl⟩
    · rename_i hx
      have : found = true := by cases found <;> simp at hx ⊢
      exact hf.ex this
  · have hle : bestOf best (costP p ts) found ≤ costP p ts := by unfold bestOf; split <;> omega
    rcases Int.lt_or_eq_of_le (show rk p.lots t p.lots.length ≤ rk p.lots ts p.lots.length by omega) with h' | h'
    · obtain ⟨a, b⟩ := hf.all t ht hw h'
      have : bestOf best (costP p ts) found ≤ best := by
        unfold bestOf; rw [a]; split
        · rename_i hx; rcases hx with hx | hx
          · cases hx
          · omega
        · omega
      omega
    · have := rk_inj h ht hi _ (Nat.le_refl _) h'
      have hc : costP p t = costP p ts := csum_congr _ this
      omega
/-- The cheapest, by all choices. -/
structure Least (p : Prob) (best : Int) (found : Bool) : Prop where
  ex : found = true → ∃ ts, inLots p.lots ts ∧ p.need ≤ worthP p ts ∧ costP p ts = best
  all : ∀ ts, inLots p.lots ts → p.need ≤ worthP p ts → found = true ∧ best ≤ costP p ts
theorem Found.done {p : Prob} (h : Ok p) {ts : List Int} {best : Int} {found : Bool} (hf : Found p (rk p.lots ts p.lots.length + 1) best found) (hm : ∀ j, j < p.lots.length → gi ts j = (gl p.lots j).u) : Least p best found := by
  refine ⟨hf.ex, fun t ht hw => hf.all t ht hw ?_⟩
  have := rk_full (ls := p.lots) _ hm
  have := (rk_bd h ht _ (Nat.le_refl _)).2
  omega
end Go.Proofs.YtjaegolanbjgfaaDoor
