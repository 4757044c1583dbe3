/- Plain words: the greedy choice, the bound, the search. No program in sight. -/
import Derived.Test.YtjaegolanbjgfaaDoorMb
set_option linter.unusedVariables false
set_option linter.unusedSimpArgs false
namespace Go.Proofs.YtjaegolanbjgfaaDoor
def zeros (n : Nat) : List Int := List.replicate n 0
theorem zeros_len (n : Nat) : (zeros n).length = n := by simp [zeros]
theorem gi_zeros (n k : Nat) : gi (zeros n) k = 0 := by
  simp only [gi, zeros, List.getD_eq_getElem?_getD, List.getElem?_replicate]; split <;> rfl
def inc (ts : List Int) (i : Nat) : List Int := ts.set i (gi ts i + 1)
def gfill (p : Prob) (i : Nat) : Nat → List Int → List Int
  | 0, ts => ts
  | f + 1, ts => if p.need ≤ worthP p ts then ts else if worthP p (inc ts i) ≤ worthP p ts then ts else gfill p i f (inc ts i)
def room (p : Prob) (i : Nat) (ts : List Int) : Nat := ((gl p.lots i).u - gi ts i).toNat
def gall (p : Prob) : List Int → List Int → List Int
  | [], ts => ts
  | i :: r, ts => gall p r (gfill p i.toNat (room p i.toNat ts) ts)
def greedyT (p : Prob) : List Int := gall p (orderP p.lots) (zeros p.lots.length)
theorem inLots_zeros {p : Prob} (h : Ok p) : inLots p.lots (zeros p.lots.length) :=
  ⟨zeros_len _, fun k hk => by rw [gi_zeros]; exact ⟨Int.le_refl _, (h.lot k hk).1⟩⟩
theorem inc_len (ts : List Int) (i : Nat) : (inc ts i).length = ts.length := by simp [inc]
theorem gi_inc (ts : List Int) (i j : Nat) (h : i < ts.length) : gi (inc ts i) j = if j = i then gi ts i + 1 else gi ts j := gi_set _ _ _ _ h
theorem inLots_inc {ls : List Lot} {ts : List Int} (h : inLots ls ts) {i : Nat} (hi : i < ls.length) (hu : gi ts i < (gl ls i).u) : inLots ls (inc ts i) := by
  refine ⟨by rw [inc_len]; exact h.1, fun k hk => ?_⟩
  rw [gi_inc _ _ _ (by rw [h.1]; exact hi)]
  have := h.2 k hk
  split
  · subst k; omega
  · exact this
theorem gfill_in {p : Prob} {i : Nat} (hi : i < p.lots.length) : ∀ (f : Nat) {ts : List Int}, inLots p.lots ts → f ≤ room p i ts → inLots p.lots (gfill p i f ts)
  | 0, ts, h, _ => h
  | f + 1, ts, h, hf => by
    unfold gfill
    split
    · exact h
    split
    · exact h
    · unfold room at hf
      refine gfill_in hi f (inLots_inc h hi (by omega)) ?_
      unfold room
      rw [gi_inc _ _ _ (by rw [h.1]; exact hi), if_pos rfl]
      omega
theorem gall_in {p : Prob} : ∀ (o : List Int) {ts : List Int}, (∀ x ∈ o, 0 ≤ x ∧ x < p.lots.length) → inLots p.lots ts → inLots p.lots (gall p o ts)
  | [], ts, _, h => h
  | i :: r, ts, ho, h => by
    have := ho i (by simp)
    exact gall_in r (fun x hx => ho x (by simp [hx])) (gfill_in (by omega) _ h (Nat.le_refl _))
theorem order_mem (ls : List Lot) : ∀ x ∈ orderP ls, 0 ≤ x ∧ x < ls.length := by
  intro x hx
  obtain ⟨i, hi, rfl⟩ := List.getElem_of_mem hx
  have hp := places_order ls
  have := hp.inr i (by rw [← hp.len]; exact hi)
  simpa [gi, List.getD_eq_getElem?_getD, hi] using this
theorem greedy_in {p : Prob} (h : Ok p) : inLots p.lots (greedyT p) := gall_in _ (order_mem _) (inLots_zeros h)
theorem gfill_full (p : Prob) (i : Nat) (ts : List Int) (h : p.need ≤ worthP p ts) : ∀ f, gfill p i f ts = ts
  | 0 => rfl
  | f + 1 => by unfold gfill; rw [if_pos h]
theorem gfill_room (p : Prob) (i : Nat) (ts : List Int) (h : (gl p.lots i).u ≤ gi ts i) : gfill p i (room p i ts) ts = ts := by
  have : room p i ts = 0 := by unfold room; omega
  rw [this]; rfl
theorem gfill_back (p : Prob) (i : Nat) (ts : List Int) (h : ¬ p.need ≤ worthP p ts) (h' : worthP p (inc ts i) ≤ worthP p ts) : ∀ f, gfill p i f ts = ts
  | 0 => rfl
  | f + 1 => by unfold gfill; rw [if_neg h, if_pos h']
theorem gfill_on (p : Prob) (i : Nat) (ts : List Int) (hi : i < ts.length) (h : ¬ p.need ≤ worthP p ts) (hu : gi ts i < (gl p.lots i).u) (h' : ¬ worthP p (inc ts i) ≤ worthP p ts) :
    gfill p i (room p i ts) ts = gfill p i (room p i (inc ts i)) (inc ts i) ∧ room p i (inc ts i) < room p i ts := by
  have e : room p i ts = room p i (inc ts i) + 1 := by unfold room; rw [gi_inc _ _ _ hi, if_pos rfl]; omega
  rw [e]
  exact ⟨by conv => lhs; unfold gfill
            rw [if_neg h, if_neg h'], by omega⟩
theorem inc_back (ts : List Int) (i : Nat) (hi : i < ts.length) : (inc ts i).set i (gi ts i) = ts := by
  unfold inc; rw [List.set_set]
  apply List.ext_getElem
  · simp
  · intro j h1 h2
    rw [List.getElem_set]
    split
    · subst j; simp [gi, List.getD_eq_getElem?_getD, hi]
    · rfl
theorem drop_gi {xs : List Int} {k : Nat} (h : k < xs.length) : xs.drop k = gi xs k :: xs.drop (k + 1) := by
  rw [List.drop_eq_getElem_cons h]; simp [gi, List.getD_eq_getElem?_getD, h]
end Go.Proofs.YtjaegolanbjgfaaDoor
