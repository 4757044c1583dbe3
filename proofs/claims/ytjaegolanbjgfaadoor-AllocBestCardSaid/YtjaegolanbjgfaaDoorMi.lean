/- Plain laws: what is sure is the cheapest. No program in sight. -/
import Derived.Test.YtjaegolanbjgfaaDoorMh
set_option linter.unusedVariables false
set_option linter.unusedSimpArgs false
namespace Go.Proofs.YtjaegolanbjgfaaDoor
theorem gl_v0 {q : Prob} (hok : Ok q) (k : Nat) : 0 ≤ (gl q.lots k).v := by
  rcases Nat.lt_or_ge k q.lots.length with h | h
  · exact (hok.lot k h).2.2.1
  · simp [gl, List.getD_eq_getElem?_getD, List.getElem?_eq_none h, z0]
theorem ends_right {q : Prob} (hok : Ok q) {x : St} (hx : StOk q x) {ts : List Int} (hi : inLots q.lots ts) (he : Ext x ts) (hf : q.need ≤ worthP q ts) {cost : Int} (hend : endsB q cost x = true) :
    (if impB q cost x then x.cost else cost) ≤ costP q ts := by
  have hcs := cost_split hx he
  have hws := worth_split hok hx hi he
  have hT0 : 0 ≤ tailS q x.n (fun k => gi ts k * (gl q.lots k).c) := fsum_nonneg _ fun k hk => by
    split
    · omega
    · exact (tc_bd hok hi hk).1
  have hcb := cost_bd hok hi
  have hxb := cost_bd hok hx.i
  rw [← hx.c] at hxb
  by_cases hl : leftP q x ≤ 0
  · unfold impB
    rw [decide_eq_true hl, Bool.true_and]
    split
    · omega
    · rename_i h; have := by simpa using h
      omega
  · have hib : impB q cost x = false := by unfold impB; rw [decide_eq_false hl]; rfl
    rw [hib]
    simp only [Bool.false_eq_true, if_false]
    have hlW : leftP q x ≤ tailS q x.n (fun k => gi ts k * (gl q.lots k).v) := by unfold leftP; omega
    unfold endsB at hend
    rw [if_neg hl] at hend
    by_cases hn : x.n = q.lots.length
    · exfalso
      have : tailS q x.n (fun k => gi ts k * (gl q.lots k).v) = 0 := by
        unfold tailS
        rw [fsum_congr (G := fun _ => 0) _ (fun k hk => by rw [if_pos (by omega)]), fsum_zero]
      omega
    rw [if_neg hn] at hend
    have hcan := tail_can hok hx.n hi
    have hc1 : ¬ canB q x.n (leftP q x) = false := by
      intro h
      unfold canB at h
      have := of_decide_eq_false h
      omega
    rw [if_neg hc1] at hend
    have hr0 : 0 ≤ rateAt q x.n := by
      apply Classical.byContradiction; intro hr
      have : tailS q x.n (fun k => gi ts k * (gl q.lots k).v) = 0 := by
        rw [tail_shift q x.n hx.n, fsum_congr (G := fun _ => 0) _ (fun k hk => ?_), fsum_zero]
        have hnn := rbest_none q.lots x.n _ (show rbest q.lots x.n (q.lots.length - x.n) < 0 by unfold rateAt at hr; omega) k hk
        have hlk := hok.lot (x.n + k) (by omega)
        have hik := hi.2 (x.n + k) (by omega)
        by_cases hv : (gl q.lots (x.n + k)).v = 0
        · show gi ts (x.n + k) * (gl q.lots (x.n + k)).v = 0
          rw [hv, Int.mul_zero]
        · have : gi ts (x.n + k) = 0 := by
            have : ¬ 0 < (gl q.lots (x.n + k)).u := fun h => hnn ⟨by omega, h⟩
            omega
          show gi ts (x.n + k) * (gl q.lots (x.n + k)).v = 0
          rw [this, Int.zero_mul]
      omega
    have hvb := rate_pos q x.n hr0
    have hbn : (rateAt q x.n).toNat < q.lots.length := by have := rbest_rng q.lots x.n (q.lots.length - x.n); have := hx.n; unfold rateAt at hr0 ⊢; omega
    have hlb := hok.lot _ hbn
    have hkey : tailS q x.n (fun k => gi ts k * (gl q.lots k).v) * (gl q.lots (rateAt q x.n).toNat).c ≤ tailS q x.n (fun k => gi ts k * (gl q.lots k).c) * (gl q.lots (rateAt q x.n).toNat).v := by
      rw [tail_shift q x.n hx.n, tail_shift q x.n hx.n, ← fsum_mul, ← fsum_mul]
      refine fsum_le _ fun k hk => ?_
      have hlk := hok.lot (x.n + k) (by omega)
      have hik := hi.2 (x.n + k) (by omega)
      by_cases hv : 0 < (gl q.lots (x.n + k)).v ∧ 0 < (gl q.lots (x.n + k)).u
      · have ho := rbest_opt q.lots x.n (gl_v0 hok) (q.lots.length - x.n) hr0 k hk hv.1 hv.2
        have := Int.mul_le_mul_of_nonneg_left ho hik.1
        rw [← show gi ts (x.n + k) * ((gl q.lots (rbest q.lots x.n (q.lots.length - x.n)).toNat).c * (gl q.lots (x.n + k)).v) = gi ts (x.n + k) * (gl q.lots (x.n + k)).v * (gl q.lots (rateAt q x.n).toNat).c by unfold rateAt; ac_rfl,
          ← show gi ts (x.n + k) * ((gl q.lots (x.n + k)).c * (gl q.lots (rbest q.lots x.n (q.lots.length - x.n)).toNat).v) = gi ts (x.n + k) * (gl q.lots (x.n + k)).c * (gl q.lots (rateAt q x.n).toNat).v by unfold rateAt; ac_rfl]
        exact this
      · have hz : gi ts (x.n + k) * (gl q.lots (x.n + k)).v = 0 := by
          by_cases h : (gl q.lots (x.n + k)).v = 0
          · rw [h, Int.mul_zero]
          · have : gi ts (x.n + k) = 0 := by
              have : ¬ 0 < (gl q.lots (x.n + k)).u := fun h' => hv ⟨by omega, h'⟩
              omega
            rw [this, Int.zero_mul]
        rw [hz, Int.zero_mul]
        exact Int.mul_nonneg (Int.mul_nonneg hik.1 hlk.2.2.2.2.1) (by omega)
    have hn2 : leftP q x * (gl q.lots (rateAt q x.n).toNat).c ≤ tailS q x.n (fun k => gi ts k * (gl q.lots k).c) * (gl q.lots (rateAt q x.n).toNat).v :=
      Int.le_trans (Int.mul_le_mul_of_nonneg_right hlW hlb.2.2.2.2.1) hkey
    have hceil := ceil_le hvb hn2
    have hfit : fitq (leftP q x * (gl q.lots (rateAt q x.n).toNat).c) (gl q.lots (rateAt q x.n).toNat).v = true := by
      unfold fitq; exact decide_eq_true (by omega)
    have hlb1 : leastB q x.n (leftP q x) = true := by unfold leastB; rw [if_neg hl, if_neg (by omega)]; exact hfit
    have hlv : leastV q x.n (leftP q x) = ceilq (leftP q x * (gl q.lots (rateAt q x.n).toNat).c) (gl q.lots (rateAt q x.n).toNat).v := by
      unfold leastV ansq; rw [if_neg hl, if_neg (by omega), hfit, if_pos rfl]
    rw [hlb1, hlv] at hend
    simp only [Bool.true_eq_false, if_false] at hend
    have := of_decide_eq_true hend
    omega
/-- Nothing cheaper is forgotten. -/
def Inv (q : Prob) (s : SS) : Prop := ∀ ts, inLots q.lots ts → q.need ≤ worthP q ts → s.cost ≤ costP q ts ∨ ∃ x ∈ s.stack, Ext x ts
theorem Inv.step {q : Prob} (hok : Ok q) {s : SS} {r : List St} {x : St} (h : Inv q s) (hs : s.stack = r ++ [x]) (hx : StOk q x) : Inv q (stepS q s r x) := by
  intro ts hi hf
  unfold stepS
  cases he : endsB q s.cost x
  · simp only [Bool.false_eq_true, if_false]
    rcases h ts hi hf with h1 | ⟨y, hy, hy2⟩
    · exact Or.inl h1
    · right
      rw [hs] at hy
      rcases List.mem_append.1 hy with hy | hy
      · exact ⟨y, by simp [hy], hy2⟩
      · simp only [List.mem_singleton] at hy; subst hy
        have hn := ends_no he hx.n
        have hik := hi.2 y.n hn
        refine ⟨kid q y (gi ts y.n).toNat, ?_, fun k hk => ?_⟩
        · refine List.mem_append.2 (Or.inr ?_)
          unfold kids kidsN
          refine List.mem_map.2 ⟨(gi ts y.n).toNat, List.mem_range.2 ?_, rfl⟩
          unfold width; omega
        · simp only [kid] at hk ⊢
          rw [gi_set _ _ _ _ (by rw [hx.i.1]; exact hn)]
          split
          · subst k; omega
          · exact hy2 k (by omega)
  · simp only [if_true]
    rcases h ts hi hf with h1 | ⟨y, hy, hy2⟩
    · left
      unfold impB
      split
      · rename_i h'; simp only [Bool.and_eq_true, decide_eq_true_eq] at h'; omega
      · exact h1
    · rw [hs] at hy
      rcases List.mem_append.1 hy with hy | hy
      · exact Or.inr ⟨y, hy, hy2⟩
      · simp only [List.mem_singleton] at hy; subst hy
        exact Or.inl (ends_right hok hx hi hy2 hf he)
/-- What is held is a choice that is enough. -/
structure Good (q : Prob) (s : SS) : Prop where
  i : inLots q.lots s.best
  c : s.cost = costP q s.best
  w : q.need ≤ worthP q s.best
theorem Good.step {q : Prob} {s : SS} {r : List St} {x : St} (h : Good q s) (hx : StOk q x) : Good q (stepS q s r x) := by
  unfold stepS
  split
  · cases hi : impB q s.cost x
    · exact ⟨h.i, h.c, h.w⟩
    · unfold impB at hi
      simp only [Bool.and_eq_true, decide_eq_true_eq] at hi
      exact ⟨hx.i, hx.c, by have := hi.1; unfold leftP at this; simp only [if_true]; omega⟩
  · exact ⟨h.i, h.c, h.w⟩
structure RunRight (q : Prob) (bud cost0 : Int) (R : SS × Bool) : Prop where
  g : Good q R.1
  le : R.1.cost ≤ cost0
  l0 : 0 ≤ R.1.looked
  l1 : R.1.looked ≤ bud
  sure : R.2 = true → ∀ ts, inLots q.lots ts → q.need ≤ worthP q ts → R.1.cost ≤ costP q ts
theorem run_right {q : Prob} (hok : Ok q) (bud cost0 : Int) : ∀ (f : Nat) (s : SS), StkOk q s.stack → wtL q s.stack ≤ f → Inv q s → Good q s → s.cost ≤ cost0 → 0 ≤ s.looked → s.looked ≤ bud → RunRight q bud cost0 (runS q bud f s)
  | 0, s, hk, hw, hI, hG, h1, h2, h3 => ⟨hG, h1, h2, h3, fun _ ts hi hf => by
    rcases hI ts hi hf with h | ⟨x, hx, _⟩
    · exact h
    · exfalso
      obtain ⟨a, b, e⟩ := List.append_of_mem hx
      have hw' : wtL q s.stack ≤ 0 := hw
      rw [e, wtL_add] at hw'
      have := wt_pos q (q.lots.length - x.n)
      simp only [wtL, wtS] at hw'
      omega⟩
  | f + 1, s, hk, hw, hI, hG, h1, h2, h3 => by
    rcases List.eq_nil_or_concat s.stack with h | ⟨r, x, h⟩
    · rw [runS_nil _ _ _ _ h]
      exact ⟨hG, h1, h2, h3, fun _ ts hi hf => by
        rcases hI ts hi hf with h' | ⟨x, hx, _⟩
        · exact h'
        · rw [h] at hx; cases hx⟩
    · rw [List.concat_eq_append] at h
      have hx : StOk q x := hk.ok x (by rw [h]; simp)
      by_cases hb : bud ≤ s.looked
      · rw [runS_out _ _ _ _ _ _ h hb]
        exact ⟨hG, h1, h2, h3, fun h' => by cases h'⟩
      · rw [runS_on _ _ _ _ _ _ h hb]
        have hw' := wt_step h hx.n
        refine run_right hok bud cost0 f _ (hk.step h hok) (by omega) (hI.step hok h hx) (hG.step hx) ?_ ?_ ?_
        · unfold stepS
          split
          · simp only; split
            · rename_i h'; unfold impB at h'; simp only [Bool.and_eq_true, decide_eq_true_eq] at h'; omega
            · exact h1
          · exact h1
        · unfold stepS; split <;> simp only <;> omega
        · unfold stepS; split <;> simp only <;> omega
end Go.Proofs.YtjaegolanbjgfaaDoor
