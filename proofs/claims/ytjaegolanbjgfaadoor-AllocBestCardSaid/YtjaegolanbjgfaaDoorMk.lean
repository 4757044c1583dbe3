/- Plain law: where the greedy choice is worth less than is needed, every choice is. No program in sight. -/
import Derived.Test.YtjaegolanbjgfaaDoorMh
set_option linter.unusedVariables false
set_option linter.unusedSimpArgs false
namespace Go.Proofs.YtjaegolanbjgfaaDoor
theorem gsum_inc (ls : List Lot) (ts : List Int) (i g : Nat) (hi : i < ts.length) : ∀ k, gsum ls (inc ts i) g k = gsum ls ts g k + if i < k ∧ (gl ls i).g = g then (gl ls i).v else 0
  | 0 => by simp [gsum]
  | k + 1 => by
    unfold gsum
    rw [gsum_inc ls ts i g hi k, gi_inc _ _ _ hi]
    by_cases h : k = i
    · subst h
      by_cases hg : (gl ls k).g = g
      · simp [hg, Int.add_mul]; omega
      · simp [hg]
    · simp only [h, if_false]
      by_cases hg : (gl ls i).g = g
      · by_cases hik : i < k
        · simp only [hik, hg, show i < k + 1 by omega, and_self, if_true]; omega
        · simp only [hik, hg, show ¬ i < k + 1 by omega, false_and, if_false]; omega
      · simp only [hg, and_false, if_false]; omega
theorem wsum_inc {p : Prob} (ts : List Int) (i : Nat) (hi : i < ts.length) (hn : i < p.lots.length) {g : Nat} (hg : (gl p.lots i).g = g) : ∀ m, wsum p (inc ts i) m = wsum p ts m + if g < m then capped (gi p.caps g) (gsum p.lots ts g p.lots.length + (gl p.lots i).v) - capped (gi p.caps g) (gsum p.lots ts g p.lots.length) else 0
  | 0 => by simp [wsum]
  | m + 1 => by
    unfold wsum
    rw [wsum_inc ts i hi hn hg m, gsum_inc _ _ _ _ hi]
    by_cases h : m = g
    · subst h
      simp [hn, hg]; omega
    · have : ¬ (gl p.lots i).g = m := by omega
      simp only [this, and_false, if_false, Int.add_zero]
      by_cases hgm : g < m
      · simp only [hgm, show g < m + 1 by omega, if_true]; omega
      · simp only [hgm, show ¬ g < m + 1 by omega, if_false]; omega
/-- One unit more of a lot does not help. -/
def Stuck (p : Prob) (ts : List Int) (i : Nat) : Prop :=
  gi ts i = (gl p.lots i).u ∨ (gl p.lots i).v = 0 ∨ ∃ g : Nat, (gl p.lots i).g = g ∧ 0 < gi p.caps g ∧ gi p.caps g ≤ gsum p.lots ts g p.lots.length
def Up (n : Nat) (ts rs : List Int) : Prop := ∀ k, k < n → gi ts k ≤ gi rs k
theorem Up.refl (n : Nat) (ts : List Int) : Up n ts ts := fun _ _ => Int.le_refl _
theorem Up.trans {n : Nat} {a b c : List Int} (h : Up n a b) (h' : Up n b c) : Up n a c := fun k hk => Int.le_trans (h k hk) (h' k hk)
theorem gsum_up {p : Prob} (hok : Ok p) {ts rs : List Int} (h : Up p.lots.length ts rs) (g : Nat) : gsum p.lots ts g p.lots.length ≤ gsum p.lots rs g p.lots.length := by
  rw [gsum_fsum, gsum_fsum]
  refine fsum_le _ fun k hk => ?_
  split
  · exact Int.mul_le_mul_of_nonneg_right (h k hk) (hok.lot k hk).2.2.1
  · exact Int.le_refl _
theorem Stuck.up {p : Prob} (hok : Ok p) {ts rs : List Int} {i : Nat} (hi : i < p.lots.length) (h : Stuck p ts i) (hu : Up p.lots.length ts rs) (hr : inLots p.lots rs) : Stuck p rs i := by
  rcases h with h | h | ⟨g, h1, h2, h3⟩
  · left; have := hu i hi; have := (hr.2 i hi).2; omega
  · right; left; exact h
  · right; right; exact ⟨g, h1, h2, Int.le_trans h3 (gsum_up hok hu g)⟩
theorem capped_stuck {c G v : Int} (hv : 0 < v) (h : capped c (G + v) ≤ capped c G) : 0 < c ∧ c ≤ G := by
  unfold capped at h
  split at h <;> omega
theorem gfill_stuck {p : Prob} (hok : Ok p) {i : Nat} (hi : i < p.lots.length) : ∀ (f : Nat) {ts : List Int}, inLots p.lots ts → f = room p i ts →
    Up p.lots.length ts (gfill p i f ts) ∧ (p.need ≤ worthP p (gfill p i f ts) ∨ Stuck p (gfill p i f ts) i)
  | 0, ts, h, hf => by
    refine ⟨Up.refl _ _, Or.inr (Or.inl ?_)⟩
    have := (h.2 i hi).2
    unfold room at hf
    show gi ts i = _
    omega
  | f + 1, ts, h, hf => by
    unfold gfill
    split
    · rename_i hw
      exact ⟨Up.refl _ _, Or.inl hw⟩
    split
    · rename_i hw hb
      refine ⟨Up.refl _ _, Or.inr (Or.inr ?_)⟩
      have hl := hok.lot i hi
      obtain ⟨g, hg⟩ := Int.eq_ofNat_of_zero_le hl.2.2.2.2.2.2.1
      have hgm : g < p.caps.length := by omega
      have he := wsum_inc (p := p) ts i (by rw [h.1]; exact hi) hi hg p.caps.length
      unfold worthP at hb
      rw [if_pos hgm] at he
      rw [he] at hb
      by_cases hv : (gl p.lots i).v = 0
      · exact Or.inl hv
      · exact Or.inr ⟨g, hg, capped_stuck (v := (gl p.lots i).v) (by omega) (by omega)⟩
    · rename_i hw hb
      have hlt : gi ts i < (gl p.lots i).u := by unfold room at hf; omega
      have ih := gfill_stuck hok hi f (inLots_inc h hi hlt) (by
        unfold room at hf ⊢
        rw [gi_inc _ _ _ (by rw [h.1]; exact hi), if_pos rfl]; omega)
      refine ⟨Up.trans (fun k hk => ?_) ih.1, ih.2⟩
      rw [gi_inc _ _ _ (by rw [h.1]; exact hi)]
      split
      · subst k; omega
      · exact Int.le_refl _
theorem gall_full (p : Prob) : ∀ (o : List Int) (ts : List Int), p.need ≤ worthP p ts → gall p o ts = ts
  | [], _, _ => rfl
  | i :: r, ts, h => by unfold gall; rw [gfill_full p _ ts h]; exact gall_full p r ts h
theorem gall_stuck {p : Prob} (hok : Ok p) : ∀ (o : List Int) {ts : List Int}, (∀ x ∈ o, 0 ≤ x ∧ x < p.lots.length) → inLots p.lots ts →
    p.need ≤ worthP p (gall p o ts) ∨ (Up p.lots.length ts (gall p o ts) ∧ ∀ x ∈ o, Stuck p (gall p o ts) x.toNat)
  | [], ts, _, _ => Or.inr ⟨Up.refl _ _, fun x hx => by cases hx⟩
  | i :: r, ts, ho, h => by
    have hi := ho i (by simp)
    have hin : inLots p.lots (gfill p i.toNat (room p i.toNat ts) ts) := gfill_in (by omega) _ h (Nat.le_refl _)
    obtain ⟨h1, h2⟩ := gfill_stuck hok (i := i.toNat) (by omega) _ h rfl
    unfold gall
    rcases h2 with h2 | h2
    · left; rw [gall_full p r _ h2]; exact h2
    rcases gall_stuck hok r (fun x hx => ho x (by simp [hx])) hin with h3 | ⟨h3, h4⟩
    · exact Or.inl h3
    · refine Or.inr ⟨Up.trans h1 h3, fun x hx => ?_⟩
      rcases List.mem_cons.1 hx with rfl | hx
      · exact h2.up hok (by omega) h3 (gall_in r (fun y hy => ho y (by simp [hy])) hin)
      · exact h4 x hx
theorem order_all (ls : List Lot) {i : Nat} (hi : i < ls.length) : ∃ x ∈ orderP ls, x = (i : Int) := by
  have h := fsum_order (fun x => if (i : Int) = x then 1 else 0) ls
  rw [fsum_one 1 (i : Int) (by omega), if_pos (by omega)] at h
  by_cases hex : ∃ k, k < ls.length ∧ gi (orderP ls) k = (i : Int)
  · obtain ⟨k, hk, e⟩ := hex
    exact ⟨_, gi_mem (by rw [(places_order ls).len]; exact hk), e⟩
  · rw [fsum_congr (G := fun _ => 0) ls.length (fun k hk => by
      rw [if_neg]; intro e; exact hex ⟨k, hk, e.symm⟩), fsum_zero] at h
    omega
/-- Where every lot is stuck no choice is worth more. -/
theorem stuck_most {p : Prob} (hok : Ok p) {ts rs : List Int} (ht : inLots p.lots ts) (hr : inLots p.lots rs) (h : ∀ i, i < p.lots.length → Stuck p ts i) : worthP p rs ≤ worthP p ts := by
  unfold worthP
  have key : ∀ g, g < p.caps.length → capped (gi p.caps g) (gsum p.lots rs g p.lots.length) ≤ capped (gi p.caps g) (gsum p.lots ts g p.lots.length) := by
    intro g hg
    by_cases hc : 0 < gi p.caps g ∧ gi p.caps g ≤ gsum p.lots ts g p.lots.length
    · unfold capped; rw [if_pos hc.1, if_pos hc.1]; omega
    · have hle : gsum p.lots rs g p.lots.length ≤ gsum p.lots ts g p.lots.length := by
        rw [gsum_fsum, gsum_fsum]
        refine fsum_le _ fun k hk => ?_
        split
        · rename_i hkg
          rcases h k hk with h1 | h1 | ⟨g', h1, h2, h3⟩
          · rw [h1]; exact Int.mul_le_mul_of_nonneg_right (hr.2 k hk).2 (hok.lot k hk).2.2.1
          · rw [h1]; simp
          · have : g' = g := by omega
            subst this
            exact absurd ⟨h2, h3⟩ hc
        · exact Int.le_refl _
      unfold capped; split <;> omega
  have : ∀ m, m ≤ p.caps.length → wsum p rs m ≤ wsum p ts m := by
    intro m
    induction m with
    | zero => intro _; simp [wsum]
    | succ m ih =>
      intro hm
      have h1 := ih (by omega)
      have h2 := key m (by omega)
      unfold wsum
      omega
  exact this _ (Nat.le_refl _)
/-- Where the greedy choice is worth less than is needed, every choice is. -/
theorem greedy_most {p : Prob} (hok : Ok p) (hg : worthP p (greedyT p) < p.need) {ts : List Int} (hi : inLots p.lots ts) : worthP p ts ≤ worthP p (greedyT p) := by
  rcases gall_stuck hok (orderP p.lots) (order_mem p.lots) (inLots_zeros hok) with h | ⟨_, h⟩
  · unfold greedyT at hg; omega
  · refine stuck_most hok (greedy_in hok) hi fun i hin => ?_
    obtain ⟨x, hx, e⟩ := order_all p.lots hin
    have := h x hx
    rw [e] at this
    exact this
end Go.Proofs.YtjaegolanbjgfaaDoor
