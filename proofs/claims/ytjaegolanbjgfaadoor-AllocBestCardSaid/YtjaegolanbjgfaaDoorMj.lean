/- Plain laws: what Best hands back is right. No program in sight. -/
import Derived.Test.YtjaegolanbjgfaaDoorMi
set_option linter.unusedVariables false
set_option linter.unusedSimpArgs false
namespace Go.Proofs.YtjaegolanbjgfaaDoor
theorem okS {p : Prob} (h : Ok p) : Ok (sortedP p) := by
  refine ⟨by rw [lenS]; exact h.n0, by rw [lenS]; exact h.n8, h.m0, h.m8, fun k hk => ?_, h.cap, h.need0, h.need1⟩
  rw [lenS] at hk
  have hp := (places_order p.lots).inr k hk
  rw [glS p hk]
  exact h.lot _ (by omega)
/-- A choice of the one is a choice of the other. -/
theorem gath_in {p : Prob} {ts : List Int} (hi : inLots p.lots ts) : inLots (sortedP p).lots (gath (orderP p.lots) ts p.lots.length p.lots.length) := by
  refine ⟨by rw [gath_len, lenS], fun k hk => ?_⟩
  rw [lenS] at hk
  have hp := (places_order p.lots).inr k hk
  rw [gi_gath _ _ _ _ (Nat.le_refl _) k hk, glS p hk]
  exact hi.2 _ (by omega)
theorem scat_in {p : Prob} (hok : Ok p) {bs : List Int} (hi : inLots (sortedP p).lots bs) : ∀ k, k ≤ p.lots.length → inLots p.lots (scat (orderP p.lots) bs p.lots.length k)
  | 0, _ => inLots_zeros hok
  | k + 1, hk => by
    have ih := scat_in hok hi k (by omega)
    have hp := (places_order p.lots).inr k (by omega)
    have hb := hi.2 k (by rw [lenS]; omega)
    rw [glS p (by omega)] at hb
    refine ⟨scat_len _ _ _ _, fun j hj => ?_⟩
    unfold scat
    rw [gi_set _ _ _ _ (by rw [scat_len]; omega)]
    split
    · subst j; exact hb
    · exact ih.2 j hj
structure BestRight (p : Prob) (bud : Int) : Prop where
  i : inLots p.lots (takeB p bud)
  w : p.need ≤ worthP p (takeB p bud)
  c : costP p (takeB p bud) = (srch p bud).1.cost
  le : costP p (takeB p bud) ≤ costP p (greedyT p)
  l0 : 0 ≤ (srch p bud).1.looked
  l1 : (srch p bud).1.looked ≤ bud
  sure : (srch p bud).2 = true → ∀ ts, inLots p.lots ts → p.need ≤ worthP p ts → costP p (takeB p bud) ≤ costP p ts
theorem best0_good {p : Prob} (hok : Ok p) (hg : p.need ≤ worthP p (greedyT p)) : inLots (sortedP p).lots (best0 p) ∧ costP (sortedP p) (best0 p) = costP p (greedyT p) ∧ worthP (sortedP p) (best0 p) = worthP p (greedyT p) :=
  ⟨gath_in (greedy_in hok), cost_order p _ _ fun k hk => gi_gath _ _ _ _ (Nat.le_refl _) k hk, worth_order p _ _ fun k hk => gi_gath _ _ _ _ (Nat.le_refl _) k hk⟩
theorem StkOk.rootS {p : Prob} (h : Ok p) : StkOk (sortedP p) [⟨zeros p.lots.length, 0, 0⟩] := by
  have cz : ∀ k, csum (sortedP p).lots (zeros p.lots.length) k = 0 := fun k => by
    induction k with
    | zero => rfl
    | succ k ih => unfold csum; rw [ih, gi_zeros]; simp
  refine ⟨fun x hx => ?_, fun i x hx => ?_⟩
  · simp only [List.mem_singleton] at hx; subst hx
    have := inLots_zeros (okS h)
    rw [lenS] at this
    exact ⟨Nat.zero_le _, this, (cz _).symm, fun k _ => gi_zeros _ _⟩
  · have := (List.getElem?_eq_some_iff.1 hx).1; simp at this; omega
theorem srch_right {p : Prob} (hok : Ok p) {bud : Int} (hb : 0 ≤ bud) (hg : p.need ≤ worthP p (greedyT p)) : RunRight (sortedP p) bud (costP p (greedyT p)) (srch p bud) := by
  obtain ⟨b1, b2, b3⟩ := best0_good hok hg
  unfold srch
  split
  · rename_i hz
    exact ⟨⟨b1, by simp only; omega, by simp only; rw [b3]; exact hg⟩, by simp only; omega, Int.le_refl _, hb, fun _ ts hi _ => by
      have := cost_bd (okS hok) hi; simp only; omega⟩
  · refine run_right (okS hok) bud _ _ _ (StkOk.rootS hok) ?_ (fun ts hi hf => Or.inr ⟨_, List.mem_singleton.2 rfl, fun k hk => absurd hk (by simp)⟩) ⟨b1, by simp only; omega, by simp only; rw [b3]; exact hg⟩ (Int.le_refl _) (Int.le_refl _) hb
    simp [wtL, wtS, lenS]
theorem best_law {p : Prob} (hok : Ok p) {bud : Int} (hb : 0 ≤ bud) (hg : p.need ≤ worthP p (greedyT p)) : BestRight p bud := by
  have h := srch_right hok hb hg
  have hs : ∀ k, k < p.lots.length → gi (srch p bud).1.best k = gi (takeB p bud) (gi (orderP p.lots) k).toNat := fun k hk =>
    (gi_scat (places_order p.lots) _ _ (Nat.le_refl _) k hk).symm
  have hw := worth_order p (takeB p bud) (srch p bud).1.best hs
  have hc := cost_order p (takeB p bud) (srch p bud).1.best hs
  have hcc : costP p (takeB p bud) = (srch p bud).1.cost := by rw [← hc, h.g.c]
  refine ⟨scat_in hok h.g.i _ (Nat.le_refl _), by rw [← hw]; exact h.g.w, hcc, by rw [hcc]; exact h.le, h.l0, h.l1, fun hsu ts hi hf => ?_⟩
  have e1 := worth_order p ts (gath (orderP p.lots) ts p.lots.length p.lots.length) fun k hk => gi_gath _ _ _ _ (Nat.le_refl _) k hk
  have e2 := cost_order p ts (gath (orderP p.lots) ts p.lots.length p.lots.length) fun k hk => gi_gath _ _ _ _ (Nat.le_refl _) k hk
  rw [hcc, ← e2]
  exact h.sure hsu _ (gath_in hi) (by rw [e1]; exact hf)
/-- How many choices lie behind a beginning. -/
def leafN (q : Prob) : Nat → Nat
  | 0 => 1
  | k + 1 => width q (q.lots.length - (k + 1)) * leafN q k
def leafL (q : Prob) : List St → Nat
  | [] => 0
  | x :: r => leafN q (q.lots.length - x.n) + leafL q r
theorem leafL_add (q : Prob) (a b : List St) : leafL q (a ++ b) = leafL q a + leafL q b := by
  induction a with
  | nil => simp [leafL]
  | cons x r ih => simp only [List.cons_append, leafL, ih]; omega
theorem leafN_pos (q : Prob) : ∀ k, 0 < leafN q k
  | 0 => by simp [leafN]
  | k + 1 => by unfold leafN; exact Nat.mul_pos (by unfold width; omega) (leafN_pos q k)
theorem leafL_kidsN (q : Prob) (x : St) : ∀ k, leafL q (kidsN q x k) = k * leafN q (q.lots.length - (x.n + 1))
  | 0 => by simp [kidsN, leafL]
  | k + 1 => by
    rw [kidsN_succ, leafL_add, leafL_kidsN q x k]
    simp only [leafL, kid]
    rw [Nat.add_mul]; omega
theorem leaf_step {q : Prob} {s : SS} {r : List St} {x : St} (hs : s.stack = r ++ [x]) (hx : x.n ≤ q.lots.length) : (stepS q s r x).looked + leafL q (stepS q s r x).stack ≤ s.looked + leafL q s.stack := by
  rw [hs, leafL_add]
  simp only [leafL]
  unfold stepS
  cases he : endsB q s.cost x
  · have hn := ends_no he hx
    have e : q.lots.length - x.n = (q.lots.length - (x.n + 1)) + 1 := by omega
    simp only [Bool.false_eq_true, if_false, leafL_add]
    unfold kids
    rw [leafL_kidsN, e, leafN, show q.lots.length - (q.lots.length - (x.n + 1) + 1) = x.n by omega]
    omega
  · have := leafN_pos q (q.lots.length - x.n)
    simp only [if_true]
    omega
theorem run_sure {q : Prob} (hok : Ok q) (bud : Int) : ∀ (f : Nat) (s : SS), StkOk q s.stack → s.looked + leafL q s.stack ≤ bud → (runS q bud f s).2 = true
  | 0, s, _, _ => rfl
  | f + 1, s, hk, hl => by
    rcases List.eq_nil_or_concat s.stack with h | ⟨r, x, h⟩
    · rw [runS_nil _ _ _ _ h]
    · rw [List.concat_eq_append] at h
      have hx : StOk q x := hk.ok x (by rw [h]; simp)
      have hlt : ¬ bud ≤ s.looked := by
        rw [h, leafL_add] at hl
        have := leafN_pos q (q.lots.length - x.n)
        simp only [leafL] at hl
        omega
      rw [runS_on _ _ _ _ _ _ h hlt]
      exact run_sure hok bud f _ (hk.step h hok) (by have := leaf_step h hx.n; omega)
/-- With a budget as great as all choices it is sure. -/
theorem sure_law {p : Prob} (hok : Ok p) {bud : Int} (h : (leafN (sortedP p) p.lots.length : Int) ≤ bud) : (srch p bud).2 = true := by
  unfold srch
  split
  · rfl
  · exact run_sure (okS hok) bud _ _ (StkOk.rootS hok) (by simp [leafL, lenS]; exact h)
end Go.Proofs.YtjaegolanbjgfaaDoor
