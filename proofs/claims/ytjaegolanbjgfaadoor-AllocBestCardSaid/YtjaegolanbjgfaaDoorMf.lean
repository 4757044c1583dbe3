/- Plain words: what the search hands back. No program in sight. -/
import Derived.Test.YtjaegolanbjgfaaDoorMe
set_option linter.unusedVariables false
set_option linter.unusedSimpArgs false
namespace Go.Proofs.YtjaegolanbjgfaaDoor
def sortedP (p : Prob) : Prob := ⟨(orderP p.lots).map fun i => gl p.lots i.toNat, p.caps, p.need⟩
/-- A choice, in the order of the rates; and back. -/
def gath (os ts : List Int) (n : Nat) : Nat → List Int
  | 0 => zeros n
  | k + 1 => (gath os ts n k).set k (gi ts (gi os k).toNat)
def scat (os bs : List Int) (n : Nat) : Nat → List Int
  | 0 => zeros n
  | k + 1 => (scat os bs n k).set (gi os k).toNat (gi bs k)
theorem gath_len (os ts : List Int) (n : Nat) : ∀ k, (gath os ts n k).length = n
  | 0 => zeros_len n
  | k + 1 => by unfold gath; rw [List.length_set, gath_len os ts n k]
theorem scat_len (os bs : List Int) (n : Nat) : ∀ k, (scat os bs n k).length = n
  | 0 => zeros_len n
  | k + 1 => by unfold scat; rw [List.length_set, scat_len os bs n k]
theorem gi_gath (os ts : List Int) (n : Nat) : ∀ k, k ≤ n → ∀ j, j < k → gi (gath os ts n k) j = gi ts (gi os j).toNat
  | 0, _, j, hj => by omega
  | k + 1, hk, j, hj => by
    unfold gath
    rw [gi_set _ _ _ _ (by rw [gath_len]; omega)]
    split
    · subst j; rfl
    · exact gi_gath os ts n k (by omega) j (by omega)
theorem gi_scat {os : List Int} {n : Nat} (ho : Places n os) (bs : List Int) : ∀ k, k ≤ n → ∀ j, j < k → gi (scat os bs n k) (gi os j).toNat = gi bs j
  | 0, _, j, hj => by omega
  | k + 1, hk, j, hj => by
    have hk' := ho.inr k (by omega)
    have hj' := ho.inr j (by omega)
    unfold scat
    rw [gi_set _ _ _ _ (by rw [scat_len]; omega)]
    split
    · rename_i h
      have := ho.inj j k (by omega) (by omega) (by omega)
      subst this; rfl
    · rename_i h
      exact gi_scat ho bs k (by omega) j (by
        rcases Nat.lt_or_ge j k with h' | h'
        · exact h'
        · exact absurd (by rw [show j = k by omega]) h)
/-- What Best says of a problem, and of a budget. -/
def errB (p : Prob) (bud : Int) : Option Nat :=
  match valid p with
  | some k => some k
  | none => if bud < 0 ∨ 100000 < bud then some 0 else if worthP p (greedyT p) < p.need then some 1 else none
def best0 (p : Prob) : List Int := gath (orderP p.lots) (greedyT p) p.lots.length p.lots.length
def srch (p : Prob) (bud : Int) : SS × Bool :=
  if costP p (greedyT p) = 0 then (⟨best0 p, 0, 0, []⟩, true) else runS (sortedP p) bud (wt (sortedP p) p.lots.length) ⟨best0 p, costP p (greedyT p), 0, [⟨zeros p.lots.length, 0, 0⟩]⟩
def takeB (p : Prob) (bud : Int) : List Int := scat (orderP p.lots) (srch p bud).1.best p.lots.length p.lots.length
end Go.Proofs.YtjaegolanbjgfaaDoor
