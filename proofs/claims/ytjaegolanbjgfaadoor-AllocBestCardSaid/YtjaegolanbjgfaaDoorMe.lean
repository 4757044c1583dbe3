/- Plain words: the search for the cheapest choice, step by step. No program in sight. -/
import Derived.Test.YtjaegolanbjgfaaDoorMd
set_option linter.unusedVariables false
set_option linter.unusedSimpArgs false
namespace Go.Proofs.YtjaegolanbjgfaaDoor
/-- A beginning of a choice. -/
structure St where
  take : List Int
  n : Nat
  cost : Int
def leftP (p : Prob) (x : St) : Int := p.need - worthP p x.take
def impB (p : Prob) (cost : Int) (x : St) : Bool := decide (leftP p x ≤ 0) && decide (x.cost < cost)
def endsB (p : Prob) (cost : Int) (x : St) : Bool :=
  if leftP p x ≤ 0 then true else
  if x.n = p.lots.length then true else
  if canB p x.n (leftP p x) = false then true else
  if leastB p x.n (leftP p x) = false then true else
  decide (cost - x.cost ≤ leastV p x.n (leftP p x))
def kid (p : Prob) (x : St) (m : Nat) : St := ⟨x.take.set x.n m, x.n + 1, x.cost + m * (gl p.lots x.n).c⟩
def kidsN (p : Prob) (x : St) (k : Nat) : List St := (List.range k).map (kid p x)
def width (p : Prob) (n : Nat) : Nat := (gl p.lots n).u.toNat + 1
def kids (p : Prob) (x : St) : List St := kidsN p x (width p x.n)
theorem kidsN_succ (p : Prob) (x : St) (k : Nat) : kidsN p x (k + 1) = kidsN p x k ++ [kid p x k] := by simp [kidsN, List.range_succ]
theorem kidsN_len (p : Prob) (x : St) (k : Nat) : (kidsN p x k).length = k := by simp [kidsN]
/-- A beginning that is one. -/
structure StOk (p : Prob) (x : St) : Prop where
  n : x.n ≤ p.lots.length
  i : inLots p.lots x.take
  c : x.cost = costP p x.take
  z : ∀ k, x.n ≤ k → gi x.take k = 0
theorem csum_set (ls : List Lot) (ts : List Int) (j : Nat) (m : Int) (hj : j < ts.length) : ∀ k, csum ls (ts.set j m) k = csum ls ts k + if j < k then (m - gi ts j) * (gl ls j).c else 0
  | 0 => by simp [csum]
  | k + 1 => by
    unfold csum
    rw [csum_set ls ts j m hj k, gi_set _ _ _ _ hj]
    rcases Nat.lt_trichotomy j k with h | h | h
    · rw [if_pos h, if_neg (by omega), if_pos (by omega)]; omega
    · subst h; rw [if_neg (by omega), if_pos rfl, if_pos (by omega), Int.sub_mul]; omega
    · rw [if_neg (by omega), if_neg (by omega), if_neg (by omega)]; omega
theorem StOk.kid {p : Prob} {x : St} (h : StOk p x) (hn : x.n < p.lots.length) {m : Nat} (hm : m < width p x.n) (hu : 0 ≤ (gl p.lots x.n).u) : StOk p (kid p x m) := by
  have hl : x.n < x.take.length := by rw [h.i.1]; exact hn
  unfold width at hm
  refine ⟨hn, ⟨by simp [YtjaegolanbjgfaaDoor.kid, h.i.1], fun k hk => ?_⟩, ?_, fun k hk => ?_⟩
  · simp only [YtjaegolanbjgfaaDoor.kid]
    rw [gi_set _ _ _ _ hl]
    have := h.i.2 k hk
    split
    · subst k; omega
    · exact this
  · simp only [YtjaegolanbjgfaaDoor.kid, costP]
    rw [csum_set _ _ _ _ hl, if_pos hn, h.z x.n (Nat.le_refl _), h.c, costP, Int.sub_zero]
  · simp only [YtjaegolanbjgfaaDoor.kid] at hk ⊢
    rw [gi_set _ _ _ _ hl, if_neg (by omega)]
    exact h.z k (by omega)
/-- What is known of the search. -/
structure SS where
  best : List Int
  cost : Int
  looked : Int
  stack : List St
def stepS (p : Prob) (s : SS) (r : List St) (x : St) : SS :=
  if endsB p s.cost x then ⟨if impB p s.cost x then x.take else s.best, if impB p s.cost x then x.cost else s.cost, s.looked + 1, r⟩
  else ⟨s.best, s.cost, s.looked, r ++ kids p x⟩
def runS (p : Prob) (bud : Int) : Nat → SS → SS × Bool
  | 0, s => (s, true)
  | f + 1, s => match s.stack.getLast? with
    | none => (s, true)
    | some x => if bud ≤ s.looked then (s, false) else runS p bud f (stepS p s s.stack.dropLast x)
theorem runS_nil (p : Prob) (bud : Int) (f : Nat) (s : SS) (h : s.stack = []) : runS p bud f s = (s, true) := by
  cases f with
  | zero => rfl
  | succ f => unfold runS; rw [h]; rfl
theorem runS_out (p : Prob) (bud : Int) (f : Nat) (s : SS) (r : List St) (x : St) (h : s.stack = r ++ [x]) (hb : bud ≤ s.looked) : runS p bud (f + 1) s = (s, false) := by
  unfold runS; rw [h]; simp [hb]
theorem runS_on (p : Prob) (bud : Int) (f : Nat) (s : SS) (r : List St) (x : St) (h : s.stack = r ++ [x]) (hb : ¬ bud ≤ s.looked) : runS p bud (f + 1) s = runS p bud f (stepS p s r x) := by
  conv => lhs; unfold runS
  rw [h]; simp [hb]
/-- How many beginnings lie behind one. -/
def wt (p : Prob) : Nat → Nat
  | 0 => 1
  | k + 1 => 1 + width p (p.lots.length - (k + 1)) * wt p k
def wtS (p : Prob) (x : St) : Nat := wt p (p.lots.length - x.n)
def wtL (p : Prob) : List St → Nat
  | [] => 0
  | x :: r => wtS p x + wtL p r
theorem wtL_add (p : Prob) (a b : List St) : wtL p (a ++ b) = wtL p a + wtL p b := by
  induction a with
  | nil => simp [wtL]
  | cons x r ih => simp only [List.cons_append, wtL, ih]; omega
theorem wt_pos (p : Prob) (k : Nat) : 0 < wt p k := by cases k <;> simp [wt] <;> omega
theorem wtL_kidsN (p : Prob) (x : St) (hn : x.n < p.lots.length) : ∀ k, wtL p (kidsN p x k) = k * wt p (p.lots.length - (x.n + 1))
  | 0 => by simp [kidsN, wtL]
  | k + 1 => by
    rw [kidsN_succ, wtL_add, wtL_kidsN p x hn k]
    simp only [wtL, wtS, kid]
    rw [Nat.add_mul]; omega
theorem wtL_kids (p : Prob) (x : St) (hn : x.n < p.lots.length) : wtL p (kids p x) + 1 = wtS p x := by
  have e : p.lots.length - x.n = (p.lots.length - (x.n + 1)) + 1 := by omega
  unfold kids wtS
  rw [wtL_kidsN p x hn, e, wt, show p.lots.length - (p.lots.length - (x.n + 1) + 1) = x.n by omega]
  omega
theorem ends_no {p : Prob} {cost : Int} {x : St} (h : endsB p cost x = false) (hx : x.n ≤ p.lots.length) : x.n < p.lots.length := by
  unfold endsB at h
  split at h
  · cases h
  split at h
  · cases h
  · omega
theorem wt_step {p : Prob} {s : SS} {r : List St} {x : St} (hs : s.stack = r ++ [x]) (hx : x.n ≤ p.lots.length) : wtL p (stepS p s r x).stack + 1 ≤ wtL p s.stack := by
  rw [hs, wtL_add]
  simp only [wtL]
  unfold stepS
  cases he : endsB p s.cost x
  · have := wtL_kids p x (ends_no he hx)
    simp only [Bool.false_eq_true, if_false, wtL_add]
    omega
  · have := wt_pos p (p.lots.length - x.n)
    simp only [if_true, wtS]
    omega
/-- The beginnings of a stack are ones, and it isn't long. -/
structure StkOk (p : Prob) (st : List St) : Prop where
  ok : ∀ x ∈ st, StOk p x
  pos : ∀ (i : Nat) x, st[i]? = some x → i ≤ 1001 * x.n
theorem StkOk.len {p : Prob} {st : List St} (h : StkOk p st) (h8 : p.lots.length ≤ 8) : st.length ≤ 8009 := by
  rcases Nat.eq_zero_or_pos st.length with h0 | h0
  · omega
  · obtain ⟨y, hy⟩ : ∃ y, st[st.length - 1]? = some y := ⟨_, List.getElem?_eq_getElem (by omega)⟩
    have := h.pos _ _ hy
    have := (h.ok y (List.mem_of_getElem? hy)).n
    omega
theorem StkOk.pre {p : Prob} {r s : List St} (h : StkOk p (r ++ s)) : StkOk p r :=
  ⟨fun x hx => h.ok x (by simp [hx]), fun i x hx => h.pos i x (by rw [List.getElem?_append_left (List.getElem?_eq_some_iff.1 hx).1]; exact hx)⟩
theorem StkOk.push {p : Prob} {r : List St} {x : St} (h : StkOk p (r ++ [x])) (hn : x.n < p.lots.length) (hk : Ok p) : ∀ k, k ≤ width p x.n → StkOk p (r ++ kidsN p x k)
  | 0, _ => by simpa [kidsN] using h.pre
  | k + 1, hk' => by
    have ih := StkOk.push h hn hk k (by omega)
    have hl := hk.lot x.n hn
    have hx : StOk p x := h.ok x (by simp)
    have hxp := h.pos r.length x (by simp)
    rw [kidsN_succ, ← List.append_assoc]
    refine ⟨fun y hy => ?_, fun i y hy => ?_⟩
    · rcases List.mem_append.1 hy with hy | hy
      · exact ih.ok y hy
      · simp only [List.mem_singleton] at hy; subst hy; exact hx.kid hn (by omega) hl.1
    · rcases Nat.lt_or_ge i (r ++ kidsN p x k).length with hi | hi
      · rw [List.getElem?_append_left hi] at hy; exact ih.pos i y hy
      · rw [List.getElem?_append_right hi] at hy
        have hi0 : i - (r ++ kidsN p x k).length = 0 := by
          have := (List.getElem?_eq_some_iff.1 hy).1; simp at this ⊢; omega
        rw [hi0] at hy
        simp only [List.getElem?_cons_zero, Option.some.injEq] at hy
        subst hy
        simp only [List.length_append, kidsN_len] at hi hi0
        simp only [kid]
        unfold width at hk'
        omega
theorem StkOk.step {p : Prob} {s : SS} {r : List St} {x : St} (h : StkOk p s.stack) (hs : s.stack = r ++ [x]) (hk : Ok p) : StkOk p (stepS p s r x).stack := by
  rw [hs] at h
  unfold stepS
  cases he : endsB p s.cost x
  · simp only [Bool.false_eq_true, if_false]
    exact h.push (ends_no he (h.ok x (by simp)).n) hk _ (Nat.le_refl _)
  · simp only [if_true]
    exact h.pre
end Go.Proofs.YtjaegolanbjgfaaDoor
