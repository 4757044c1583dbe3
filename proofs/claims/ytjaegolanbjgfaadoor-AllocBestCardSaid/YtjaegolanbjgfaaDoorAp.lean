import Derived.Test.YtjaegolanbjgfaaDoorSo
import Derived.WalkKit
import Derived.WalkSpells
import Derived.WalkLawsBesides
import Derived.Lib.Hide
import Derived.Deep.DeepCutAuto
import Derived.Deep.LoopGhost
import Derived.Deep.QuietTactic
import Derived.BigQuiet
import Derived.Deep.OwnRows
import Derived.StillTailTactics
import Derived.IntWalk
import Derived.Laws.BitsLemmas
import Derived.Laws.MathBits
import Derived.Laws.Bits64
import Derived.Deep.RegionHeld3
import Derived.BigRegion
import Derived.Lib.SliceRun
import Derived.Deep.AppendLies
set_option linter.unusedVariables false
set_option linter.unusedSimpArgs false
namespace Go.Proofs.YtjaegolanbjgfaaDoor
open Go.RowKit
section
variable {P : Program} {ops : Array Oper} {o : Oper} {a : Act} {K : Act → World → Prop} {Q : Exit → Act → World → Prop} {E : Prop}
/-- append(row, row...) as one step of a region that draws its order; what is appended may be empty, the whole is not. -/
theorem step_app {W : World} (base : Nat) (hgd : o.guard = none) (s x : Operand) (t e : TypeId)
    (ho : o.op = .call { callee := .builtin .append, args := #[s, x], argTypes := #[t, t] })
    (ht : P.underlying t = some (.slice e)) (z : Value) (size bytes : Nat) (hinfo : (P.info? e).map (fun i => (i.zero, i.size, i.bytes)) = some (some z, size, bytes)) (hzs : z.cells.size = size) (hsz : 0 < size)
    (v : Value) (n : Nat) (xs : List Value) (ad : Addr) (m c : Nat) (news : List Value) (hs : a.eval s = v) (hx : a.eval x = .slice (some ad) m c)
    (HO : W.ownsRow base e size v n xs) (hlen : news.length = m * size) (hnews : ∀ j u, news[j]? = some u → W.cell? (ad.add j) = some u) (h1 : ∀ u ∈ news, u.oneCell' = true)
    (hbase : base ≤ W.heap.size) (r : Nat) (hr : n + m = r) (hnm : 0 < r) (hl : r * bytes ≤ 140737488355328) (hm : r ≤ maxLen)
    (h : ∀ g1 cap w1, w1.ownsRow base e size (.slice (some ⟨g1, 0, none⟩) r cap) r (xs ++ news) → W.grownBy w1 v.ownBlock → (v.ownBlock = some g1 ∨ g1 = W.heap.size) → K (a.put o.dst (.slice (some ⟨g1, 0, none⟩) r cap)) w1) :
    if Region.wanted o (yielded ops a.tmps) = true then Oper.wp P o a W K Q else E := by
  subst hr
  obtain ⟨i0, hi, hzz⟩ := Option.map_eq_some_iff.1 hinfo
  simp only [Prod.mk.injEq] at hzz
  obtain ⟨hz0, hz1, hz2⟩ := hzz
  have hw : Region.wanted o (yielded ops a.tmps) = true := by simp [Region.wanted, hgd]
  rw [if_pos hw]
  obtain ⟨v', w', hr, h2, h3, _, h5⟩ := run_append_own_at (P := P) W base t o.type e i0 z size bytes ht hi hz0 hz1 hz2 hzs hsz v n xs HO ad m c news hlen hnews h1 hm hl hbase
  obtain ⟨g, cap, rfl, _, hlt⟩ := h2.form hnm
  have hK := h g cap w' h2 h3 (by
    rcases h5 with h5 | h5
    · exact .inl (by rw [← h5]; rfl)
    · right; simpa [Value.ownBlock] using h5)
  unfold Oper.wp execOp
  simp only [ho, resolve, invoke, builtin, Sem.run_bind, Sem.run_pure, Result.andThen_ok, List.map_toArray, List.map_cons, List.map_nil, hs, hx, hr]
  exact hK
end
theorem flat_one (ls : List Lot) : ∀ u ∈ flat ls, u.oneCell' = true := by
  intro u hu
  simp only [flat, List.mem_flatMap, lotCells, List.mem_cons, List.not_mem_nil, or_false] at hu
  obtain ⟨x, _, h⟩ := hu
  rcases h with rfl | rfl | rfl | rfl <;> simp [Value.oneCell']
theorem lots_cells {w : World} {b o : Nat} {ls : List Lot} (h : LotsAt w (some ⟨b, o, none⟩) ls) : ∀ j u, (flat ls)[j]? = some u → w.cell? ⟨b, o + j, none⟩ = some u := by
  intro j u hu
  have hj : j < ls.length * 4 := by rw [← flat_len]; exact (List.getElem?_eq_some_iff.1 hu).1
  obtain ⟨b', o', e, hc⟩ := h.2 (by omega)
  simp only [Option.some.injEq, Addr.mk.injEq, and_true] at e
  obtain ⟨rfl, rfl⟩ := e
  have e1 : j = (j / 4) * 4 + j % 4 := by omega
  have h4 := flat_at ls (j / 4) (j % 4) (by omega) (by omega)
  rw [← e1, hu] at h4
  obtain ⟨c0, c1, c2, c3⟩ := hc (j / 4) (by omega)
  rw [e1]
  have hm : j % 4 = 0 ∨ j % 4 = 1 ∨ j % 4 = 2 ∨ j % 4 = 3 := by omega
  rcases hm with h' | h' | h' | h' <;> rw [h'] at h4 ⊢ <;> simp only [lotCells, List.getElem?_cons_zero, List.getElem?_cons_succ, Option.some.injEq] at h4 <;> subst h4
  · exact c0
  · rw [← Nat.add_assoc]; exact c1
  · rw [← Nat.add_assoc]; exact c2
  · rw [← Nat.add_assoc]; exact c3
theorem add_at (b o j : Nat) : (⟨b, o, none⟩ : Addr).add j = ⟨b, o + j, none⟩ := by
  unfold Addr.add; split
  · rename_i h; simp [h]
  · rfl
theorem flat_drop (ls : List Lot) : ∀ k, flat (ls.drop k) = (flat ls).drop (k * 4) := by
  induction ls with
  | nil => intro k; simp [flat]
  | cons x r ih =>
    intro k
    rcases k with _ | k
    · simp
    · have := ih k
      simp only [flat, List.flatMap_cons, List.drop_succ_cons] at this ⊢
      rw [this, show (k + 1) * 4 = k * 4 + 1 + 1 + 1 + 1 by omega]
      simp only [lotCells, List.cons_append, List.nil_append, List.drop_succ_cons]
theorem flat_append (a b : List Lot) : flat (a ++ b) = flat a ++ flat b := by simp [flat]
theorem flat_take (ls : List Lot) : ∀ k, flat (ls.take k) = (flat ls).take (k * 4) := by
  induction ls with
  | nil => intro k; simp [flat]
  | cons x r ih =>
    intro k
    rcases k with _ | k
    · simp [flat]
    · have := ih k
      simp only [flat, List.flatMap_cons, List.take_succ_cons] at this ⊢
      rw [this, show (k + 1) * 4 = k * 4 + 1 + 1 + 1 + 1 by omega]
      simp only [lotCells, List.cons_append, List.nil_append, List.take_succ_cons]
theorem lots_drop_cells {w : World} {b o k : Nat} {ls : List Lot} (h : LotsAt w (some ⟨b, o, none⟩) ls) : ∀ j u, (flat (ls.drop k))[j]? = some u → w.cell? ((⟨b, o + k * 4, none⟩ : Addr).add j) = some u := by
  intro j u hu
  rw [flat_drop, List.getElem?_drop] at hu
  rw [add_at, Nat.add_assoc]
  exact lots_cells h _ u hu
theorem lots_take_cells {w : World} {b o k : Nat} {ls : List Lot} (h : LotsAt w (some ⟨b, o, none⟩) ls) : ∀ j u, (flat (ls.take k))[j]? = some u → w.cell? ((⟨b, o, none⟩ : Addr).add j) = some u := by
  intro j u hu
  rw [flat_take, List.getElem?_take] at hu
  split at hu
  · rw [add_at]
    exact lots_cells h _ u hu
  · cases hu

end Go.Proofs.YtjaegolanbjgfaaDoor
