import Derived.Deep.RegionLaw
import Derived.Test.YtjaegolanbjgfaaDoorCl
import Derived.WalkKit
import Derived.WalkSpells
import Derived.WalkLawsBesides
import Derived.Lib.Hide
import Derived.Deep.DeepCutAuto
import Derived.Deep.LoopGhost
import Derived.Deep.QuietTactic
import Derived.BigQuiet
import Derived.Deep.OwnRows
import Derived.StillTailTactics
import Derived.IntWalk
import Derived.Laws.BitsLemmas
import Derived.Laws.MathBits
import Derived.Laws.Bits64
import Derived.Deep.RegionHeld3
import Derived.BigRegion
import Derived.Lib.SliceRun
import Derived.Deep.AppendLies
set_option linter.unusedVariables false
set_option linter.unusedSimpArgs false
namespace Go.Proofs.YtjaegolanbjgfaaDoor
open Go.RowKit
def lotCells (x : Lot) : List Value := [.int .i64 x.u, .int .i64 x.v, .int .i64 x.c, .int .i64 x.g]
def flat (ls : List Lot) : List Value := ls.flatMap lotCells
theorem flat_len (ls : List Lot) : (flat ls).length = ls.length * 4 := by
  induction ls with
  | nil => rfl
  | cons x r ih => simp only [flat, List.flatMap_cons, List.length_append, List.length_cons] at ih ⊢; simp only [lotCells, List.length_cons, List.length_nil]; omega
theorem flat_at (ls : List Lot) : ∀ (j i : Nat), j < ls.length → i < 4 → (flat ls)[j * 4 + i]? = (lotCells (gl ls j))[i]? := by
  induction ls with
  | nil => intro j i h; simp at h
  | cons x r ih =>
    intro j i hj hi
    simp only [flat, List.flatMap_cons]
    rcases j with _ | j
    · rw [List.getElem?_append_left (by simp [lotCells]; omega)]; simp [gl]
    · rw [List.getElem?_append_right (by simp [lotCells]; omega)]
      have := ih j i (by simpa using hj) hi
      simp only [flat] at this
      rw [show (j + 1) * 4 + i - (lotCells x).length = j * 4 + i by simp [lotCells]; omega, this]
      simp [gl]
theorem flat_add (ls : List Lot) (x : Lot) : flat (ls ++ [x]) = flat ls ++ lotCells x := by simp [flat]
def OwnL (w : World) (base : Nat) (v : Value) (ls : List Lot) : Prop := w.ownsRow base 48 4 v ls.length (flat ls)
theorem OwnL.lots {w : World} {base : Nat} {g n c : Nat} {ls : List Lot} (h : OwnL w base (.slice (some ⟨g, 0, none⟩) n c) ls) : LotsAt w (some ⟨g, 0, none⟩) ls ∧ n = ls.length ∧ n ≤ c ∧ base ≤ g ∧ g < w.heap.size := by
  have hc := fun j u => World.ownsRow.cells h (g := g) rfl j u
  rcases h.2 with ⟨h', _⟩ | ⟨g', cap, cur, h', hb, hh, h1, h3, _⟩
  · simp at h'
  · simp only [Value.slice.injEq, Option.some.injEq, Addr.mk.injEq] at h'
    obtain ⟨⟨rfl, _⟩, rfl, rfl⟩ := h'
    refine ⟨⟨by simp only [maxLen] at h3; omega, fun hp => ⟨g, 0, rfl, fun j hj => ?_⟩⟩, rfl, h1, hb, (Array.getElem?_eq_some_iff.1 hh).1⟩
    have e := fun i hi => flat_at ls j i hj hi
    have k := fun i (hi : i < 4) u (hu : (lotCells (gl ls j))[i]? = some u) => (add0 g (j * 4 + i)) ▸ hc (j * 4 + i) u ((e i hi).trans hu)
    have k0 := k 0 (by omega) _ rfl
    have k1 := k 1 (by omega) _ rfl
    have k2 := k 2 (by omega) _ rfl
    have k3 := k 3 (by omega) _ rfl
    simp only [Nat.zero_add, Nat.add_zero] at k0 k1 k2 k3 ⊢
    exact ⟨k0, k1, k2, k3⟩
def pickL (ls : List Lot) (os : List Int) : List Lot := os.map fun i => gl ls i.toNat
theorem pickL_take (ls : List Lot) (os : List Int) {k : Nat} (h : k < os.length) {i : Nat} (hi : gi os k = i) : pickL ls (os.take (k + 1)) = pickL ls (os.take k) ++ [gl ls i] := by
  unfold pickL
  rw [List.take_succ_eq_append_getElem h, List.map_append]
  have : os[k] = (i : Int) := by rw [← hi]; simp [gi, List.getD_eq_getElem?_getD, h]
  simp [this]
theorem pickL_len (ls : List Lot) (os : List Int) : (pickL ls os).length = os.length := by simp [pickL]
section
variable {P : Program} {ops : Array Oper} {o : Oper} {a : Act} {K : Act → World → Prop} {Q : Exit → Act → World → Prop} {E : Prop}
/-- append(row, element) as one step of a region that draws its order. -/
theorem step_row {W : World} (base : Nat) (hgd : o.guard = none) (s x : Operand) (t e : TypeId)
    (ho : o.op = .call { callee := .builtin .append, args := #[s, x], argTypes := #[t, t] })
    (ht : P.underlying t = some (.slice e)) (z : Value) (size bytes : Nat) (hinfo : (P.info? e).map (fun i => (i.zero, i.size, i.bytes)) = some (some z, size, bytes)) (hzs : z.cells.size = size) (hsz : 0 < size)
    (v : Value) (n : Nat) (xs : List Value) (cs : Array Value) (g : Nat) (hs : a.eval s = v) (hx : a.eval x = .slice (some ⟨g, 0, none⟩) 1 1) (hg : g = W.heap.size) (hcs : cs.size = size) (h1 : ∀ u ∈ cs.toList, u.oneCell' = true)
    (HO : W.ownsRow base e size v n xs) (hbase : base ≤ W.heap.size) (hl : (n + 1) * bytes ≤ 140737488355328) (hm : n + 1 ≤ maxLen)
    (h : ∀ g1 cap w1, w1.ownsRow base e size (.slice (some ⟨g1, 0, none⟩) (n + 1) cap) (n + 1) (xs ++ cs.toList) → W.grownBy w1 v.ownBlock → K (a.put o.dst (.slice (some ⟨g1, 0, none⟩) (n + 1) cap)) w1) :
    if Region.wanted o (yielded ops a.tmps) = true then Oper.wp P o a (W.alloc (.cells cs e)) K Q else E := by
  subst hg
  obtain ⟨i0, hi, hzz⟩ := Option.map_eq_some_iff.1 hinfo
  simp only [Prod.mk.injEq] at hzz
  obtain ⟨hz0, hz1, hz2⟩ := hzz
  refine step_append_lies (W.alloc (.cells cs e)) hgd s x t ho base e i0 z size bytes ht hi hz0 hz1 hz2 hzs hsz v n xs hs (HO.alloc _) ⟨W.heap.size, 0, none⟩ 1 1 cs.toList hx (by simpa using hcs) (World.news_of_block (heap_alloc_new _ _)) h1 (by omega) hm hl (by simp; omega) _ rfl ?_
  intro g1 cap w1 hown hgr _ _
  exact h g1 cap w1 hown (World.grownBy.trans (World.grownBy_alloc W _ _) hgr)
end
theorem info48 : (Tryd.prog.info? 48).map (fun i => (i.zero, i.size, i.bytes)) = some (some (.agg #[.int .i64 0, .int .i64 0, .int .i64 0, .int .i64 0]), 4, 32) := by kernel_rfl
theorem three_new (w : World) (o1 o2 o3 : Obj) : (((w.alloc o1).alloc o2).alloc o3).heap[w.heap.size]? = some o1 ∧ (((w.alloc o1).alloc o2).alloc o3).heap[w.heap.size + 1]? = some o2 ∧ (((w.alloc o1).alloc o2).alloc o3).heap[w.heap.size + 2]? = some o3 := by
  have e1 : (w.alloc o1).heap.size = w.heap.size + 1 := by simp
  have e2 : ((w.alloc o1).alloc o2).heap.size = w.heap.size + 2 := by simp
  refine ⟨?_, ?_, ?_⟩
  · rw [heap_alloc_old (h := by omega), heap_alloc_old (h := by omega), heap_alloc_new]
  · rw [heap_alloc_old (h := by omega), ← e1, heap_alloc_new]
  · rw [← e2, heap_alloc_new]
theorem OwnL.ne {w : World} {base : Nat} {v : Value} {ls : List Lot} (h : OwnL w base v ls) : ∀ j, j < base → some j ≠ v.ownBlock := fun j hj e => by have := (World.ownsRow.lt h j e.symm).1; omega
theorem cell_far {w : World} {a b : Addr} {v u : Value} (h : w.cell? a = some v) (hne : a.block ≠ b.block) : (w.setCell b u).cell? a = some v := by
  have : (w.setCell b u).heap[a.block]? = w.heap[a.block]? := Below.heap_setCell _ _ _ _ hne
  simp only [World.cell?, this] at h ⊢; exact h
theorem grown_frozen {w w' : World} {row : Option Nat} (hg : w.grownBy w' row) {a : Addr} {v : Value} (h : w.cell? a = some v) (hne : some a.block ≠ row) (hf : w.frozen? a = false) : w'.frozen? a = false :=
  (World.frozen?_of_block (hg.block a.block (World.block_lt_of_cell? w a h) hne)).trans hf
/-- The world in the loop. -/
structure SW (w : World) (N N1 N2 : Nat) (bx : Obj) (vb vn : Value) (ls : List Lot) (v : Value) (w' : World) : Prop where
  b : Below N w w'
  x : w'.heap[N]? = some bx
  y : w'.heap[N1]? = some (.cells #[.slice none 0 0, .slice none 0 0, .int .i64 0] 25 (0, 0))
  o : w'.heap[N2]? = some (.cells #[v, vb, vn] 25 (0, 0))
  r : OwnL w' (N2 + 1) v ls
theorem heap_set {w : World} {g i : Nat} {cs : Array Value} {t : Nat} {fr : Nat × Nat} (h : w.heap[g]? = some (.cells cs t fr)) (v : Value) : (w.setCell ⟨g, i, none⟩ v).heap[g]? = some (.cells (cs.setIfInBounds i v) t fr) := by
  simp [World.setCell, Array.getElem?_modify, h]
theorem SW.step {w : World} {N N1 N2 : Nat} {bx : Obj} {vb vn : Value} {ls ls' : List Lot} {v v1 : Value} {wr w1 : World} (h : SW w N N1 N2 bx vb vn ls v wr) (e1 : N1 = N + 1) (e2 : N2 = N1 + 1) (hg : wr.drew.grownBy w1 v.ownBlock) (ho : OwnL w1 (N2 + 1) v1 ls') :
    SW w N N1 N2 bx vb vn ls' v1 (w1.setCell ⟨N2, 0, none⟩ v1) := by
  have hne := h.r.ne
  have hb : ∀ j o, j < N2 + 1 → wr.heap[j]? = some o → w1.heap[j]? = some o := fun j o hj ho => (hg.block j (Array.getElem?_eq_some_iff.1 ho).1 (hne j hj)).trans ho
  refine ⟨?_, ?_, ?_, ?_, ?_⟩
  · have hgw : wr.grownBy w1 v.ownBlock := ⟨hg.os, hg.tape, hg.output, hg.size, hg.block⟩
    refine (Below.grown h.b hgw ?_ fun k hk => ?_).setCell (by simp; omega) _
    · have := (Array.getElem?_eq_some_iff.1 h.x).1; omega
    · have := hne k; rcases Nat.lt_or_ge k (N2 + 1) with h' | h'
      · exact absurd hk.symm (this h')
      · omega
  · exact (Below.heap_setCell _ _ _ _ (by simp; omega)).trans (hb _ _ (by omega) h.x)
  · exact (Below.heap_setCell _ _ _ _ (by simp; omega)).trans (hb _ _ (by omega) h.y)
  · exact (heap_set (hb _ _ (by omega) h.o) v1).trans (by simp)
  · refine World.ownsRow.kept (w := w1) (row := some N2) ho ⟨rfl, rfl, rfl, by simp [World.setCell], fun k hk hne => Below.heap_setCell _ _ _ _ (fun e => hne (by rw [e]))⟩ ?_
    right
    intro e
    exact ho.ne N2 (by omega) e.symm
theorem OwnL.form' {w : World} {base : Nat} {v : Value} {ls : List Lot} (h : OwnL w base v ls) (hp : 0 < ls.length) : ∃ g cap, v = .slice (some ⟨g, 0, none⟩) ls.length cap ∧ base ≤ g := by
  obtain ⟨g, cap, e, hb, _⟩ := World.ownsRow.form h hp
  exact ⟨g, cap, e, hb⟩
def sortP (p : Prob) (os : List Int) : Prob := ⟨pickL p.lots os, p.caps, p.need⟩
set_option maxRecDepth 100000 in
set_option maxHeartbeats 2000000 in
theorem sorted_any (A : Option Addr) (c : Nat) (B : Option Addr) (d : Nat) (p : Prob) (O : Option Addr) (co n : Nat) (os : List Int) (w : World) (hL : LotsAt w A p.lots) (hO : IntsAt w O os) (hn : os.length = n) (hin : ∀ k, k < n → 0 ≤ gi os k ∧ gi os k < p.lots.length) (h0 : 0 < n) (h8 : n ≤ 8) (hl8 : p.lots.length ≤ 8) :
    Calls Tryd.prog 35 #[pv A c B d p, .slice O n co] w fun e w' => Below w.heap.size w w' ∧ ∃ g cap, w.heap.size ≤ g ∧ e = .returned (pv (some ⟨g, 0, none⟩) cap B d (sortP p os)) ∧ LotsAt w' (some ⟨g, 0, none⟩) (sortP p os).lots ∧ n ≤ cap := by
  have HL := Lib.hid hL
  have HO := Lib.hid hO
  have HN := Lib.hid hn
  have HI := Lib.hid hin
  clear hL hO hn hin
  go_enter Tryd.func35, Tryd.ntmps35
  go_wp2_with fail
  have HB0 := Lib.hid (bal (bal (bal (Below.refl w.heap.size w) (.cells #[.slice A p.lots.length c, .slice B p.caps.length d, .int .i64 p.need] 25)) (.cells #[.slice none 0 0, .slice none 0 0, .int .i64 0] 25)) (.cells #[.slice none 0 0, .slice B p.caps.length d, .int .i64 p.need] 25))
  obtain ⟨N1, hN1⟩ : ∃ m, m = w.heap.size + 1 := ⟨_, rfl⟩
  obtain ⟨N2, hN2⟩ : ∃ m, m = N1 + 1 := ⟨_, rfl⟩
  rw [← hN1, ← hN2]
  have HN1 := Lib.hid hN1
  have HN2 := Lib.hid hN2
  clear hN1 hN2
  go_loopw [15] (fun i w' => ∃ (k : Nat) (v : Value), k ≤ n ∧ i = .int .i64 k ∧ SW w w.heap.size N1 N2 (.cells #[.slice A p.lots.length c, .slice B p.caps.length d, .int .i64 p.need] 25) (.slice B p.caps.length d) (.int .i64 p.need) (pickL p.lots (os.take k)) v w') (fun i _ => n - (intOf i).toNat)
  case atStart =>
    refine ⟨0, .slice none 0 0, Nat.zero_le _, rfl, ?_⟩
    obtain ⟨x1, x2, x3⟩ := three_new w (.cells #[.slice A p.lots.length c, .slice B p.caps.length d, .int .i64 p.need] 25) (.cells #[.slice none 0 0, .slice none 0 0, .int .i64 0] 25) (.cells #[.slice none 0 0, .slice B p.caps.length d, .int .i64 p.need] 25)
    rw [← HN1.out] at x2
    rw [show w.heap.size + 2 = N2 by rw [HN2.out, HN1.out]] at x3
    exact ⟨HB0.out, x1, x2, x3, World.ownsRow_nil _ _ _ _⟩
  case round =>
    obtain ⟨k, v, hk, rfl, hS⟩ := hrel
    have HS := Lib.hid hS
    obtain ⟨a0, a1, a2⟩ := box3 hS.x
    obtain ⟨b0, b1, b2⟩ := box3 hS.y
    obtain ⟨c0, c1, c2⟩ := box3 hS.o
    clear hS
    by_cases hlt : k < n
    · have hko : k < os.length := by rw [HN.out]; exact hlt
      obtain ⟨ob, oo, rfl, r0⟩ := (HO.out.below HS.out.b).get hko
      obtain ⟨i, hi⟩ := Int.eq_ofNat_of_zero_le (HI.out k hlt).1
      have hi2 := (HI.out k hlt).2
      rw [hi] at r0 hi2
      have HIE := Lib.hid hi
      obtain ⟨lb, lo, rfl, u0, u1, u2, u3⟩ := (HL.out.below HS.out.b).get (k := i) (by omega)
      have f0 : wr.frozen? ⟨N2, 0, none⟩ = false := by simp [World.frozen?, HS.out.o]
      clear hi hko b0 b1 b2
      go_wp2_with fail
      have HNE := Lib.hid HS.out.r.ne
      have HK0 := Lib.hid (show k + 1 ≤ 8 by omega)
      have hlb := World.block_lt_of_cell? wr _ u0
      have HLB := Lib.hid (show lb < w.heap.size by obtain ⟨_, _, e, h0, _⟩ := HL.out.get (k := i) (by omega); simp only [Option.some.injEq, Addr.mk.injEq, and_true] at e; obtain ⟨rfl, rfl⟩ := e; exact World.block_lt_of_cell? w _ h0)
      have d0 := cellB (bal (Below.refl wr.heap.size wr) (.cells #[.int .i64 (gl p.lots i).u, .int .i64 (gl p.lots i).v, .int .i64 (gl p.lots i).c, .int .i64 (gl p.lots i).g] 48)).drew c0
      clear hlb
      go_region_law
        (first
          | (refine step_row (W := wr.drew) (N2 + 1) rfl (.tmp 20) (.tmp 26) 22 48 rfl Tryd.underlying22 (.agg #[.int .i64 0, .int .i64 0, .int .i64 0, .int .i64 0]) 4 32 info48 rfl (by decide) v (pickL p.lots (os.take k)).length (flat (pickL p.lots (os.take k))) #[.int .i64 (gl p.lots i).u, .int .i64 (gl p.lots i).v, .int .i64 (gl p.lots i).c, .int .i64 (gl p.lots i).g] wr.heap.size rfl rfl rfl rfl (by simp [Value.oneCell']) HS.out.r (by have := World.block_lt_of_cell? wr _ c0; simp at this ⊢; omega) (by have := HK0.out; rw [pickL_len, List.length_take]; omega) (by have := HK0.out; rw [pickL_len, List.length_take]; simp only [maxLen]; omega) ?_
             intro g1 cap w1 hown hgr
             have a0' := hgr.cell a0 (HNE.out _ (by have := HN1.out; have := HN2.out; simp <;> omega))
             have c0' := hgr.cell c0 (HNE.out _ (by have := HN1.out; have := HN2.out; simp <;> omega))
             have f0' := grown_frozen hgr c0 (HNE.out _ (by have := HN1.out; have := HN2.out; simp <;> omega)) f0
             have u0' := hgr.cell u0 (HNE.out _ (by have := HN1.out; have := HN2.out; have := HLB.out; simp <;> omega))
             have u1' := hgr.cell u1 (HNE.out _ (by have := HN1.out; have := HN2.out; have := HLB.out; simp <;> omega))
             have u2' := hgr.cell u2 (HNE.out _ (by have := HN1.out; have := HN2.out; have := HLB.out; simp <;> omega))
             have u3' := hgr.cell u3 (HNE.out _ (by have := HN1.out; have := HN2.out; have := HLB.out; simp <;> omega))
             have HOW := Lib.hid hown
             have HGR := Lib.hid hgr
             clear hown hgr))
      all_goals
        have HX := Lib.hid (SW.step (ls' := pickL p.lots (os.take (k + 1))) HS.out HN1.out HN2.out HGR.out (by rw [pickL_take _ _ (by rw [HN.out]; exact hlt) HIE.out]; rw [OwnL, List.length_append, flat_add]; exact HOW.out))
        go_wp2_with fail
        go_roundw
        case rel => exact ⟨k + 1, _, by omega, by go_num, HX.out⟩
        case measure => simp only [intOf]; omega
    · have hkn : k = n := by omega
      subst hkn
      rw [show os.take k = os by rw [← HN.out, List.take_length]] at HS
      have HR := HS.out.r
      obtain ⟨g, cap, rfl, _⟩ := HR.form' (by rw [pickL_len, HN.out]; exact h0)
      clear HR
      have HA := Lib.hid a0
      have g0 : wr.frozen? ⟨N1, 0, none⟩ = false := by simp [World.frozen?, HS.out.y]
      have g1 : wr.frozen? ⟨N1, 1, none⟩ = false := by simp [World.frozen?, HS.out.y]
      have g2 : wr.frozen? ⟨N1, 2, none⟩ = false := by simp [World.frozen?, HS.out.y]
      clear a0 a1 a2
      go_wp2_with fail
      have hne := HS.out.r.ne
      have hl := HS.out.r.lots
      have hgN : N2 + 1 ≤ g := hl.2.2.2.1
      have hb3 : Below w.heap.size w (((wr.setCell ⟨N1, 0, none⟩ (.slice (some ⟨g, 0, none⟩) (pickL p.lots os).length cap)).setCell ⟨N1, 1, none⟩ (.slice B p.caps.length d)).setCell ⟨N1, 2, none⟩ (.int .i64 p.need)) :=
        ((HS.out.b.setCell (by have := HN1.out; simp <;> omega) _).setCell (by have := HN1.out; simp <;> omega) _).setCell (by have := HN1.out; simp <;> omega) _
      have hLf : LotsAt (((wr.setCell ⟨N1, 0, none⟩ (.slice (some ⟨g, 0, none⟩) (pickL p.lots os).length cap)).setCell ⟨N1, 1, none⟩ (.slice B p.caps.length d)).setCell ⟨N1, 2, none⟩ (.int .i64 p.need)) (some ⟨g, 0, none⟩) (pickL p.lots os) :=
        hl.1.grown (g := N1) ⟨rfl, rfl, rfl, by simp [World.setCell], fun j _ hj => (Below.heap_setCell _ _ _ _ (fun e => hj (by rw [e]))).trans ((Below.heap_setCell _ _ _ _ (fun e => hj (by rw [e]))).trans (Below.heap_setCell _ _ _ _ (fun e => hj (by rw [e]))))⟩ (fun b o e => by simp only [Option.some.injEq, Addr.mk.injEq] at e; have := HN2.out; omega)
      refine bodyPost_ret (results_cell_row rfl _ _ N1 25 _ _ _ rfl (heap_set (heap_set (heap_set HS.out.y _) _) _) Tryd.underlying25 rfl (by kernel_rfl)) rfl ⟨hb3, g, cap, by have := HN1.out; have := HN2.out; omega, by simp [pv, sortP], hLf, by have := hl.2.2.1; rw [pickL_len, HN.out] at this; exact this⟩

end Go.Proofs.YtjaegolanbjgfaaDoor
