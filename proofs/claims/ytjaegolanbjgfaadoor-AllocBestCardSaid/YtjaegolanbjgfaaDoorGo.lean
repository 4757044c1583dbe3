import Derived.Deep.RegionLaw
import Derived.Test.YtjaegolanbjgfaaDoorSe
import Derived.WalkKit
import Derived.WalkSpells
import Derived.WalkLawsBesides
import Derived.Lib.Hide
import Derived.Deep.DeepCutAuto
import Derived.Deep.LoopGhost
import Derived.Deep.QuietTactic
import Derived.BigQuiet
import Derived.Deep.OwnRows
import Derived.StillTailTactics
import Derived.IntWalk
import Derived.Laws.BitsLemmas
import Derived.Laws.MathBits
import Derived.Laws.Bits64
import Derived.Deep.RegionHeld3
import Derived.BigRegion
import Derived.Lib.SliceRun
import Derived.Deep.AppendLies
set_option linter.unusedVariables false
set_option linter.unusedSimpArgs false
namespace Go.Proofs.YtjaegolanbjgfaaDoor
open Go.RowKit
/-- A beginning, and where its ints lie. -/
structure PS where
  s : St
  g : Nat
  cap : Nat
def psCells (x : PS) : List Value := [.slice (some ⟨x.g, 0, none⟩) x.s.take.length x.cap, .int .i64 x.s.n, .int .i64 x.s.cost]
def flatS (ps : List PS) : List Value := ps.flatMap psCells
def sts (ps : List PS) : List St := ps.map (·.s)
theorem flatS_len (ps : List PS) : (flatS ps).length = ps.length * 3 := by
  induction ps with
  | nil => rfl
  | cons x r ih => simp only [flatS, List.flatMap_cons, List.length_append, List.length_cons] at ih ⊢; simp only [psCells, List.length_cons, List.length_nil]; omega
theorem flatS_add (ps qs : List PS) : flatS (ps ++ qs) = flatS ps ++ flatS qs := by simp [flatS]
theorem sts_add (ps qs : List PS) : sts (ps ++ qs) = sts ps ++ sts qs := by simp [sts]
theorem sts_len (ps : List PS) : (sts ps).length = ps.length := by simp [sts]
/-- The world is as it was, but for a block and a row. -/
structure Fr (w w' : World) (S : Nat) (row : Option Nat) : Prop where
  os : w'.os = w.os
  tape : w'.tape = w.tape
  output : w'.output = w.output
  size : w.heap.size ≤ w'.heap.size
  block : ∀ j, j < w.heap.size → j ≠ S → some j ≠ row → w'.heap[j]? = w.heap[j]?
theorem Fr.refl (w : World) (S : Nat) (row : Option Nat) : Fr w w S row := ⟨rfl, rfl, rfl, Nat.le_refl _, fun _ _ _ _ => rfl⟩
/-- .. and then one more. -/
theorem Fr.next {w w1 w2 : World} {S : Nat} {row row1 : Option Nat} (h : Fr w w1 S row) (hr : ∀ j, row1 = some j → row = some j ∨ w.heap.size ≤ j) (k : Fr w1 w2 S row1) : Fr w w2 S row :=
  ⟨k.os.trans h.os, k.tape.trans h.tape, k.output.trans h.output, Nat.le_trans h.size k.size, fun j hj h1 h2 =>
    (k.block j (Nat.lt_of_lt_of_le hj h.size) h1 (fun e => by rcases hr j e.symm with e' | e'; exact h2 e'.symm; omega)).trans (h.block j hj h1 h2)⟩
theorem Fr.of_grown {w w' : World} {S : Nat} {row : Option Nat} (h : w.grownBy w' row) : Fr w w' S row := ⟨h.os, h.tape, h.output, h.size, fun j hj _ h2 => h.block j hj h2⟩
theorem Fr.of_below {w w' : World} {S : Nat} {row : Option Nat} (h : Below w.heap.size w w') : Fr w w' S row := ⟨h.os, h.tape, h.output, h.size, fun j hj _ _ => h.block j hj⟩
theorem Fr.of_S {w w' : World} {S : Nat} {row : Option Nat} (h : w.grownBy w' (some S)) : Fr w w' S row := ⟨h.os, h.tape, h.output, h.size, fun j hj h1 _ => h.block j hj (by simpa using h1)⟩
theorem grow_set (w : World) (S i : Nat) (v : Value) : w.grownBy (w.setCell ⟨S, i, none⟩ v) (some S) := ⟨rfl, rfl, rfl, by simp [World.setCell], fun k _ hne => Below.heap_setCell _ _ _ _ (fun e => hne (by rw [e]))⟩
theorem Fr.ints {w w' : World} {S : Nat} {row : Option Nat} (h : Fr w w' S row) {g : Nat} {xs : List Int} (hi : IntsAt w (some ⟨g, 0, none⟩) xs) (hS : g ≠ S) (hr : some g ≠ row) : IntsAt w' (some ⟨g, 0, none⟩) xs :=
  ⟨hi.1, fun hp => by
    obtain ⟨b, o, e, hc⟩ := hi.2 hp
    have e' := e
    simp only [Option.some.injEq, Addr.mk.injEq] at e
    refine ⟨b, o, e', fun j hj => ?_⟩
    have hl := World.block_lt_of_cell? w _ (hc j hj)
    rw [← hc j hj]
    exact World.cell?_of_block (h.block b hl (by omega) (by rw [← e.1]; exact hr))⟩
theorem IntsAt.lt {w : World} {g : Nat} {xs : List Int} (hi : IntsAt w (some ⟨g, 0, none⟩) xs) (hp : 0 < xs.length) : g < w.heap.size := by
  obtain ⟨b, o, e, hc⟩ := hi.2 hp
  simp only [Option.some.injEq, Addr.mk.injEq] at e
  have := World.block_lt_of_cell? w _ (hc 0 hp)
  simp only at this; omega
/-- The stack, as it lies. -/
structure Stk (N S : Nat) (v : Value) (ps : List PS) (w : World) : Prop where
  o : w.ownsRow N 91 3 v ps.length (flatS ps)
  t : ∀ x ∈ ps, 0 < x.s.take.length ∧ x.s.take.length ≤ x.cap ∧ IntsAt w (some ⟨x.g, 0, none⟩) x.s.take ∧ x.g ≠ S ∧ some x.g ≠ v.ownBlock
theorem Stk.keep {N S : Nat} {v : Value} {ps : List PS} {w w' : World} (h : Stk N S v ps w) (k : w.grownBy w' none) : Stk N S v ps w' :=
  ⟨World.ownsRow.kept h.o k (by cases v.ownBlock <;> simp), fun x hx => by
    obtain ⟨a, b, c, d, e⟩ := h.t x hx
    exact ⟨a, b, (Fr.of_grown (S := S) k).ints c d (by simp), d, e⟩⟩
theorem Stk.keepS {N S : Nat} {v : Value} {ps : List PS} {w w' : World} (h : Stk N S v ps w) (k : w.grownBy w' (some S)) (hS : some S ≠ v.ownBlock) : Stk N S v ps w' :=
  ⟨World.ownsRow.kept h.o k (Or.inr (fun e => hS e.symm)), fun x hx => by
    obtain ⟨a, b, c, d, e⟩ := h.t x hx
    exact ⟨a, b, (Fr.of_S (row := none) k).ints c d (by simp), d, e⟩⟩
theorem Stk.add {N S : Nat} {v v1 : Value} {ps : List PS} {y : PS} {w w1 : World} (h : Stk N S v ps w) (hg : w.grownBy w1 v.ownBlock) (ho : w1.ownsRow N 91 3 v1 (ps ++ [y]).length (flatS (ps ++ [y])))
    (hv : ∀ j, v1.ownBlock = some j → v.ownBlock = some j ∨ w.heap.size ≤ j)
    (hy : 0 < y.s.take.length ∧ y.s.take.length ≤ y.cap ∧ IntsAt w (some ⟨y.g, 0, none⟩) y.s.take ∧ y.g ≠ S ∧ some y.g ≠ v.ownBlock) : Stk N S v1 (ps ++ [y]) w1 := by
  refine ⟨ho, fun x hx => ?_⟩
  have key : 0 < x.s.take.length ∧ x.s.take.length ≤ x.cap ∧ IntsAt w (some ⟨x.g, 0, none⟩) x.s.take ∧ x.g ≠ S ∧ some x.g ≠ v.ownBlock := by
    rcases List.mem_append.1 hx with hx | hx
    · exact h.t x hx
    · simp only [List.mem_singleton] at hx; subst hx; exact hy
  obtain ⟨a, b, c, d, e⟩ := key
  refine ⟨a, b, (Fr.of_grown (S := S) hg).ints c d e, d, fun e' => ?_⟩
  rcases hv _ e'.symm with e2 | e2
  · exact e e2.symm
  · have := c.lt a; omega
section
variable {P : Program} {ops : Array Oper} {o : Oper} {a : Act} {K : Act → World → Prop} {Q : Exit → Act → World → Prop} {E : Prop}
/-- append(row, element) as one step of a region that draws its order; where the row lies then. -/
theorem step_row' {W : World} (base : Nat) (hgd : o.guard = none) (s x : Operand) (t e : TypeId)
    (ho : o.op = .call { callee := .builtin .append, args := #[s, x], argTypes := #[t, t] })
    (ht : P.underlying t = some (.slice e)) (z : Value) (size bytes : Nat) (hinfo : (P.info? e).map (fun i => (i.zero, i.size, i.bytes)) = some (some z, size, bytes)) (hzs : z.cells.size = size) (hsz : 0 < size)
    (v : Value) (n : Nat) (xs : List Value) (cs : Array Value) (g : Nat) (hs : a.eval s = v) (hx : a.eval x = .slice (some ⟨g, 0, none⟩) 1 1) (hg : g = W.heap.size) (hcs : cs.size = size) (h1 : ∀ u ∈ cs.toList, u.oneCell' = true)
    (HO : W.ownsRow base e size v n xs) (hbase : base ≤ W.heap.size) (hl : (n + 1) * bytes ≤ 140737488355328) (hm : n + 1 ≤ maxLen)
    (h : ∀ g1 cap w1, w1.ownsRow base e size (.slice (some ⟨g1, 0, none⟩) (n + 1) cap) (n + 1) (xs ++ cs.toList) → W.grownBy w1 v.ownBlock → (v.ownBlock = some g1 ∨ W.heap.size ≤ g1) → K (a.put o.dst (.slice (some ⟨g1, 0, none⟩) (n + 1) cap)) w1) :
    if Region.wanted o (yielded ops a.tmps) = true then Oper.wp P o a (W.alloc (.cells cs e)) K Q else E := by
  subst hg
  obtain ⟨i0, hi, hzz⟩ := Option.map_eq_some_iff.1 hinfo
  simp only [Prod.mk.injEq] at hzz
  obtain ⟨hz0, hz1, hz2⟩ := hzz
  refine step_append_lies (W.alloc (.cells cs e)) hgd s x t ho base e i0 z size bytes ht hi hz0 hz1 hz2 hzs hsz v n xs hs (HO.alloc _) ⟨W.heap.size, 0, none⟩ 1 1 cs.toList hx (by simpa using hcs) (World.news_of_block (heap_alloc_new _ _)) h1 (by omega) hm hl (by simp; omega) _ rfl ?_
  intro g1 cap w1 hown hgr hat _
  exact h g1 cap w1 hown (World.grownBy.trans (World.grownBy_alloc W _ _) hgr) (by rcases hat with h | h; exact Or.inl h; right; rw [h]; simp)
end
theorem info91 : (Tryd.prog.info? 91).map (fun i => (i.zero, i.size, i.bytes)) = some (some (.agg #[.slice none 0 0, .int .i64 0, .int .i64 0]), 3, 40) := by kernel_rfl
/-- The world while a beginning is gone on with. -/
structure GoW (w : World) (N S : Nat) (v0 : Value) (p : Prob) (x : St) (xb lb : Obj) (sb : Value → Obj) (ps0 : List PS) (k : Nat) (v : Value) (qs : List PS) (w' : World) : Prop where
  f : Fr w w' S v0.ownBlock
  bx : w'.heap[w.heap.size]? = some xb
  bl : w'.heap[w.heap.size + 1]? = some lb
  bs : w'.heap[S]? = some (sb v)
  st : Stk N S v qs w'
  e : sts qs = sts ps0 ++ kidsN p x k
  vb : ∀ j, v.ownBlock = some j → v0.ownBlock = some j ∨ w.heap.size + 2 ≤ j
theorem GoW.ne {w : World} {N S : Nat} {v0 : Value} {p : Prob} {x : St} {xb lb : Obj} {sb : Value → Obj} {ps0 : List PS} {k : Nat} {v : Value} {qs : List PS} {wr : World}
    (h : GoW w N S v0 p x xb lb sb ps0 k v qs wr) (hv0 : ∀ j, v0.ownBlock = some j → N ≤ j ∧ j < w.heap.size) (hSN : S < N) : some S ≠ v.ownBlock ∧ some w.heap.size ≠ v.ownBlock ∧ some (w.heap.size + 1) ≠ v.ownBlock := by
  have hvl := World.ownsRow.lt h.st.o
  have nH : ∀ j, w.heap.size ≤ j → j < w.heap.size + 2 → some j ≠ v.ownBlock := fun j h1 h2 e => by
    rcases h.vb j e.symm with e' | e'
    · have := (hv0 j e').2; omega
    · omega
  exact ⟨fun e => by have := (hvl S e.symm).1; omega, nH _ (by omega) (by omega), nH _ (by omega) (by omega)⟩
theorem GoW.step {w : World} {N S : Nat} {v0 : Value} {p : Prob} {x : St} {xb lb : Obj} {sb : Value → Obj} {ps0 : List PS} {k : Nat} {v : Value} {qs : List PS} {wr w2 w3 : World} {v1 : Value} {y : PS}
    (h : GoW w N S v0 p x xb lb sb ps0 k v qs wr) (hv0 : ∀ j, v0.ownBlock = some j → N ≤ j ∧ j < w.heap.size) (hSN : S < N) (hNw : N ≤ w.heap.size) (hb : Below wr.heap.size wr w2) (hg : w2.drew.grownBy w3 v.ownBlock)
    (ho : w3.ownsRow N 91 3 v1 (qs.length + 1) (flatS (qs ++ [y]))) (hat : ∀ j, v1.ownBlock = some j → v.ownBlock = some j ∨ w2.heap.size ≤ j) (hy : y.s = kid p x k)
    (hy1 : 0 < y.s.take.length) (hy2 : y.s.take.length ≤ y.cap) (hy3 : IntsAt w2 (some ⟨y.g, 0, none⟩) y.s.take) (hyg : wr.heap.size ≤ y.g)
    (hset : ∀ W : World, W.heap[S]? = some (sb v) → (W.setCell ⟨S, 7, none⟩ v1).heap[S]? = some (sb v1)) :
    GoW w N S v0 p x xb lb sb ps0 (k + 1) v1 (qs ++ [y]) (w3.setCell ⟨S, 7, none⟩ v1) := by
  have hg' : w2.grownBy w3 v.ownBlock := ⟨hg.os, hg.tape, hg.output, hg.size, hg.block⟩
  have hvl := World.ownsRow.lt h.st.o
  have hS1 : S < wr.heap.size := (Array.getElem?_eq_some_iff.1 h.bs).1
  have hH1 : w.heap.size + 1 < wr.heap.size := (Array.getElem?_eq_some_iff.1 h.bl).1
  have nS : some S ≠ v.ownBlock := fun e => by have := (hvl S e.symm).1; omega
  have nH : ∀ j, w.heap.size ≤ j → j < w.heap.size + 2 → some j ≠ v.ownBlock := fun j h1 h2 e => by
    rcases h.vb j e.symm with e' | e'
    · have := (hv0 j e').2; omega
    · omega
  have b2 := hb.size
  have kb : ∀ j, j < wr.heap.size → some j ≠ v.ownBlock → w3.heap[j]? = wr.heap[j]? := fun j hj hn => (hg'.block j (by omega) hn).trans (hb.block j hj)
  have nS1 : some S ≠ v1.ownBlock := fun e => by have := (World.ownsRow.lt ho S e.symm).1; omega
  have st2 := h.st.keep (grb hb none)
  refine ⟨?_, ?_, ?_, ?_, ?_, ?_, ?_⟩
  · refine ((h.f.next (row1 := none) (by simp) (Fr.of_below hb)).next (row1 := v.ownBlock) (fun j e => ?_) (Fr.of_grown hg')).next (row1 := none) (by simp) (Fr.of_S (grow_set _ _ _ _))
    rcases h.vb j e with e' | e'
    · exact Or.inl e'
    · right; omega
  · exact (Below.heap_setCell _ _ _ _ (by simp only [ne_eq]; omega)).trans ((kb _ (by omega) (nH _ (by omega) (by omega))).trans h.bx)
  · exact (Below.heap_setCell _ _ _ _ (by simp only [ne_eq]; omega)).trans ((kb _ (by omega) (nH _ (by omega) (by omega))).trans h.bl)
  · exact hset _ ((kb _ hS1 nS).trans h.bs)
  · refine Stk.keepS (Stk.add st2 hg' (by simpa using ho) hat ⟨hy1, hy2, hy3, by omega, fun e => by have := (hvl _ e.symm).2; omega⟩) (grow_set _ _ _ _) nS1
  · rw [sts_add, h.e, kidsN_succ, ← List.append_assoc, ← hy]; rfl
  · intro j e
    rcases hat j e with e' | e'
    · exact h.vb j e'
    · right; omega
def GivesGoes (N S : Nat) (v0 : Value) (p : Prob) (x : St) (sb : Value → Obj) (ps0 : List PS) (w : World) (e : Ending) (w' : World) : Prop :=
  e = .returned (.tuple #[]) ∧ ∃ v qs, Fr w w' S v0.ownBlock ∧ w'.heap[S]? = some (sb v) ∧ Stk N S v qs w' ∧ sts qs = sts ps0 ++ kids p x ∧ ∀ j, v.ownBlock = some j → v0.ownBlock = some j ∨ w.heap.size ≤ j
set_option maxRecDepth 100000 in
set_option maxHeartbeats 4000000 in
theorem goes_any (N S : Nat) (A : Option Addr) (c : Nat) (B : Option Addr) (d : Nat) (p : Prob) (bv : Value) (cost looked bud : Int) (v0 : Value) (g f : Nat) (x : St) (ps : List PS) (w : World)
    (hL : LotsAt w A p.lots) (hok : Ok p) (hT : IntsAt w (some ⟨g, 0, none⟩) x.take) (hx : StOk p x) (hn : x.n < p.lots.length) (hS : w.heap[S]? = some (sbox A c B d p bv cost looked bud v0)) (hK : Stk N S v0 ps w) (hN : N ≤ w.heap.size) (hSN : S < N)
    (hgS : g ≠ S) (hgv : some g ≠ v0.ownBlock) (hq : StkOk p (sts ps ++ [x])) :
    Calls Tryd.prog 60 #[.pointer (some ⟨S, 0, none⟩), stv (some ⟨g, 0, none⟩) f x] w (GivesGoes N S v0 p x (sbox A c B d p bv cost looked bud) ps w) := by
  have hm1 := hok.n8
  obtain ⟨ab, ao, rfl, l0, l1, l2, l3⟩ := hL.get hn
  have HL := Lib.hid hL
  have HT := Lib.hid hT
  have HS := Lib.hid hS
  have HK := Lib.hid hK
  have HX := Lib.hid hx
  have HQ := Lib.hid hq
  have HOK := Lib.hid hok
  have HGV := Lib.hid hgv
  have HV0 := Lib.hid (World.ownsRow.lt hK.o)
  obtain ⟨s0, s1, s2, s3, s4, s5, s6, s7⟩ := box8 hS
  have HB0 := Lib.hid (bal (Below.refl w.heap.size w) (.cells #[.slice (some ⟨g, 0, none⟩) x.take.length f, .int .i64 x.n, .int .i64 x.cost] 91))
  obtain ⟨x0, x1, x2⟩ := box3 (heap_alloc_new w (.cells #[.slice (some ⟨g, 0, none⟩) x.take.length f, .int .i64 x.n, .int .i64 x.cost] 91))
  have t0 := cellB HB0.out s0
  have m0 := cellB HB0.out l0
  have m1 := cellB HB0.out l1
  have m2 := cellB HB0.out l2
  have m3 := cellB HB0.out l3
  have hb1 := hok.lot x.n hn
  obtain ⟨U, hU⟩ := Int.eq_ofNat_of_zero_le hb1.1
  have HW := Lib.hid (show width p x.n = U + 1 by unfold width; rw [hU]; rfl)
  rw [hU] at m0
  have hU8 : U ≤ 1000 := by omega
  have HB1 := Lib.hid hb1
  clear hb1 hU
  clear hL hT hS hK hx hq hok hgv s0 s1 s2 s3 s4 s5 s6 s7 l0 l1 l2 l3
  have hni : (x.n : Int) < (p.lots.length : Int) := by omega
  go_enter Tryd.func60, Tryd.ntmps60
  go_wp2_with fail
  have nS := World.new_ne (w.alloc (.cells #[.slice (some ⟨g, 0, none⟩) x.take.length f, .int .i64 x.n, .int .i64 x.cost] 91)) _ t0
  have nX := World.new_ne (w.alloc (.cells #[.slice (some ⟨g, 0, none⟩) x.take.length f, .int .i64 x.n, .int .i64 x.cost] 91)) _ x1
  have nL := World.new_ne (w.alloc (.cells #[.slice (some ⟨g, 0, none⟩) x.take.length f, .int .i64 x.n, .int .i64 x.cost] 91)) _ m0
  go_region_held3 (fun w' => w'.cell? ⟨w.heap.size, 1, none⟩ = some (.int .i64 x.n) ∧ w'.cell? ⟨S, 0, none⟩ = some (.slice (some ⟨ab, ao, none⟩) p.lots.length c) ∧ w'.cell? ⟨ab, ao + x.n * 4, none⟩ = some (.int .i64 U) ∧ w'.cell? ⟨ab, ao + x.n * 4 + 1, none⟩ = some (.int .i64 (gl p.lots x.n).v) ∧ w'.cell? ⟨ab, ao + x.n * 4 + 2, none⟩ = some (.int .i64 (gl p.lots x.n).c) ∧ w'.cell? ⟨ab, ao + x.n * 4 + 3, none⟩ = some (.int .i64 (gl p.lots x.n).g)) (go_keep) (fail)
  clear nS nX nL
  go_wp2_with fail
  go_loopw [19] (fun i w' => ∃ (k : Nat) (v : Value) (qs : List PS), k ≤ U + 1 ∧ i = .int .i64 k ∧ GoW w N S v0 p x (.cells #[.slice (some ⟨g, 0, none⟩) x.take.length f, .int .i64 x.n, .int .i64 x.cost] 91 (0, 0)) (.cells #[.int .i64 U, .int .i64 (gl p.lots x.n).v, .int .i64 (gl p.lots x.n).c, .int .i64 (gl p.lots x.n).g] 48 (0, 0)) (sbox (some ⟨ab, ao, none⟩) c B d p bv cost looked bud) ps k v qs w') (fun i _ => U + 1 - (intOf i).toNat)
  case atStart =>
    have hsz0 := (Array.getElem?_eq_some_iff.1 HS.out).1
    have e1 : (w.alloc (.cells #[.slice (some ⟨g, 0, none⟩) x.take.length f, .int .i64 x.n, .int .i64 x.cost] 91)).heap.size = w.heap.size + 1 := by simp
    refine ⟨0, v0, ps, by omega, rfl, Fr.of_below ((HB0.out.alloc (by omega) _).drew), ?_, ?_, ?_, ?_, by simp [kidsN], fun j e => Or.inl e⟩
    · exact (heap_alloc_old _ _ (by omega)).trans (heap_alloc_new _ _)
    · have := heap_alloc_new (w.alloc (.cells #[.slice (some ⟨g, 0, none⟩) x.take.length f, .int .i64 x.n, .int .i64 x.cost] 91)) (.cells #[.int .i64 U, .int .i64 (gl p.lots x.n).v, .int .i64 (gl p.lots x.n).c, .int .i64 (gl p.lots x.n).g] 48)
      rw [e1] at this
      exact this
    · exact (heap_alloc_old _ _ (by omega)).trans ((heap_alloc_old _ _ hsz0).trans HS.out)
    · exact HK.out.keep (grb ((HB0.out.alloc (by omega) _).drew) none)
  case round =>
    obtain ⟨k, v, qs, hk, rfl, hG⟩ := hrel
    have HG := Lib.hid hG
    obtain ⟨y0, y1, y2⟩ := box3 hG.bx
    have c2 : wr.cell? ⟨w.heap.size + 1, 2, none⟩ = some (.int .i64 (gl p.lots x.n).c) := cell_of_row wr _ 2 _ _ _ hG.bl
    have c0 : wr.cell? ⟨w.heap.size + 1, 0, none⟩ = some (.int .i64 U) := cell_of_row wr _ 0 _ _ _ hG.bl
    obtain ⟨_, _, _, _, _, _, _, t7⟩ := box8 hG.bs
    clear hG
    have HTr := Lib.hid (HG.out.f.ints HT.out hgS HGV.out)
    by_cases hlt : k < U + 1
    · have hki : (k : Int) < (U : Int) + 1 := by omega
      have HC := Lib.hid (Clone_any g 0 x.take.length f x.take wr HTr.out rfl (by rw [HX.out.i.1]; omega) (by rw [HX.out.i.1]; exact hm1))
      go_wp2_with fail
      refine HC.out.mono ?_
      rintro e w1 ⟨cv, rfl, hown, hb1⟩
      obtain ⟨g1, cap1, rfl, hg1, hg1'⟩ := hown.form (by rw [HX.out.i.1]; omega)
      obtain ⟨o0, f0⟩ := own_row hown (k := x.n) (by rw [HX.out.i.1]; omega)
      have y0' := cellB hb1 y0
      have y1' := cellB hb1 y1
      have hln : x.take.length = p.lots.length := HX.out.i.1
      have hx1 : (x.n : Int) < (x.take.length : Int) := by omega
      have HO1 := Lib.hid hown
      have HLN := Lib.hid hln
      have hbs := Lib.hid (show Below wr.heap.size wr (w1.setCell ⟨g1, x.n, none⟩ (.int .i64 k)) from hb1.setCell hg1 _)
      clear hown hb1 hln
      go_wp2_with fail
      have HO2 := Lib.hid (HO1.out.set x.n k).1
      generalize hw2 : w1.setCell ⟨g1, x.n, none⟩ (.int .i64 k) = w2
      rw [hw2] at hbs HO2
      clear hw2 o0 f0 y0' y1' HO1 HC
      have z1 := cellB hbs.out y1
      have z2 := cellB hbs.out y2
      have d2 := cellB hbs.out c2
      have t8 := cellB hbs.out t7
      have HKD := Lib.hid (HX.out.kid hn (m := k) (by rw [HW.out]; exact hlt) HB1.out.1)
      have kb := cost_bd HOK.out HKD.out.i
      rw [← HKD.out.c] at kb
      have kb' : 0 ≤ x.cost + (k : Int) * (gl p.lots x.n).c ∧ x.cost + (k : Int) * (gl p.lots x.n).c ≤ 8000000000000 := kb
      have pb := mul_bd (t := (k : Int)) (v := (gl p.lots x.n).c) (T := 1000) (V := 1000000000) (by omega) (by omega) HB1.out.2.2.2.2.1 HB1.out.2.2.2.2.2.1
      have pw : IntKind.i64.wrap ((k : Int) * (gl p.lots x.n).c) = (k : Int) * (gl p.lots x.n).c := IntWalk.i64_in _ (by omega)
      have cw : IntKind.i64.wrap (x.cost + (k : Int) * (gl p.lots x.n).c) = x.cost + (k : Int) * (gl p.lots x.n).c := IntWalk.i64_in _ (by omega)
      have nw : IntKind.i64.wrap ((x.n : Int) + 1) = (x.n : Int) + 1 := IntWalk.i64_in _ (by omega)
      have ST2 := Lib.hid (HG.out.st.keep (grb hbs.out none))
      have hql : qs.length ≤ 8009 := by
        have h1 := (HQ.out.push hn HOK.out k (by rw [HW.out]; omega)).len hm1
        rw [← HG.out.e, sts_len] at h1
        exact h1
      have HQL := Lib.hid hql
      have HN2 := Lib.hid (show N ≤ w2.heap.size by have := HG.out.f.size; have := hbs.out.size; omega)
      have w8 := cellB (bal (Below.refl w2.heap.size w2) (.cells #[.slice (some ⟨g1, 0, none⟩) x.take.length cap1, .int .i64 ((x.n : Int) + 1), .int .i64 (x.cost + (k : Int) * (gl p.lots x.n).c)] 91)).drew t8
      have fS := frz (boxN HG.out.bs hbs.out) 7
      have NE := Lib.hid (HG.out.ne HV0.out hSN)
      clear kb kb' pb hql
      go_region_law
        (first
          | (refine step_row' (W := w2.drew) N rfl (.tmp 34) (.tmp 47) 67 91 rfl Tryd.underlying67 (.agg #[.slice none 0 0, .int .i64 0, .int .i64 0]) 3 40 info91 rfl (by decide) v qs.length (flatS qs) #[.slice (some ⟨g1, 0, none⟩) x.take.length cap1, .int .i64 ((x.n : Int) + 1), .int .i64 (x.cost + (k : Int) * (gl p.lots x.n).c)] w2.heap.size (by rfl) (by rfl) rfl rfl (by simp [Value.oneCell']) ST2.out.o HN2.out (by have := HQL.out; omega) (by have := HQL.out; simp only [maxLen]; omega) ?_
             intro g3 cap3 w3 hown3 hgr3 hat3
             have z1' := hgr3.cell z1 NE.out.2.1
             have z2' := hgr3.cell z2 NE.out.2.1
             have d2' := hgr3.cell d2 NE.out.2.2
             have t8' := hgr3.cell t8 NE.out.1
             have fS' := grown_frozen hgr3 t8 NE.out.1 fS
             have HO3 := Lib.hid hown3
             have HGR3 := Lib.hid hgr3
             have HAT3 := Lib.hid hat3
             clear hown3 hgr3 hat3))
      all_goals
        have hcap : (x.take.set x.n (k : Int)).length ≤ cap1 := by obtain ⟨A', c', e', _, hc', _⟩ := HO2.out.ints; simp only [Value.slice.injEq] at e'; omega
        have HX1 := Lib.hid (GoW.step (y := ⟨kid p x k, g1, cap1⟩) HG.out HV0.out hSN hN hbs.out HGR3.out (by rw [flatS_add]; simpa [flatS, psCells, kid] using HO3.out)
          (fun j e => by simp only [Value.ownBlock, Option.some.injEq] at e; subst e; exact HAT3.out) rfl (by have := HLN.out; simp only [kid, List.length_set]; omega) hcap HO2.out.intsAt.1 hg1 (fun W h => heap_set h _))
        clear hcap
        go_wp2_with fail
        go_roundw
        case rel => exact ⟨k + 1, _, _, by omega, by go_num, HX1.out⟩
        case measure => simp only [intOf]; omega
    · have hkn : k = U + 1 := by omega
      subst hkn
      go_wp2_with fail
      go_end0
      exact ⟨rfl, v, qs, HG.out.f, HG.out.bs, HG.out.st, by unfold kids; rw [HW.out]; exact HG.out.e, fun j e => by rcases HG.out.vb j e with h | h; exact Or.inl h; right; omega⟩

end Go.Proofs.YtjaegolanbjgfaaDoor
