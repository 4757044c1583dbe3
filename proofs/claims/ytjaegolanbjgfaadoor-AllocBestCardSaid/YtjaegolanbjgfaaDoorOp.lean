import Derived.Test.YtjaegolanbjgfaaDoorVa
import Derived.WalkKit
import Derived.ProofKit
import Derived.OpenShut
import Derived.Deep.DeepHandedRow
import Derived.Deep.DeepWitnessRowRef
import Derived.Stop.LaidErr
import Derived.LaidMore
import Derived.LaidOnce
import Derived.LaidSub
import Derived.Lib.SmallJoins
import Derived.Deep.Slices
import Derived.Carry
set_option linter.unusedVariables false
set_option linter.unusedSimpArgs false
namespace Go.Proofs.YtjaegolanbjgfaaDoor
open Go.RowKit
open Go.ChangeShapes Go.WideShapes
/-- The arguments read behind the call as they did. -/
theorem trodAll_stays {H : Type} {enc : TypeId × Value → H} {P : Program} (hl : laidOutB P = true) {W W' : World} (hb : Below W.heap.size W W') {sp : Nat → Bool} :
    ∀ {ts : List TypeId} {vs : List Value} {ds : List (DataW H)} {ps : List MemPlace}, (∀ t ∈ ts, P.readableRec t = true ∧ t < P.types.size) →
      DataW.TrodAll enc P W 0 (fun _ => true) true ts vs ds ps → (∀ x ∈ ps, x.block < W.heap.size) → (∀ x ∈ ps, sp x.block = true) → DataW.TrodAll enc P W' 0 sp true ts vs ds ps
  | [], _, _, _, _, h, _, _ => by
    obtain ⟨rfl, rfl, rfl⟩ := trodAll_nil h
    exact trodAll_mk0
  | t :: ts, _, _, _, hts, h, hlt, hsp => by
    obtain ⟨v, vs1, d, ds1, a, b, rfl, rfl, rfl, h1, h2⟩ := trodAll_cons h
    refine trodAll_cons_mk (WideElems.Trod_stays hl (hts t (by simp)).1 (hts t (by simp)).2 h1 (fun x hx => hb.same (hlt x (by simp [hx]))) (fun x hx => hsp x (by simp [hx]))) ?_
    exact trodAll_stays hl hb (fun t ht => hts t (by simp [ht])) h2 (fun x hx => hlt x (by simp [hx])) (fun x hx => hsp x (by simp [hx]))
/-- What such a law says of the call: it returns true, and below the heap's old size nothing has turned. -/
theorem post_true {H : Type} {enc : TypeId × Value → H} {f : Func} {s : ChangeSpec} {W W' : World} {args : Array Value} {ds gs : List (DataW H)} {before : List MemPlace}
    (hr : f.resultTypes = #[4]) (hvars : s.vars = []) (hts : ∀ t ∈ f.params.toList, Tryd.prog.readableRec t = true ∧ t < Tryd.prog.types.size) (hfn : s.fn H ds = { results := [.lit (.bool true)], args := ds })
    (hW : DataW.Whole enc Tryd.prog f.params.toList s.vars false W args.toList ds gs before) (hb : Below W.heap.size W W') :
    s.post enc Tryd.prog f false true false false W args (.bool true) W' := by
  have hlt := hW.lt
  have hW' := hW
  obtain ⟨p, q, hA, hV, rfl, hz, hn⟩ := hW
  rw [hvars] at hV
  obtain ⟨rfl, rfl⟩ := trodVars_none hV
  simp only [List.append_nil] at hlt hW'
  have hres : ∀ (b : Nat) (sp : Nat → Bool) (hd : Bool), DataW.TrodAll enc Tryd.prog W' b sp hd f.resultTypes.toList ((Value.bool true).resultList f.resultTypes.size) [.lit (.bool true)] [] := by
    intro b sp hd
    rw [hr]
    exact trodAll_cons_mk (shut_bool Tryd.underlying4 _) trodAll_mk0
  refine ⟨ds, [], p, [], p, [], hW', ?_, ?_, ?_, Below.frame hb _, fun h => by cases h⟩
  · rw [List.append_nil, hfn]
    exact hres _ _ _
  · rw [List.append_nil, hfn]
    exact trodAll_stays (by kernel_rfl) hb hts hA (fun x hx => hlt x hx) (fun x hx => by simpa using hlt x hx)
  · rw [List.append_nil, hfn, hvars]
    exact hV
instance : Inhabited Lot := ⟨z0⟩
theorem gl_range {n : Nat} (f : Nat → Lot) {j : Nat} (h : j < n) : gl ((List.range n).map f) j = f j := by
  unfold gl; rw [List.getD_eq_getElem?_getD, List.getElem?_map, List.getElem?_range h]; rfl
theorem list4 {α : Type} : ∀ {cs : List α}, cs.length = 4 → ∃ c0 c1 c2 c3, cs = [c0, c1, c2, c3]
  | [c0, c1, c2, c3], _ => ⟨c0, c1, c2, c3, rfl⟩
set_option maxRecDepth 100000 in
/-- A lot, read. -/
theorem open_lot {H : Type} {enc : TypeId × Value → H} {W : World} {b : Nat} {sp : Nat → Bool} {hd : Bool} {n : Nat} {cs : List Value} {x : DataW H × List MemPlace} (h : DataW.trod enc Tryd.prog W b sp hd n 48 cs = some x) :
    ∃ l : Lot, cs = [.int .i64 l.u, .int .i64 l.v, .int .i64 l.c, .int .i64 l.g] := by
  obtain ⟨y0, y1, y2, y3, m, rfl, hl, h0, h1, h2, h3⟩ := Joins.trod_struct4 Tryd.underlying48 h
  have hl4 : cs.length = 4 := hl.trans (by kernel_rfl)
  obtain ⟨c0, c1, c2, c3, rfl⟩ := list4 hl4
  have k3 : Tryd.prog.cellsOf 3 = 1 := by kernel_rfl
  have k2 : Tryd.prog.cellsOf 2 = 1 := by kernel_rfl
  simp only [k3, k2, List.drop_zero, List.drop_succ_cons, List.take_succ_cons, List.take_zero] at h0 h1 h2 h3
  obtain ⟨a, e0, _, _⟩ := DataW.trod_int Tryd.underlying3 h0
  obtain ⟨b, e1, _, _⟩ := DataW.trod_int Tryd.underlying2 h1
  obtain ⟨c, e2, _, _⟩ := DataW.trod_int Tryd.underlying2 h2
  obtain ⟨d, e3, _, _⟩ := DataW.trod_int Tryd.underlying3 h3
  simp only [List.cons.injEq, and_true] at e0 e1 e2 e3
  subst e0 e1 e2 e3
  exact ⟨⟨a, b, c, d⟩, rfl⟩
set_option maxRecDepth 100000 in
/-- A row of lots, read. -/
theorem open_lots {H : Type} {enc : TypeId × Value → H} {W : World} {n : Nat} {v : Value} {x : DataW H × List MemPlace} (h : DataW.trod enc Tryd.prog W 0 (fun _ => true) true n 22 [v] = some x) :
    ∃ (A : Option Addr) (c : Nat) (ls : List Lot), v = .slice A ls.length c ∧ LotsAt W A ls := by
  rcases Deep.open_slice Tryd.underlying22 h with ⟨e, _⟩ | ⟨a, len, cap, m, n, D, Pl, e, hb, hl, hm, hmm, rfl, hx⟩
  · simp only [List.cons.injEq, and_true] at e
    subst e
    exact ⟨none, 0, [], rfl, by simp, fun h => by cases h⟩
  · simp only [List.cons.injEq, and_true] at e
    subst e
    simp only [if_true] at hmm
    subst hmm
    have k4 : Tryd.prog.cellsOf 48 = 4 := by kernel_rfl
    rw [k4] at hx
    obtain ⟨f, hf⟩ := Deep.choose_lt (α := Lot) (n := m) (p := fun i l => W.cells? 0 (a.add (i * 4)) 4 = some [.int .i64 l.u, .int .i64 l.v, .int .i64 l.c, .int .i64 l.g]) (fun i hi => by
      obtain ⟨cs', h1, h2⟩ := hx i hi
      obtain ⟨l, rfl⟩ := open_lot h2
      exact ⟨l, h1⟩)
    refine ⟨some a, m, (List.range len).map f, by simp, by simp only [List.length_map, List.length_range]; simp only [maxLen] at hm; omega, fun hp => ?_⟩
    simp only [List.length_map, List.length_range] at hp ⊢
    obtain ⟨ab, ao, sp⟩ := a
    have hc : ∀ j, j < len → W.cell? ((Addr.mk ab ao sp).add (j * 4)) = some (.int .i64 (f j).u) ∧ W.cell? (((Addr.mk ab ao sp).add (j * 4)).add 1) = some (.int .i64 (f j).v) ∧ W.cell? (((Addr.mk ab ao sp).add (j * 4)).add 2) = some (.int .i64 (f j).c) ∧ W.cell? (((Addr.mk ab ao sp).add (j * 4)).add 3) = some (.int .i64 (f j).g) := by
      intro j hj
      obtain ⟨_, _, h4⟩ := World.cells?_some (hf j (by omega))
      exact ⟨by simpa [Addr.add] using h4 0 (by omega), h4 1 (by omega), h4 2 (by omega), h4 3 (by omega)⟩
    have hspot : sp = none := by
      have := (hc 0 hp).1
      simp only [Nat.zero_mul, Addr.add, if_true] at this
      exact World.cell?_spot this
    subst hspot
    refine ⟨ab, ao, rfl, fun j hj => ?_⟩
    rw [gl_range f hj]
    obtain ⟨h0, h1, h2, h3⟩ := hc j hj
    have e0 : (Addr.mk ab ao none).add (j * 4) = ⟨ab, ao + j * 4, none⟩ := by
      unfold Addr.add
      split
      · rename_i h; simp [h]
      · rfl
    rw [e0] at h0 h1 h2 h3
    exact ⟨h0, by simpa [Addr.add] using h1, by simpa [Addr.add] using h2, by simpa [Addr.add] using h3⟩
set_option maxRecDepth 100000 in
/-- A row of numbers, read. -/
theorem open_row {H : Type} {enc : TypeId × Value → H} {W : World} {n : Nat} {t e : TypeId} {v : Value} {x : DataW H × List MemPlace} (ht : Tryd.prog.underlying t = some (.slice e)) (he : Tryd.prog.underlying e = some (.int .i64)) (hc : Tryd.prog.cellsOf e = 1)
    (h : DataW.trod enc Tryd.prog W 0 (fun _ => true) true n t [v] = some x) :
    ∃ (A : Option Addr) (c : Nat) (xs : List Int), v = .slice A xs.length c ∧ IntsAt W A xs := by
  rcases open_ints ht he hc h with ⟨e, _⟩ | ⟨a, len, cap, zs, e, hb, hl, hm, hzl, _, hcell, _⟩
  · simp only [List.cons.injEq, and_true] at e
    subst e
    exact ⟨none, 0, [], rfl, by simp, fun h => by cases h⟩
  · simp only [List.cons.injEq, and_true] at e
    subst e
    simp only [if_true] at hzl
    have hlen : (zs.take len).length = len := by rw [List.length_take]; omega
    refine ⟨some a, cap, zs.take len, by rw [hlen], by rw [hlen]; simp only [maxLen] at hm; omega, fun hp => ?_⟩
    rw [hlen] at hp ⊢
    obtain ⟨ab, ao, sp⟩ := a
    have hspot : sp = none := by
      have := hcell 0 (by omega)
      simp only [Addr.add, if_true] at this
      exact World.cell?_spot this
    subst hspot
    refine ⟨ab, ao, rfl, fun j hj => ?_⟩
    have h0 := hcell j (by omega)
    have e0 : (Addr.mk ab ao none).add j = ⟨ab, ao + j, none⟩ := by
      unfold Addr.add
      split
      · rename_i h; simp [h]
      · rfl
    rw [e0] at h0
    rw [h0]
    congr 2
    unfold gi
    rw [List.getD_eq_getElem?_getD, List.getD_eq_getElem?_getD, List.getElem?_take_of_lt hj]
set_option maxRecDepth 100000 in
/-- A problem, read. -/
theorem open_prob {H : Type} {enc : TypeId × Value → H} {W : World} {r : Reach} {b0 : Nat} {v : Value} {d : DataW H} {ps : List MemPlace} (hv : Value.okWide Tryd.prog W r b0 25 v) (hd : DataW.Trod enc Tryd.prog W 0 (fun _ => true) true 25 v d ps) :
    ∃ (A : Option Addr) (c : Nat) (B : Option Addr) (e : Nat) (p : Prob), v = pv A c B e p ∧ LotsAt W A p.lots ∧ IntsAt W B p.caps := by
  obtain ⟨v0, v1, v2, y0, y1, y2, n, rfl, rfl, rfl, h0, h1, h2⟩ := Joins.open_agg3 Tryd.underlying25 (by kernel_rfl) (by kernel_rfl) hv hd
  obtain ⟨A, c, ls, rfl, hL⟩ := open_lots h0
  obtain ⟨B, e, xs, rfl, hC⟩ := open_row Tryd.underlying23 Tryd.underlying2 (by kernel_rfl) h1
  obtain ⟨z, e2, _, _⟩ := DataW.trod_int Tryd.underlying2 h2
  simp only [List.cons.injEq, and_true] at e2
  subst e2
  exact ⟨A, c, B, e, ⟨ls, xs, z⟩, rfl, hL, hC⟩

end Go.Proofs.YtjaegolanbjgfaaDoor
