import Derived.Test.YtjaegolanbjgfaaDoorRu
import Derived.Test.YtjaegolanbjgfaaDoorMf
import Derived.WalkKit
import Derived.WalkSpells
import Derived.WalkLawsBesides
import Derived.Lib.Hide
import Derived.Deep.DeepCutAuto
import Derived.Deep.LoopGhost
import Derived.Deep.QuietTactic
import Derived.BigQuiet
import Derived.Deep.OwnRows
import Derived.StillTailTactics
import Derived.IntWalk
import Derived.Laws.BitsLemmas
import Derived.Laws.MathBits
import Derived.Laws.Bits64
import Derived.Deep.RegionHeld3
import Derived.BigRegion
import Derived.Lib.SliceRun
import Derived.Deep.AppendLies
set_option linter.unusedVariables false
set_option linter.unusedSimpArgs false
namespace Go.Proofs.YtjaegolanbjgfaaDoor
open Go.RowKit
theorem box5 {w : World} {g t : Nat} {a b c d e : Value} (hh : w.heap[g]? = some (.cells #[a, b, c, d, e] t (0, 0))) :
    w.cell? ⟨g, 0, none⟩ = some a ∧ w.cell? ⟨g, 1, none⟩ = some b ∧ w.cell? ⟨g, 2, none⟩ = some c ∧ w.cell? ⟨g, 3, none⟩ = some d ∧ w.cell? ⟨g, 4, none⟩ = some e :=
  ⟨cell_of_row _ _ 0 _ _ _ hh, cell_of_row _ _ 1 _ _ _ hh, cell_of_row _ _ 2 _ _ _ hh, cell_of_row _ _ 3 _ _ _ hh, cell_of_row _ _ 4 _ _ _ hh⟩
theorem fin5 {w : World} {g t : Nat} {a b c d e : Value} (hh : w.heap[g]? = some (.cells #[a, b, c, d, e] t (0, 0))) (v0 v1 v2 v3 v4 : Value) :
    (((((w.setCell ⟨g, 0, none⟩ v0).setCell ⟨g, 1, none⟩ v1).setCell ⟨g, 2, none⟩ v2).setCell ⟨g, 3, none⟩ v3).setCell ⟨g, 4, none⟩ v4).heap[g]? = some (.cells #[v0, v1, v2, v3, v4] t (0, 0)) :=
  heap_set (heap_set (heap_set (heap_set (heap_set hh _) _) _) _) _
theorem bel5 {w w1 : World} {g : Nat} (h : Below w.heap.size w w1) (hg : w.heap.size ≤ g) (v0 v1 v2 v3 v4 : Value) :
    Below w.heap.size w (((((w1.setCell ⟨g, 0, none⟩ v0).setCell ⟨g, 1, none⟩ v1).setCell ⟨g, 2, none⟩ v2).setCell ⟨g, 3, none⟩ v3).setCell ⟨g, 4, none⟩ v4) :=
  ((((h.setCell hg _).setCell hg _).setCell hg _).setCell hg _).setCell hg _
theorem fin5d {w : World} {g t : Nat} {a b c d e : Value} (hh : w.heap[g]? = some (.cells #[a, b, c, d, e] t (0, 0))) (v0 v1 v2 v3 v4 : Value) :
    (((((w.setCell ⟨g, 0, none⟩ v0).setCell ⟨g, 1, none⟩ v1).setCell ⟨g, 2, none⟩ v2).setCell ⟨g, 3, none⟩ v3).setCell ⟨g, 4, none⟩ v4).drew.heap[g]? = some (.cells #[v0, v1, v2, v3, v4] t (0, 0)) := by
  generalize hW : ((((w.setCell ⟨g, 0, none⟩ v0).setCell ⟨g, 1, none⟩ v1).setCell ⟨g, 2, none⟩ v2).setCell ⟨g, 3, none⟩ v3).setCell ⟨g, 4, none⟩ v4 = W
  have h := fin5 hh v0 v1 v2 v3 v4
  rw [hW] at h
  exact h
theorem results_cell_slot {P : Program} {fn : Func} {p q : Tmp} {ty : TypeId} (h : fn.results = #[.cell p ty, .tmp q]) (tmps : Array Value) (w : World) (g : Nat) (t : TypeId) (cs : Array Value) (fr : Nat × Nat) (d : TypeDesc)
    (hp : tmps.getD p undef = .pointer (some ⟨g, 0, none⟩)) (hg : w.heap[g]? = some (.cells cs t fr))
    (hu : P.underlying ty = some d) (hd : (match d with | .struct _ | .array _ _ => true | _ => false) = true) (hi : (P.info? ty).map (·.size) = some cs.size) :
    (results fn tmps).run P w = .ok (.tuple #[.agg cs, tmps.getD q undef]) w := by
  have hp' : tmps[p]?.getD undef = .pointer (some ⟨g, 0, none⟩) := by simpa using hp
  simp [results, h, hp', asAddr, run_loadVar_row w g t ty cs fr d hg hu hd hi]
def resV (A : Option Addr) (n cap : Nat) (worth cost : Int) (sure : Bool) (looked : Int) : Value := .agg #[.slice A n cap, .int .i64 worth, .int .i64 cost, .bool sure, .int .i64 looked]
def GivesBest (p : Prob) (bud : Int) (ea : Nat → Addr) (w : World) (e : Ending) (w' : World) : Prop := Below w.heap.size w w' ∧
  match errB p bud with
  | some k => e = .returned (.tuple #[resV none 0 0 0 0 false 0, .iface 130 (.pointer (some (ea k)))])
  | none => ∃ g cap, e = .returned (.tuple #[resV (some ⟨g, 0, none⟩) p.lots.length cap (worthV p (takeB p bud)) (costV p (takeB p bud)) (srch p bud).2 (srch p bud).1.looked, .nilIface]) ∧ IntsAt w' (some ⟨g, 0, none⟩) (takeB p bud) ∧ w.heap.size ≤ g ∧ p.lots.length ≤ cap
/-- The world with a new search. -/
structure NewS (w3 : World) (B : Option Addr) (d : Nat) (p : Prob) (bud : Int) (S bb sg scap : Nat) (w' : World) : Prop where
  b : Below w3.heap.size w3 w'
  s : w'.heap[S]? = some (sbox (some ⟨sg, 0, none⟩) scap B d (sortedP p) (.slice (some ⟨bb, 0, none⟩) p.lots.length p.lots.length) 0 0 bud (.slice none 0 0))
  o : Own w' bb 3 (.slice (some ⟨bb, 0, none⟩) p.lots.length p.lots.length) (zeros p.lots.length)
  l : LotsAt w' (some ⟨sg, 0, none⟩) (sortedP p).lots
  c : p.lots.length ≤ scap
  n : w3.heap.size ≤ S ∧ w3.heap.size ≤ bb ∧ w3.heap.size ≤ sg ∧ S ≠ bb ∧ sg ≠ S ∧ sg ≠ bb
theorem gl_sorted (p : Prob) {k : Nat} (hk : k < p.lots.length) : gl (sortedP p).lots k = gl p.lots (gi (orderP p.lots) k).toNat := by
  have h : k < (orderP p.lots).length := by rw [(places_order p.lots).len]; exact hk
  simp [gl, gi, sortedP, List.getD_eq_getElem?_getD, h]
theorem ok_sorted {p : Prob} (h : Ok p) : Ok (sortedP p) := by
  have hl : (sortedP p).lots.length = p.lots.length := by simp [sortedP, (places_order p.lots).len]
  refine ⟨by rw [hl]; exact h.n0, by rw [hl]; exact h.n8, h.m0, h.m8, fun k hk => ?_, h.cap, h.need0, h.need1⟩
  rw [hl] at hk
  have hp := (places_order p.lots).inr k hk
  rw [gl_sorted p hk]
  exact h.lot _ (by omega)
/-- The world with a new result. -/
structure NewR (w3 : World) (p : Prob) (sure : Bool) (looked : Int) (R tb : Nat) (w' : World) : Prop where
  b : Below w3.heap.size w3 w'
  r : w'.heap[R]? = some (.cells #[.slice (some ⟨tb, 0, none⟩) p.lots.length p.lots.length, .int .i64 0, .int .i64 0, .bool sure, .int .i64 looked] 34 (0, 0))
  o : Own w' tb 3 (.slice (some ⟨tb, 0, none⟩) p.lots.length p.lots.length) (zeros p.lots.length)
  n : w3.heap.size ≤ R ∧ w3.heap.size ≤ tb ∧ R ≠ tb
theorem NewR.one (w : World) (p : Prob) (sure : Bool) (looked : Int) (hn : p.lots.length ≤ 9223372036854775807) :
    NewR w p sure looked (w.heap.size + 1) w.heap.size (((w.alloc (.cells (madeCells #[.int .i64 0] p.lots.length) 3)).alloc (.cells #[.slice (some ⟨w.heap.size, 0, none⟩) p.lots.length p.lots.length, .int .i64 0, .int .i64 0, .bool sure, .int .i64 looked] 34)).drew) := by
  refine ⟨(bal (bal (Below.refl _ _) _) _).drew, ?_, (own_zeros w _ hn).below (bal (Below.refl _ _) _).drew, by omega⟩
  have := heap_alloc_new (w.alloc (.cells (madeCells #[.int .i64 0] p.lots.length) 3)) (.cells #[.slice (some ⟨w.heap.size, 0, none⟩) p.lots.length p.lots.length, .int .i64 0, .int .i64 0, .bool sure, .int .i64 looked] 34)
  rw [show (w.alloc (.cells (madeCells #[.int .i64 0] p.lots.length) 3)).heap.size = w.heap.size + 1 by simp] at this
  exact this
theorem NewR.two (w : World) (p : Prob) (sure : Bool) (looked : Int) (hn : p.lots.length ≤ 9223372036854775807) :
    NewR w p sure looked w.heap.size (w.heap.size + 1) (((w.alloc (.cells #[.slice (some ⟨w.heap.size + 1, 0, none⟩) p.lots.length p.lots.length, .int .i64 0, .int .i64 0, .bool sure, .int .i64 looked] 34)).alloc (.cells (madeCells #[.int .i64 0] p.lots.length) 3)).drew) := by
  have h := own_zeros (w.alloc (.cells #[.slice (some ⟨w.heap.size + 1, 0, none⟩) p.lots.length p.lots.length, .int .i64 0, .int .i64 0, .bool sure, .int .i64 looked] 34)) p.lots.length hn
  rw [show (w.alloc (.cells #[.slice (some ⟨w.heap.size + 1, 0, none⟩) p.lots.length p.lots.length, .int .i64 0, .int .i64 0, .bool sure, .int .i64 looked] 34)).heap.size = w.heap.size + 1 by simp] at h
  exact ⟨(bal (bal (Below.refl _ _) _) _).drew, (heap_alloc_old _ _ (by simp)).trans (heap_alloc_new _ _), h, by omega⟩
/-- The world near the end. -/
structure EndW (w : World) (H1 R tb n : Nat) (ts : List Int) (bx : Obj) (v1 v2 v3 v4 : Value) (W : World) : Prop where
  b : Below w.heap.size w W
  x : W.heap[w.heap.size]? = some bx
  y : W.heap[H1]? = some (.cells #[.slice none 0 0, .int .i64 0, .int .i64 0, .bool false, .int .i64 0] 34 (0, 0))
  r : W.heap[R]? = some (.cells #[.slice (some ⟨tb, 0, none⟩) n n, v1, v2, v3, v4] 34 (0, 0))
  o : Own W tb 3 (.slice (some ⟨tb, 0, none⟩) n n) ts
  n : w.heap.size < R ∧ H1 < R ∧ w.heap.size < H1 ∧ H1 < tb ∧ R ≠ tb
theorem EndW.below {w : World} {H1 R tb n : Nat} {ts : List Int} {bx : Obj} {v1 v2 v3 v4 : Value} {W W' : World} (h : EndW w H1 R tb n ts bx v1 v2 v3 v4 W) (hb : Below W.heap.size W W') : EndW w H1 R tb n ts bx v1 v2 v3 v4 W' :=
  ⟨btr h.b hb, boxN h.x hb, boxN h.y hb, boxN h.r hb, h.o.below hb, h.n⟩
theorem EndW.set {w : World} {H1 R tb n : Nat} {ts : List Int} {bx : Obj} {v1 v2 v3 v4 : Value} {W : World} (h : EndW w H1 R tb n ts bx v1 v2 v3 v4 W) (i : Nat) (v : Value) :
    Below w.heap.size w (W.setCell ⟨R, i, none⟩ v) ∧ (W.setCell ⟨R, i, none⟩ v).heap[w.heap.size]? = some bx ∧ (W.setCell ⟨R, i, none⟩ v).heap[H1]? = some (.cells #[.slice none 0 0, .int .i64 0, .int .i64 0, .bool false, .int .i64 0] 34 (0, 0)) ∧
    (W.setCell ⟨R, i, none⟩ v).heap[R]? = some (.cells ((#[.slice (some ⟨tb, 0, none⟩) n n, v1, v2, v3, v4] : Array Value).setIfInBounds i v) 34 (0, 0)) ∧ Own (W.setCell ⟨R, i, none⟩ v) tb 3 (.slice (some ⟨tb, 0, none⟩) n n) ts := by
  have hn := h.n
  exact ⟨h.b.setCell (by simp only; omega) _, (Below.heap_setCell _ _ _ _ (by simp only [ne_eq]; omega)).trans h.x, (Below.heap_setCell _ _ _ _ (by simp only [ne_eq]; omega)).trans h.y, heap_set h.r v,
    World.ownsRow.kept h.o (grow_set W R i v) (Or.inr (by simp only [Value.ownBlock, ne_eq, Option.some.injEq]; omega))⟩
theorem EndW.set4 {w : World} {H1 R tb n : Nat} {ts : List Int} {bx : Obj} {v1 v2 v3 v4 : Value} {W : World} (h : EndW w H1 R tb n ts bx v1 v2 v3 v4 W) (v : Value) : EndW w H1 R tb n ts bx v1 v2 v3 v (W.setCell ⟨R, 4, none⟩ v) := by
  obtain ⟨a, b, c, d, e⟩ := h.set 4 v; exact ⟨a, b, c, d, e, h.n⟩
theorem EndW.set1 {w : World} {H1 R tb n : Nat} {ts : List Int} {bx : Obj} {v1 v2 v3 v4 : Value} {W : World} (h : EndW w H1 R tb n ts bx v1 v2 v3 v4 W) (v : Value) : EndW w H1 R tb n ts bx v v2 v3 v4 (W.setCell ⟨R, 1, none⟩ v) := by
  obtain ⟨a, b, c, d, e⟩ := h.set 1 v; exact ⟨a, b, c, d, e, h.n⟩
theorem EndW.set2 {w : World} {H1 R tb n : Nat} {ts : List Int} {bx : Obj} {v1 v2 v3 v4 : Value} {W : World} (h : EndW w H1 R tb n ts bx v1 v2 v3 v4 W) (v : Value) : EndW w H1 R tb n ts bx v1 v v3 v4 (W.setCell ⟨R, 2, none⟩ v) := by
  obtain ⟨a, b, c, d, e⟩ := h.set 2 v; exact ⟨a, b, c, d, e, h.n⟩
theorem ints5 {w : World} {g t : Nat} {xs : List Int} (h : IntsAt w (some ⟨t, 0, none⟩) xs) (hg : t ≠ g) (v0 v1 v2 v3 v4 : Value) :
    IntsAt (((((w.setCell ⟨g, 0, none⟩ v0).setCell ⟨g, 1, none⟩ v1).setCell ⟨g, 2, none⟩ v2).setCell ⟨g, 3, none⟩ v3).setCell ⟨g, 4, none⟩ v4) (some ⟨t, 0, none⟩) xs :=
  (Fr.of_S (row := none) (grS (grS (grS (grS (grS (grb (Below.refl w.heap.size w) (some g)) 0 v0) 1 v1) 2 v2) 3 v3) 4 v4)).ints h hg (by simp)
theorem LotsAt.lt {w : World} {g : Nat} {xs : List Lot} (h : LotsAt w (some ⟨g, 0, none⟩) xs) (hp : 0 < xs.length) : g < w.heap.size := by
  obtain ⟨b, o, e, h0, _⟩ := h.get hp
  simp only [Option.some.injEq, Addr.mk.injEq] at e
  have := World.block_lt_of_cell? w _ h0
  simp only at this; omega
theorem sorted_len (p : Prob) : (sortedP p).lots.length = p.lots.length := by simp [sortedP, (places_order p.lots).len]
theorem NewS.one {w3 w4 : World} {B : Option Addr} {d : Nat} {p : Prob} {bud : Int} {sg scap : Nat} (hb : Below w3.heap.size w3 w4) (hn : 0 < p.lots.length) (h8 : p.lots.length ≤ 8) (hsg : w3.heap.size ≤ sg) (hl : LotsAt w4 (some ⟨sg, 0, none⟩) (sortedP p).lots) (hc : p.lots.length ≤ scap) :
    NewS w3 B d p bud (w4.heap.size + 1) w4.heap.size sg scap ((w4.alloc (.cells (madeCells #[.int .i64 0] p.lots.length) 3)).alloc (sbox (some ⟨sg, 0, none⟩) scap B d (sortedP p) (.slice (some ⟨w4.heap.size, 0, none⟩) p.lots.length p.lots.length) 0 0 bud (.slice none 0 0))) := by
  have hlt := hl.lt (by rw [sorted_len]; exact hn)
  have hs := hb.size
  have b2 := bal (bal (Below.refl w4.heap.size w4) (.cells (madeCells #[.int .i64 0] p.lots.length) 3)) (sbox (some ⟨sg, 0, none⟩) scap B d (sortedP p) (.slice (some ⟨w4.heap.size, 0, none⟩) p.lots.length p.lots.length) 0 0 bud (.slice none 0 0))
  refine ⟨btr hb b2, ?_, (own_zeros w4 _ (by omega)).below (bal (Below.refl _ _) _), hl.below b2, hc, by omega⟩
  have := heap_alloc_new (w4.alloc (.cells (madeCells #[.int .i64 0] p.lots.length) 3)) (sbox (some ⟨sg, 0, none⟩) scap B d (sortedP p) (.slice (some ⟨w4.heap.size, 0, none⟩) p.lots.length p.lots.length) 0 0 bud (.slice none 0 0))
  rw [show (w4.alloc (.cells (madeCells #[.int .i64 0] p.lots.length) 3)).heap.size = w4.heap.size + 1 by simp] at this
  exact this
theorem NewS.two {w3 w3' w4 : World} {B : Option Addr} {d : Nat} {p : Prob} {bud : Int} {sg scap : Nat} (hb : Below w3.heap.size w3 w4) (hw : w3'.heap.size = w3.heap.size + 1) (ho : Own w3' w3.heap.size 3 (.slice (some ⟨w3.heap.size, 0, none⟩) p.lots.length p.lots.length) (zeros p.lots.length)) (hb' : Below w3'.heap.size w3' w4) (hn : 0 < p.lots.length) (hsg : w3'.heap.size ≤ sg) (hl : LotsAt w4 (some ⟨sg, 0, none⟩) (sortedP p).lots) (hc : p.lots.length ≤ scap) :
    NewS w3 B d p bud w4.heap.size w3.heap.size sg scap (w4.alloc (sbox (some ⟨sg, 0, none⟩) scap B d (sortedP p) (.slice (some ⟨w3.heap.size, 0, none⟩) p.lots.length p.lots.length) 0 0 bud (.slice none 0 0))) := by
  have hlt := hl.lt (by rw [sorted_len]; exact hn)
  have hs := hb'.size
  have b2 := bal (Below.refl w4.heap.size w4) (sbox (some ⟨sg, 0, none⟩) scap B d (sortedP p) (.slice (some ⟨w3.heap.size, 0, none⟩) p.lots.length p.lots.length) 0 0 bud (.slice none 0 0))
  exact ⟨btr hb b2, heap_alloc_new _ _, (ho.below hb').below b2, hl.below b2, hc, by omega⟩
set_option maxRecDepth 100000 in
set_option maxHeartbeats 4000000 in
theorem Best_any (A : Option Addr) (c : Nat) (B : Option Addr) (d : Nat) (p : Prob) (bud : Int) (ea : Nat → Addr) (w : World) (hL : LotsAt w A p.lots) (hC : IntsAt w B p.caps) (hs : Sent 3 ea w) :
    Calls Tryd.prog 15 #[pv A c B d p, .int .i64 bud] w (GivesBest p bud ea w) := by
  have HL := Lib.hid hL
  have HC := Lib.hid hC
  have HS := Lib.hid hs
  have HB0 := Lib.hid (bal (bal (Below.refl w.heap.size w) (.cells #[.slice A p.lots.length c, .slice B p.caps.length d, .int .i64 p.need] 25)) (.cells #[.slice none 0 0, .int .i64 0, .int .i64 0, .bool false, .int .i64 0] 34))
  clear hL hC hs
  go_enter Tryd.func15, Tryd.ntmps15
  go_wp2_with fail
  refine (valid_any A c B d p ea _ (HL.out.below HB0.out) (HC.out.below HB0.out) (HS.out.below HB0.out)).mono ?_
  rintro e w1 ⟨rfl, hb1⟩
  obtain ⟨H1, hH1⟩ : ∃ m, m = w.heap.size + 1 := ⟨_, rfl⟩
  have hx1 : w1.heap[w.heap.size]? = some (.cells #[.slice A p.lots.length c, .slice B p.caps.length d, .int .i64 p.need] 25 (0, 0)) := (hb1.block _ (by simp; omega)).trans ((heap_alloc_old _ _ (by simp)).trans (heap_alloc_new _ _))
  have hy1 : w1.heap[H1]? = some (.cells #[.slice none 0 0, .int .i64 0, .int .i64 0, .bool false, .int .i64 0] 34 (0, 0)) := (hb1.block _ (by simp; omega)).trans (by have := heap_alloc_new (w.alloc (.cells #[.slice A p.lots.length c, .slice B p.caps.length d, .int .i64 p.need] 25)) (.cells #[.slice none 0 0, .int .i64 0, .int .i64 0, .bool false, .int .i64 0] 34); rw [show (w.alloc (.cells #[.slice A p.lots.length c, .slice B p.caps.length d, .int .i64 p.need] 25)).heap.size = H1 by simp; omega] at this; exact this)
  have HB1 := Lib.hid (btr HB0.out hb1)
  obtain ⟨a0, a1, a2⟩ := box3 hx1
  obtain ⟨r0, r1, r2, r3, r4⟩ := box5 hy1
  have fr0 := frz hy1 0
  have fr1 := frz hy1 1
  have fr2 := frz hy1 2
  have fr3 := frz hy1 3
  have fr4 := frz hy1 4
  have HX1 := Lib.hid hx1
  have HY1 := Lib.hid hy1
  have HH1 := Lib.hid hH1
  have hlt1 : 1 < w.heap.size := World.block_lt_of_cell? w _ (HS.out 1 (by omega) (by omega) (by omega))
  have n0 : ¬ H1 = 0 := by omega
  have n0' : ¬ 0 = H1 := by omega
  have n1 : ¬ H1 = 1 := by omega
  have n1' : ¬ 1 = H1 := by omega
  rw [← hH1]
  clear hb1 hx1 hy1 hH1
  rcases hv : valid p with _ | k
  · rw [errV]
    have hok := ok_of_valid hv
    have HOK := Lib.hid hok
    have HV := Lib.hid hv
    have hm1 := hok.n8
    have hm0 := hok.n0
    clear hv hok
    by_cases hb0 : bud < 0
    · have db : decide (bud < 0) = true := decide_eq_true hb0
      have s0 := (HS.out.below HB1.out) 0 (by omega) (by omega) (by omega)
      have HE := Lib.hid (show errB p bud = some 0 by unfold errB; rw [HV.out]; simp only; rw [if_pos (Or.inl hb0)])
      clear hb0
      go_wp2_with fail
      go_region_held3 (fun w' => w'.cell? ⟨0, 0, none⟩ = some (.iface 130 (.pointer (some (ea 0))))) (first | go_keep | exact cell_far (cell_far (cell_far (cell_far (cell_far s0 (by simp; omega)) (by simp; omega)) (by simp; omega)) (by simp; omega)) (by simp; omega)) (fail)
      go_wp2_with fail
      refine bodyPost_ret (results_cell_slot rfl _ _ H1 34 _ _ _ rfl (fin5d HY1.out _ _ _ _ _) Tryd.underlying34 rfl (by kernel_rfl)) rfl ⟨(bel5 HB1.out (by have := HH1.out; omega) _ _ _ _ _).drew, ?_⟩
      rw [HE.out]; rfl
    · have db : decide (bud < 0) = false := decide_eq_false hb0
      by_cases hb1 : 100000 < bud
      · have db1 : decide (100000 < bud) = true := decide_eq_true hb1
        have s0 := (HS.out.below HB1.out) 0 (by omega) (by omega) (by omega)
        have HE := Lib.hid (show errB p bud = some 0 by unfold errB; rw [HV.out]; simp only; rw [if_pos (Or.inr hb1)])
        clear hb0 hb1
        go_wp2_with fail
        go_region_held3 (fun w' => w'.cell? ⟨0, 0, none⟩ = some (.iface 130 (.pointer (some (ea 0))))) (first | go_keep | exact cell_far (cell_far (cell_far (cell_far (cell_far s0 (by simp; omega)) (by simp; omega)) (by simp; omega)) (by simp; omega)) (by simp; omega)) (fail)
        go_wp2_with fail
        refine bodyPost_ret (results_cell_slot rfl _ _ H1 34 _ _ _ rfl (fin5d HY1.out _ _ _ _ _) Tryd.underlying34 rfl (by kernel_rfl)) rfl ⟨(bel5 HB1.out (by have := HH1.out; omega) _ _ _ _ _).drew, ?_⟩
        rw [HE.out]; rfl
      · have db1 : decide (100000 < bud) = false := decide_eq_false hb1
        have hbud : 0 ≤ bud ∧ bud ≤ 100000 := by omega
        have HG := Lib.hid fun W h => Greedy_any A c B d p ea W (HL.out.below h) (HC.out.below h) (HS.out.below h) HOK.out
        have hn3 : ¬ (bud < 0 ∨ 100000 < bud) := by omega
        have HN3 := Lib.hid hn3
        clear hb0 hb1 hn3
        go_wp2_with fail
        refine (HG.out _ HB1.out).mono ?_
        rintro e w2 ⟨hb2, hg2⟩
        have HBa := Lib.hid (btr HB1.out hb2)
        have HX2 := Lib.hid (boxN HX1.out hb2)
        have HY2 := Lib.hid (boxN HY1.out hb2)
        clear a0 a1 a2 r0 r1 r2 r3 r4 fr0 fr1 fr2 fr3 fr4 HX1 HY1 HG hb2
        obtain ⟨a0, a1, a2⟩ := box3 HX2.out
        obtain ⟨r0, r1, r2, r3, r4⟩ := box5 HY2.out
        have fr0 := frz HY2.out 0
        have fr1 := frz HY2.out 1
        have fr2 := frz HY2.out 2
        have fr3 := frz HY2.out 3
        have fr4 := frz HY2.out 4
        by_cases hgr : worthP p (greedyT p) < p.need
        · rw [if_pos hgr] at hg2
          subst hg2
          have s1 := (HS.out.below HBa.out) 1 (by omega) (by omega) (by omega)
          have HE := Lib.hid (show errB p bud = some 1 by unfold errB; rw [HV.out]; simp only; rw [if_neg HN3.out, if_pos hgr])
          clear hgr
          go_wp2_with fail
          go_region_held3 (fun w' => w'.cell? ⟨1, 0, none⟩ = some (.iface 130 (.pointer (some (ea 1))))) (first | go_keep | exact cell_far (cell_far (cell_far (cell_far (cell_far s1 (by simp; omega)) (by simp; omega)) (by simp; omega)) (by simp; omega)) (by simp; omega)) (fail)
          go_wp2_with fail
          refine bodyPost_ret (results_cell_slot rfl _ _ H1 34 _ _ _ rfl (fin5d HY2.out _ _ _ _ _) Tryd.underlying34 rfl (by kernel_rfl)) rfl ⟨(bel5 HBa.out (by have := HH1.out; omega) _ _ _ _ _).drew, ?_⟩
          rw [HE.out]; rfl
        · rw [if_neg hgr] at hg2
          obtain ⟨GA, gc, rfl, hgi, hgc⟩ := hg2
          have HGI := Lib.hid hgi
          have HE := Lib.hid (show errB p bud = none by unfold errB; rw [HV.out]; simp only; rw [if_neg HN3.out, if_neg hgr])
          have HO := Lib.hid fun W h => Order_any A c p.lots W (HL.out.below h) (Fair.of_ok HOK.out) hm0 hm1
          clear hgr hgi fr0 fr1 fr2 fr3 fr4 r0 r1 r2 r3 r4
          go_wp2_with fail
          refine (HO.out _ HBa.out).mono ?_
          rintro e w3 ⟨OA, oc, rfl, hio, hoc, hof, hb3⟩
          rw [(places_order p.lots).len] at hoc ⊢
          have HIO := Lib.hid hio
          have HBb := Lib.hid (btr HBa.out hb3)
          have HX3 := Lib.hid (boxN HX2.out hb3)
          have HY3 := Lib.hid (boxN HY2.out hb3)
          have HGI3 := Lib.hid (HGI.out.below hb3)
          clear a0 a1 a2 HX2 HY2 HO hio hb3 hof HGI
          obtain ⟨a0, a1, a2⟩ := box3 HX3.out
          go_wp2_with fail
          have HSO := Lib.hid fun W h => sorted_any A c B d p OA oc p.lots.length (orderP p.lots) W (HL.out.below (btr HBb.out h)) (HIO.out.below h) (places_order p.lots).len (places_order p.lots).inr hm0 hm1 hm1
          have hmk := run_make_row' (P := Tryd.prog) 32 3 (.int .i64 0) 8 Tryd.underlying32 info3 rfl .i64 .i64 p.lots.length (by omega) (by omega)
          have nX := World.new_ne w3 _ a0
          go_cut [10] (fun s w' => ∃ S bb sg scap : Nat, s = .pointer (some ⟨S, 0, none⟩) ∧ NewS w3 B d p bud S bb sg scap w')
          case first =>
            go_region_held3 (fun w' => w'.cell? ⟨w.heap.size, 0, none⟩ = some (.slice A p.lots.length c) ∧ w'.cell? ⟨w.heap.size, 1, none⟩ = some (.slice B p.caps.length d) ∧ w'.cell? ⟨w.heap.size, 2, none⟩ = some (.int .i64 p.need)) (go_keep)
              (first
                | (go_at_call 35; go_must (first | refine (HSO.out _ (Below.refl w3.heap.size w3).drew).mono ?_ | refine (HSO.out _ (bal (Below.refl w3.heap.size w3) (.cells (madeCells #[.int .i64 0] p.lots.length) 3)).drew).mono ?_); rintro e w4 ⟨hb4, sg, scap, hsg, rfl, hsl, hsc⟩; have hb4' : Below w3.heap.size w3 w4 := (by first | exact btr (Below.refl w3.heap.size w3).drew hb4 | exact btr (bal (Below.refl w3.heap.size w3) (.cells (madeCells #[.int .i64 0] p.lots.length) 3)).drew hb4); have d0 := cellB hb4' a0; have d1 := cellB hb4' a1; have d2 := cellB hb4' a2))
            all_goals
              go_wp2_with fail
              go_meet
              first
                | exact ⟨_, _, _, _, rfl, NewS.one hb4' hm0 hm1 hsg hsl hsc⟩
                | exact ⟨_, _, _, _, rfl, NewS.two (w3' := (w3.alloc (.cells (madeCells #[.int .i64 0] p.lots.length) 3)).drew) hb4' (by simp) (own_zeros w3 _ (by omega)) hb4 hm0 hsg hsl hsc⟩
          case rest =>
            obtain ⟨S, bb, sg, scap, rfl, hNS⟩ := hcut
            have HNS := Lib.hid hNS
            have HBc := Lib.hid (btr HBb.out hNS.b)
            have HXc := Lib.hid (boxN HX3.out hNS.b)
            have HYc := Lib.hid (boxN HY3.out hNS.b)
            have HGIc := Lib.hid (HGI3.out.below hNS.b)
            have HIOc := Lib.hid (HIO.out.below hNS.b)
            have hw3 : w.heap.size + 1 < w3.heap.size := by have := (Array.getElem?_eq_some_iff.1 HY3.out).1; have := HH1.out; omega
            have HGN := Lib.hid (fun b o (e : GA = some ⟨b, o, none⟩) => (by
              obtain ⟨b', o', e', h0⟩ := HGI3.out.get (k := 0) (by rw [(greedy_in HOK.out).1]; exact hm0)
              have := World.block_lt_of_cell? w3 _ h0
              rw [e] at e'; simp only [Option.some.injEq, Addr.mk.injEq] at e'; simp only at this; omega : b < w3.heap.size))
            have HON := Lib.hid (fun b o (e : OA = some ⟨b, o, none⟩) => (by
              obtain ⟨b', o', e', h0⟩ := HIO.out.get (k := 0) (by rw [(places_order p.lots).len]; exact hm0)
              have := World.block_lt_of_cell? w3 _ h0
              rw [e] at e'; simp only [Option.some.injEq, Addr.mk.injEq] at e'; simp only at this; omega : b < w3.heap.size))
            have hnn := hNS.n
            clear hNS HSO hmk nX a0 a1 a2 HIO HX3 HY3 HGI3
            go_wp2_with fail
            go_loopw [54] (fun i w' => ∃ k : Nat, k ≤ p.lots.length ∧ i = .int .i64 k ∧ wc.grownBy w' (some bb) ∧ Own w' bb 3 (.slice (some ⟨bb, 0, none⟩) p.lots.length p.lots.length) (gath (orderP p.lots) (greedyT p) p.lots.length k)) (fun i _ => p.lots.length - (intOf i).toNat)
            case atStart => exact ⟨0, Nat.zero_le _, rfl, grb (Below.refl _ _) _, HNS.out.o⟩
            case round =>
              obtain ⟨k, hk, rfl, hgr, hown⟩ := hrel
              have HGR := Lib.hid hgr
              have HOW := Lib.hid hown
              clear hgr hown
              by_cases hlt : k < p.lots.length
              · have hko : k < (orderP p.lots).length := by rw [(places_order p.lots).len]; exact hlt
                obtain ⟨ob, oo, rfl, r0'⟩ := HIOc.out.get hko
                have r0 := HGR.out.cell r0' (by have := HON.out ob oo rfl; simp; omega)
                obtain ⟨i, hi⟩ := Int.eq_ofNat_of_zero_le ((places_order p.lots).inr k hlt).1
                have hi2 := ((places_order p.lots).inr k hlt).2
                rw [hi] at r0 hi2
                have HIE := Lib.hid hi
                obtain ⟨tb, tq, rfl, t0'⟩ := HGIc.out.get (k := i) (by rw [(greedy_in HOK.out).1]; omega)
                have t0 := HGR.out.cell t0' (by have := HGN.out tb tq rfl; simp; omega)
                have s3 := HGR.out.cell (box8 HNS.out.s).2.2.2.1 (by simp; omega)
                obtain ⟨o0, f0⟩ := own_row HOW.out (k := k) (by rw [gath_len]; exact hlt)
                have hki : (k : Int) < (p.lots.length : Int) := by omega
                clear hi hko r0' t0'
                go_wp2_with fail
                go_region
                go_wp2_with fail
                have HO2 := Lib.hid (HOW.out.set k (gi (greedyT p) i))
                go_roundw
                case rel => exact ⟨k + 1, by omega, by go_num, grN (grt HGR.out HO2.out.2) _, by unfold gath; rw [HIE.out, Int.toNat_natCast]; exact HO2.out.1⟩
                case measure => simp only [intOf]; omega
              · have hkn : k = p.lots.length := by omega
                subst hkn
                have HBd := Lib.hid (HBc.out.grown HGR.out HBc.out.size (fun k hk => by simp only [Option.some.injEq] at hk; omega))
                have hxd := (HGR.out.block _ (Array.getElem?_eq_some_iff.1 HXc.out).1 (by simp only [ne_eq, Option.some.injEq]; omega)).trans HXc.out
                have hyd := (HGR.out.block _ (Array.getElem?_eq_some_iff.1 HYc.out).1 (by have := HH1.out; simp only [ne_eq, Option.some.injEq]; omega)).trans HYc.out
                have hsd := (HGR.out.block _ (Array.getElem?_eq_some_iff.1 HNS.out.s).1 (by simp only [ne_eq, Option.some.injEq]; omega)).trans HNS.out.s
                have HXd := Lib.hid hxd
                have HYd := Lib.hid hyd
                have HSd := Lib.hid hsd
                have HLd := Lib.hid (HNS.out.l.grown HGR.out (fun b o e => by simp only [Option.some.injEq, Addr.mk.injEq] at e; omega))
                have HGId := Lib.hid (HGIc.out.grown HGR.out (fun b o e => by have := HGN.out b o e; omega))
                have HIOd := Lib.hid (HIOc.out.grown HGR.out (fun b o e => by have := HON.out b o e; omega))
                have hcv : costV p (greedyT p) = costP p (greedyT p) := by unfold costV; rw [fitsB_of HOK.out (greedy_in HOK.out), if_pos rfl]
                have hcb := cost_bd HOK.out (greedy_in HOK.out)
                have HCB := Lib.hid hcb
                have hcc := Cost_any A c B d p GA gc (greedyT p) ea wr (HL.out.below HBd.out) (HC.out.below HBd.out) HGId.out (HS.out.below HBd.out)
                rw [hcv, (greedy_in HOK.out).1] at hcc
                have HCC := Lib.hid hcc
                obtain ⟨a0, a1, a2⟩ := box3 hxd
                have hsz1 : S < wr.heap.size ∧ bb < wr.heap.size := ⟨(Array.getElem?_eq_some_iff.1 hsd).1, by have := World.ownsRow.lt HOW.out bb rfl; omega⟩
                have hgl : (greedyT p).length = p.lots.length := (greedy_in HOK.out).1
                have HGL := Lib.hid hgl
                have HNC := Lib.hid HNS.out.c
                clear hxd hyd hsd hcv hcb hcc HGR HXc HYc HNS HGIc HIOc HBc hgl
                go_wp2_with fail
                refine HCC.out.mono ?_
                rintro e w5 ⟨rfl, hb5⟩
                have hs5 := boxN HSd.out hb5
                have s4 := (box8 hs5).2.2.2.2.1
                have f4 := frz hs5 4
                have hss := heap_set (i := 4) hs5 (.int .i64 (costP p (greedyT p)))
                have hg5 : wr.grownBy (w5.setCell ⟨S, 4, none⟩ (.int .i64 (costP p (greedyT p)))) (some S) := grS (grb hb5 _) _ _
                have HG5 := Lib.hid hg5
                have HS6 := Lib.hid (show (w5.setCell ⟨S, 4, none⟩ (.int .i64 (costP p (greedyT p)))).heap[S]? = some (sbox (some ⟨sg, 0, none⟩) scap B d (sortedP p) (.slice (some ⟨bb, 0, none⟩) p.lots.length p.lots.length) (costP p (greedyT p)) 0 bud (.slice none 0 0)) from hss)
                clear hb5 hs5 hss hg5 HCC a0 a1 a2
                go_upto_region 17 with (fail)
                generalize hw6 : w5.setCell ⟨S, 4, none⟩ (.int .i64 (costP p (greedyT p))) = w6 at *
                clear hw6 s4 f4
                go_cut [13] (fun s w' => s = .bool (srch p bud).2 ∧ w6.grownBy w' (some S) ∧ ∃ bg bc v, w'.heap[S]? = some (sbox (some ⟨sg, 0, none⟩) scap B d (sortedP p) (.slice (some ⟨bg, 0, none⟩) p.lots.length bc) (srch p bud).1.cost (srch p bud).1.looked bud v) ∧ IntsAt w' (some ⟨bg, 0, none⟩) (srch p bud).1.best ∧ (srch p bud).1.best.length = p.lots.length)
                case first =>
                  obtain ⟨_, _, _, _, s4, _, _, _⟩ := box8 HS6.out
                  by_cases hz : costP p (greedyT p) = 0
                  · have e0 : srch p bud = (⟨best0 p, 0, 0, []⟩, true) := by unfold srch; rw [if_pos hz]
                    have E0 := Lib.hid e0
                    have HZ := Lib.hid hz
                    have hs6 := HS6.out
                    rw [hz] at hs6 s4
                    have HS7 := Lib.hid hs6
                    clear e0 hz hs6
                    go_wp2_with fail
                    go_meet
                    refine ⟨by rw [E0.out], grb (Below.refl _ _) _, bb, _, _, by rw [E0.out]; exact HS7.out, ?_, by rw [E0.out]; exact gath_len _ _ _ _⟩
                    rw [E0.out]
                    exact (Fr.of_S (row := none) HG5.out).ints HOW.out.intsAt.1 (by omega) (by simp)
                  · have HZ := Lib.hid hz
                    have dz : (costP p (greedyT p) == 0) = false := by rw [beq_eq_false_iff_ne]; exact hz
                    have dz2 : decide (costP p (greedyT p) = 0) = false := decide_eq_false hz
                    have hsl := sorted_len p
                    have e1 : srch p bud = runS (sortedP p) bud (wt (sortedP p) (sortedP p).lots.length) ⟨best0 p, costP p (greedyT p), 0, [root (sortedP p)]⟩ := by unfold srch root; rw [if_neg hz, hsl]
                    have hs6 := HS6.out
                    have hB1 : ∀ b o, B = some ⟨b, o, none⟩ → b ≠ S := fun b o e => by
                      obtain ⟨b', o', e', h0⟩ := HC.out.get (k := 0) HOK.out.m0
                      have := World.block_lt_of_cell? w _ h0
                      rw [e] at e'; simp only [Option.some.injEq, Addr.mk.injEq] at e'; simp only at this; omega
                    have hr := run_any S (some ⟨sg, 0, none⟩) scap B d (sortedP p) bud (best0 p) bb p.lots.length (costP p (greedyT p)) (.slice none 0 0) ea w6 (HLd.out.grown HG5.out (fun b o e => by simp only [Option.some.injEq, Addr.mk.injEq] at e; omega))
                      ((HC.out.below HBd.out).grown HG5.out hB1) ((HS.out.below HBd.out).grown HG5.out (fun g h1 h2 h3 => by omega)) (ok_sorted HOK.out) (by rw [hsl]; exact HNC.out) (fun b o e => by simp only [Option.some.injEq, Addr.mk.injEq] at e; omega) hB1
                      (by simp only [sbox, hsl] at hs6 ⊢; exact hs6) ((Fr.of_S (row := none) HG5.out).ints HOW.out.intsAt.1 (by omega) (by simp)) (by rw [hsl]; exact gath_len _ _ _ _) (by omega) HCB.out hbud
                    rw [← e1] at hr
                    have HR := Lib.hid hr
                    clear e1 hz hs6 hr hsl hB1
                    go_wp2_with fail
                    refine HR.out.mono ?_
                    rintro e w7 ⟨rfl, hg7, bg, bc, v7, hs7, hi7, hl7⟩
                    rw [sorted_len] at hl7
                    have HG7 := Lib.hid hg7
                    have HI7 := Lib.hid hi7
                    have HL7 := Lib.hid hl7
                    have HS7 := Lib.hid (show w7.heap[S]? = some (sbox (some ⟨sg, 0, none⟩) scap B d (sortedP p) (.slice (some ⟨bg, 0, none⟩) p.lots.length bc) (srch p bud).1.cost (srch p bud).1.looked bud v7) by simp only [sbox, sorted_len] at hs7 ⊢; exact hs7)
                    clear hg7 hs7 hi7 hl7 HR
                    go_wp2_with fail
                    go_meet
                    exact ⟨rfl, HG7.out, bg, bc, v7, HS7.out, HI7.out, HL7.out⟩
                case rest =>
                  obtain ⟨wD, hwD⟩ : ∃ x, x = wc := ⟨_, rfl⟩
                  subst hwD
                  obtain ⟨rfl, hg7, bg, bc, v7, hs7, hi7, hl7⟩ := hcut
                  have HG7 := Lib.hid hg7
                  have HI7 := Lib.hid hi7
                  have HL7 := Lib.hid hl7
                  have HS7 := Lib.hid hs7
                  clear hg7 hs7 hi7 hl7
                  have HB8 := Lib.hid ((HBd.out.grown HG5.out HBd.out.size (fun k hk => by simp only [Option.some.injEq] at hk; omega)).grown HG7.out (HBd.out.grown HG5.out HBd.out.size (fun k hk => by simp only [Option.some.injEq] at hk; omega)).size (fun k hk => by simp only [Option.some.injEq] at hk; omega))
                  have hgg := World.grownBy.trans HG5.out HG7.out
                  have HX8 := Lib.hid ((hgg.block _ (Array.getElem?_eq_some_iff.1 HXd.out).1 (by simp only [ne_eq, Option.some.injEq]; omega)).trans HXd.out)
                  have HY8 := Lib.hid ((hgg.block _ (Array.getElem?_eq_some_iff.1 HYd.out).1 (by have := HH1.out; simp only [ne_eq, Option.some.injEq]; omega)).trans HYd.out)
                  have HIO8 := Lib.hid (HIOd.out.grown hgg (fun b o e => by have := HON.out b o e; omega))
                  have hmk := run_make_row' (P := Tryd.prog) 32 3 (.int .i64 0) 8 Tryd.underlying32 info3 rfl .i64 .i64 p.lots.length (by omega) (by omega)
                  obtain ⟨_, _, _, _, _, s5, _, _⟩ := box8 HS7.out
                  have nS5 := World.new_ne wD _ s5
                  have hw8 : w.heap.size + 1 < wD.heap.size := by have := (Array.getElem?_eq_some_iff.1 HY8.out).1; have := HH1.out; omega
                  clear hgg HG5 HG7 HS6 HXd HYd HIOd HGId HLd HBd
                  go_wp2_with fail
                  go_cut [14] (fun s w' => ∃ R tb : Nat, s = .pointer (some ⟨R, 0, none⟩) ∧ NewR wD p (srch p bud).2 (srch p bud).1.looked R tb w')
                  case first =>
                    go_region_held3 (fun w' => w'.cell? ⟨S, 5, none⟩ = some (.int .i64 (srch p bud).1.looked)) (go_keep) (fail)
                    all_goals
                      go_wp2_with fail
                      go_meet
                      first
                        | exact ⟨wD.heap.size + 1, wD.heap.size, rfl, NewR.one wD p _ _ (by omega)⟩
                        | exact ⟨wD.heap.size, wD.heap.size + 1, rfl, NewR.two wD p _ _ (by omega)⟩
                  case rest =>
                    obtain ⟨R, tb, rfl, hNR⟩ := hcut
                    have HNR := Lib.hid hNR
                    have hrn := hNR.n
                    have HBe := Lib.hid (btr HB8.out hNR.b)
                    have HSe := Lib.hid (boxN HS7.out hNR.b)
                    have HXe := Lib.hid (boxN HX8.out hNR.b)
                    have HYe := Lib.hid (boxN HY8.out hNR.b)
                    have HIe := Lib.hid (HI7.out.below hNR.b)
                    have HOe := Lib.hid (HIO8.out.below hNR.b)
                    have hbg : bg < wD.heap.size := HI7.out.lt (by rw [HL7.out]; exact hm0)
                    have hS8 : S < wD.heap.size := (Array.getElem?_eq_some_iff.1 HS7.out).1
                    have HO8 := Lib.hid (fun b o (e : OA = some ⟨b, o, none⟩) => (by
                      obtain ⟨b', o', e', h0⟩ := HIO8.out.get (k := 0) (by rw [(places_order p.lots).len]; exact hm0)
                      have := World.block_lt_of_cell? wD _ h0
                      rw [e] at e'; simp only [Option.some.injEq, Addr.mk.injEq] at e'; simp only at this; omega : b < wD.heap.size))
                    clear hNR hmk s5 nS5 HIO8 HX8 HY8 HON
                    go_wp2_with fail
                    go_loopw [99] (fun i w' => ∃ k : Nat, k ≤ p.lots.length ∧ i = .int .i64 k ∧ wc.grownBy w' (some tb) ∧ Own w' tb 3 (.slice (some ⟨tb, 0, none⟩) p.lots.length p.lots.length) (scat (orderP p.lots) (srch p bud).1.best p.lots.length k)) (fun i _ => p.lots.length - (intOf i).toNat)
                    case atStart => exact ⟨0, Nat.zero_le _, rfl, grb (Below.refl _ _) _, HNR.out.o⟩
                    case round =>
                      obtain ⟨k, hk, rfl, hgr, hown⟩ := hrel
                      have HGR := Lib.hid hgr
                      have HOV := Lib.hid hown
                      clear hgr hown
                      by_cases hlt : k < p.lots.length
                      · have hko : k < (orderP p.lots).length := by rw [(places_order p.lots).len]; exact hlt
                        obtain ⟨ob, oo, rfl, r0'⟩ := HOe.out.get hko
                        have r0 := HGR.out.cell r0' (by have := HO8.out ob oo rfl; simp; omega)
                        obtain ⟨i, hi⟩ := Int.eq_ofNat_of_zero_le ((places_order p.lots).inr k hlt).1
                        have hi2 := ((places_order p.lots).inr k hlt).2
                        rw [hi] at r0 hi2
                        have HIE := Lib.hid hi
                        obtain ⟨tb', tq, he', t0'⟩ := HIe.out.get (k := k) (by rw [HL7.out]; omega)
                        have he2 : bg = tb' ∧ 0 = tq := by simpa using he'
                        obtain ⟨rfl, rfl⟩ := he2
                        have t0 := HGR.out.cell t0' (by simp; omega)
                        rw [Nat.zero_add] at t0
                        have s3 := HGR.out.cell (box8 HSe.out).2.2.2.1 (by simp; omega)
                        have q0 := HGR.out.cell (box5 HNR.out.r).1 (by simp; omega)
                        obtain ⟨o0, f0⟩ := own_row HOV.out (k := i) (by rw [scat_len]; omega)
                        have hki : (k : Int) < (p.lots.length : Int) := by omega
                        clear hi hko r0' t0' he'
                        go_wp2_with fail
                        go_region
                        go_wp2_with fail
                        have HO2 := Lib.hid (HOV.out.set i (gi (srch p bud).1.best k))
                        go_roundw
                        case rel => exact ⟨k + 1, by omega, by go_num, grN (grt HGR.out HO2.out.2) _, by unfold scat; rw [HIE.out, Int.toNat_natCast]; exact HO2.out.1⟩
                        case measure => simp only [intOf]; omega
                      · have hkn : k = p.lots.length := by omega
                        subst hkn
                        have hSR : S ≠ R := by omega
                        have E0 := Lib.hid (show EndW w H1 R tb p.lots.length (takeB p bud) (.cells #[.slice A p.lots.length c, .slice B p.caps.length d, .int .i64 p.need] 25 (0, 0)) (.int .i64 0) (.int .i64 0) (.bool (srch p bud).2) (.int .i64 (srch p bud).1.looked) wr from
                          ⟨HBe.out.grown HGR.out HBe.out.size (fun k hk => by simp only [Option.some.injEq] at hk; omega),
                            (HGR.out.block _ (Array.getElem?_eq_some_iff.1 HXe.out).1 (by simp only [ne_eq, Option.some.injEq]; omega)).trans HXe.out,
                            (HGR.out.block _ (Array.getElem?_eq_some_iff.1 HYe.out).1 (by have := HH1.out; simp only [ne_eq, Option.some.injEq]; omega)).trans HYe.out,
                            (HGR.out.block _ (Array.getElem?_eq_some_iff.1 HNR.out.r).1 (by simp only [ne_eq, Option.some.injEq]; omega)).trans HNR.out.r, HOV.out, by have := HH1.out; omega⟩)
                        have s5 := HGR.out.cell (box8 HSe.out).2.2.2.2.2.1 (by simp; omega)
                        obtain ⟨r0, r1, r2, r3, r4⟩ := box5 E0.out.r
                        have g4 := frz E0.out.r 4
                        have HTL := Lib.hid (scat_len (orderP p.lots) (srch p bud).1.best p.lots.length p.lots.length)
                        clear HGR HOV HBe HXe HYe HSe HNR HIe HOe HO8
                        go_upto_region 25 with (fail)
                        have E1 := Lib.hid (E0.out.set4 (.int .i64 (srch p bud).1.looked))
                        generalize wr.setCell ⟨R, 4, none⟩ (.int .i64 (srch p bud).1.looked) = W1 at *
                        clear s5 r0 r1 r2 r3 r4 g4
                        obtain ⟨r0, r1, r2, r3, r4⟩ := box5 E1.out.r
                        obtain ⟨a0, a1, a2⟩ := box3 E1.out.x
                        have hww := Worth_any A c B d p (some ⟨tb, 0, none⟩) p.lots.length (takeB p bud) ea W1 (HL.out.below E1.out.b) (HC.out.below E1.out.b) E1.out.o.intsAt.1 (HS.out.below E1.out.b)
                        rw [show (takeB p bud).length = p.lots.length from HTL.out] at hww
                        have HWW := Lib.hid hww
                        clear hww
                        go_wp2_with fail
                        refine HWW.out.mono ?_
                        rintro e W2 ⟨rfl, hb2⟩
                        have E2 := Lib.hid (E1.out.below hb2)
                        clear hb2 r0 r1 r2 r3 r4 a0 a1 a2 HWW
                        obtain ⟨r0, r1, r2, r3, r4⟩ := box5 E2.out.r
                        have g1 := frz E2.out.r 1
                        go_upto_region 26 with (fail)
                        have E3 := Lib.hid (E2.out.set1 (.int .i64 (worthV p (takeB p bud))))
                        generalize W2.setCell ⟨R, 1, none⟩ (.int .i64 (worthV p (takeB p bud))) = W3 at *
                        clear r0 r1 r2 r3 r4 g1
                        obtain ⟨r0, r1, r2, r3, r4⟩ := box5 E3.out.r
                        obtain ⟨a0, a1, a2⟩ := box3 E3.out.x
                        have hww := Cost_any A c B d p (some ⟨tb, 0, none⟩) p.lots.length (takeB p bud) ea W3 (HL.out.below E3.out.b) (HC.out.below E3.out.b) E3.out.o.intsAt.1 (HS.out.below E3.out.b)
                        rw [show (takeB p bud).length = p.lots.length from HTL.out] at hww
                        have HWW := Lib.hid hww
                        clear hww
                        go_wp2_with fail
                        refine HWW.out.mono ?_
                        rintro e W4 ⟨rfl, hb4⟩
                        have E4 := Lib.hid (E3.out.below hb4)
                        clear hb4 r0 r1 r2 r3 r4 a0 a1 a2 HWW
                        obtain ⟨r0, r1, r2, r3, r4⟩ := box5 E4.out.r
                        have g2 := frz E4.out.r 2
                        go_upto_region 27 with (fail)
                        have E5 := Lib.hid (E4.out.set2 (.int .i64 (costV p (takeB p bud))))
                        generalize W4.setCell ⟨R, 2, none⟩ (.int .i64 (costV p (takeB p bud))) = W5 at *
                        clear r0 r1 r2 r3 r4 g2
                        obtain ⟨r0, r1, r2, r3, r4⟩ := box5 E5.out.r
                        obtain ⟨q0, q1, q2, q3, q4⟩ := box5 E5.out.y
                        have y0 := frz E5.out.y 0
                        have y1 := frz E5.out.y 1
                        have y2 := frz E5.out.y 2
                        have y3 := frz E5.out.y 3
                        have y4 := frz E5.out.y 4
                        go_wp2_with fail
                        have hni := E5.out.n
                        have hif := E5.out.o
                        refine bodyPost_ret (results_cell_slot rfl _ _ H1 34 _ _ _ rfl (fin5 E5.out.y _ _ _ _ _) Tryd.underlying34 rfl (by kernel_rfl)) rfl ⟨bel5 E5.out.b (by omega) _ _ _ _ _, ?_⟩
                        rw [HE.out]
                        refine ⟨tb, p.lots.length, rfl, ?_, by omega, Nat.le_refl _⟩
                        exact ints5 E5.out.o.intsAt.1 (by omega) _ _ _ _ _
  · rw [errV]
    have HV := Lib.hid hv
    clear hv
    go_wp2_with fail
    refine bodyPost_ret (results_cell_slot rfl _ _ H1 34 _ _ _ rfl (fin5 HY1.out _ _ _ _ _) Tryd.underlying34 rfl (by kernel_rfl)) rfl ⟨bel5 HB1.out (by have := HH1.out; omega) _ _ _ _ _, ?_⟩
    unfold errB; rw [HV.out]; rfl

end Go.Proofs.YtjaegolanbjgfaaDoor
