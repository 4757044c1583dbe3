import Derived.Test.YtjaegolanbjgfaaDoorGo
import Derived.WalkKit
import Derived.WalkSpells
import Derived.WalkLawsBesides
import Derived.Lib.Hide
import Derived.Deep.DeepCutAuto
import Derived.Deep.LoopGhost
import Derived.Deep.QuietTactic
import Derived.BigQuiet
import Derived.Deep.OwnRows
import Derived.StillTailTactics
import Derived.IntWalk
import Derived.Laws.BitsLemmas
import Derived.Laws.MathBits
import Derived.Laws.Bits64
import Derived.Deep.RegionHeld3
import Derived.BigRegion
import Derived.Lib.SliceRun
import Derived.Deep.AppendLies
set_option linter.unusedVariables false
set_option linter.unusedSimpArgs false
namespace Go.Proofs.YtjaegolanbjgfaaDoor
open Go.RowKit
theorem imp_ends {p : Prob} {cost : Int} {x : St} (h : endsB p cost x = false) : impB p cost x = false := by
  unfold endsB at h
  split at h
  · cases h
  · rename_i h'; unfold impB; rw [decide_eq_false h']; rfl
theorem Stk.val {N S : Nat} {v : Value} {ps : List PS} {w : World} (h : Stk N S v ps w) : ∃ A cap, v = .slice A ps.length cap := by
  rcases h.o.2 with ⟨rfl, hn⟩ | ⟨g, cap, cur, rfl, _⟩
  · exact ⟨none, 0, by rw [hn]⟩
  · exact ⟨_, cap, rfl⟩
theorem row_pop {w : World} {N e size g n cap : Nat} {xs ys : List Value} (h : w.ownsRow N e size (.slice (some ⟨g, 0, none⟩) (n + 1) cap) (n + 1) (xs ++ ys)) (hx : xs.length = n * size) :
    w.ownsRow N e size (.slice (some ⟨g, 0, none⟩) n cap) n xs := by
  refine ⟨hx, Or.inr ?_⟩
  rcases h.2 with ⟨h', _⟩ | ⟨g', cap', cur, h', hb, hh, h1, h2, h3, h4⟩
  · simp at h'
  · simp only [Value.slice.injEq, Option.some.injEq, Addr.mk.injEq, true_and] at h'
    obtain ⟨⟨rfl, _⟩, rfl⟩ := h'
    refine ⟨g, cap, cur, rfl, hb, hh, by omega, h2, h3, ?_⟩
    have := congrArg (List.take (n * size)) h4
    rw [List.take_take, List.take_left' hx, Nat.min_eq_left (Nat.mul_le_mul_right _ (by omega))] at this
    exact this
theorem Stk.pop {N S g n cap : Nat} {r : List PS} {y : PS} {w : World} (h : Stk N S (.slice (some ⟨g, 0, none⟩) (n + 1) cap) (r ++ [y]) w) (hn : r.length = n) : Stk N S (.slice (some ⟨g, 0, none⟩) n cap) r w := by
  subst hn
  refine ⟨?_, fun x hx => h.t x (by simp [hx])⟩
  have ho := h.o
  rw [flatS_add, List.length_append] at ho
  exact row_pop ho (flatS_len r)
theorem Stk.top {N S g n cap : Nat} {r : List PS} {y : PS} {w : World} (h : Stk N S (.slice (some ⟨g, 0, none⟩) (n + 1) cap) (r ++ [y]) w) (hn : r.length = n) :
    w.cell? ⟨g, n * 3, none⟩ = some (.slice (some ⟨y.g, 0, none⟩) y.s.take.length y.cap) ∧ w.cell? ⟨g, n * 3 + 1, none⟩ = some (.int .i64 y.s.n) ∧ w.cell? ⟨g, n * 3 + 2, none⟩ = some (.int .i64 y.s.cost) := by
  subst hn
  have k := fun i u (hu : (psCells y)[i]? = some u) => (add0 g (r.length * 3 + i)) ▸ World.ownsRow.cells h.o (g := g) rfl (r.length * 3 + i) u (by
    rw [flatS_add, List.getElem?_append_right (by rw [flatS_len]; omega), flatS_len, Nat.add_sub_cancel_left]; simpa [flatS] using hu)
  exact ⟨k 0 _ rfl, k 1 _ rfl, k 2 _ rfl⟩
def root (p : Prob) : St := ⟨zeros p.lots.length, 0, 0⟩
theorem csum_zeros (ls : List Lot) (n : Nat) : ∀ k, csum ls (zeros n) k = 0
  | 0 => rfl
  | k + 1 => by unfold csum; rw [csum_zeros ls n k, gi_zeros]; simp
theorem root_ok {p : Prob} (h : Ok p) : StkOk p [root p] :=
  ⟨fun x hx => by
    simp only [List.mem_singleton] at hx; subst hx
    exact ⟨Nat.zero_le _, inLots_zeros h, (csum_zeros _ _ _).symm, fun k _ => gi_zeros _ _⟩, fun i x hx => by
    have := (List.getElem?_eq_some_iff.1 hx).1; simp at this; omega⟩
/-- The world while it runs. -/
structure RunW (w : World) (S : Nat) (A : Option Addr) (c : Nat) (B : Option Addr) (d : Nat) (p : Prob) (bud : Int) (ss : SS) (bv v : Value) (qs : List PS) (w' : World) : Prop where
  f : w.grownBy w' (some S)
  bs : w'.heap[S]? = some (sbox A c B d p bv ss.cost ss.looked bud v)
  st : Stk w.heap.size S v qs w'
  e : sts qs = ss.stack
  bi : ∃ bg bc, bv = .slice (some ⟨bg, 0, none⟩) p.lots.length bc ∧ IntsAt w' (some ⟨bg, 0, none⟩) ss.best ∧ ss.best.length = p.lots.length ∧ bg ≠ S ∧ some bg ≠ v.ownBlock
  ok : StkOk p ss.stack
  cb : 0 ≤ ss.cost ∧ ss.cost ≤ 8000000000000
  lb : 0 ≤ ss.looked ∧ ss.looked ≤ bud
/-- .. with the topmost one taken off. -/
structure RunP (w : World) (S : Nat) (A : Option Addr) (c : Nat) (B : Option Addr) (d : Nat) (p : Prob) (bud : Int) (ss : SS) (bv v : Value) (r : List PS) (y : PS) (w' : World) : Prop where
  f : w.grownBy w' (some S)
  bs : w'.heap[S]? = some (sbox A c B d p bv ss.cost ss.looked bud v)
  st : Stk w.heap.size S v r w'
  e : sts r ++ [y.s] = ss.stack
  yt : 0 < y.s.take.length ∧ y.s.take.length ≤ y.cap ∧ IntsAt w' (some ⟨y.g, 0, none⟩) y.s.take ∧ y.g ≠ S ∧ some y.g ≠ v.ownBlock
  bi : ∃ bg bc, bv = .slice (some ⟨bg, 0, none⟩) p.lots.length bc ∧ IntsAt w' (some ⟨bg, 0, none⟩) ss.best ∧ ss.best.length = p.lots.length ∧ bg ≠ S ∧ some bg ≠ v.ownBlock
  ok : StkOk p (sts r ++ [y.s])
  cb : 0 ≤ ss.cost ∧ ss.cost ≤ 8000000000000
  lb : 0 ≤ ss.looked ∧ ss.looked ≤ bud
theorem RunW.pop {w : World} {S : Nat} {A : Option Addr} {c : Nat} {B : Option Addr} {d : Nat} {p : Prob} {bud : Int} {ss : SS} {bv : Value} {sg j sc : Nat} {r : List PS} {y : PS} {wr w2 : World}
    (h : RunW w S A c B d p bud ss bv (.slice (some ⟨sg, 0, none⟩) (j + 1) sc) (r ++ [y]) wr) (hj : j = r.length) (hg : wr.grownBy w2 (some S)) (hSw : S < w.heap.size)
    (hs : w2.heap[S]? = some (sbox A c B d p bv ss.cost ss.looked bud (.slice (some ⟨sg, 0, none⟩) j sc))) : RunP w S A c B d p bud ss bv (.slice (some ⟨sg, 0, none⟩) j sc) r y w2 := by
  have hsg := (World.ownsRow.lt h.st.o sg rfl).1
  have st2 := h.st.keepS hg (by simp only [Value.ownBlock, ne_eq, Option.some.injEq]; omega)
  obtain ⟨bg, bc, e, b1, b2, b3, b4⟩ := h.bi
  have ee : sts r ++ [y.s] = ss.stack := by rw [← h.e, sts_add]; rfl
  exact ⟨World.grownBy.trans h.f hg, hs, st2.pop hj.symm, ee, st2.t y (by simp), ⟨bg, bc, e, (Fr.of_S (row := none) hg).ints b1 b3 (by simp), b2, b3, b4⟩, by rw [ee]; exact h.ok, h.cb, h.lb⟩
theorem RunP.ends {w : World} {S : Nat} {A : Option Addr} {c : Nat} {B : Option Addr} {d : Nat} {p : Prob} {bud : Int} {ss : SS} {bv v : Value} {r : List PS} {y : PS} {w2 w3 : World}
    (h : RunP w S A c B d p bud ss bv v r y w2) (hok : Ok p) (hSw : S < w.heap.size) (hg : w2.grownBy w3 (some S)) (he : endsB p ss.cost y.s = true) (hl : ¬ bud ≤ ss.looked)
    (hs : w3.heap[S]? = some (sbox A c B d p (if impB p ss.cost y.s then .slice (some ⟨y.g, 0, none⟩) y.s.take.length y.cap else bv) (if impB p ss.cost y.s then y.s.cost else ss.cost) ss.looked bud v)) :
    ∃ bv', RunW w S A c B d p bud (stepS p ss (sts r) y.s) bv' v r (w3.setCell ⟨S, 5, none⟩ (.int .i64 (ss.looked + 1))) := by
  have hg2 := World.grownBy.trans hg (grow_set w3 S 5 (.int .i64 (ss.looked + 1)))
  have nS : some S ≠ v.ownBlock := fun e => by have := (World.ownsRow.lt h.st.o S e.symm).1; omega
  have hb := heap_set (i := 5) hs (.int .i64 (ss.looked + 1))
  have es : stepS p ss (sts r) y.s = ⟨if impB p ss.cost y.s then y.s.take else ss.best, if impB p ss.cost y.s then y.s.cost else ss.cost, ss.looked + 1, sts r⟩ := by unfold stepS; rw [he, if_pos rfl]
  rw [es]
  obtain ⟨yt0, yt1, yt2, yt3, yt4⟩ := h.yt
  have hy : StOk p y.s := h.ok.ok _ (by simp)
  have hc := cost_bd hok hy.i
  rw [← hy.c] at hc
  have hlb := h.lb
  cases hi : impB p ss.cost y.s
  · rw [hi] at hb
    obtain ⟨bg, bc, e, b1, b2, b3, b4⟩ := h.bi
    exact ⟨bv, World.grownBy.trans h.f hg2, hb, h.st.keepS hg2 nS, rfl, ⟨bg, bc, e, (Fr.of_S (row := none) hg2).ints b1 b3 (by simp), b2, b3, b4⟩, h.ok.pre, h.cb, by simp only; omega⟩
  · rw [hi] at hb
    exact ⟨_, World.grownBy.trans h.f hg2, hb, h.st.keepS hg2 nS, rfl, ⟨y.g, y.cap, by simp only [if_true]; rw [hy.i.1], (Fr.of_S (row := none) hg2).ints yt2 yt3 (by simp), hy.i.1, yt3, yt4⟩, h.ok.pre, hc, by simp only; omega⟩
theorem RunP.goes {w : World} {S : Nat} {A : Option Addr} {c : Nat} {B : Option Addr} {d : Nat} {p : Prob} {bud : Int} {ss : SS} {bv v v1 : Value} {r qs : List PS} {y : PS} {w2 w3 w4 : World}
    (h : RunP w S A c B d p bud ss bv v r y w2) (hok : Ok p) (hSw : S < w.heap.size) (hg : w2.grownBy w3 (some S)) (he : endsB p ss.cost y.s = false)
    (hf : Fr w3 w4 S v.ownBlock) (hs : w4.heap[S]? = some (sbox A c B d p bv ss.cost ss.looked bud v1)) (hst : Stk w.heap.size S v1 qs w4) (hq : sts qs = sts r ++ kids p y.s)
    (hv : ∀ j, v1.ownBlock = some j → v.ownBlock = some j ∨ w3.heap.size ≤ j) :
    RunW w S A c B d p bud (stepS p ss (sts r) y.s) bv v1 qs w4 := by
  have es : stepS p ss (sts r) y.s = ⟨ss.best, ss.cost, ss.looked, sts r ++ kids p y.s⟩ := by unfold stepS; rw [he]; rfl
  rw [es]
  have hvl := World.ownsRow.lt h.st.o
  obtain ⟨bg, bc, e, b1, b2, b3, b4⟩ := h.bi
  have b1' := (Fr.of_S (row := none) hg).ints b1 b3 (by simp)
  have hb0 := b1'.lt (by have := hok.n0; omega)
  have hok' := h.ok.push (ends_no he (h.ok.ok _ (by simp)).n) hok _ (Nat.le_refl _)
  have hwf := World.grownBy.trans h.f hg
  refine ⟨⟨hf.os.trans hwf.os, hf.tape.trans hwf.tape, hf.output.trans hwf.output, Nat.le_trans hwf.size hf.size, fun k hk hn => (hf.block k (Nat.lt_of_lt_of_le hk hwf.size) (by simpa using hn) (fun e => by have := (hvl k e.symm).1; omega)).trans (hwf.block k hk hn)⟩, hs, hst, hq, ⟨bg, bc, e, hf.ints b1' b3 b4, b2, b3, fun e' => ?_⟩, hok', h.cb, h.lb⟩
  rcases hv _ e'.symm with e2 | e2
  · exact b4 e2.symm
  · omega
theorem Sent.grown {n : Nat} {ea : Nat → Addr} {w w' : World} {S : Nat} (h : Sent n ea w) (hg : w.grownBy w' (some S)) (hS : ∀ g, g < n → g ≠ 5 → g ≠ 6 → g ≠ S) : Sent n ea w' :=
  fun g h1 h2 h3 => hg.cell (h g h1 h2 h3) (by simpa using hS g h1 h2 h3)
def GivesRun (S : Nat) (A : Option Addr) (c : Nat) (B : Option Addr) (d : Nat) (p : Prob) (bud : Int) (R : SS × Bool) (w : World) (e : Ending) (w' : World) : Prop :=
  e = .returned (.bool R.2) ∧ w.grownBy w' (some S) ∧ ∃ bg bc v, w'.heap[S]? = some (sbox A c B d p (.slice (some ⟨bg, 0, none⟩) p.lots.length bc) R.1.cost R.1.looked bud v) ∧ IntsAt w' (some ⟨bg, 0, none⟩) R.1.best ∧ R.1.best.length = p.lots.length
set_option maxRecDepth 100000 in
set_option maxHeartbeats 4000000 in
theorem run_any (S : Nat) (A : Option Addr) (c : Nat) (B : Option Addr) (d : Nat) (p : Prob) (bud : Int) (best : List Int) (bg bc : Nat) (cost : Int) (v0 : Value) (ea : Nat → Addr) (w : World)
    (hL : LotsAt w A p.lots) (hC : IntsAt w B p.caps) (hs : Sent 3 ea w) (hok : Ok p) (hc : p.lots.length ≤ c) (hAS : ∀ b o, A = some ⟨b, o, none⟩ → b ≠ S) (hBS : ∀ b o, B = some ⟨b, o, none⟩ → b ≠ S)
    (hS : w.heap[S]? = some (sbox A c B d p (.slice (some ⟨bg, 0, none⟩) p.lots.length bc) cost 0 bud v0)) (hb : IntsAt w (some ⟨bg, 0, none⟩) best) (hbl : best.length = p.lots.length) (hbS : bg ≠ S) (hcb : 0 ≤ cost ∧ cost ≤ 8000000000000) (hbud : 0 ≤ bud ∧ bud ≤ 100000) :
    Calls Tryd.prog 36 #[.pointer (some ⟨S, 0, none⟩)] w (GivesRun S A c B d p bud (runS p bud (wt p p.lots.length) ⟨best, cost, 0, [root p]⟩) w) := by
  have hm1 := hok.n8
  have hm0 := hok.n0
  have hmk := run_make_row' (P := Tryd.prog) 32 3 (.int .i64 0) 8 Tryd.underlying32 info3 rfl .i64 .i64 p.lots.length (by omega) (by omega)
  obtain ⟨s0, s1, s2, s3, s4, s5, s6, s7⟩ := box8 hS
  have f7 := frz hS 7
  have HL := Lib.hid hL
  have HC := Lib.hid hC
  have HS := Lib.hid hS
  have HSE := Lib.hid hs
  have HOK := Lib.hid hok
  have HB := Lib.hid hb
  have HAS := Lib.hid hAS
  have HBS := Lib.hid hBS
  clear hL hC hS hs hok hb hAS hBS s1 s2 s3 s4 s5 s6
  have HB2 := Lib.hid (bal (bal (Below.refl w.heap.size w) (.cells (madeCells #[.int .i64 0] p.lots.length) 3)) (.cells #[.slice (some ⟨w.heap.size, 0, none⟩) p.lots.length p.lots.length, .int .i64 0, .int .i64 0] 91))
  have t7 := cellB HB2.out s7
  have g7 := frz (boxN HS.out HB2.out) 7
  go_enter Tryd.func36, Tryd.ntmps36
  go_wp2_with fail
  go_loopg [] (wt p p.lots.length) (fun m w' => ∃ (f : Nat) (ss : SS) (bv v : Value) (qs : List PS), f ≤ m ∧ wtL p ss.stack ≤ f ∧ RunW w S A c B d p bud ss bv v qs w' ∧ Hid (runS p bud f ss = runS p bud (wt p p.lots.length) ⟨best, cost, 0, [root p]⟩))
  case atStart =>
    have hsz0 := (Array.getElem?_eq_some_iff.1 HS.out).1
    have hgr := grS (S := S) (grb HB2.out (some S)) 7 (.slice (some ⟨w.heap.size + 1, 0, none⟩) 1 1)
    have hz := (own_zeros w p.lots.length (by omega)).intsAt.1
    have e1 : (w.alloc (.cells (madeCells #[.int .i64 0] p.lots.length) 3)).heap.size = w.heap.size + 1 := by simp
    have ho := World.ownsRow_lit (base := w.heap.size) (e := 91) (size := 3) (w.alloc (.cells (madeCells #[.int .i64 0] p.lots.length) 3)) #[.slice (some ⟨w.heap.size, 0, none⟩) p.lots.length p.lots.length, .int .i64 0, .int .i64 0] 1 (by omega) (by simp [maxLen]) rfl
    rw [e1] at ho
    have hst : Stk w.heap.size S (.slice (some ⟨w.heap.size + 1, 0, none⟩) 1 1) [⟨root p, w.heap.size, p.lots.length⟩] ((w.alloc (.cells (madeCells #[.int .i64 0] p.lots.length) 3)).alloc (.cells #[.slice (some ⟨w.heap.size, 0, none⟩) p.lots.length p.lots.length, .int .i64 0, .int .i64 0] 91)) := by
      refine ⟨by simpa [flatS, psCells, root, zeros_len] using ho, fun x hx => ?_⟩
      simp only [List.mem_singleton] at hx; subst hx
      simp only [root, zeros_len]
      exact ⟨hm0, Nat.le_refl _, hz.below (bal (Below.refl _ _) _), by omega, by simp [Value.ownBlock]⟩
    have hbl2 := HB.out.lt (by rw [hbl]; exact hm0)
    refine ⟨_, _, .slice (some ⟨bg, 0, none⟩) p.lots.length bc, _, [⟨root p, w.heap.size, p.lots.length⟩], Nat.le_refl _, by simp [wtL, wtS, root], ⟨hgr, heap_set (boxN HS.out HB2.out) _, hst.keepS (grow_set _ _ _ _) (by simp [Value.ownBlock]; omega), rfl, ⟨bg, bc, rfl, (Fr.of_S (row := none) hgr).ints HB.out hbS (by simp), hbl, hbS, by simp [Value.ownBlock]; omega⟩, root_ok HOK.out, hcb, by simp; omega⟩, rfl⟩
  case round =>
    obtain ⟨f, ss, bv, v, qs, hf, hwt, hR, he⟩ := hrel
    have HR := Lib.hid hR
    have HF := Lib.hid hf
    have HWT := Lib.hid hwt
    obtain ⟨_, _, _, _, _, t5, t6, t7⟩ := box8 hR.bs
    have hst := hR.st
    have hes := hR.e
    clear hR hf hwt
    rcases List.eq_nil_or_concat qs with hq | ⟨r, y, hq⟩
    · subst hq
      obtain ⟨VA, vc, rfl⟩ := hst.val
      have hrun : runS p bud (wt p p.lots.length) ⟨best, cost, 0, [root p]⟩ = (ss, true) := by rw [← he.out]; exact runS_nil p bud f ss hes.symm
      have HRUN := Lib.hid hrun
      clear hst hes hrun
      go_wp2_with fail
      go_ret
      obtain ⟨bg', bc', rfl, b1, b2, _⟩ := HR.out.bi
      refine ⟨by rw [HRUN.out]; rfl, HR.out.f, bg', bc', .slice VA ([] : List PS).length vc, ?_, ?_, ?_⟩
      · rw [HRUN.out]; exact HR.out.bs
      · rw [HRUN.out]; exact b1
      · rw [HRUN.out]; exact b2
    · rw [List.concat_eq_append] at hq
      subst hq
      obtain ⟨sg, sc, hv, hsg, hsg'⟩ := hst.o.form (by simp)
      obtain ⟨j, hj⟩ : ∃ j, j = r.length := ⟨_, rfl⟩
      rw [List.length_append, ← hj] at hv
      subst hv
      have HJ := Lib.hid hj
      have hst' : Stk w.heap.size S (.slice (some ⟨sg, 0, none⟩) (j + 1) sc) (r ++ [y]) wr := hst
      obtain ⟨k0, k1, k2⟩ := hst'.top hj.symm
      have hle : j ≤ 8008 := by have := HR.out.ok.len hm1; rw [← hes, sts_len, List.length_append, ← hj] at this; simp at this; omega
      have i1 : IntKind.i64.wrap ((j : Int) + 1 - 1) = j := by rw [IntWalk.i64_in _ (by omega)]; omega
      have i2 : IntKind.i64.wrap (((j + 1 : Nat) : Int) - 1) = j := by rw [IntWalk.i64_in _ (by omega)]; omega
      have i3 : IntKind.i64.wrap (j : Int) = j := by rw [IntWalk.i64_in _ (by omega)]
      have i4 : (0 : Int) < ((j + 1 : Nat) : Int) := by omega
      have HST := Lib.hid hst'
      have HES := Lib.hid hes
      clear hst hst' hes hj
      go_wp2_with fail
      have nS := World.new_ne wr _ t7
      have nT := World.new_ne wr _ k0
      have i5 : (j : Int) < (j : Int) + 1 := by omega
      go_region_held3 (fun w' => w'.cell? ⟨S, 7, none⟩ = some (.slice (some ⟨sg, 0, none⟩) (j + 1) sc) ∧ w'.cell? ⟨sg, j * 3, none⟩ = some (.slice (some ⟨y.g, 0, none⟩) y.s.take.length y.cap) ∧ w'.cell? ⟨sg, j * 3 + 1, none⟩ = some (.int .i64 y.s.n) ∧ w'.cell? ⟨sg, j * 3 + 2, none⟩ = some (.int .i64 y.s.cost)) (go_keep) (fail)
      go_wp2_with fail
      have hb1 : Below wr.heap.size wr (wr.alloc (.cells #[.slice (some ⟨y.g, 0, none⟩) y.s.take.length y.cap, .int .i64 y.s.n, .int .i64 y.s.cost] 91)).drew := (bal (Below.refl wr.heap.size wr) _).drew
      have hx1 : (wr.alloc (.cells #[.slice (some ⟨y.g, 0, none⟩) y.s.take.length y.cap, .int .i64 y.s.n, .int .i64 y.s.cost] 91)).drew.heap[wr.heap.size]? = some (.cells #[.slice (some ⟨y.g, 0, none⟩) y.s.take.length y.cap, .int .i64 y.s.n, .int .i64 y.s.cost] 91 (0, 0)) := heap_alloc_new wr _
      generalize hw1 : (wr.alloc (.cells #[.slice (some ⟨y.g, 0, none⟩) y.s.take.length y.cap, .int .i64 y.s.n, .int .i64 y.s.cost] 91)).drew = w1 at *
      clear hw1
      obtain ⟨x0, x1, x2⟩ := box3 hx1
      have T5 := cellB hb1 t5
      have T6 := cellB hb1 t6
      have T7 := cellB hb1 t7
      have F7 := frz (boxN HR.out.bs hb1) 7
      have HB1 := Lib.hid hb1
      have HX1 := Lib.hid hx1
      have hlk := HR.out.lb
      have hn0 : 0 < f := by have := HWT.out; rw [← HES.out, sts_add, wtL_add] at this; have h2 := wt_pos p (p.lots.length - y.s.n); simp only [sts, List.map_cons, List.map_nil, wtL, wtS] at this; omega
      obtain ⟨f', rfl⟩ : ∃ f', f = f' + 1 := ⟨f - 1, by omega⟩
      have hss : ss.stack = sts r ++ [y.s] := by rw [← HES.out, sts_add]; rfl
      have HSS := Lib.hid hss
      clear hb1 hx1 t5 t6 t7 k0 k1 k2 nS nT hss hn0
      by_cases hbd : bud ≤ ss.looked
      · have db : decide (bud ≤ ss.looked) = true := decide_eq_true hbd
        have hrun : runS p bud (wt p p.lots.length) ⟨best, cost, 0, [root p]⟩ = (ss, false) := by rw [← he.out]; exact runS_out p bud f' ss _ _ HSS.out hbd
        have HRUN := Lib.hid hrun
        clear hbd hrun he
        go_wp2_with fail
        go_quiet (fail)
        go_wp2_with fail
        go_ret
        obtain ⟨bg', bc', rfl, b1, b2, b3, b4⟩ := HR.out.bi
        have HBn := Lib.hid (btr HB1.out (bdN w1 nq))
        refine ⟨by rw [HRUN.out]; rfl, grN (World.grownBy.trans HR.out.f (grb HB1.out (some S))) _, bg', bc', .slice (some ⟨sg, 0, none⟩) (j + 1) sc, ?_, ?_, ?_⟩
        · rw [HRUN.out]; exact boxN HR.out.bs HBn.out
        · rw [HRUN.out]; exact b1.below HBn.out
        · rw [HRUN.out]; exact b2
      · have db : decide (bud ≤ ss.looked) = false := decide_eq_false hbd
        have HBD := Lib.hid hbd
        have hrun : runS p bud f' (stepS p ss (sts r) y.s) = runS p bud (wt p p.lots.length) ⟨best, cost, 0, [root p]⟩ := by rw [← he.out]; exact (runS_on p bud f' ss _ _ HSS.out hbd).symm
        have HRUN := Lib.hid hrun
        have i6 : (j : Int) ≤ (sc : Int) := by
          obtain ⟨h1, _⟩ | ⟨g', cap', cur, h', _, _, h1, _⟩ := HST.out.o.2
          · simp at h1
          · simp only [Value.slice.injEq] at h'; have := HJ.out; simp at h1; omega
        have i7 : j ≤ sc := by omega
        clear hbd hrun he
        go_wp2_with fail
        go_quiet (fail)
        go_wp2_with fail
        go_region
        go_wp2_with fail
        have hg2 := grS (S := S) (grN (grb HB1.out (some S)) (nq + 1)) 7 (.slice (some ⟨sg, 0, none⟩) j sc)
        have hs2 := heap_set (w := w1.drewN (nq + 1)) (i := 7) (boxN HR.out.bs (btr HB1.out (bdN w1 (nq + 1)))) (.slice (some ⟨sg, 0, none⟩) j sc)
        have hx2 := (Below.heap_setCell (w1.drewN (nq + 1)) ⟨S, 7, none⟩ (.slice (some ⟨sg, 0, none⟩) j sc) wr.heap.size (by have := (Array.getElem?_eq_some_iff.1 HR.out.bs).1; simp only [ne_eq]; omega)).trans HX1.out
        generalize hw2 : (w1.drewN (nq + 1)).setCell ⟨S, 7, none⟩ (.slice (some ⟨sg, 0, none⟩) j sc) = w2 at *
        clear hw2 x0 x1 x2 T5 T6 T7 F7 HX1
        have hSw : S < w.heap.size := World.block_lt_of_cell? w _ s0
        have HP := Lib.hid (HR.out.pop HJ.out hg2 hSw hs2)
        have hy : StOk p y.s := HP.out.ok.ok _ (by simp)
        have HY := Lib.hid hy
        have HSE2 := Lib.hid (HSE.out.grown HP.out.f (fun g h1 h2 h3 e => by subst e; rw [HSE.out g h1 h2 h3] at s0; cases s0))
        have HE := Lib.hid (ends_any S A c B d p bv ss.cost ss.looked bud (.slice (some ⟨sg, 0, none⟩) j sc) (some ⟨y.g, 0, none⟩) y.cap y.s ea w2 (HL.out.grown HP.out.f HAS.out) (HC.out.grown HP.out.f HBS.out) HSE2.out HOK.out hc HP.out.yt.2.2.1 hy HP.out.cb.1 HP.out.cb.2 hs2)
        have HX2 := Lib.hid hx2
        have hwt2 := wt_step HSS.out hy.n
        have HW2 := Lib.hid (show wtL p (stepS p ss (sts r) y.s).stack ≤ f' by have := HWT.out; omega)
        clear hg2 hs2 hx2 hy hwt2 HB1 HR HSE
        refine HE.out.mono ?_
        rintro e w3 ⟨rfl, hg3, hs3⟩
        have HG3 := Lib.hid hg3
        have hx3 := (hg3.block wr.heap.size (Array.getElem?_eq_some_iff.1 HX2.out).1 (by simp only [ne_eq, Option.some.injEq]; intro e; have := hSw; rw [e] at HX2; have h2 := HP.out.bs; rw [HX2.out] at h2; simp at h2)).trans HX2.out
        obtain ⟨x0, x1, x2⟩ := box3 hx3
        cases hee : endsB p ss.cost y.s
        · have hii := imp_ends hee
          rw [hii] at hs3
          have hs3' : w3.heap[S]? = some (sbox A c B d p bv ss.cost ss.looked bud (.slice (some ⟨sg, 0, none⟩) j sc)) := hs3
          have hnS : some S ≠ (Value.slice (some ⟨sg, 0, none⟩) j sc).ownBlock := by simp only [Value.ownBlock, ne_eq, Option.some.injEq]; omega
          have HGO := Lib.hid (goes_any w.heap.size S A c B d p bv ss.cost ss.looked bud (.slice (some ⟨sg, 0, none⟩) j sc) y.g y.cap y.s r w3 ((HL.out.grown HP.out.f HAS.out).grown hg3 HAS.out) HOK.out ((Fr.of_S (row := none) hg3).ints HP.out.yt.2.2.1 HP.out.yt.2.2.2.1 (by simp)) HY.out (ends_no hee HY.out.n) hs3' (HP.out.st.keepS hg3 hnS) (Nat.le_trans HP.out.f.size hg3.size) hSw HP.out.yt.2.2.2.1 HP.out.yt.2.2.2.2 HP.out.ok)
          have HEE := Lib.hid hee
          clear hg3 hs3 hs3' hx3 hii hee hnS
          go_wp2_with fail
          refine HGO.out.mono ?_
          rintro e w4 ⟨rfl, v4, qs4, hf4, hs4, hst4, hq4, hv4⟩
          have HR4 := Lib.hid (HP.out.goes HOK.out hSw HG3.out HEE.out hf4 hs4 hst4 hq4 hv4)
          clear hf4 hs4 hst4 hq4 hv4 x0 x1 x2
          go_wp2_with fail
          go_roundg f'
          case measure => have := HF.out; omega
          case rel => exact ⟨f', _, _, _, _, Nat.le_refl _, HW2.out, HR4.out, HRUN.out⟩
        · obtain ⟨_, _, _, _, _, t5, _, _⟩ := box8 hs3
          have f5 := frz hs3 5
          have lw : IntKind.i64.wrap (ss.looked + 1) = ss.looked + 1 := IntWalk.i64_in _ (by have := HP.out.lb; omega)
          obtain ⟨bv', hR5⟩ := HP.out.ends HOK.out hSw hg3 hee (by have := HBD.out; omega) hs3
          have HR5 := Lib.hid hR5
          clear hg3 hs3 hx3 hee hR5 x0 x1 x2
          go_wp2_with fail
          go_roundg f'
          case measure => have := HF.out; omega
          case rel => exact ⟨f', _, _, _, _, Nat.le_refl _, HW2.out, HR5.out, HRUN.out⟩

end Go.Proofs.YtjaegolanbjgfaaDoor
