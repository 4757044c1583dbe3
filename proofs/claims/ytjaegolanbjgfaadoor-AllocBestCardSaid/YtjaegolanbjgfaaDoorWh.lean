import Derived.Test.YtjaegolanbjgfaaDoorWo
import Derived.WalkKit
import Derived.WalkSpells
import Derived.WalkLawsBesides
import Derived.Lib.Hide
import Derived.Deep.DeepCutAuto
import Derived.Deep.LoopGhost
import Derived.Deep.QuietTactic
import Derived.BigQuiet
import Derived.Deep.OwnRows
import Derived.StillTailTactics
import Derived.IntWalk
import Derived.Deep.RegionWith
import Derived.Deep.RegionHeld3
set_option linter.unusedVariables false
set_option linter.unusedSimpArgs false
namespace Go.Proofs.YtjaegolanbjgfaaDoor
open Go.RowKit

/-- A row of ints of the call's own. -/
def Own (w : World) (base : Nat) (e : TypeId) (v : Value) (xs : List Int) : Prop := w.ownsRow base e 1 v xs.length (xs.map (Value.int .i64))
theorem Own.nil (w : World) (base : Nat) (e : TypeId) : Own w base e (.slice none 0 0) [] := World.ownsRow_nil _ _ _ _
theorem Own.below {w w1 : World} {base : Nat} {e : TypeId} {v : Value} {xs : List Int} (h : Own w base e v xs) (hb : Below w.heap.size w w1) : Own w1 base e v xs :=
  World.ownsRow.kept h (row := none) ⟨hb.os, hb.tape, hb.output, hb.size, fun i hi _ => hb.block i hi⟩ (by cases v.ownBlock <;> simp)
theorem add0 (g j : Nat) : (⟨g, 0, none⟩ : Addr).add j = ⟨g, j, none⟩ := by unfold Addr.add; split <;> simp_all
theorem Own.ints {w : World} {base : Nat} {e : TypeId} {v : Value} {xs : List Int} (h : Own w base e v xs) : ∃ A c, v = .slice A xs.length c ∧ IntsAt w A xs ∧ xs.length ≤ c ∧ ∀ b o, A = some ⟨b, o, none⟩ → base ≤ b := by
  have h' := h
  obtain ⟨hl, h2⟩ := h
  rcases h2 with ⟨rfl, hx⟩ | ⟨g, cap, cur, rfl, hg, hh, h1, h3, _⟩
  · obtain rfl : xs = [] := by simpa using hx
    exact ⟨none, 0, rfl, ⟨by simp, fun hp => absurd hp (by simp)⟩, by simp, fun b o e => by cases e⟩
  · refine ⟨_, cap, rfl, ⟨by simp only [maxLen] at h3; omega, fun hp => ⟨g, 0, rfl, fun j hj => ?_⟩⟩, by omega, fun b o e => by simp only [Option.some.injEq, Addr.mk.injEq] at e; omega⟩
    have hc := World.ownsRow.cells h' (g := g) rfl j (.int .i64 (gi xs j)) (by simp [gi, List.getD_eq_getElem?_getD, List.getElem?_eq_getElem hj])
    rw [add0] at hc
    rwa [Nat.zero_add]
section
variable {P : Program} {ops : Array Oper} {rest : List Oper} {o : Oper} {a : Act} {Q : Exit → Act → World → Prop}
/-- append(v, y): behind 'at_builtin'. -/
theorem app_ints {W : World} (base : Nat) (hgd : o.guard = none) (s x : Operand) (t e : TypeId)
    (ho : o.op = .call { callee := .builtin .append, args := #[s, x], argTypes := #[t, t] })
    (ht : P.underlying t = some (.slice e)) (hinfo : (P.info? e).map (fun i => (i.zero, i.size, i.bytes)) = some (some (.int .i64 0), 1, 8))
    (v : Value) (xs : List Int) (y : Int) (g : Nat) (hs : a.eval s = v) (hx : a.eval x = .slice (some ⟨g, 0, none⟩) 1 1) (hg : g = W.heap.size)
    (HO : Own W base e v xs) (hbase : base ≤ W.heap.size) (hl : (xs.length + 1) * 8 ≤ 140737488355328)
    (h : ∀ v1 w1, Own w1 base e v1 (xs ++ [y]) → W.grownBy w1 v.ownBlock → wpList P ops Q rest (a.put o.dst v1) w1) :
    wpList P ops Q (o :: rest) a (W.alloc (.cells #[.int .i64 y] e)) := by
  subst hg
  obtain ⟨i0, hi, hzz⟩ := Option.map_eq_some_iff.1 hinfo
  simp only [Prod.mk.injEq] at hzz
  obtain ⟨hz0, hz1, hz2⟩ := hzz
  refine wpList_append_own (W.alloc (.cells #[.int .i64 y] e)) hgd s x t ho base e i0 (.int .i64 0) 1 8 ht hi hz0 hz1 hz2 rfl (by decide) v xs.length (xs.map (Value.int .i64)) hs (HO.alloc _) ⟨W.heap.size, 0, none⟩ 1 1 [.int .i64 y] hx rfl ?_ (by simp [Value.oneCell']) (by simp only [maxLen]; omega) hl (by simp; omega) ?_
  · intro j u hj
    match j, hj with
    | 0, hj => simp at hj; subst hj; rw [add0]; exact (cellN W _ e 0).trans rfl
  · intro v1 w1 hown hg _
    exact h v1 w1 (by simpa [Own] using hown) (World.grownBy.trans (World.grownBy_alloc W _ _) hg)
end
theorem Own.base {w : World} {base : Nat} {e : TypeId} {v : Value} {xs : List Int} (h : Own w base e v xs) : ∀ k, v.ownBlock = some k → base ≤ k := fun k hk => (World.ownsRow.lt h k hk).1
theorem bgr {w0 w1 w2 : World} {base : Nat} {e : TypeId} {v : Value} {xs : List Int} (hb : Below w0.heap.size w0 w1) (h : Own w1 base e v xs) (hB : w0.heap.size ≤ base) (hg : w1.grownBy w2 v.ownBlock) : Below w0.heap.size w0 w2 :=
  hb.grown hg hb.size (fun k hk => Nat.le_trans hB (h.base k hk))

def units (ls : List Lot) : List Int := ls.map (·.u)
theorem units_take {ls : List Lot} {k : Nat} (h : k < ls.length) : units (ls.take (k + 1)) = units (ls.take k) ++ [(gl ls k).u] := by
  unfold units; rw [List.take_succ_eq_append_getElem h, List.map_append]; simp [gl, List.getD_eq_getElem?_getD, h]
theorem units_len (ls : List Lot) : (units ls).length = ls.length := by simp [units]
/-- It hands back a list of ints. -/
def GivesInts (xs : List Int) (w : World) (e : Ending) (w' : World) : Prop := ∃ A c, e = .returned (.slice A xs.length c) ∧ IntsAt w' A xs ∧ xs.length ≤ c ∧ (∀ b o, A = some ⟨b, o, none⟩ → w.heap.size ≤ b) ∧ Below w.heap.size w w'
set_option maxRecDepth 100000 in
set_option maxHeartbeats 1000000 in
theorem whole_any (A : Option Addr) (c : Nat) (B : Option Addr) (d : Nat) (p : Prob) (w : World) (hL : LotsAt w A p.lots) (h8 : p.lots.length ≤ 8) :
    Calls Tryd.prog 49 #[pv A c B d p] w (GivesInts (units p.lots) w) := by
  have HL := Lib.hid hL
  have HB0 := Lib.hid (bal (Below.refl w.heap.size w) (.cells #[.slice A p.lots.length c, .slice B p.caps.length d, .int .i64 p.need] 25))
  clear hL
  go_enter Tryd.func49, Tryd.ntmps49
  go_wp2_with fail
  go_loopw [3, 9] (fun v i w' => ∃ k : Nat, k ≤ p.lots.length ∧ i = .int .i64 k ∧ Below w.heap.size w w' ∧ Own w' w.heap.size 3 v (units (p.lots.take k))) (fun _ i _ => p.lots.length - (intOf i).toNat)
  case atStart => exact ⟨0, Nat.zero_le _, rfl, HB0.out, Own.nil _ _ _⟩
  case round =>
    obtain ⟨k, hk, rfl, hb, hown⟩ := hrel
    have HO := Lib.hid hown
    clear hown
    by_cases hlt : k < p.lots.length
    · obtain ⟨b2, o2, rfl, u0, u1, u2, u3⟩ := (HL.out.below hb).get hlt
      have HO1 := Lib.hid (HO.out.below (bal (Below.refl wr.heap.size wr) (.cells #[.int .i64 (gl p.lots k).u, .int .i64 (gl p.lots k).v, .int .i64 (gl p.lots k).c, .int .i64 (gl p.lots k).g] 48)))
      go_wp2_with (first | (at_builtin; go_must (refine app_ints w.heap.size rfl (.tmp 13) (.tmp 16) 32 3 rfl Tryd.underlying32 info3 _ (units (p.lots.take k)) (gl p.lots k).u _ rfl rfl (by simp) HO1.out ?c1 ?c2 ?_)))
      case c1 => have := hb.size; simp; omega
      case c2 => simp [units]; omega
      intro v1 w1 ho1 hg1
      have hb1 := bgr (bal hb _) HO1.out (Nat.le_refl _) hg1
      have HO2 := Lib.hid ho1
      clear hg1 ho1 hb u0 u1 u2 u3
      go_wp2_with fail
      go_roundw
      case rel => exact ⟨k + 1, by omega, by go_num, hb1, by rw [units_take hlt]; exact HO2.out⟩
      case measure => simp only [intOf]; omega
    · have hkn : k = p.lots.length := by omega
      subst hkn
      rw [List.take_length] at HO
      obtain ⟨A1, c1, rfl, hi, hc, hfr⟩ := HO.out.ints
      have HI := Lib.hid hi
      have HC := Lib.hid hc
      have HFR := Lib.hid hfr
      clear hi hc hfr
      go_wp2_with fail
      go_ret
      exact ⟨A1, c1, rfl, HI.out, HC.out, HFR.out, hb⟩
set_option maxHeartbeats 1000000 in
theorem Most_any (A : Option Addr) (c : Nat) (B : Option Addr) (d : Nat) (p : Prob) (ea : Nat → Addr) (w : World) (hL : LotsAt w A p.lots) (hC : IntsAt w B p.caps) (hs : Sent 3 ea w) (h8 : p.lots.length ≤ 8) :
    Calls Tryd.prog 24 #[pv A c B d p] w fun e w' => e = .returned (.int .i64 (worthV p (units p.lots))) ∧ Below w.heap.size w w' := by
  have HL := Lib.hid hL
  have HC := Lib.hid hC
  have HS := Lib.hid hs
  have HB0 := Lib.hid (bal (Below.refl w.heap.size w) (.cells #[.slice A p.lots.length c, .slice B p.caps.length d, .int .i64 p.need] 25))
  clear hL hC hs
  go_enter Tryd.func24, Tryd.ntmps24
  go_wp2_with fail
  go_region_held3 (fun w' => w'.cell? ⟨w.heap.size, 0, none⟩ = some (.slice A p.lots.length c) ∧ w'.cell? ⟨w.heap.size, 1, none⟩ = some (.slice B p.caps.length d) ∧ w'.cell? ⟨w.heap.size, 2, none⟩ = some (.int .i64 p.need)) (go_keep)
    (first
      | (go_at_call 49; go_must (refine (whole_any A c B d p _ (HL.out.below HB0.out.drew) h8).mono ?_); rintro e w1 ⟨T, f, rfl, hT, hf, _, hb1⟩; have c0 := cellB hb1 (a := ⟨w.heap.size, 0, none⟩) (v := .slice A p.lots.length c) ((cellN w _ 25 0).trans rfl); have c1 := cellB hb1 (a := ⟨w.heap.size, 1, none⟩) (v := .slice B p.caps.length d) ((cellN w _ 25 1).trans rfl); have c2 := cellB hb1 (a := ⟨w.heap.size, 2, none⟩) (v := .int .i64 p.need) ((cellN w _ 25 2).trans rfl); have hb := btr HB0.out.drew hb1; have HT := Lib.hid hT; clear hb1 hT)
      | (go_at_call 37; go_must (refine (Worth_any A c B d p _ _ (units p.lots) ea _ (HL.out.below hb) (HC.out.below hb) HT.out (HS.out.below hb)).mono ?_); rintro e w2 ⟨rfl, hb2⟩; have d0 := cellB hb2 c0; have d1 := cellB hb2 c1; have d2 := cellB hb2 c2; have hbb := btr hb hb2))
  go_wp2_with fail
  go_ret
  exact ⟨rfl, hbb⟩
end Go.Proofs.YtjaegolanbjgfaaDoor
