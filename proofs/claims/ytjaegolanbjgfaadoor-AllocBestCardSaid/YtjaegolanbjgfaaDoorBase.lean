import Derived.Test.YtjaegolanbjgfaaDoorProg
import Derived.Test.YtjaegolanbjgfaaDoorMa
import Derived.WalkKit
import Derived.WalkSpells
import Derived.WalkLawsBesides
import Derived.Lib.Hide
import Derived.Deep.DeepCutAuto
import Derived.Deep.LoopGhost
import Derived.Deep.QuietTactic
import Derived.BigQuiet
set_option linter.unusedVariables false
set_option linter.unusedSimpArgs false
namespace Go.Proofs.YtjaegolanbjgfaaDoor
open Go.RowKit

/-- A lot as a value. -/
abbrev lv (x : Lot) : Value := .agg #[.int .i64 x.u, .int .i64 x.v, .int .i64 x.c, .int .i64 x.g]

def IntsAt (w : World) (A : Option Addr) (xs : List Int) : Prop :=
  xs.length ≤ 9223372036854775807 ∧ (0 < xs.length → ∃ b o, A = some ⟨b, o, none⟩ ∧ ∀ j, j < xs.length → w.cell? ⟨b, o + j, none⟩ = some (.int .i64 (gi xs j)))
def LotsAt (w : World) (A : Option Addr) (xs : List Lot) : Prop :=
  xs.length ≤ 9223372036854775807 ∧ (0 < xs.length → ∃ b o, A = some ⟨b, o, none⟩ ∧ ∀ j, j < xs.length →
    w.cell? ⟨b, o + j * 4, none⟩ = some (.int .i64 (gl xs j).u) ∧ w.cell? ⟨b, o + j * 4 + 1, none⟩ = some (.int .i64 (gl xs j).v) ∧
    w.cell? ⟨b, o + j * 4 + 2, none⟩ = some (.int .i64 (gl xs j).c) ∧ w.cell? ⟨b, o + j * 4 + 3, none⟩ = some (.int .i64 (gl xs j).g))
theorem cellB {w w' : World} (hb : Below w.heap.size w w') {a : Addr} {v : Value} (h : w.cell? a = some v) : w'.cell? a = some v :=
  (hb.cell (World.block_lt_of_cell? w a h)).trans h
theorem IntsAt.below {w w' : World} {A : Option Addr} {xs : List Int} (h : IntsAt w A xs) (hb : Below w.heap.size w w') : IntsAt w' A xs :=
  ⟨h.1, fun hp => by obtain ⟨b, o, e, hc⟩ := h.2 hp; exact ⟨b, o, e, fun j hj => cellB hb (hc j hj)⟩⟩
theorem LotsAt.below {w w' : World} {A : Option Addr} {xs : List Lot} (h : LotsAt w A xs) (hb : Below w.heap.size w w') : LotsAt w' A xs :=
  ⟨h.1, fun hp => by
    obtain ⟨b, o, e, hc⟩ := h.2 hp
    exact ⟨b, o, e, fun j hj => ⟨cellB hb (hc j hj).1, cellB hb (hc j hj).2.1, cellB hb (hc j hj).2.2.1, cellB hb (hc j hj).2.2.2⟩⟩⟩
theorem IntsAt.get {w : World} {A : Option Addr} {xs : List Int} (h : IntsAt w A xs) {k : Nat} (hk : k < xs.length) :
    ∃ b o, A = some ⟨b, o, none⟩ ∧ w.cell? ⟨b, o + k, none⟩ = some (.int .i64 (gi xs k)) := by
  obtain ⟨b, o, e, hc⟩ := h.2 (by omega); exact ⟨b, o, e, hc k hk⟩
theorem LotsAt.get {w : World} {A : Option Addr} {xs : List Lot} (h : LotsAt w A xs) {k : Nat} (hk : k < xs.length) :
    ∃ b o, A = some ⟨b, o, none⟩ ∧ w.cell? ⟨b, o + k * 4, none⟩ = some (.int .i64 (gl xs k).u) ∧ w.cell? ⟨b, o + k * 4 + 1, none⟩ = some (.int .i64 (gl xs k).v) ∧
    w.cell? ⟨b, o + k * 4 + 2, none⟩ = some (.int .i64 (gl xs k).c) ∧ w.cell? ⟨b, o + k * 4 + 3, none⟩ = some (.int .i64 (gl xs k).g) := by
  obtain ⟨b, o, e, hc⟩ := h.2 (by omega); exact ⟨b, o, e, hc k hk⟩
theorem cellN (w : World) (cs : Array Value) (t i : Nat) : (w.alloc (.cells cs t)).cell? ⟨w.heap.size, i, none⟩ = cs[i]? := cell_of_row _ _ _ _ _ _ (heap_alloc_new w _)
theorem btr {w w1 w2 : World} (h : Below w.heap.size w w1) (k : Below w1.heap.size w1 w2) : Below w.heap.size w w2 := h.trans (k.mono h.size)
theorem bal {w w1 : World} (h : Below w.heap.size w w1) (o : Obj) : Below w.heap.size w (w1.alloc o) := h.alloc h.size o

set_option maxHeartbeats 400000 in
theorem within_any (n m : Int) (w : World) :
    Calls Tryd.prog 48 #[.int .i64 n, .int .i64 m] w fun e w' => e = .returned (.bool (decide (0 ≤ n ∧ n ≤ m))) ∧ w = w' := by
  go_enter Tryd.func48, Tryd.ntmps48
  go_wp2
  all_goals (go_ret; exact ⟨by simp; omega, rfl⟩)


theorem ret_bool {a b : Bool} (h : a = b) : Ending.returned (.bool a) = .returned (.bool b) := by rw [h]
theorem ret_int {k : IntKind} {a b : Int} (h : a = b) : Ending.returned (.int k a) = .returned (.int k b) := by rw [h]
set_option maxHeartbeats 400000 in
theorem lot_any (x : Lot) (m : Int) (w : World) :
    Calls Tryd.prog 45 #[lv x, .int .i64 m] w fun e w' => e = .returned (.bool (lotOk x m)) ∧ Below w.heap.size w w' := by
  go_enter Tryd.func45, Tryd.ntmps45
  go_wp2_with (first | (go_at_call 48; refine (within_any _ _ _).mono ?_; rintro e w' ⟨rfl, rfl⟩))
  all_goals (go_ret; exact ⟨ret_bool (by rw [Bool.eq_iff_iff]; simp [lotOk]; omega), bal (Below.refl _ _) _⟩)

set_option maxHeartbeats 400000 in
theorem valid1 (x : Lot) (pb : Nat) (v0 : Value) (B : Option Addr) (n c : Nat) (w : World) (h0 : w.cell? ⟨pb, 0, none⟩ = some v0) (h1 : w.cell? ⟨pb, 1, none⟩ = some (.slice B n c)) :
    Calls Tryd.prog 44 #[lv x, .pointer (some ⟨pb, 0, none⟩)] w fun e w' => e = .returned (.bool (!lotOk x n)) ∧ Below w.heap.size w w' := by
  have hl := World.block_lt_of_cell? w _ h0
  go_enter Tryd.func44, Tryd.ntmps44
  go_wp2_with fail
  refine (lot_any x _ _).mono ?_
  rintro e w' ⟨rfl, hb⟩
  go_wp2
  go_ret
  exact ⟨rfl, btr (bal (Below.refl _ _) _) hb⟩

set_option maxHeartbeats 400000 in
theorem valid2 (x : Int) (w : World) :
    Calls Tryd.prog 47 #[.int .i64 x] w fun e w' => e = .returned (.bool (!decide (0 ≤ x ∧ x ≤ 1000000000000))) ∧ Below w.heap.size w w' := by
  go_enter Tryd.func47, Tryd.ntmps47
  go_wp2_with (first | (go_at_call 48; refine (within_any _ _ _).mono ?_; rintro e w' ⟨rfl, rfl⟩))
  all_goals (go_ret; exact ⟨ret_bool (by simp), by first | exact Below.refl _ _ | exact bal (Below.refl _ _) _⟩)

def SomeIdx (b : Bool) (w : World) (e : Ending) (w' : World) : Prop := ∃ i : Int, e = .returned (.int .i64 i) ∧ decide (0 ≤ i) = b ∧ Below w.heap.size w w'
theorem any_take {α : Type} {p : α → Bool} {xs : List α} {k : Nat} (d : α) (h : ∀ j, j < k → p (xs.getD j d) = false) (hk : k = xs.length) : xs.any p = false := by
  subst hk
  rw [List.any_eq_false]
  intro x hx
  obtain ⟨i, hi, rfl⟩ := List.getElem_of_mem hx
  have := h i hi
  simp [List.getD_eq_getElem?_getD, hi] at this
  simp [this]
theorem any_at {α : Type} {p : α → Bool} {xs : List α} {k : Nat} (d : α) (h : p (xs.getD k d) = true) (hk : k < xs.length) : xs.any p = true := by
  rw [List.any_eq_true]
  exact ⟨xs[k], List.getElem_mem hk, by simpa [List.getD_eq_getElem?_getD, hk] using h⟩
set_option maxHeartbeats 400000 in
theorem indexLots (A : Option Addr) (xs : List Lot) (c : Nat) (p : Lot → Bool) (pb : Addr) (w : World) (h : LotsAt w A xs)
    (hp : ∀ x w1, Below w.heap.size w w1 → Calls Tryd.prog 44 #[lv x, .pointer (some pb)] w1 fun e w' => e = .returned (.bool (p x)) ∧ Below w1.heap.size w1 w') :
    Calls Tryd.prog 65 #[.slice A xs.length c, .func (.func 44) #[] #[.pointer (some pb)]] w (SomeIdx (xs.any p) w) := by
  have hm := h.1
  have H := Lib.hid h
  have HP := Lib.hid hp
  clear h hp
  go_enter Tryd.func65, Tryd.ntmps65
  go_wp2
  go_loopw [5, 8] (fun _ i w' => ∃ k : Nat, k ≤ xs.length ∧ i = .int .i64 k ∧ Below w.heap.size w w' ∧ Hid (∀ j, j < k → p (gl xs j) = false)) (fun _ i _ => xs.length - (intOf i).toNat)
  case atStart => exact ⟨0, Nat.zero_le _, rfl, Below.refl _ _, fun j hj => absurd hj (by omega)⟩
  case round =>
    obtain ⟨k, hk, rfl, hb, ho⟩ := hrel
    by_cases hlt : k < xs.length
    · obtain ⟨b, o, rfl, h0, h1, h2, h3⟩ := (H.out.below hb).get hlt
      go_wp2_with fail
      refine (HP.out (gl xs k) _ hb).mono ?_
      rintro e w1 ⟨rfl, hb1⟩
      have hb2 := btr hb hb1
      clear hb hb1
      cases hx : p (gl xs k)
      · have HX := Lib.hid hx
        clear hx
        go_wp2
        go_roundw
        case rel => exact ⟨k + 1, by omega, by go_num, hb2, fun j hj => by rcases Nat.lt_or_ge j k with h | h; exact ho j h; rw [show j = k by omega]; exact HX⟩
        case measure => simp only [intOf]; omega
      · have HX := Lib.hid hx
        clear hx
        go_wp2
        go_ret
        exact ⟨k, rfl, by rw [any_at z0 HX.out hlt]; simp, hb2⟩
    · go_wp2
      go_ret
      exact ⟨-1, rfl, by rw [any_take z0 ho.out (by omega)]; rfl, hb⟩
end Go.Proofs.YtjaegolanbjgfaaDoor
