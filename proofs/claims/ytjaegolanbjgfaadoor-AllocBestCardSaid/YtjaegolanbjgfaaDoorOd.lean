import Derived.Deep.RegionLaw
import Derived.LaidEql
import Derived.Test.YtjaegolanbjgfaaDoorIn
import Derived.WalkKit
import Derived.WalkSpells
import Derived.WalkLawsBesides
import Derived.Lib.Hide
import Derived.Deep.DeepCutAuto
import Derived.Deep.LoopGhost
import Derived.Deep.QuietTactic
import Derived.BigQuiet
import Derived.Deep.OwnRows
import Derived.StillTailTactics
import Derived.IntWalk
import Derived.Laws.BitsLemmas
import Derived.Laws.MathBits
import Derived.Laws.Bits64
import Derived.Deep.RegionHeld3
import Derived.BigRegion
import Derived.Lib.SliceRun
import Derived.Deep.AppendLies
set_option linter.unusedVariables false
set_option linter.unusedSimpArgs false
namespace Go.Proofs.YtjaegolanbjgfaaDoor
open Go.RowKit
section
variable {P : Program} {ops : Array Oper} {rest : List Oper} {o : Oper} {a : Act} {Q : Exit → Act → World → Prop}
/-- append(row, ints...) at a plain region's list. -/
theorem app_many {W : World} (base : Nat) (hgd : o.guard = none) (s x : Operand) (t e : TypeId)
    (ho : o.op = .call { callee := .builtin .append, args := #[s, x], argTypes := #[t, t] })
    (ht : P.underlying t = some (.slice e)) (hinfo : (P.info? e).map (fun i => (i.zero, i.size, i.bytes)) = some (some (.int .i64 0), 1, 8))
    (v : Value) (xs ys : List Int) (ad : Addr) (m c : Nat) (hs : a.eval s = v) (hx : a.eval x = .slice (some ad) m c) (hm : ys.length = m)
    (HO : Own W base e v xs) (hI : ∀ j, j < m → W.cell? (ad.add j) = some (.int .i64 (gi ys j))) (hbase : base ≤ W.heap.size) (hl : (xs.length + m) * 8 ≤ 140737488355328)
    (h : ∀ v1 w1, Own w1 base e v1 (xs ++ ys) → W.grownBy w1 v.ownBlock → wpList P ops Q rest (a.put o.dst v1) w1) :
    wpList P ops Q (o :: rest) a W := by
  obtain ⟨i0, hi, hzz⟩ := Option.map_eq_some_iff.1 hinfo
  simp only [Prod.mk.injEq] at hzz
  obtain ⟨hz0, hz1, hz2⟩ := hzz
  refine wpList_append_own W hgd s x t ho base e i0 (.int .i64 0) 1 8 ht hi hz0 hz1 hz2 rfl (by decide) v xs.length (xs.map (Value.int .i64)) hs HO ad m c (ys.map (Value.int .i64)) hx (by simp [hm]) ?_ (by simp [Value.oneCell']) (by simp only [maxLen]; omega) hl hbase ?_
  · intro j u hj
    rw [List.getElem?_map] at hj
    obtain ⟨z, hz, rfl⟩ := Option.map_eq_some_iff.1 hj
    have hjl := (List.getElem?_eq_some_iff.1 hz).1
    rw [hI j (by omega)]
    simp [gi, List.getD_eq_getElem?_getD, hz]
  · intro v1 w1 hown hg _
    exact h v1 w1 (by subst hm; simpa [Own] using hown) hg
end
theorem outR_mem (ls : List Lot) : ∀ k, ∀ x ∈ outR ls k, 0 ≤ x ∧ x < (k : Int)
  | 0, x, h => by cases h
  | k + 1, x, h => by
    have h' : x ∈ insR (ltL ls) k (outR ls k) := h
    unfold insR at h'
    rcases List.mem_append.1 h' with h1 | h1
    · have := outR_mem ls k x (List.mem_of_mem_take h1); omega
    · rcases List.mem_cons.1 h1 with h2 | h2
      · omega
      · have := outR_mem ls k x (List.mem_of_mem_drop h2); omega
theorem gi_drop (xs : List Int) (s j : Nat) : gi (xs.drop s) j = gi xs (s + j) := by
  unfold gi; rw [List.getD_eq_getElem?_getD, List.getD_eq_getElem?_getD, List.getElem?_drop]
theorem gi_take (xs : List Int) {s j : Nat} (h : j < s) : gi (xs.take s) j = gi xs j := by
  unfold gi; rw [List.getD_eq_getElem?_getD, List.getD_eq_getElem?_getD, List.getElem?_take_of_lt h]
theorem IntsAt.take {w : World} {A : Option Addr} {xs : List Int} (h : IntsAt w A xs) (s : Nat) : IntsAt w A (xs.take s) := by
  refine ⟨Nat.le_trans (by rw [List.length_take]; omega) h.1, fun hp => ?_⟩
  rw [List.length_take] at hp
  obtain ⟨b, o, e, hc⟩ := h.2 (by omega)
  refine ⟨b, o, e, fun j hj => ?_⟩
  rw [List.length_take] at hj
  rw [gi_take _ (by omega)]
  exact hc j (by omega)
theorem cells_drop {w : World} {g s j : Nat} {xs : List Int} (h : IntsAt w (some ⟨g, 0, none⟩) xs) (hj : s + j < xs.length) : w.cell? ((⟨g, s, none⟩ : Addr).add j) = some (.int .i64 (gi (xs.drop s) j)) := by
  obtain ⟨b, o, e, hc⟩ := h.get hj
  simp only [Option.some.injEq, Addr.mk.injEq, and_true] at e
  obtain ⟨rfl, rfl⟩ := e
  rw [add_at, gi_drop]
  rw [Nat.zero_add] at hc
  exact hc
theorem own_base {w : World} {b b' : Nat} {e : TypeId} {v : Value} {xs : List Int} (h : Own w b e v xs) (hb : b' ≤ b) : Own w b' e v xs := by
  refine ⟨h.1, ?_⟩
  rcases h.2 with h' | ⟨g, cap, cur, h1, h2, h3⟩
  · exact Or.inl h'
  · exact Or.inr ⟨g, cap, cur, h1, by omega, h3⟩
set_option maxRecDepth 100000 in
set_option maxHeartbeats 8000000 in
theorem OrderR_any (A : Option Addr) (c : Nat) (ls : List Lot) (w : World) (hL : LotsAt w A ls) (h8 : ls.length ≤ 8) (hok : ∀ k, k < ls.length → okL (gl ls k)) :
    Calls Tryd.prog 42 #[.slice A ls.length c] w fun e w' => Below w.heap.size w w' ∧ ∃ v, e = .returned v ∧ Own w' w.heap.size 3 v (orderP ls) := by
  have HL := Lib.hid hL
  have HK := Lib.hid hok
  clear hL hok
  go_enter Tryd.func42, Tryd.ntmps42
  go_wp2_with fail
  go_loopw [3, 4] (fun v i w' => ∃ k : Nat, k ≤ ls.length ∧ i = .int .i64 k ∧ Below w.heap.size w w' ∧ Own w' w.heap.size 3 v (outR ls k) ∧ (k = 0 → v = .slice none 0 0)) (fun _ i _ => ls.length - (intOf i).toNat)
  case atStart => exact ⟨0, Nat.zero_le _, rfl, Below.refl _ _, Own.nil _ _ _, fun _ => rfl⟩
  case round =>
    obtain ⟨k, hk, rfl, hb, hown, hv0⟩ := hrel
    have HB := Lib.hid hb
    have HO := Lib.hid hown
    clear hb hown
    have hol := outR_len ls k
    by_cases hlt : k < ls.length
    · have hki : (k : Int) < (ls.length : Int) := by omega
      by_cases hk0 : k = 0
      · subst hk0
        have hv := hv0 rfl
        subst hv
        obtain ⟨lb, lo, rfl, x0, x1, x2, x3⟩ := (HL.out.below HB.out).get (k := 0) hlt
        clear x0 x1 x2 x3 hol hv0
        go_wp2_with fail
        go_loopw [5] (fun i w' => i = .int .i64 0 ∧ Below wr.heap.size wr w') (fun i _ => 0)
        case atStart => exact ⟨rfl, Below.refl _ _⟩
        case round =>
          obtain ⟨rfl, hb⟩ := hrel
          have HBT := Lib.hid (btr HB.out hb)
          clear hb
          go_wp2_with fail
          go_quiet (fail)
          go_wp2_with fail
          have HBX := Lib.hid (btr HBT.out (bdN wr nq))
          have HI1 : Hid (Calls Tryd.prog 64 #[.slice none 0 0] (wr.drewN nq) fun e w' => Below (wr.drewN nq).heap.size (wr.drewN nq) w' ∧ ∃ v, e = .returned v ∧ Own w' (wr.drewN nq).heap.size 3 v []) := Lib.hid (Ints_any none 0 [] (wr.drewN nq) ⟨by decide, fun h => absurd h (by decide)⟩ (by decide))
          refine HI1.out.mono ?_
          rintro e X2 ⟨hb2, v2, rfl, hown2⟩
          have HO2 := Lib.hid hown2
          have HB2 := Lib.hid hb2
          clear hown2 hb2 HI1
          go_wp2_with (first | (at_builtin; go_must (refine app_ints (W := X2) (wr.drewN nq).heap.size rfl (.tmp 37) (.tmp 39) 32 3 rfl Tryd.underlying32 info3 v2 [] (0 : Int) X2.heap.size (by rfl) (by rfl) (by rfl) HO2.out ?c1 ?c2 ?_)))
          case c1 => exact HB2.out.size
          case c2 => simp
          intro v3 X3 ho3 hg3
          have HB3 := Lib.hid (bgr HB2.out HO2.out (Nat.le_refl _) hg3)
          have HO3 := Lib.hid ho3
          obtain ⟨g3, c3, rfl, _, _⟩ := ho3.form (by simp)
          have h1c : 1 ≤ c3 := by
            obtain ⟨A', c', e', _, hc', _⟩ := ho3.ints
            simp only [Value.slice.injEq] at e'
            simp at hc'
            omega
          have h1d : ¬ c3 < 1 := by omega
          have h1e : ¬ c3 = 0 := by omega
          clear hg3 ho3
          go_wp2_with fail
          refine ⟨⟨1, by omega, by simp, btr HBX.out HB3.out, own_base (xs := [(0 : Int)]) HO3.out HBX.out.size, fun h => by omega⟩, ?_⟩
          simp only [intOf]
          simp
          omega
      · obtain ⟨g, cap, rfl, hg, hcap⟩ := HO.out.form (by rw [hol]; omega)
        have hcapk : k ≤ cap := by
          obtain ⟨A', c', e', _, hc', _⟩ := HO.out.ints
          simp only [Value.slice.injEq] at e'
          omega
        have hcapk : k ≤ cap := by
          obtain ⟨A', c', e', _, hc', _⟩ := HO.out.ints
          simp only [Value.slice.injEq] at e'
          omega
        have HIO := Lib.hid HO.out.intsAt.1
        have HOL := Lib.hid hol
        rw [hol]
        obtain ⟨lb, lo, rfl, x0, x1, x2, x3⟩ := (HL.out.below HB.out).get (k := k) hlt
        have HOM := Lib.hid (outR_mem ls k)
        clear x0 x1 x2 x3 hol
        go_wp2_with fail
        go_loopw [5] (fun i w' => ∃ j : Nat, j ≤ k ∧ i = .int .i64 j ∧ Below wr.heap.size wr w' ∧ Hid (posR (ltL ls) k (outR ls k) k = posR (ltL ls) k (outR ls k) j)) (fun i _ => (intOf i).toNat)
        case atStart => exact ⟨k, Nat.le_refl _, rfl, Below.refl _ _, rfl⟩
        case round =>
          obtain ⟨j, hj, rfl, hb, hps⟩ := hrel
          have HB1 := Lib.hid hb
          have HBT := Lib.hid (btr HB.out hb)
          have HPS := Lib.hid hps.out
          clear hb hps
          cases j with
          | zero =>
            go_wp2_with fail
            go_quiet (fail)
            go_wp2_with fail
            have HBX := Lib.hid (btr HBT.out (bdN wr nq))
            have HIX := Lib.hid (HIO.out.below (btr HB1.out (bdN wr nq)))
            have hlJ : ((outR ls k).take (0)).length = 0 := by rw [List.length_take, HOL.out]; omega
            have HI1 : Hid (Calls Tryd.prog 64 #[.slice (some ⟨g, 0, none⟩) (0) cap] (wr.drewN nq) fun e w' => Below (wr.drewN nq).heap.size (wr.drewN nq) w' ∧ ∃ v, e = .returned v ∧ Own w' (wr.drewN nq).heap.size 3 v ((outR ls k).take (0))) := Lib.hid (by
              have := Ints_any (some ⟨g, 0, none⟩) cap ((outR ls k).take (0)) (wr.drewN nq) (HIX.out.take _) (by rw [hlJ]; omega)
              rw [hlJ] at this
              exact this)
            have HST := Lib.hid (show outR ls (k + 1) = (outR ls k).take (0) ++ (k : Int) :: (outR ls k).drop (0) by
              show insR (ltL ls) k (outR ls k) = _
              unfold insR
              rw [HOL.out, HPS.out, posR])
            refine HI1.out.mono ?_
            rintro e X2 ⟨hb2, v2, rfl, hown2⟩
            have HO2 := Lib.hid hown2
            have HB2 := Lib.hid hb2
            clear hown2 hb2 HI1
            go_wp2_with (first | (at_builtin; go_must (refine app_ints (W := X2) (wr.drewN nq).heap.size rfl (.tmp 37) (.tmp 39) 32 3 rfl Tryd.underlying32 info3 v2 ((outR ls k).take (0)) (k : Int) X2.heap.size (by rfl) (by rfl) (by rfl) HO2.out ?c1 ?c2 ?_)))
            case c1 => exact HB2.out.size
            case c2 => rw [hlJ]; omega
            intro v3 X3 ho3 hg3
            have HB3 := Lib.hid (bgr HB2.out HO2.out (Nat.le_refl _) hg3)
            have HO3 := Lib.hid ho3
            clear ho3 hg3
            by_cases hcJ : cap = 0
            · exfalso; omega
            · go_wp2_with (first | (at_builtin; go_must (refine app_many (W := X3) (wr.drewN nq).heap.size rfl (.tmp 41) (.tmp 44) 32 3 rfl Tryd.underlying32 info3 v3 ((outR ls k).take (0) ++ [(k : Int)]) ((outR ls k).drop (0)) ⟨g, 0, none⟩ (k - (0)) (cap - (0)) (by rfl) (by simp [Act.eval]) (by rw [List.length_drop, HOL.out]) HO3.out (fun j hj => cells_drop (HIX.out.below HB3.out) (by rw [HOL.out]; omega)) HB3.out.size ?c2 ?_)))
              case c2 => rw [List.length_append, hlJ]; simp; omega
              intro v4 X4 ho4 hg4
              have HB4 := Lib.hid (btr HBX.out (bgr HB3.out HO3.out (Nat.le_refl _) hg4))
              have HO4 := Lib.hid ho4
              clear ho4 hg4
              go_wp2_with fail
              go_roundw
              case rel => exact ⟨k + 1, by omega, by go_num, HB4.out, by rw [HST.out]; exact own_base (by simpa using HO4.out) HBX.out.size, fun h => by omega⟩
              case measure => simp only [intOf]; omega
          | succ j =>
            have hjo : j < (outR ls k).length := by rw [HOL.out]; omega
            obtain ⟨gb, go', ge, t0⟩ := (HIO.out.below HB1.out).get (k := j) hjo
            simp only [Option.some.injEq, Addr.mk.injEq, and_true] at ge
            obtain ⟨rfl, rfl⟩ := ge
            rw [Nat.zero_add] at t0
            have hx := HOM.out _ (gi_mem hjo)
            obtain ⟨x, hxe⟩ := Int.eq_ofNat_of_zero_le hx.1
            rw [hxe] at t0 hx
            obtain ⟨lb2, lo2, le, u0, u1, u2, u3⟩ := (HL.out.below HBT.out).get (k := x) (by omega)
            simp only [Option.some.injEq, Addr.mk.injEq, and_true] at le
            obtain ⟨rfl, rfl⟩ := le
            obtain ⟨lb3, lo3, le, y0, y1, y2, y3⟩ := (HL.out.below HBT.out).get (k := k) hlt
            simp only [Option.some.injEq, Addr.mk.injEq, and_true] at le
            obtain ⟨rfl, rfl⟩ := le
            have hxi : (x : Int) < (ls.length : Int) := by omega
            have hj1 : IntKind.i64.wrap (((j + 1 : Nat) : Int) - 1) = (j : Int) := by rw [IntWalk.i64_in _ (by omega)]; omega
            have hjp : (0 : Int) < (j : Int) + 1 := by omega
            have hjw : IntKind.i64.wrap (j : Int) = (j : Int) := IntWalk.i64_in _ (by omega)
            have hj0 : (0 : Int) ≤ (j : Int) := by omega
            have hx0 : (0 : Int) ≤ (x : Int) := by omega
            have hk00 : (0 : Int) ≤ (k : Int) := by omega
            rw [show ((j + 1 : Nat) : Int) = (j : Int) + 1 by omega]
            have hj2 : IntKind.i64.wrap ((j : Int) + 1 - 1) = (j : Int) := by rw [IntWalk.i64_in _ (by omega)]; omega
            have hjk : (j : Int) < (k : Int) := by omega
            have HD := Lib.hid fun W => dearer_any (gl ls x) (gl ls k) (HK.out x (by omega)) (HK.out k hlt) W
            have HXE := Lib.hid hxe
            go_wp2_with fail
            go_region_held3 (fun w' => w'.cell? ⟨g, j, none⟩ = some (.int .i64 x) ∧ w'.cell? ⟨lb, lo + x * 4, none⟩ = some (.int .i64 (gl ls x).u) ∧ w'.cell? ⟨lb, lo + x * 4 + 1, none⟩ = some (.int .i64 (gl ls x).v) ∧ w'.cell? ⟨lb, lo + x * 4 + 2, none⟩ = some (.int .i64 (gl ls x).c) ∧ w'.cell? ⟨lb, lo + x * 4 + 3, none⟩ = some (.int .i64 (gl ls x).g) ∧ w'.cell? ⟨lb, lo + k * 4, none⟩ = some (.int .i64 (gl ls k).u) ∧ w'.cell? ⟨lb, lo + k * 4 + 1, none⟩ = some (.int .i64 (gl ls k).v) ∧ w'.cell? ⟨lb, lo + k * 4 + 2, none⟩ = some (.int .i64 (gl ls k).c) ∧ w'.cell? ⟨lb, lo + k * 4 + 3, none⟩ = some (.int .i64 (gl ls k).g)) (go_keep)
              (first | (go_at_call 63; go_must (refine (HD.out _).mono ?_); rintro e w9 ⟨rfl, hb9⟩; have t0' := cellB hb9 t0; have u0' := cellB hb9 u0; have u1' := cellB hb9 u1; have u2' := cellB hb9 u2; have u3' := cellB hb9 u3; have y0' := cellB hb9 y0; have y1' := cellB hb9 y1; have y2' := cellB hb9 y2; have y3' := cellB hb9 y3; have HB9 := Lib.hid (btr (Below.refl _ _).drew hb9); clear hb9))
            have HB91 := Lib.hid (btr HB1.out HB9.out)
            clear t0 t0' u0 u1 u2 u3 y0 y1 y2 y3 u0' u1' u2' u3' y0' y1' y2' y3'
            cases hch : cheaperB (gl ls k) (gl ls x)
            · have hPJ : posR (ltL ls) k (outR ls k) k = j + 1 := by
                rw [HPS.out]
                unfold posR
                rw [HXE.out, if_neg]
                unfold ltL
                simp [hch]
              have HPJ := Lib.hid hPJ
              clear hch hPJ
              go_wp2_with fail
              have HBX := Lib.hid (btr HB.out HB91.out)
              have HIX := Lib.hid (HIO.out.below (HB91.out))
              have hlJ : ((outR ls k).take (j + 1)).length = j + 1 := by rw [List.length_take, HOL.out]; omega
              have HI1 : Hid (Calls Tryd.prog 64 #[.slice (some ⟨g, 0, none⟩) (j + 1) cap] (w9) fun e w' => Below (w9).heap.size (w9) w' ∧ ∃ v, e = .returned v ∧ Own w' (w9).heap.size 3 v ((outR ls k).take (j + 1))) := Lib.hid (by
                have := Ints_any (some ⟨g, 0, none⟩) cap ((outR ls k).take (j + 1)) (w9) (HIX.out.take _) (by rw [hlJ]; omega)
                rw [hlJ] at this
                exact this)
              have HST := Lib.hid (show outR ls (k + 1) = (outR ls k).take (j + 1) ++ (k : Int) :: (outR ls k).drop (j + 1) by
                show insR (ltL ls) k (outR ls k) = _
                unfold insR
                rw [HOL.out, HPJ.out])
              refine HI1.out.mono ?_
              rintro e X2 ⟨hb2, v2, rfl, hown2⟩
              have HO2 := Lib.hid hown2
              have HB2 := Lib.hid hb2
              clear hown2 hb2 HI1
              go_wp2_with (first | (at_builtin; go_must (refine app_ints (W := X2) (w9).heap.size rfl (.tmp 37) (.tmp 39) 32 3 rfl Tryd.underlying32 info3 v2 ((outR ls k).take (j + 1)) (k : Int) X2.heap.size (by rfl) (by rfl) (by rfl) HO2.out ?c1 ?c2 ?_)))
              case c1 => exact HB2.out.size
              case c2 => rw [hlJ]; omega
              intro v3 X3 ho3 hg3
              have HB3 := Lib.hid (bgr HB2.out HO2.out (Nat.le_refl _) hg3)
              have HO3 := Lib.hid ho3
              clear ho3 hg3
              by_cases hcJ : cap = j + 1
              · go_wp2_with (first | (at_builtin; go_must (refine app_many (W := X3) (w9).heap.size rfl (.tmp 41) (.tmp 44) 32 3 rfl Tryd.underlying32 info3 v3 ((outR ls k).take (j + 1) ++ [(k : Int)]) ((outR ls k).drop (j + 1)) ⟨g, 0, none⟩ (k - (j + 1)) (cap - (j + 1)) (by rfl) (by simp [Act.eval, hcJ]) (by rw [List.length_drop, HOL.out]) HO3.out (fun j hj => absurd hj (by omega)) HB3.out.size ?c2 ?_)))
                case c2 => rw [List.length_append, hlJ]; simp; omega
                intro v4 X4 ho4 hg4
                have HB4 := Lib.hid (btr HBX.out (bgr HB3.out HO3.out (Nat.le_refl _) hg4))
                have HO4 := Lib.hid ho4
                clear ho4 hg4
                go_wp2_with fail
                go_roundw
                case rel => exact ⟨k + 1, by omega, by go_num, HB4.out, by rw [HST.out]; exact own_base (by simpa using HO4.out) HBX.out.size, fun h => by omega⟩
                case measure => simp only [intOf]; omega
              · go_wp2_with (first | (at_builtin; go_must (refine app_many (W := X3) (w9).heap.size rfl (.tmp 41) (.tmp 44) 32 3 rfl Tryd.underlying32 info3 v3 ((outR ls k).take (j + 1) ++ [(k : Int)]) ((outR ls k).drop (j + 1)) ⟨g, j + 1, none⟩ (k - (j + 1)) (cap - (j + 1)) (by rfl) (by simp [Act.eval]) (by rw [List.length_drop, HOL.out]) HO3.out (fun j hj => cells_drop (HIX.out.below HB3.out) (by rw [HOL.out]; omega)) HB3.out.size ?c2 ?_)))
                case c2 => rw [List.length_append, hlJ]; simp; omega
                intro v4 X4 ho4 hg4
                have HB4 := Lib.hid (btr HBX.out (bgr HB3.out HO3.out (Nat.le_refl _) hg4))
                have HO4 := Lib.hid ho4
                clear ho4 hg4
                go_wp2_with fail
                go_roundw
                case rel => exact ⟨k + 1, by omega, by go_num, HB4.out, by rw [HST.out]; exact own_base (by simpa using HO4.out) HBX.out.size, fun h => by omega⟩
                case measure => simp only [intOf]; omega
            · have hPJ : posR (ltL ls) k (outR ls k) k = posR (ltL ls) k (outR ls k) j := by
                rw [HPS.out]
                conv => lhs; unfold posR
                rw [HXE.out, if_pos]
                unfold ltL
                simp [hch]
              have HPJ := Lib.hid hPJ
              clear hch hPJ
              go_wp2_with fail
              go_roundw
              case rel => exact ⟨j, by omega, by go_num, HB91.out, HPJ.out⟩
              case measure => simp only [intOf]; omega
    · have hkn : k = ls.length := by omega
      subst hkn
      rw [outR_order] at HO
      go_wp2_with fail
      go_ret
      exact ⟨HB.out, _, rfl, HO.out⟩

end Go.Proofs.YtjaegolanbjgfaaDoor
