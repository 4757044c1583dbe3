import Derived.Test.YtjaegolanbjgfaaDoorGr
import Derived.Test.YtjaegolanbjgfaaDoorBd
import Derived.WalkKit
import Derived.WalkSpells
import Derived.WalkLawsBesides
import Derived.Lib.Hide
import Derived.Deep.DeepCutAuto
import Derived.Deep.LoopGhost
import Derived.Deep.QuietTactic
import Derived.BigQuiet
import Derived.Deep.OwnRows
import Derived.StillTailTactics
import Derived.IntWalk
import Derived.Laws.BitsLemmas
import Derived.Laws.MathBits
import Derived.Laws.Bits64
import Derived.Deep.RegionHeld3
import Derived.BigRegion
import Derived.Lib.SliceRun
import Derived.Deep.AppendLies
set_option linter.unusedVariables false
set_option linter.unusedSimpArgs false
namespace Go.Proofs.YtjaegolanbjgfaaDoor
open Go.RowKit
theorem ints_news {w : World} {b o : Nat} {xs : List Int} (h : IntsAt w (some ⟨b, o, none⟩) xs) : ∀ j u, (xs.map (Value.int .i64))[j]? = some u → w.cell? ((⟨b, o, none⟩ : Addr).add j) = some u := by
  intro j u hu
  rw [List.getElem?_map] at hu
  obtain ⟨x, hx, rfl⟩ := Option.map_eq_some_iff.1 hu
  obtain ⟨hj, rfl⟩ := List.getElem?_eq_some_iff.1 hx
  obtain ⟨b', o', e, hc⟩ := h.get hj
  simp only [Option.some.injEq, Addr.mk.injEq, and_true] at e
  obtain ⟨rfl, rfl⟩ := e
  have : (⟨b, o, none⟩ : Addr).add j = ⟨b, o + j, none⟩ := by unfold Addr.add; split <;> simp_all
  rw [this, hc]
  simp [gi, List.getD_eq_getElem?_getD, hj]
section
variable {P : Program} {ops : Array Oper} {rest : List Oper} {o : Oper} {a : Act} {Q : Exit → Act → World → Prop}
/-- append(T{}, xs...): behind 'at_builtin'. -/
theorem app_clone {W : World} (hgd : o.guard = none) (s x : Operand) (t e : TypeId)
    (ho : o.op = .call { callee := .builtin .append, args := #[s, x], argTypes := #[t, t] })
    (ht : P.underlying t = some (.slice e)) (hinfo : (P.info? e).map (fun i => (i.zero, i.size, i.bytes)) = some (some (.int .i64 0), 1, 8))
    (b off n c g : Nat) (xs : List Int) (hs : a.eval s = .slice (some ⟨g, 0, none⟩) 0 0) (hx : a.eval x = .slice (some ⟨b, off, none⟩) n c) (hg : g = W.heap.size)
    (hX : IntsAt W (some ⟨b, off, none⟩) xs) (hn : xs.length = n) (hl : n ≤ 8)
    (h : ∀ v1 w1, Own w1 W.heap.size e v1 xs → Below W.heap.size W w1 → wpList P ops Q rest (a.put o.dst v1) w1) :
    wpList P ops Q (o :: rest) a (W.alloc (.cells #[] e)) := by
  subst hg
  subst hn
  obtain ⟨i0, hi, hzz⟩ := Option.map_eq_some_iff.1 hinfo
  simp only [Prod.mk.injEq] at hzz
  obtain ⟨hz0, hz1, hz2⟩ := hzz
  have hb := bal (Below.refl W.heap.size W) (.cells #[] e)
  refine wpList_append_own (W.alloc (.cells #[] e)) hgd s x t ho W.heap.size e i0 (.int .i64 0) 1 8 ht hi hz0 hz1 hz2 rfl (by decide) _ 0 [] hs (World.ownsRow_made W #[] 0 (Nat.le_refl _) (by simp [maxLen]) rfl) ⟨b, off, none⟩ xs.length c (xs.map (Value.int .i64)) hx (by simp) (ints_news (hX.below hb)) (by intro u hu; obtain ⟨x, _, rfl⟩ := List.mem_map.1 hu; rfl) (by simp only [maxLen]; omega) (by omega) (by simp) ?_
  intro v1 w1 hown hg _
  exact h v1 w1 (by simpa [Own] using hown) (hb.grown hg (by simp) (fun k hk => by simp only [Value.ownBlock, Option.some.injEq] at hk; omega))
end
set_option maxRecDepth 100000 in
set_option maxHeartbeats 1000000 in
theorem Clone_any (b o n c : Nat) (xs : List Int) (w : World) (hX : IntsAt w (some ⟨b, o, none⟩) xs) (hn : xs.length = n) (h0 : 0 < n) (h8 : n ≤ 8) :
    Calls Tryd.prog 54 #[.slice (some ⟨b, o, none⟩) n c] w fun e w' => ∃ v, e = .returned v ∧ Own w' w.heap.size 3 v xs ∧ Below w.heap.size w w' := by
  have HX := Lib.hid hX
  have HN := Lib.hid hn
  clear hX hn
  have q32 := fun (w : World) (a : Option Addr) (n c n' c' : Nat) => Lib.run_eql_slice_nil w 32 3 a n c n' c' Tryd.underlying32
  go_enter Tryd.func54, Tryd.ntmps54
  go_wp2_with (first | (at_builtin; go_must (refine app_clone rfl (.tmp 5) (.tmp 6) 32 3 rfl Tryd.underlying32 info3 b o n c w.heap.size xs rfl rfl rfl HX.out HN.out h8 ?_)))
  intro v1 w1 ho hb
  have HO := Lib.hid ho
  have HB := Lib.hid hb
  clear ho hb
  go_wp2_with fail
  go_ret
  exact ⟨v1, rfl, HO.out, HB.out⟩
end Go.Proofs.YtjaegolanbjgfaaDoor
