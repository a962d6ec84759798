/-
  fifo.Fifo[uint32]: Get.
-/
import Derived.Test.YtdeonehebbofiaaDoorFifo1
set_option linter.unusedVariables false
namespace Go.Proofs.YtdeonehebbofiaaDoor
open Go.RowKit

theorem FifoTo.of_below {w w' : World} {own : Nat → Prop} {g : Nat} {most : Int} {lv : Value} {ids : List Int} (h : FifoRaw w own g most lv ids) (hb : Below w.heap.size w w') : FifoTo w own g most ids w' :=
  ⟨own, lv, h.upd (Upd.of_below hb (fun _ => False)) (fun _ _ _ e => e), Upd.of_below hb _, fun _ hk => .inl hk⟩

set_option maxHeartbeats 800000 in
theorem fifo_get_none {w : World} {own : Nat → Prop} {g : Nat} {most : Int} {lv : Value} (h : FifoRaw w own g most lv []) :
    Calls Tryd.prog 69 #[.pointer (some ⟨g, 0, none⟩)] w fun e w' => e = .returned (.tuple #[.int .u32 0, .int .i64 0, .bool false]) ∧ w = w' := by
  have H := hide h
  clear h
  go_enter Tryd.func69, Tryd.ntmps69
  go_wp2_with (go_at_call 68; refine (fifo_head_none H.out).mono ?_; rintro e1 w1 ⟨rfl, rfl⟩)
  go_ret3
  exact ⟨rfl, rfl⟩

set_option maxRecDepth 100000 in
set_option maxHeartbeats 1600000 in
theorem fifo_get_some {w : World} {own : Nat → Prop} {g : Nat} {most : Int} {lv : Value} {i : Int} {ids : List Int} (h : FifoRaw w own g most lv (i :: ids)) :
    Calls Tryd.prog 69 #[.pointer (some ⟨g, 0, none⟩)] w fun e w' => e = .returned (.tuple #[.int .u32 i, .int .i64 0, .bool true]) ∧ FifoTo w own g most ids w' := by
  obtain ⟨lb, off, cap, rfl, hc, hm, _, hlb⟩ := h.row.begins (by simp)
  obtain ⟨i0, hinfo, hz0, hz1, hz2⟩ := info_parts infoFr
  obtain ⟨a, hab, h2, h3⟩ := cut_tail Tryd.underlying164 hinfo hz1 lb off (i :: ids).length cap 1 (by simp)
  simp only [List.length_cons, Nat.add_sub_cancel] at h2 h3
  have h2' : ∀ W : World, (Instr.slice 164 (.slice (some ⟨lb, off, none⟩) (ids.length + 1) cap) (some (.int .i64 1)) none none).run Tryd.prog W = .ok (.slice (some a) ids.length (cap - 1)) W := h2
  have hne : lb ≠ g := fun e => h.row.ne h.blk (by decide) (by subst e; rfl)
  have H := hide h
  have HT := hide h3
  clear h h2 h3
  go_enter Tryd.func69, Tryd.ntmps69
  go_wp2_with (go_at_call 68; refine (fifo_head_some H.out).mono ?_; rintro e1 w1 ⟨rfl, b1⟩; have h1 := H.out.upd (Upd.of_below b1 (fun _ => False)) (fun _ _ _ e => e); have c2 : w1.cell? ⟨g, 2, none⟩ = some (.slice (some ⟨lb, off, none⟩) (ids.length + 1) cap) := blk_cell h1.blk 2; have c3 : w1.cell? ⟨g, 3, none⟩ = some (.int .i64 0) := blk_cell h1.blk 3; have fg : ∀ i, w1.frozen? ⟨g, i, none⟩ = false := (fun i => blk_frozen h1.blk i); have d0 : w1.cell? ⟨lb, off, none⟩ = some (.int .u32 i) := h1.row.cell (i := 0) (by simp); have d1 : w1.cell? ⟨lb, off + 1, none⟩ = some (.int .i64 0) := h1.row.cell (i := 1) (by simp; omega); have fl : ∀ i, w1.frozen? ⟨lb, i, none⟩ = false := (fun i => h1.row.frozen i); have H1 := hide h1; have HB1 := hide b1; clear h1 b1)
  refine wp_nameP (fun wd hwd => ?_)
  have r2 := (H1.out.row.set (i := 0) (by simp) (.int .u32 0)).set (i := 1) (by simp; omega) (.int .i64 0)
  have r3 := HT.out _ _ r2
  have hcs : (((fcells (i :: ids)).set 0 (.int .u32 0)).set 1 (.int .i64 0)).drop (1 * 2) = fcells ids := rfl
  rw [hcs] at r3
  have hob : (Value.slice (some a) ids.length (cap - 1)).ownBlock = some lb := by show some a.block = some lb; rw [hab]
  have hng : (Value.slice (some a) ids.length (cap - 1)).ownBlock ≠ some g := by rw [hob]; intro e; injection e with e; exact hne e
  have r4 := (r3.far (p := ⟨g, 2, none⟩) hng (.slice (some a) ids.length (cap - 1))).far (p := ⟨g, 3, none⟩) hng (.int .i64 0)
  have hlb1 : own lb := H.out.ol lb rfl
  have hU : Upd own w1 wd := by
    subst hwd
    exact ((((Upd.refl own w1).setCell (p := ⟨lb, off, none⟩) (.inl hlb1) _).setCell (p := ⟨lb, off + 1, none⟩) (.inl hlb1) _).setCell (p := ⟨g, 2, none⟩) (.inl H.out.og) _).setCell (p := ⟨g, 3, none⟩) (.inl H.out.og) _
  have hbd : wd.heap[g]? = some (.cells #[.int .i64 most, .int .i64 0, .slice (some a) ids.length (cap - 1), .int .i64 0] 166 (0, 0)) := by
    subst hwd
    exact blk_set (blk_set (blk_far (blk_far H1.out.blk (p := ⟨lb, off, none⟩) (fun e => hne e.symm) _) (p := ⟨lb, off + 1, none⟩) (fun e => hne e.symm) _) 2 _) 3 _
  have hrow : Row wd 173 2 (.slice (some a) ids.length (cap - 1)) ids.length (fcells ids) := by
    subst hwd
    exact r4
  clear hwd r2 r3 r4
  go_ret3
  exact ⟨rfl, own, _, ⟨hbd, hrow, H.out.og, fun k hk => by rw [hob] at hk; injection hk with hk; subst hk; exact hlb1, fun k hk => Nat.lt_of_lt_of_le (H1.out.ob k hk) hU.size⟩, (Upd.of_below HB1.out own).trans hU (fun _ _ e => e), fun _ hk => .inl hk⟩
end Go.Proofs.YtdeonehebbofiaaDoor
