/-
  fifo.Fifo[uint32] in memory: New, Len, Head.
-/
import Derived.Test.YtdeonehebbofiaaDoorMem2
import Derived.Test.YtdeonehebbofiaaDoorSlice
import Derived.Test.YtdeonehebbofiaaDoorErr3
import Derived.BigQuiet
set_option linter.unusedVariables false
namespace Go.Proofs.YtdeonehebbofiaaDoor
open Go.RowKit

def fcells (ids : List Int) : List Value := ids.flatMap fun i => [.int .u32 i, .int .i64 0]
theorem fcells_length (ids : List Int) : (fcells ids).length = ids.length * 2 := by
  unfold fcells
  induction ids with
  | nil => rfl
  | cons t ts ih => simp only [List.flatMap_cons, List.length_append, ih, List.length_cons, List.length_nil]; omega
theorem fcells_append (a b : List Int) : fcells (a ++ b) = fcells a ++ fcells b := by simp [fcells]
/-- The block g is a queue of these numbers, of at most so many, no weight; its memory are the blocks of own. -/
structure FifoRaw (w : World) (own : Nat → Prop) (g : Nat) (most : Int) (lv : Value) (ids : List Int) : Prop where
  blk : w.heap[g]? = some (.cells #[.int .i64 most, .int .i64 0, lv, .int .i64 0] 166 (0, 0))
  row : Row w 173 2 lv ids.length (fcells ids)
  og : own g
  ol : ∀ k, lv.ownBlock = some k → own k
  ob : ∀ k, own k → k < w.heap.size
theorem FifoRaw.upd {w w' : World} {own S : Nat → Prop} {g : Nat} {most : Int} {lv : Value} {ids : List Int} (h : FifoRaw w own g most lv ids) (hu : Upd S w w') (hn : ∀ k, own k → k < w.heap.size → ¬ S k) : FifoRaw w' own g most lv ids where
  blk := hu.keeps h.blk (hn _ h.og (blk_lt h.blk))
  row := h.row.upd hu (fun k hk => hn k (h.ol k hk) (h.row.lt hk))
  og := h.og
  ol := h.ol
  ob := fun k hk => Nat.lt_of_lt_of_le (h.ob k hk) hu.size

theorem fifo_len {w : World} {own : Nat → Prop} {g : Nat} {most : Int} {lv : Value} {ids : List Int} (h : FifoRaw w own g most lv ids) :
    Calls Tryd.prog 67 #[.pointer (some ⟨g, 0, none⟩)] w fun e w' => e = .returned (.int .i64 ids.length) ∧ w = w' := by
  obtain ⟨a, cap, rfl, _, _⟩ := h.row.form
  have c2 : w.cell? ⟨g, 2, none⟩ = some (.slice a ids.length cap) := blk_cell h.blk 2
  clear h
  go_enter Tryd.func67, Tryd.ntmps67
  go_wp2
  go_ret
  exact ⟨rfl, rfl⟩
theorem fifo_new (w : World) (n : Int) (hn : 0 ≤ n) :
    Calls Tryd.prog 56 #[.int .i64 n, .int .i64 0] w fun e w' => e = .returned (.tuple #[.pointer (some ⟨w.heap.size, 0, none⟩), .nilIface]) ∧ FifoRaw w' (fun k => k = w.heap.size) w.heap.size n (.slice none 0 0) [] ∧ Below w.heap.size w w' := by
  have h1 : ¬ n < 0 := by omega
  go_enter Tryd.func56, Tryd.ntmps56
  go_wp2
  go_ret2
  refine ⟨rfl, ⟨blk_new w _, Row.nil _ _ _, rfl, fun k h => (by simp [Value.ownBlock] at h), fun k hk => (by simp; omega)⟩, below_alloc (Below.refl _ w) _⟩
theorem fifo_head_none {w : World} {own : Nat → Prop} {g : Nat} {most : Int} {lv : Value} (h : FifoRaw w own g most lv []) :
    Calls Tryd.prog 68 #[.pointer (some ⟨g, 0, none⟩)] w fun e w' => e = .returned (.tuple #[.int .u32 0, .int .i64 0, .bool false]) ∧ w = w' := by
  have H := hide h
  clear h
  go_enter Tryd.func68, Tryd.ntmps68
  go_wp2_with (go_at_call 67; refine (fifo_len H.out).mono ?_; rintro e1 w1 ⟨rfl, rfl⟩)
  go_ret3
  exact ⟨rfl, rfl⟩
theorem fifo_head_some {w : World} {own : Nat → Prop} {g : Nat} {most : Int} {lv : Value} {i : Int} {ids : List Int} (h : FifoRaw w own g most lv (i :: ids)) :
    Calls Tryd.prog 68 #[.pointer (some ⟨g, 0, none⟩)] w fun e w' => e = .returned (.tuple #[.int .u32 i, .int .i64 0, .bool true]) ∧ Below w.heap.size w w' := by
  obtain ⟨lb, off, cap, rfl, hc, hm, _, hlb⟩ := h.row.begins (by simp)
  have c2 : w.cell? ⟨g, 2, none⟩ = some (.slice (some ⟨lb, off, none⟩) (i :: ids).length cap) := blk_cell h.blk 2
  have d0 : w.cell? ⟨lb, off, none⟩ = some (.int .u32 i) := h.row.cell (i := 0) (by simp)
  have d1 : w.cell? ⟨lb, off + 1, none⟩ = some (.int .i64 0) := h.row.cell (i := 1) (by simp; omega)
  have H := hide h
  clear h
  go_enter Tryd.func68, Tryd.ntmps68
  go_wp2_with (go_at_call 67; refine (fifo_len H.out).mono ?_; rintro e1 w1 ⟨rfl, rfl⟩)
  go_quiet (fail)
  go_wp2
  go_ret3
  exact ⟨rfl, below_drewN (Below.refl _ _) _⟩
end Go.Proofs.YtdeonehebbofiaaDoor
