/-
  The document's backlog: New, Put.
-/
import Derived.Test.YtdeonehebbofiaaDoorBref0
set_option linter.unusedVariables false
namespace Go.Proofs.YtdeonehebbofiaaDoor
open Go.RowKit

theorem blk_set2 {w : World} {g : Nat} {t : TypeId} (x0 x1 v0 v1 : Value) (h : w.heap[g]? = some (.cells #[x0, x1] t (0, 0))) : ((w.setCell ⟨g, 0, none⟩ v0).setCell ⟨g, 1, none⟩ v1).heap[g]? = some (.cells #[v0, v1] t (0, 0)) := by
  generalize hW0 : w.setCell ⟨g, 0, none⟩ v0 = W0
  have h0 : W0.heap[g]? = some (.cells #[v0, x1] t (0, 0)) := by rw [← hW0]; exact blk_set h 0 v0
  exact blk_set h0 1 v1

set_option maxRecDepth 100000 in
set_option maxHeartbeats 1600000 in
theorem ref16_new (n : Int) (w : World) : Calls Tryd.prog 15 #[.int .i64 n] w fun e w' =>
    e = .returned (.tuple #[if n < 1 ∨ 1024 < n then rbVal 0 (.slice none 0 0) else rbVal n (.slice none 0 0), .int .i64 (if n < 1 ∨ 1024 < n then 2 else 0)]) ∧ Below w.heap.size w w' := by
  by_cases h1 : n < 1
  · rw [if_pos (.inl h1), if_pos (.inl h1)]
    go_enter Tryd.func15, Tryd.ntmps15
    go_wp2
    have hnb := blk_new w (.cells #[.int .i64 0, .slice none 0 0] 31)
    have q0 : (w.alloc (.cells #[.int .i64 0, .slice none 0 0] 31)).cell? ⟨w.heap.size, 0, none⟩ = some (.int .i64 0) := blk_cell hnb 0
    have q1 : (w.alloc (.cells #[.int .i64 0, .slice none 0 0] 31)).cell? ⟨w.heap.size, 1, none⟩ = some (.slice none 0 0) := blk_cell hnb 1
    exact bodyPost_ret (v := .tuple #[rbVal 0 (.slice none 0 0), .int .i64 2]) (by simp [results, Tryd.results15, go_sem, q0, q1]; rfl) rfl ⟨rfl, below_alloc (Below.refl _ w) _⟩
  · by_cases h2 : 1024 < n
    · rw [if_pos (.inr h2), if_pos (.inr h2)]
      go_enter Tryd.func15, Tryd.ntmps15
      go_wp2
      have hnb := blk_new w (.cells #[.int .i64 0, .slice none 0 0] 31)
      have q0 : (w.alloc (.cells #[.int .i64 0, .slice none 0 0] 31)).cell? ⟨w.heap.size, 0, none⟩ = some (.int .i64 0) := blk_cell hnb 0
      have q1 : (w.alloc (.cells #[.int .i64 0, .slice none 0 0] 31)).cell? ⟨w.heap.size, 1, none⟩ = some (.slice none 0 0) := blk_cell hnb 1
      exact bodyPost_ret (v := .tuple #[rbVal 0 (.slice none 0 0), .int .i64 2]) (by simp [results, Tryd.results15, go_sem, q0, q1]; rfl) rfl ⟨rfl, below_alloc (Below.refl _ w) _⟩
    · rw [if_neg (by omega), if_neg (by omega)]
      go_enter Tryd.func15, Tryd.ntmps15
      go_wp2
      have hnb := blk_new w (.cells #[.int .i64 n, .slice none 0 0] 31)
      have q0 : (w.alloc (.cells #[.int .i64 n, .slice none 0 0] 31)).cell? ⟨w.heap.size, 0, none⟩ = some (.int .i64 n) := blk_cell hnb 0
      have q1 : (w.alloc (.cells #[.int .i64 n, .slice none 0 0] 31)).cell? ⟨w.heap.size, 1, none⟩ = some (.slice none 0 0) := blk_cell hnb 1
      exact bodyPost_ret (v := .tuple #[rbVal n (.slice none 0 0), .int .i64 0]) (by simp [results, Tryd.results15, go_sem, q0, q1]; rfl) rfl ⟨rfl, below_alloc (Below.refl _ w) _⟩
end Go.Proofs.YtdeonehebbofiaaDoor
