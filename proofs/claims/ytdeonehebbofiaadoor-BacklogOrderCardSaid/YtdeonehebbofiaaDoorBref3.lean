/-
  The document's backlog: Take.
-/
import Derived.Test.YtdeonehebbofiaaDoorNapp
set_option linter.unusedVariables false
namespace Go.Proofs.YtdeonehebbofiaaDoor
open Go.RowKit

theorem refw_close {w w1 wd : World} {m v p0 p1 r0 r1 : Value} {ids : List Int} (b0 : w1.heap[w.heap.size]? = some (.cells #[p0, p1] 31 (0, 0))) (b1 : w1.heap[w.heap.size + 1]? = some (.cells #[r0, r1] 31 (0, 0)))
    (hr : NumRow w1 v ids) (hb : Below w.heap.size w w1) (hwd : wd = ((w1.setCell ⟨w.heap.size, 1, none⟩ v).setCell ⟨w.heap.size + 1, 0, none⟩ m).setCell ⟨w.heap.size + 1, 1, none⟩ v) :
    wd.cell? ⟨w.heap.size + 1, 0, none⟩ = some m ∧ wd.cell? ⟨w.heap.size + 1, 1, none⟩ = some v ∧ NumRow wd v ids ∧ Below w.heap.size w wd := by
  have n0 := Row.ne hr b0 (by decide)
  have n1 := Row.ne hr b1 (by decide)
  have hbd : wd.heap[w.heap.size + 1]? = some (.cells #[m, v] 31 (0, 0)) := by
    subst hwd
    exact blk_set2 _ _ _ _ (blk_far b1 (p := ⟨w.heap.size, 1, none⟩) (by simp) _)
  have hU : Upd (fun k => k = w.heap.size ∨ k = w.heap.size + 1) w1 wd := by
    subst hwd
    exact (((Upd.refl (fun k => k = w.heap.size ∨ k = w.heap.size + 1) w1).setCell (p := ⟨w.heap.size, 1, none⟩) (.inl (.inl rfl)) _).setCell (p := ⟨w.heap.size + 1, 0, none⟩) (.inl (.inr rfl)) _).setCell (p := ⟨w.heap.size + 1, 1, none⟩) (.inl (.inr rfl)) _
  refine ⟨blk_cell hbd 0, blk_cell hbd 1, Row.upd hr hU (fun k hk e => ?_), hb.trans (hU.below hb.size (fun i hi e => by omega))⟩
  rcases e with rfl | rfl
  · exact n0 hk
  · exact n1 hk

set_option maxRecDepth 100000 in
set_option maxHeartbeats 1600000 in
theorem ref16_take_none {w : World} {v : Value} (h : NumRow w v []) (most : Int) :
    Calls Tryd.prog 60 #[rbVal most v] w fun e w' => e = .returned (.tuple #[rbVal most v, .int .u32 0, .bool false]) ∧ Below w.heap.size w w' := by
  obtain ⟨a, cap, hv, _, _⟩ := Row.form h
  simp only [List.length_nil] at hv
  subst hv
  have HR := hide h
  have hb2 : ((w.alloc (.cells #[.int .i64 most, .slice a 0 cap] 31)).alloc (.cells #[.int .i64 most, .slice a 0 cap] 31)).heap[w.heap.size + 1]? = some (.cells #[.int .i64 most, .slice a 0 cap] 31 (0, 0)) := by
    have := blk_new (w.alloc (.cells #[.int .i64 most, .slice a 0 cap] 31)) (.cells #[.int .i64 most, .slice a 0 cap] 31)
    simpa using this
  have HB := hide hb2
  clear h hb2
  unfold rbVal
  go_enter Tryd.func60, Tryd.ntmps60
  go_wp2
  have q0 : ((w.alloc (.cells #[.int .i64 most, .slice a 0 cap] 31)).alloc (.cells #[.int .i64 most, .slice a 0 cap] 31)).cell? ⟨w.heap.size + 1, 0, none⟩ = some (.int .i64 most) := blk_cell HB.out 0
  have q1 : ((w.alloc (.cells #[.int .i64 most, .slice a 0 cap] 31)).alloc (.cells #[.int .i64 most, .slice a 0 cap] 31)).cell? ⟨w.heap.size + 1, 1, none⟩ = some (.slice a 0 cap) := blk_cell HB.out 1
  exact bodyPost_ret (v := .tuple #[rbVal most (.slice a 0 cap), .int .u32 0, .bool false]) (by simp [results, Tryd.results60, go_sem, q0, q1]; rfl) rfl ⟨rfl, below_alloc (below_alloc (Below.refl _ w) _) _⟩

set_option maxRecDepth 100000 in
set_option maxHeartbeats 1600000 in
theorem ref16_take_some {w : World} {v : Value} {i : Int} {ids : List Int} (h : NumRow w v (i :: ids)) (most : Int) (hm : ids.length ≤ 1048576) :
    Calls Tryd.prog 60 #[rbVal most v] w fun e w' => ∃ v', e = .returned (.tuple #[rbVal most v', .int .u32 i, .bool true]) ∧ NumRow w' v' ids ∧ (∀ b, v'.ownBlock = some b → w.heap.size ≤ b) ∧ Below w.heap.size w w' := by
  obtain ⟨i0, hinfo, hz0, hz1, hz2⟩ := info_parts infoU32
  obtain ⟨lb, off, cap, hv, _, _, _, hlb⟩ := Row.begins h (by simp)
  subst hv
  obtain ⟨a, hab, h2, h3⟩ := cut_tail Tryd.underlying29 hinfo hz1 lb off (i :: ids).length cap 1 (by simp)
  have h2' : ∀ W : World, (Instr.slice 29 (.slice (some ⟨lb, off, none⟩) (ids.length + 1) cap) (some (.int .i64 1)) none none).run Tryd.prog W = .ok (.slice (some a) ids.length (cap - 1)) W := h2
  have ht := h3 w _ h
  have d0 : w.cell? ⟨lb, off, none⟩ = some (.int .u32 i) := NumRow.cell' h (i := 0) rfl
  have HT := hide (show NumRow w (.slice (some a) ids.length (cap - 1)) ids from ht)
  clear h h2 h3 ht
  unfold rbVal
  go_enter Tryd.func60, Tryd.ntmps60
  go_wp2_with (at_builtin; refine wait ?_)
  unfold Wait
  refine wpList_app_nums rfl _ _ rfl (.slice (some ⟨w.heap.size + 1 + 1, 0, none⟩) 0 0) _ [] ids rfl (NumRow.of0 (new3_2 w _ _ _)) rfl (((HT.out.alloc _).alloc _).alloc _) (by simp; omega) ?_
  intro a1 c1 w1 hr1 hg1
  have hf := hg1.fresh (w0 := w) (below_alloc (below_alloc (below_alloc (Below.refl _ w) _) _) _) (fun b hb => by simp [Value.ownBlock] at hb; omega)
  have b0 := hg1.keeps (new3_0 w _ _ _) (by simp [Value.ownBlock]; omega)
  have b1 := hg1.keeps (new3_1 w _ _ _) (by simp [Value.ownBlock])
  simp only [List.length_nil, Nat.zero_add, List.nil_append] at hr1 hf
  rw [List.length_nil, Nat.zero_add]
  have l0 := blk_lt b0
  have l1 := blk_lt b1
  have z0 : w1.cell? ⟨w.heap.size, 0, none⟩ = some (.int .i64 most) := blk_cell b0 0
  have z1 : w1.cell? ⟨w.heap.size, 1, none⟩ = some (.slice (some ⟨lb, off, none⟩) (ids.length + 1) cap) := blk_cell b0 1
  have zf : ∀ i, w1.frozen? ⟨w.heap.size, i, none⟩ = false := fun i => blk_frozen b0 i
  have y0 : w1.cell? ⟨w.heap.size + 1, 0, none⟩ = some (.int .i64 0) := blk_cell b1 0
  have y1 : w1.cell? ⟨w.heap.size + 1, 1, none⟩ = some (.slice none 0 0) := blk_cell b1 1
  have yf : ∀ i, w1.frozen? ⟨w.heap.size + 1, i, none⟩ = false := fun i => blk_frozen b1 i
  have HR := hide hr1
  have HF := hide hf
  have B0 := hide b0
  have B1 := hide b1
  clear hr1 hg1 hf b0 b1
  go_wp2
  refine wp_nameP (fun wd hwd => ?_)
  obtain ⟨q0, q1, hrd, hbd⟩ := refw_close B0.out B1.out HR.out HF.out.1 hwd
  clear hwd
  exact bodyPost_ret (v := .tuple #[rbVal most (.slice a1 ids.length c1), .int .u32 i, .bool true]) (by simp [results, Tryd.results60, go_sem, q0, q1]; rfl) rfl ⟨_, rfl, hrd, HF.out.2, hbd⟩
end Go.Proofs.YtdeonehebbofiaaDoor
