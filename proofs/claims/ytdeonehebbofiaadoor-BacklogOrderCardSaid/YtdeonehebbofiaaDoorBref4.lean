/-
  The document's backlog: Remove.
-/
import Derived.Test.YtdeonehebbofiaaDoorBref3
set_option linter.unusedVariables false
namespace Go.Proofs.YtdeonehebbofiaaDoor
open Go.RowKit

set_option maxRecDepth 100000 in
set_option maxHeartbeats 1600000 in
theorem ref16_remove_none {w : World} {v : Value} {ids : List Int} (h : NumRow w v ids) (most id : Int) (hi : ids.findIdx? (· == id) = none) :
    Calls Tryd.prog 61 #[rbVal most v, .int .u32 id] w fun e w' => e = .returned (.tuple #[rbVal most v, .bool false]) ∧ Below w.heap.size w w' := by
  obtain ⟨a, cap, hv, _, _⟩ := Row.form h
  subst hv
  have HR := hide h
  have HX := hide (show idxS ids id = -1 by unfold idxS; rw [hi])
  clear h hi
  unfold rbVal
  go_enter Tryd.func61, Tryd.ntmps61
  go_wp2_with fail
  refine (ref_at ((HR.out.below' (below_alloc (Below.refl _ w) _)).below' (below_alloc (Below.refl _ _) _)) most id).mono ?_
  rintro e5 w5 ⟨rfl, b5⟩
  rw [HX.out]
  have hp := PB.of (most := most) HR.out b5
  have z0 : w5.cell? ⟨w.heap.size, 0, none⟩ = some (.int .i64 most) := blk_cell hp.b2 0
  have z1 : w5.cell? ⟨w.heap.size, 1, none⟩ = some (.slice a ids.length cap) := blk_cell hp.b2 1
  have y0 : w5.cell? ⟨w.heap.size + 1, 0, none⟩ = some (.int .i64 0) := blk_cell hp.b4 0
  have y1 : w5.cell? ⟨w.heap.size + 1, 1, none⟩ = some (.slice none 0 0) := blk_cell hp.b4 1
  have yf : ∀ i, w5.frozen? ⟨w.heap.size + 1, i, none⟩ = false := fun i => blk_frozen hp.b4 i
  have HP := hide hp
  clear hp b5
  go_wp2
  refine wp_nameP (fun wd hwd => ?_)
  have hbd : wd.heap[w.heap.size + 1]? = some (.cells #[.int .i64 most, .slice a ids.length cap] 31 (0, 0)) := by
    subst hwd
    exact blk_set2 _ _ _ _ HP.out.b4
  have hU : Upd (fun k => k = w.heap.size + 1) w5 wd := by
    subst hwd
    exact ((Upd.refl (fun k => k = w.heap.size + 1) w5).setCell (p := ⟨w.heap.size + 1, 0, none⟩) (.inl rfl) _).setCell (p := ⟨w.heap.size + 1, 1, none⟩) (.inl rfl) _
  clear hwd z0 z1 y0 y1 yf
  have q0 : wd.cell? ⟨w.heap.size + 1, 0, none⟩ = some (.int .i64 most) := blk_cell hbd 0
  have q1 : wd.cell? ⟨w.heap.size + 1, 1, none⟩ = some (.slice a ids.length cap) := blk_cell hbd 1
  exact bodyPost_ret (v := .tuple #[rbVal most (.slice a ids.length cap), .bool false]) (by simp [results, Tryd.results61, go_sem, q0, q1]; rfl) rfl ⟨rfl, HP.out.low.trans (hU.below HP.out.low.size (fun i hi e => by omega))⟩

set_option maxRecDepth 100000 in
set_option maxHeartbeats 1600000 in
theorem ref16_remove_some {w : World} {v : Value} {ids : List Int} (h : NumRow w v ids) (most id : Int) (i : Nat) (hi : ids.findIdx? (· == id) = some i) (hm : ids.length ≤ 1048576) :
    Calls Tryd.prog 61 #[rbVal most v, .int .u32 id] w fun e w' => ∃ v', e = .returned (.tuple #[rbVal most v', .bool true]) ∧ NumRow w' v' (ids.take i ++ ids.drop (i + 1)) ∧ (∀ b, v'.ownBlock = some b → w.heap.size ≤ b) ∧ Below w.heap.size w w' := by
  obtain ⟨i0, hinfo, hz0, hz1, hz2⟩ := info_parts infoU32
  have hil : i < ids.length := by
    have := List.findIdx?_eq_some_iff_getElem.1 hi
    exact this.1
  obtain ⟨lb, off, cap, hv, hlc, _, _, hlb⟩ := Row.begins h (by omega)
  subst hv
  have hh : ∀ W : World, (Instr.slice 29 (.slice (some ⟨lb, off, none⟩) ids.length cap) none (some (.int .i64 (i : Int))) none).run Tryd.prog W = .ok (.slice (some ⟨lb, off, none⟩) i cap) W := cut_head Tryd.underlying29 hinfo _ _ _ i (by omega) hlc
  have hrh : NumRow w (.slice (some ⟨lb, off, none⟩) (ids.take i).length cap) (ids.take i) := by
    have := Row.head h (k := i) (by omega)
    unfold NumRow
    rw [List.length_take, Nat.min_eq_left (by omega)]
    simpa [ncells, List.map_take] using this
  obtain ⟨a, hab, h2, h3⟩ := cut_tail Tryd.underlying29 hinfo hz1 lb off ids.length cap (i + 1) (by omega)
  have h2' : ∀ W : World, (Instr.slice 29 (.slice (some ⟨lb, off, none⟩) ids.length cap) (some (.int .i64 ((i : Int) + 1))) none none).run Tryd.prog W = .ok (.slice (some a) (ids.length - (i + 1)) (cap - (i + 1))) W := h2
  have hrt : NumRow w (.slice (some a) (ids.drop (i + 1)).length (cap - (i + 1))) (ids.drop (i + 1)) := by
    have := h3 w _ h
    unfold NumRow
    rw [List.length_drop]
    simpa [ncells, List.map_drop] using this
  rw [List.length_take, Nat.min_eq_left (by omega)] at hrh
  rw [List.length_drop] at hrt
  have HR := hide h
  have HH := hide hrh
  have HT := hide hrt
  have HX := hide (show idxS ids id = i by unfold idxS; rw [hi])
  have hi0 : (0 : Int) ≤ (i : Int) := by omega
  clear h hi h2 h3 hrh hrt
  unfold rbVal
  go_enter Tryd.func61, Tryd.ntmps61
  go_wp2_with fail
  refine (ref_at ((HR.out.below' (below_alloc (Below.refl _ w) _)).below' (below_alloc (Below.refl _ _) _)) most id).mono ?_
  rintro e5 w5 ⟨rfl, b5⟩
  rw [HX.out]
  have hp := PB.of (most := most) HR.out b5
  have hq := (HH.out.below' (below_alloc (below_alloc (Below.refl _ w) _) _)).below' b5
  have hq2 := (HT.out.below' (below_alloc (below_alloc (Below.refl _ w) _) _)).below' b5
  have z0 : w5.cell? ⟨w.heap.size, 0, none⟩ = some (.int .i64 most) := blk_cell hp.b2 0
  have z1 : w5.cell? ⟨w.heap.size, 1, none⟩ = some (.slice (some ⟨lb, off, none⟩) ids.length cap) := blk_cell hp.b2 1
  have l0 := blk_lt hp.b2
  have HP := hide hp
  have HH5 := hide hq
  have HT5 := hide hq2
  clear hp b5 hq hq2
  go_wp2_with (at_builtin; refine wait ?_)
  unfold Wait
  refine wpList_app_nums rfl _ _ rfl (.slice (some ⟨w5.heap.size, 0, none⟩) 0 0) (.slice (some ⟨lb, off, none⟩) i cap) [] (ids.take i) rfl (NumRow.of0 (new1 w5 _)) rfl (HH5.out.alloc _) (by simp; omega) ?_
  intro a1 c1 w1 hr1 hg1
  rw [List.length_nil, Nat.zero_add, List.length_take, Nat.min_eq_left (Nat.le_of_lt hil)] at *
  rw [List.nil_append] at hr1
  have hf := hg1.fresh (w0 := w) (HP.out.low.trans ((below_alloc (Below.refl _ w5) _).mono HP.out.low.size)) (fun b hb => by simp [Value.ownBlock] at hb; omega)
  have b0 := hg1.keeps (blk_alloc HP.out.b2 _) (by simp [Value.ownBlock]; omega)
  have b1 := hg1.keeps (blk_alloc HP.out.b4 _) (by have := blk_lt HP.out.b4; simp [Value.ownBlock]; omega)
  have hq1 : NumRow w1 (.slice (some a) (ids.length - (i + 1)) (cap - (i + 1))) (ids.drop (i + 1)) := hg1.row (HT5.out.alloc _) (fun k hk e => by have := Row.lt HT5.out hk; simp [Value.ownBlock] at e; omega)
  clear hg1
  have z0 : w1.cell? ⟨w.heap.size, 0, none⟩ = some (.int .i64 most) := blk_cell b0 0
  have z1 : w1.cell? ⟨w.heap.size, 1, none⟩ = some (.slice (some ⟨lb, off, none⟩) ids.length cap) := blk_cell b0 1
  have l0 := blk_lt b0
  have HR1 := hide hr1
  have HT1 := hide hq1
  have HF1 := hide hf
  have B01 := hide b0
  have B11 := hide b1
  clear hr1 hf b0 b1 hq1 HH5 HT5
  go_wp2_with (at_builtin; refine wait ?_)
  unfold Wait
  have hr1 := HR1.out
  have e1 : (ids.take i).length = i := by rw [List.length_take, Nat.min_eq_left (Nat.le_of_lt hil)]
  have e2 : (ids.drop (i + 1)).length = ids.length - (i + 1) := List.length_drop
  refine wpList_app_nums rfl _ _ rfl (.slice a1 i c1) (.slice (some a) (ids.length - (i + 1)) (cap - (i + 1))) (ids.take i) (ids.drop (i + 1)) rfl hr1 rfl HT1.out (by omega) ?_
  intro a2 c2 w2 hr2 hg2
  rw [e1, e2] at *
  have hf := hg2.fresh (w0 := w) HF1.out.1 HF1.out.2
  have n0 := Row.ne hr1 B01.out (by decide)
  have n1 := Row.ne hr1 B11.out (by decide)
  have b0 := hg2.keeps B01.out n0
  have b1 := hg2.keeps B11.out n1
  clear hg2 hr1 n0 n1
  have z0 : w2.cell? ⟨w.heap.size, 0, none⟩ = some (.int .i64 most) := blk_cell b0 0
  have z1 : w2.cell? ⟨w.heap.size, 1, none⟩ = some (.slice (some ⟨lb, off, none⟩) ids.length cap) := blk_cell b0 1
  have zf : ∀ i, w2.frozen? ⟨w.heap.size, i, none⟩ = false := fun i => blk_frozen b0 i
  have y0 : w2.cell? ⟨w.heap.size + 1, 0, none⟩ = some (.int .i64 0) := blk_cell b1 0
  have y1 : w2.cell? ⟨w.heap.size + 1, 1, none⟩ = some (.slice none 0 0) := blk_cell b1 1
  have yf : ∀ i, w2.frozen? ⟨w.heap.size + 1, i, none⟩ = false := fun i => blk_frozen b1 i
  have l1 := blk_lt b0
  have l2 := blk_lt b1
  have HR2 := hide hr2
  have HF2 := hide hf
  have B02 := hide b0
  have B12 := hide b1
  clear hr2 hf b0 b1 e1 e2
  go_wp2
  refine wp_nameP (fun wd hwd => ?_)
  obtain ⟨q0, q1, hrd, hbd⟩ := refw_close B02.out B12.out HR2.out HF2.out.1 hwd
  clear hwd
  exact bodyPost_ret (v := .tuple #[rbVal most (.slice a2 (i + (ids.length - (i + 1))) c2), .bool true]) (by simp [results, Tryd.results61, go_sem, q0, q1]; rfl) rfl ⟨_, rfl, hrd, HF2.out.2, hbd⟩
end Go.Proofs.YtdeonehebbofiaaDoor
