/-
  The document's backlog: Put.
-/
import Derived.Test.YtdeonehebbofiaaDoorBref1
import Derived.Test.YtdeonehebbofiaaDoorRefC
set_option linter.unusedVariables false
namespace Go.Proofs.YtdeonehebbofiaaDoor
open Go.RowKit

structure PB (w w5 : World) (most : Int) (v : Value) (ids : List Int) : Prop where
  row : NumRow w5 v ids
  low : Below w.heap.size w w5
  b2 : w5.heap[w.heap.size]? = some (.cells #[.int .i64 most, v] 31 (0, 0))
  b4 : w5.heap[w.heap.size + 1]? = some (.cells #[.int .i64 0, .slice none 0 0] 31 (0, 0))
theorem PB.of {w w5 : World} {most : Int} {v : Value} {ids : List Int} (h : NumRow w v ids) (hb : Below ((w.alloc (.cells #[.int .i64 most, v] 31)).alloc (.cells #[.int .i64 0, .slice none 0 0] 31)).heap.size ((w.alloc (.cells #[.int .i64 most, v] 31)).alloc (.cells #[.int .i64 0, .slice none 0 0] 31)) w5) : PB w w5 most v ids where
  row := (h.below' (below_alloc (below_alloc (Below.refl _ w) _) _)).below' hb
  low := (below_alloc (below_alloc (Below.refl _ w) _) _).trans (hb.mono (by simp; omega))
  b2 := (hb.block _ (by simp; omega)).trans (blk_alloc (blk_new w _) _)
  b4 := (hb.block _ (by simp)).trans (by have := blk_new (w.alloc (.cells #[.int .i64 most, v] 31)) (.cells #[.int .i64 0, .slice none 0 0] 31); simpa using this)

set_option maxRecDepth 100000 in
set_option maxHeartbeats 1600000 in
theorem ref16_put_twice {w : World} {v : Value} {ids : List Int} (h : NumRow w v ids) (most id : Int) (i : Nat) (hi : ids.findIdx? (· == id) = some i) :
    Calls Tryd.prog 59 #[rbVal most v, .int .u32 id] w fun e w' => e = .returned (.tuple #[rbVal most v, .int .i64 8]) ∧ Below w.heap.size w w' := by
  obtain ⟨a, cap, hv, _, _⟩ := Row.form h
  subst hv
  have HR := hide h
  have HX := hide (show idxS ids id = i by unfold idxS; rw [hi])
  have hi0 : (0 : Int) ≤ (i : Int) := by omega
  clear hi
  clear h
  unfold rbVal
  go_enter Tryd.func59, Tryd.ntmps59
  go_wp2_with (go_at_call 62; refine (ref_at ((HR.out.below' (below_alloc (Below.refl _ w) _)).below' (below_alloc (Below.refl _ _) _)) most id).mono ?_; rintro e5 w5 ⟨rfl, b5⟩; rw [HX.out]; have hp := PB.of (most := most) HR.out b5; have y0 : w5.cell? ⟨w.heap.size, 0, none⟩ = some (.int .i64 most) := blk_cell hp.b2 0; have y1 : w5.cell? ⟨w.heap.size, 1, none⟩ = some (.slice a ids.length cap) := blk_cell hp.b2 1; have z0 : w5.cell? ⟨w.heap.size + 1, 0, none⟩ = some (.int .i64 0) := blk_cell hp.b4 0; have z1 : w5.cell? ⟨w.heap.size + 1, 1, none⟩ = some (.slice none 0 0) := blk_cell hp.b4 1; have zf : ∀ i, w5.frozen? ⟨w.heap.size + 1, i, none⟩ = false := (fun i => blk_frozen hp.b4 i); have HP := hide hp; clear hp b5)
  refine wp_nameP (fun wd hwd => ?_)
  have hbd : wd.heap[w.heap.size + 1]? = some (.cells #[.int .i64 most, .slice a ids.length cap] 31 (0, 0)) := by
    subst hwd
    exact blk_set2 _ _ _ _ HP.out.b4
  have hU : Upd (fun k => k = w.heap.size + 1) w5 wd := by
    subst hwd
    exact ((Upd.refl (fun k => k = w.heap.size + 1) w5).setCell (p := ⟨w.heap.size + 1, 0, none⟩) (.inl rfl) _).setCell (p := ⟨w.heap.size + 1, 1, none⟩) (.inl rfl) _
  clear hwd y0 y1 z0 z1 zf
  have q0 : wd.cell? ⟨w.heap.size + 1, 0, none⟩ = some (.int .i64 most) := blk_cell hbd 0
  have q1 : wd.cell? ⟨w.heap.size + 1, 1, none⟩ = some (.slice a ids.length cap) := blk_cell hbd 1
  exact bodyPost_ret (v := .tuple #[rbVal most (.slice a ids.length cap), .int .i64 8]) (by simp [results, Tryd.results59, go_sem, q0, q1]; rfl) rfl ⟨rfl, HP.out.low.trans (hU.below HP.out.low.size (fun i hi e => by omega))⟩

set_option maxRecDepth 100000 in
set_option maxHeartbeats 1600000 in
theorem ref16_put_full {w : World} {v : Value} {ids : List Int} (h : NumRow w v ids) (most id : Int) (hi : ids.findIdx? (· == id) = none) (hf : most ≤ ids.length) :
    Calls Tryd.prog 59 #[rbVal most v, .int .u32 id] w fun e w' => e = .returned (.tuple #[rbVal most v, .int .i64 6]) ∧ Below w.heap.size w w' := by
  obtain ⟨a, cap, hv, _, _⟩ := Row.form h
  subst hv
  have HR := hide h
  have HX := hide (show idxS ids id = -1 by unfold idxS; rw [hi])
  clear hi
  clear h
  unfold rbVal
  go_enter Tryd.func59, Tryd.ntmps59
  go_wp2_with (go_at_call 62; refine (ref_at ((HR.out.below' (below_alloc (Below.refl _ w) _)).below' (below_alloc (Below.refl _ _) _)) most id).mono ?_; rintro e5 w5 ⟨rfl, b5⟩; rw [HX.out]; have hp := PB.of (most := most) HR.out b5; have y0 : w5.cell? ⟨w.heap.size, 0, none⟩ = some (.int .i64 most) := blk_cell hp.b2 0; have y1 : w5.cell? ⟨w.heap.size, 1, none⟩ = some (.slice a ids.length cap) := blk_cell hp.b2 1; have z0 : w5.cell? ⟨w.heap.size + 1, 0, none⟩ = some (.int .i64 0) := blk_cell hp.b4 0; have z1 : w5.cell? ⟨w.heap.size + 1, 1, none⟩ = some (.slice none 0 0) := blk_cell hp.b4 1; have zf : ∀ i, w5.frozen? ⟨w.heap.size + 1, i, none⟩ = false := (fun i => blk_frozen hp.b4 i); have HP := hide hp; clear hp b5)
  refine wp_nameP (fun wd hwd => ?_)
  have hbd : wd.heap[w.heap.size + 1]? = some (.cells #[.int .i64 most, .slice a ids.length cap] 31 (0, 0)) := by
    subst hwd
    exact blk_set2 _ _ _ _ HP.out.b4
  have hU : Upd (fun k => k = w.heap.size + 1) w5 wd := by
    subst hwd
    exact ((Upd.refl (fun k => k = w.heap.size + 1) w5).setCell (p := ⟨w.heap.size + 1, 0, none⟩) (.inl rfl) _).setCell (p := ⟨w.heap.size + 1, 1, none⟩) (.inl rfl) _
  clear hwd y0 y1 z0 z1 zf
  have q0 : wd.cell? ⟨w.heap.size + 1, 0, none⟩ = some (.int .i64 most) := blk_cell hbd 0
  have q1 : wd.cell? ⟨w.heap.size + 1, 1, none⟩ = some (.slice a ids.length cap) := blk_cell hbd 1
  exact bodyPost_ret (v := .tuple #[rbVal most (.slice a ids.length cap), .int .i64 6]) (by simp [results, Tryd.results59, go_sem, q0, q1]; rfl) rfl ⟨rfl, HP.out.low.trans (hU.below HP.out.low.size (fun i hi e => by omega))⟩

theorem infoU32 : (Tryd.prog.info? 34).map (fun i => (i.zero, i.size, i.bytes)) = some (some (.int .u32 0), 1, 4) := by kernel_rfl
theorem oneCell_ncells (ids : List Int) : ∀ u ∈ ncells ids, u.oneCell' = true := by
  intro u hu
  obtain ⟨i, _, rfl⟩ := List.mem_map.1 hu
  rfl
set_option maxRecDepth 100000 in
set_option maxHeartbeats 1600000 in
theorem ref16_put_room {w : World} {v : Value} {ids : List Int} (h : NumRow w v ids) (most id : Int) (hi : ids.findIdx? (· == id) = none) (hf : ¬ most ≤ ids.length) (hm : ids.length ≤ 1048576) :
    Calls Tryd.prog 59 #[rbVal most v, .int .u32 id] w fun e w' => ∃ v', e = .returned (.tuple #[rbVal most v', .int .i64 0]) ∧ NumRow w' v' (ids ++ [id]) ∧ (∀ b, v'.ownBlock = some b → w.heap.size ≤ b) ∧ Below w.heap.size w w' := by
  obtain ⟨i0, hinfo, hz0, hz1, hz2⟩ := info_parts infoU32
  obtain ⟨a, cap, hv, _, _⟩ := Row.form h
  subst hv
  have HR := hide h
  have HX := hide (show idxS ids id = -1 by unfold idxS; rw [hi])
  have HM1 := hide (show 0 + ids.length ≤ maxLen by unfold maxLen; omega)
  have HM2 := hide (show (0 + ids.length) * 4 ≤ 140737488355328 by omega)
  have HM3 := hide (show ids.length + 1 ≤ maxLen by unfold maxLen; omega)
  have HM4 := hide (show (ids.length + 1) * 4 ≤ 140737488355328 by omega)
  have HONE1 := hide (oneCell_ncells ids)
  have HONE := hide (oneCell_ncells [id])
  clear h hi
  unfold rbVal
  go_enter Tryd.func59, Tryd.ntmps59
  go_wp2_with (first | (go_at_call 62; refine (ref_at ((HR.out.below' (below_alloc (Below.refl _ w) _)).below' (below_alloc (Below.refl _ _) _)) most id).mono ?_; rintro e5 w5 ⟨rfl, b5⟩; rw [HX.out]; have hp := PB.of (most := most) HR.out b5; have y0 : w5.cell? ⟨w.heap.size, 0, none⟩ = some (.int .i64 most) := blk_cell hp.b2 0; have y1 : w5.cell? ⟨w.heap.size, 1, none⟩ = some (.slice a ids.length cap) := blk_cell hp.b2 1; have z0 : w5.cell? ⟨w.heap.size + 1, 0, none⟩ = some (.int .i64 0) := blk_cell hp.b4 0; have z1 : w5.cell? ⟨w.heap.size + 1, 1, none⟩ = some (.slice none 0 0) := blk_cell hp.b4 1; have zf : ∀ i, w5.frozen? ⟨w.heap.size + 1, i, none⟩ = false := (fun i => blk_frozen hp.b4 i); have HP := hide hp; have hlt2 : w.heap.size < w5.heap.size := blk_lt hp.b2; have hlt4 : w.heap.size + 1 < w5.heap.size := blk_lt hp.b4; have yf : ∀ i, w5.frozen? ⟨w.heap.size, i, none⟩ = false := (fun i => blk_frozen hp.b2 i); clear hp b5) | (at_builtin; first | (refine wpList_append_row _ rfl _ _ 29 rfl 34 i0 _ 1 4 Tryd.underlying29 hinfo hz0 hz1 hz2 rfl (by decide) _ 0 [] rfl (Row.lit w5 34 1 0 #[] rfl (by decide)) _ ids.length _ rfl (Row.alloc HP.out.row _) HONE1.out HM1.out HM2.out ?_; intro v7 w7 hr7 hu7 ho7 hs7 hl7; have HX7 := hide (stepOne HP.out.row hr7 hu7 ho7 rfl); simp only [Nat.zero_add, List.nil_append] at hr7; obtain ⟨a7, c7, hv7, _, _⟩ := Row.form hr7; subst hv7; have HR7 := hide hr7; clear hr7 hu7 ho7 hl7) | (refine wpList_append_row _ rfl _ _ 29 rfl 34 i0 _ 1 4 Tryd.underlying29 hinfo hz0 hz1 hz2 rfl (by decide) _ ids.length _ rfl (Row.alloc HR7.out _) _ 1 (ncells [id]) rfl (Row.lit w7 34 1 1 #[.int .u32 id] rfl (by decide)) HONE.out HM3.out HM4.out ?_; intro v8 w8 hr8 hu8 ho8 hs8 hl8; have HX8 := hide (freshNext (w := w5) (v2 := v8) HX7.out.2.1 (HX7.out.2.2.trans ((below_alloc (Below.refl _ w7) _).mono HX7.out.2.2.size)) hu8 ho8); obtain ⟨a8, c8, hv8, _, _⟩ := Row.form hr8; subst hv8; have hb2 := (HX8.out.2.block _ (blk_lt HP.out.b2)).trans HP.out.b2; have hb4 := (HX8.out.2.block _ (blk_lt HP.out.b4)).trans HP.out.b4; have u0 : w8.cell? ⟨w.heap.size, 0, none⟩ = some (.int .i64 most) := blk_cell hb2 0; have u1 : w8.cell? ⟨w.heap.size, 1, none⟩ = some (.slice a ids.length cap) := blk_cell hb2 1; have x0 : w8.cell? ⟨w.heap.size + 1, 0, none⟩ = some (.int .i64 0) := blk_cell hb4 0; have x1 : w8.cell? ⟨w.heap.size + 1, 1, none⟩ = some (.slice none 0 0) := blk_cell hb4 1; have uf : ∀ i, w8.frozen? ⟨w.heap.size, i, none⟩ = false := (fun i => blk_frozen hb2 i); have xf : ∀ i, w8.frozen? ⟨w.heap.size + 1, i, none⟩ = false := (fun i => blk_frozen hb4 i); have HR8 := hide hr8; have HB2 := hide hb2; have HB4 := hide hb4; clear hr8 hu8 ho8 hl8 hb2 hb4)))
  have hlt5 := blk_lt HP.out.b4
  have hn : ∀ k, k < w5.heap.size → (Value.slice a8 (ids.length + 1) c8).ownBlock ≠ some k := fun k hk e => by have := HX8.out.1 k e; omega
  have r3 := ((HR8.out.far (p := ⟨w.heap.size, 1, none⟩) (hn _ (by omega)) (.slice a8 (ids.length + 1) c8)).far (p := ⟨w.heap.size + 1, 0, none⟩) (hn _ (by omega)) (.int .i64 most)).far (p := ⟨w.heap.size + 1, 1, none⟩) (hn _ (by omega)) (.slice a8 (ids.length + 1) c8)
  refine wp_nameP (fun wd hwd => ?_)
  have hbd : wd.heap[w.heap.size + 1]? = some (.cells #[.int .i64 most, .slice a8 (ids.length + 1) c8] 31 (0, 0)) := by
    subst hwd
    exact blk_set2 _ _ _ _ (blk_far HB4.out (p := ⟨w.heap.size, 1, none⟩) (by simp) _)
  have hU : Upd (fun k => k = w.heap.size ∨ k = w.heap.size + 1) w8 wd := by
    subst hwd
    exact (((Upd.refl (fun k => k = w.heap.size ∨ k = w.heap.size + 1) w8).setCell (p := ⟨w.heap.size, 1, none⟩) (.inl (.inl rfl)) _).setCell (p := ⟨w.heap.size + 1, 0, none⟩) (.inl (.inr rfl)) _).setCell (p := ⟨w.heap.size + 1, 1, none⟩) (.inl (.inr rfl)) _
  rw [← hwd] at r3
  clear hwd u0 u1 x0 x1 uf xf y0 y1 z0 z1 zf
  have q0 : wd.cell? ⟨w.heap.size + 1, 0, none⟩ = some (.int .i64 most) := blk_cell hbd 0
  have q1 : wd.cell? ⟨w.heap.size + 1, 1, none⟩ = some (.slice a8 (ids.length + 1) c8) := blk_cell hbd 1
  have hlow := HP.out.low.trans (HX8.out.2.mono HP.out.low.size)
  refine bodyPost_ret (v := .tuple #[rbVal most (.slice a8 (ids.length + 1) c8), .int .i64 0]) (by simp [results, Tryd.results59, go_sem, q0, q1]; rfl) rfl ⟨_, rfl, ?_, fun b hb => Nat.le_trans HP.out.low.size (HX8.out.1 b hb), hlow.trans (hU.below hlow.size (fun i hi e => by omega))⟩
  unfold NumRow
  rw [List.length_append, ncells, List.map_append]
  exact r3
end Go.Proofs.YtdeonehebbofiaaDoor
