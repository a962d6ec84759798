/-
  fifo.Fifo[uint32]: Put, Get.
-/
import Derived.Test.YtdeonehebbofiaaDoorFifo0
import Derived.Test.YtdeonehebbofiaaDoorLane5
set_option linter.unusedVariables false
namespace Go.Proofs.YtdeonehebbofiaaDoor
open Go.RowKit

theorem infoFr : (Tryd.prog.info? 173).map (fun i => (i.zero, i.size, i.bytes)) = some (some (.agg #[.int .u32 0, .int .i64 0]), 2, 16) := by kernel_rfl
/-- The queue as a list of numbers. -/
def FifoTo (w : World) (own : Nat → Prop) (g : Nat) (most : Int) (ids : List Int) (w' : World) : Prop := ∃ own' lv', FifoRaw w' own' g most lv' ids ∧ Upd own w w' ∧ ∀ k, own' k → own k ∨ w.heap.size ≤ k

set_option maxHeartbeats 800000 in
theorem fifo_put_full {E : Nat → Addr} {w : World} {own : Nat → Prop} {g : Nat} {most : Int} {lv : Value} {ids : List Int} (h : FifoRaw w own g most lv ids) (hS : Sent w E) (v : Int) (hf : most ≤ ids.length) :
    Calls Tryd.prog 64 #[.pointer (some ⟨g, 0, none⟩), .int .u32 v, .int .i64 0] w fun e w' => e = .returned (errOf E 6) ∧ Below w.heap.size w w' := by
  obtain ⟨a, cap, rfl, _, _⟩ := h.row.form
  have c0 : w.cell? ⟨g, 0, none⟩ = some (.int .i64 most) := blk_cell h.blk 0
  have c1 : w.cell? ⟨g, 1, none⟩ = some (.int .i64 0) := blk_cell h.blk 1
  have c2 : w.cell? ⟨g, 2, none⟩ = some (.slice a ids.length cap) := blk_cell h.blk 2
  have c3 : w.cell? ⟨g, 3, none⟩ = some (.int .i64 0) := blk_cell h.blk 3
  have c6 := hS.cell 6 (by decide) (by decide)
  have l6 := (hS.lt 6 (by decide) (by decide)).1
  simp only [gid] at c6 l6
  have hd : decide (most ≤ (ids.length : Int)) = true := by simpa using hf
  clear h hS
  go_enter Tryd.func64, Tryd.ntmps64
  go_wp2
  go_quiet (fail)
  go_wp2
  go_ret
  exact ⟨rfl, below_drewN (Below.refl _ _) _⟩

set_option maxRecDepth 100000 in
set_option maxHeartbeats 1600000 in
theorem fifo_put_room {w : World} {own : Nat → Prop} {g : Nat} {most : Int} {lv : Value} {ids : List Int} (h : FifoRaw w own g most lv ids) (v : Int) (hf : ¬ most ≤ ids.length) (hm : most ≤ 1048576) :
    Calls Tryd.prog 64 #[.pointer (some ⟨g, 0, none⟩), .int .u32 v, .int .i64 0] w fun e w' => e = .returned .nilIface ∧ FifoTo w own g most (ids ++ [v]) w' := by
  obtain ⟨i0, hinfo, hz0, hz1, hz2⟩ := info_parts infoFr
  obtain ⟨a, cap, rfl, _, _⟩ := h.row.form
  have c0 : w.cell? ⟨g, 0, none⟩ = some (.int .i64 most) := blk_cell h.blk 0
  have c1 : w.cell? ⟨g, 1, none⟩ = some (.int .i64 0) := blk_cell h.blk 1
  have c2 : w.cell? ⟨g, 2, none⟩ = some (.slice a ids.length cap) := blk_cell h.blk 2
  have c3 : w.cell? ⟨g, 3, none⟩ = some (.int .i64 0) := blk_cell h.blk 3
  have fg : ∀ i, w.frozen? ⟨g, i, none⟩ = false := fun i => blk_frozen h.blk i
  have hd : decide (most ≤ (ids.length : Int)) = false := by simpa using hf
  have H := hide h
  have HM1 := hide (show ids.length + 1 ≤ maxLen by unfold maxLen; omega)
  have HM2 := hide (show (ids.length + 1) * 16 ≤ 140737488355328 by omega)
  have HONE := hide (show ∀ u ∈ fcells [v], u.oneCell' = true from fun u hu => by simp [fcells] at hu; rcases hu with rfl | rfl <;> rfl)
  clear h
  go_enter Tryd.func64, Tryd.ntmps64
  go_wp2
  go_quiet (fail)
  go_wp2_with (at_builtin; refine wpList_append_row _ rfl _ _ 164 rfl 173 i0 _ 2 16 Tryd.underlying164 hinfo hz0 hz1 hz2 rfl (by decide) _ ids.length _ rfl (Row.drewN (Row.alloc H.out.row _) _) _ 1 (fcells [v]) rfl (Row.drewN (Row.lit w 173 2 1 #[.int .u32 v, .int .i64 0] rfl (by decide)) _) HONE.out HM1.out HM2.out ?_; intro v1 w1 hr1 hu1 ho1 hs1 hl1; obtain ⟨a1, k1, hv1, _, _⟩ := Row.form hr1; subst hv1; have hb1 := hu1.keeps (show ((w.alloc _).drewN _).heap[g]? = _ from blk_alloc H.out.blk _) (fun e => H.out.row.ne H.out.blk (by decide) e.symm); have b0 : w1.cell? ⟨g, 0, none⟩ = some (.int .i64 most) := blk_cell hb1 0; have b1 : w1.cell? ⟨g, 1, none⟩ = some (.int .i64 0) := blk_cell hb1 1; have b2 : w1.cell? ⟨g, 2, none⟩ = some (.slice a ids.length cap) := blk_cell hb1 2; have b3 : w1.cell? ⟨g, 3, none⟩ = some (.int .i64 0) := blk_cell hb1 3; have fb : ∀ i, w1.frozen? ⟨g, i, none⟩ = false := (fun i => blk_frozen hb1 i); have HR1 := hide hr1; have HU1 := hide (show Upd (fun k => some k = (Value.slice a ids.length cap).ownBlock) _ _ from hu1); have HO1 := hide (show Value.ownBlock _ = (Value.slice a ids.length cap).ownBlock ∨ _ from ho1); have HL1 := hide hl1; have HB1 := hide hb1; clear hr1 hu1 ho1 hl1 hb1)
  go_ret
  have hne := HR1.out.ne HB1.out (by decide)
  have hU1 : Upd own w w1 := by
    exact (((Upd.refl own w).alloc _).drewN _).trans HU1.out (fun k _ e => H.out.ol k e.symm)
  have hsz := hU1.size
  refine ⟨rfl, fun k => own k ∨ (w.heap.size ≤ k ∧ k < w1.heap.size), .slice a1 (ids.length + 1) k1, ⟨blk_set (blk_set HB1.out 2 _) 3 _, ?_, .inl H.out.og, fun k hk => ?_, fun k hk => ?_⟩, ?_, fun k hk => ?_⟩
  · have hr := ((HR1.out.far (p := ⟨g, 2, none⟩) hne (.slice a1 (ids.length + 1) k1)).far (p := ⟨g, 3, none⟩) hne (.int .i64 0))
    rw [List.length_append, fcells_append]
    exact hr
  · have hl := HL1.out k hk
    rcases HO1.out with ho | ho
    · exact .inl (H.out.ol k (by rw [← ho, hk]))
    · rw [hk] at ho
      injection ho with ho
      have : w.heap.size ≤ k := by rw [ho]; simp [World.drewN]
      exact .inr ⟨this, hl⟩
  · simp only [World.setCell]
    have := H.out.ob
    rcases hk with hk | hk
    · have := H.out.ob k hk
      simp
      omega
    · simp
      omega
  · exact (hU1.setCell (p := ⟨g, 2, none⟩) (.inl H.out.og) _).setCell (p := ⟨g, 3, none⟩) (.inl H.out.og) _
  · rcases hk with hk | hk
    · exact .inl hk
    · exact .inr hk.1
end Go.Proofs.YtdeonehebbofiaaDoor
