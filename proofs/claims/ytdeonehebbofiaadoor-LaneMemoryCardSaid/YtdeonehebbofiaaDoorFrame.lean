/-
  lane.Frame and the document's Frame.
-/
import Derived.Test.YtdeonehebbofiaaDoorRefA
namespace Go.Proofs.YtdeonehebbofiaaDoor
open Go.RowKit

/-- The frame's header that a ticket stands for, as cells. -/
def hdCells (t : Tk) : Array Value := #[.int .u8 0, .int .u8 (fTyp t.k), .int .u16 (fFlags t.k), .int .u32 t.s, .int .u32 t.v]
def hdZero : Array Value := #[.int .u8 0, .int .u8 0, .int .u16 0, .int .u32 0, .int .u32 0]
def frOf (a : Array Value) : Value := .agg (a.push (.slice none 0 0))
def hdOf (t : Tk) : Array Value := if may t = 0 then hdCells t else hdZero

theorem blk_set6 {w : World} {g : Nat} {t : TypeId} (x0 x1 x2 x3 x4 x5 v0 v1 v2 v3 v4 v5 : Value) (h : w.heap[g]? = some (.cells #[x0, x1, x2, x3, x4, x5] t (0, 0))) :
    ((((((w.setCell ⟨g, 0, none⟩ v0).setCell ⟨g, 1, none⟩ v1).setCell ⟨g, 2, none⟩ v2).setCell ⟨g, 3, none⟩ v3).setCell ⟨g, 4, none⟩ v4).setCell ⟨g, 5, none⟩ v5).heap[g]? = some (.cells #[v0, v1, v2, v3, v4, v5] t (0, 0)) := by
  generalize hW0 : w.setCell ⟨g, 0, none⟩ v0 = W0
  have h0 : W0.heap[g]? = some (.cells #[v0, x1, x2, x3, x4, x5] t (0, 0)) := by rw [← hW0]; exact blk_set h 0 v0
  clear hW0
  generalize hW1 : W0.setCell ⟨g, 1, none⟩ v1 = W1
  have h1 : W1.heap[g]? = some (.cells #[v0, v1, x2, x3, x4, x5] t (0, 0)) := by rw [← hW1]; exact blk_set h0 1 v1
  clear hW1
  generalize hW2 : W1.setCell ⟨g, 2, none⟩ v2 = W2
  have h2 : W2.heap[g]? = some (.cells #[v0, v1, v2, x3, x4, x5] t (0, 0)) := by rw [← hW2]; exact blk_set h1 2 v2
  clear hW2
  generalize hW3 : W2.setCell ⟨g, 3, none⟩ v3 = W3
  have h3 : W3.heap[g]? = some (.cells #[v0, v1, v2, v3, x4, x5] t (0, 0)) := by rw [← hW3]; exact blk_set h2 3 v3
  clear hW3
  generalize hW4 : W3.setCell ⟨g, 4, none⟩ v4 = W4
  have h4 : W4.heap[g]? = some (.cells #[v0, v1, v2, v3, v4, x5] t (0, 0)) := by rw [← hW4]; exact blk_set h3 4 v4
  clear hW4
  generalize hW5 : W4.setCell ⟨g, 5, none⟩ v5 = W5
  have h5 : W5.heap[g]? = some (.cells #[v0, v1, v2, v3, v4, v5] t (0, 0)) := by rw [← hW5]; exact blk_set h4 5 v5
  clear hW5
  exact h5

set_option maxRecDepth 100000 in
set_option maxHeartbeats 1600000 in
theorem lane_frame (E : Nat → Addr) (t : Tk) (w : World) (hS : Sent w E) (hF : Forms w) :
    Calls Tryd.prog 44 #[t.val] w fun e w' => e = .returned (.tuple #[frOf (hdOf t), errOf E (may t)]) ∧ Below w.heap.size w w' := by
  have HS := hide ((hS.alloc (.cells #[.int .i64 t.k, .int .u32 t.s, .int .u32 t.v] 55)).alloc (.cells #[.int .u8 0, .int .u8 0, .int .u16 0, .int .u32 0, .int .u32 0, .slice none 0 0] 75))
  have HF := hide ((hF.alloc (.cells #[.int .i64 t.k, .int .u32 t.s, .int .u32 t.v] 55)).alloc (.cells #[.int .u8 0, .int .u8 0, .int .u16 0, .int .u32 0, .int .u32 0, .slice none 0 0] 75))
  have hnb : ((w.alloc (.cells #[.int .i64 t.k, .int .u32 t.s, .int .u32 t.v] 55)).alloc (.cells #[.int .u8 0, .int .u8 0, .int .u16 0, .int .u32 0, .int .u32 0, .slice none 0 0] 75)).heap[w.heap.size + 1]? = some (.cells #[.int .u8 0, .int .u8 0, .int .u16 0, .int .u32 0, .int .u32 0, .slice none 0 0] 75 (0, 0)) := by
    have := blk_new (w.alloc (.cells #[.int .i64 t.k, .int .u32 t.s, .int .u32 t.v] 55)) (.cells #[.int .u8 0, .int .u8 0, .int .u16 0, .int .u32 0, .int .u32 0, .slice none 0 0] 75)
    simpa using this
  have hnt : ((w.alloc (.cells #[.int .i64 t.k, .int .u32 t.s, .int .u32 t.v] 55)).alloc (.cells #[.int .u8 0, .int .u8 0, .int .u16 0, .int .u32 0, .int .u32 0, .slice none 0 0] 75)).heap[w.heap.size]? = some (.cells #[.int .i64 t.k, .int .u32 t.s, .int .u32 t.v] 55 (0, 0)) := blk_alloc (blk_new w _) _
  have HNB := hide hnb
  have HNT := hide hnt
  have hFl := hF.lt
  clear hS hF hnb hnt
  by_cases hm : may t = 0
  · obtain ⟨h1, h7⟩ := may_range hm
    have hh : hdOf t = hdCells t := if_pos hm
    have he : errOf E (may t) = .nilIface := by unfold errOf; rw [if_pos hm]
    rw [hh, he]
    have HE := hide he
    unfold Tk.val
    have k0 : 0 ≤ t.k := by omega
    have k8 : t.k < 8 := by omega
    clear hm hh he
    go_enter Tryd.func44, Tryd.ntmps44
    go_wp2_with (go_at_call 90; refine (check_any E t _ HS.out HF.out).mono ?_; rintro e5 w5 ⟨rfl, hb5⟩; rw [HE.out]; have t5 : w5.heap[w.heap.size + 1]? = some (.cells #[.int .u8 0, .int .u8 0, .int .u16 0, .int .u32 0, .int .u32 0, .slice none 0 0] 75 (0, 0)) := (hb5.block _ (by simp)).trans HNB.out; have s5 : w5.heap[w.heap.size]? = some (.cells #[.int .i64 t.k, .int .u32 t.s, .int .u32 t.v] 55 (0, 0)) := (hb5.block _ (by simp; omega)).trans HNT.out; have y0 : w5.cell? ⟨w.heap.size, 0, none⟩ = some (.int .i64 t.k) := blk_cell s5 0; have y1 : w5.cell? ⟨w.heap.size, 1, none⟩ = some (.int .u32 t.s) := blk_cell s5 1; have y2 : w5.cell? ⟨w.heap.size, 2, none⟩ = some (.int .u32 t.v) := blk_cell s5 2; have hf5 := HF.out.belows hb5; have f0 := hf5.st t.k (by omega) (by omega); have f1 := hf5.va t.k (by omega) (by omega); have f2 := hf5.on t.k (by omega) (by omega); have f3 := hf5.ty t.k (by omega) (by omega); have f4 := hf5.fl t.k (by omega) (by omega); have hs5 : w.heap.size + 1 < w5.heap.size := blk_lt t5; have hs6 : w.heap.size < w5.heap.size := blk_lt s5; have hfl5 := hf5.lt; have HB5 := hide hb5; have T5 := hide t5; have z0 : w5.cell? ⟨w.heap.size + 1, 0, none⟩ = some (.int .u8 0) := blk_cell t5 0; have z1 : w5.cell? ⟨w.heap.size + 1, 1, none⟩ = some (.int .u8 0) := blk_cell t5 1; have z2 : w5.cell? ⟨w.heap.size + 1, 2, none⟩ = some (.int .u16 0) := blk_cell t5 2; have z3 : w5.cell? ⟨w.heap.size + 1, 3, none⟩ = some (.int .u32 0) := blk_cell t5 3; have z4 : w5.cell? ⟨w.heap.size + 1, 4, none⟩ = some (.int .u32 0) := blk_cell t5 4; have z5 : w5.cell? ⟨w.heap.size + 1, 5, none⟩ = some (.slice none 0 0) := blk_cell t5 5; have zf : ∀ i, w5.frozen? ⟨w.heap.size + 1, i, none⟩ = false := (fun i => blk_frozen t5 i); clear hb5 t5 s5 hf5)
    refine wp_nameP (fun wd hwd => ?_)
    have hbd : wd.heap[w.heap.size + 1]? = some (.cells #[.int .u8 0, .int .u8 (fTyp t.k), .int .u16 (fFlags t.k), .int .u32 t.s, .int .u32 t.v, .slice none 0 0] 75 (0, 0)) := by
      subst hwd
      exact blk_alloc (blk_set6 _ _ _ _ _ _ _ _ _ _ _ _ T5.out) _
    have hU : Upd (fun k => k = w.heap.size + 1) w5 wd := by
      subst hwd
      exact (((((((Upd.refl (fun k => k = w.heap.size + 1) w5).setCell (p := ⟨w.heap.size + 1, 0, none⟩) (.inl rfl) _).setCell (p := ⟨w.heap.size + 1, 1, none⟩) (.inl rfl) _).setCell (p := ⟨w.heap.size + 1, 2, none⟩) (.inl rfl) _).setCell (p := ⟨w.heap.size + 1, 3, none⟩) (.inl rfl) _).setCell (p := ⟨w.heap.size + 1, 4, none⟩) (.inl rfl) _).setCell (p := ⟨w.heap.size + 1, 5, none⟩) (.inl rfl) _).alloc _
    clear hwd z0 z1 z2 z3 z4 z5 zf f0 f1 f2 f3 f4 y0 y1 y2
    have q0 : wd.cell? ⟨w.heap.size + 1, 0, none⟩ = some (.int .u8 0) := blk_cell hbd 0
    have q1 : wd.cell? ⟨w.heap.size + 1, 1, none⟩ = some (.int .u8 (fTyp t.k)) := blk_cell hbd 1
    have q2 : wd.cell? ⟨w.heap.size + 1, 2, none⟩ = some (.int .u16 (fFlags t.k)) := blk_cell hbd 2
    have q3 : wd.cell? ⟨w.heap.size + 1, 3, none⟩ = some (.int .u32 t.s) := blk_cell hbd 3
    have q4 : wd.cell? ⟨w.heap.size + 1, 4, none⟩ = some (.int .u32 t.v) := blk_cell hbd 4
    have q5 : wd.cell? ⟨w.heap.size + 1, 5, none⟩ = some (.slice none 0 0) := blk_cell hbd 5
    refine bodyPost_ret (v := .tuple #[frOf (hdCells t), .nilIface]) (by simp [results, Tryd.results44, go_sem, q0, q1, q2, q3, q4, q5]; rfl) rfl ⟨rfl, ?_⟩
    exact (below_then (below_alloc (below_alloc (Below.refl _ w) _) _) (by simp; omega) HB5.out).trans (hU.below (by have := blk_lt T5.out; omega) (fun i hi e => by omega))
  · have hh : hdOf t = hdZero := if_neg hm
    have he : errOf E (may t) = .iface 205 (.pointer (some (E (may t)))) := by unfold errOf; rw [if_neg hm]; rfl
    rw [hh, he]
    have HE := hide he
    unfold Tk.val
    clear hm hh he
    go_enter Tryd.func44, Tryd.ntmps44
    go_wp2_with (go_at_call 90; refine (check_any E t _ HS.out HF.out).mono ?_; rintro e5 w5 ⟨rfl, hb5⟩; rw [HE.out]; have t5 : w5.heap[w.heap.size + 1]? = some (.cells #[.int .u8 0, .int .u8 0, .int .u16 0, .int .u32 0, .int .u32 0, .slice none 0 0] 75 (0, 0)) := (hb5.block _ (by simp)).trans HNB.out; have HB5 := hide hb5; have T5 := hide t5; have z0 : w5.cell? ⟨w.heap.size + 1, 0, none⟩ = some (.int .u8 0) := blk_cell t5 0; have z1 : w5.cell? ⟨w.heap.size + 1, 1, none⟩ = some (.int .u8 0) := blk_cell t5 1; have z2 : w5.cell? ⟨w.heap.size + 1, 2, none⟩ = some (.int .u16 0) := blk_cell t5 2; have z3 : w5.cell? ⟨w.heap.size + 1, 3, none⟩ = some (.int .u32 0) := blk_cell t5 3; have z4 : w5.cell? ⟨w.heap.size + 1, 4, none⟩ = some (.int .u32 0) := blk_cell t5 4; have z5 : w5.cell? ⟨w.heap.size + 1, 5, none⟩ = some (.slice none 0 0) := blk_cell t5 5; have zf : ∀ i, w5.frozen? ⟨w.heap.size + 1, i, none⟩ = false := (fun i => blk_frozen t5 i); clear hb5 t5)
    refine wp_nameP (fun wd hwd => ?_)
    have hbd : wd.heap[w.heap.size + 1]? = some (.cells #[.int .u8 0, .int .u8 0, .int .u16 0, .int .u32 0, .int .u32 0, .slice none 0 0] 75 (0, 0)) := by
      subst hwd
      exact blk_set6 _ _ _ _ _ _ _ _ _ _ _ _ T5.out
    have hU : Upd (fun k => k = w.heap.size + 1) w5 wd := by
      subst hwd
      exact ((((((Upd.refl (fun k => k = w.heap.size + 1) w5).setCell (p := ⟨w.heap.size + 1, 0, none⟩) (.inl rfl) _).setCell (p := ⟨w.heap.size + 1, 1, none⟩) (.inl rfl) _).setCell (p := ⟨w.heap.size + 1, 2, none⟩) (.inl rfl) _).setCell (p := ⟨w.heap.size + 1, 3, none⟩) (.inl rfl) _).setCell (p := ⟨w.heap.size + 1, 4, none⟩) (.inl rfl) _).setCell (p := ⟨w.heap.size + 1, 5, none⟩) (.inl rfl) _
    clear hwd z0 z1 z2 z3 z4 z5 zf
    have q0 : wd.cell? ⟨w.heap.size + 1, 0, none⟩ = some (.int .u8 0) := blk_cell hbd 0
    have q1 : wd.cell? ⟨w.heap.size + 1, 1, none⟩ = some (.int .u8 0) := blk_cell hbd 1
    have q2 : wd.cell? ⟨w.heap.size + 1, 2, none⟩ = some (.int .u16 0) := blk_cell hbd 2
    have q3 : wd.cell? ⟨w.heap.size + 1, 3, none⟩ = some (.int .u32 0) := blk_cell hbd 3
    have q4 : wd.cell? ⟨w.heap.size + 1, 4, none⟩ = some (.int .u32 0) := blk_cell hbd 4
    have q5 : wd.cell? ⟨w.heap.size + 1, 5, none⟩ = some (.slice none 0 0) := blk_cell hbd 5
    refine bodyPost_ret (v := .tuple #[frOf hdZero, .iface 205 (.pointer (some (E (may t))))]) (by simp [results, Tryd.results44, go_sem, q0, q1, q2, q3, q4, q5]; rfl) rfl ⟨rfl, ?_⟩
    exact (below_then (below_alloc (below_alloc (Below.refl _ w) _) _) (by simp; omega) HB5.out).trans (hU.below (by have := blk_lt T5.out; omega) (fun i hi e => by omega))
end Go.Proofs.YtdeonehebbofiaaDoor
