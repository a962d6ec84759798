/-
  backlog.Backlog over lists of numbers: Has.
-/
import Derived.Test.YtdeonehebbofiaaDoorFifo4
set_option linter.unusedVariables false
namespace Go.Proofs.YtdeonehebbofiaaDoor
open Go.RowKit Go.Shelf
attribute [local go_sem] Oper.semAt_some

/-- b is a backlog of these numbers, of at most so many; its memory are the blocks of own. -/
structure BackRaw (w : World) (own : Nat → Prop) (b g : Nat) (most : Int) (lv : Value) (ids : List Int) : Prop where
  blk : w.heap[b]? = some (.cells #[.pointer (some ⟨g, 0, none⟩)] 108 (0, 0))
  ob : own b
  fifo : FifoRaw w own g most lv ids
  le : (ids.length : Int) ≤ most
  mx : most ≤ 1024
  nd : ids.Nodup
def IsBack (w : World) (own : Nat → Prop) (b : Nat) (most : Int) (ids : List Int) : Prop := ∃ g lv, BackRaw w own b g most lv ids
def BackTo (w : World) (own : Nat → Prop) (b : Nat) (most : Int) (ids : List Int) (w' : World) : Prop := ∃ own', IsBack w' own' b most ids ∧ Upd own w w' ∧ ∀ k, own' k → own k ∨ w.heap.size ≤ k
theorem BackRaw.upd {w w' : World} {own S : Nat → Prop} {b g : Nat} {most : Int} {lv : Value} {ids : List Int} (h : BackRaw w own b g most lv ids) (hu : Upd S w w') (hn : ∀ k, own k → k < w.heap.size → ¬ S k) : BackRaw w' own b g most lv ids where
  blk := hu.keeps h.blk (hn _ h.ob (blk_lt h.blk))
  ob := h.ob
  fifo := h.fifo.upd hu hn
  le := h.le
  mx := h.mx
  nd := h.nd
theorem IsBack.upd {w w' : World} {own S : Nat → Prop} {b : Nat} {most : Int} {ids : List Int} (h : IsBack w own b most ids) (hu : Upd S w w') (hn : ∀ k, own k → k < w.heap.size → ¬ S k) : IsBack w' own b most ids := by
  obtain ⟨g, lv, h⟩ := h
  exact ⟨g, lv, h.upd hu hn⟩
theorem IsBack.same {w w' : World} {own : Nat → Prop} {b : Nat} {most : Int} {ids : List Int} (h : IsBack w own b most ids) (hb : Below w.heap.size w w') : IsBack w' own b most ids := h.upd (Upd.of_below hb (fun _ => False)) (fun _ _ _ e => e)
theorem BackTo.same {w w' : World} {own : Nat → Prop} {b : Nat} {most : Int} {ids : List Int} (h : IsBack w own b most ids) (hb : Below w.heap.size w w') : BackTo w own b most ids w' := ⟨own, h.same hb, Upd.of_below hb _, fun _ hk => .inl hk⟩
theorem IsBack.lt {w : World} {own : Nat → Prop} {b : Nat} {most : Int} {ids : List Int} (h : IsBack w own b most ids) : ∀ k, own k → k < w.heap.size := by
  obtain ⟨g, lv, h⟩ := h
  exact h.fifo.ob

set_option maxRecDepth 100000 in
set_option maxHeartbeats 2000000 in
theorem back_has {w : World} {own : Nat → Prop} {b : Nat} {most : Int} {ids : List Int} (h : IsBack w own b most ids) (id : Int) :
    Calls Tryd.prog 18 #[.pointer (some ⟨b, 0, none⟩), .int .u32 id] w fun e w' => e = .returned (.bool (decide (id ∈ ids))) ∧ Below w.heap.size w w' := by
  obtain ⟨g, lv, h⟩ := h
  have hl : ids.length ≤ 1048576 := by have := h.le; have := h.mx; omega
  have c0 : w.cell? ⟨b, 0, none⟩ = some (.pointer (some ⟨g, 0, none⟩)) := blk_cell h.blk 0
  have lb := blk_lt h.blk
  have H := hide h
  have HL := hide hl
  clear h hl
  refine (callsIn_wide (n := 6)).1 ?_
  refine callsIn_of_wp_marks Tryd.func18 rfl trivial ?_ rfl
  simp only [Tryd.ntmps18, List.size_toArray, List.length_cons, List.length_nil, Nat.reduceAdd, Nat.reduceSub, Array.replicate_succ, Array.replicate_zero, List.push_toArray, List.append_toArray, List.nil_append, List.cons_append]
  gi_wp2_with fail
  refine ⟨trivial, ?_⟩
  refine (callsIn_wide.2 (fifo_all (H.out.fifo.upd (Upd.of_below (below_alloc (below_alloc (Below.refl _ w) _) _) (fun _ => False)) (fun _ _ _ e => e)) HL.out)).mono ?_
  rintro e1 w1 ⟨B, v, rfl, hS, hF, hB⟩
  have b0 : Boxed w1 w.heap.size 34 (.int .u32 id) := (hB.block w.heap.size (by simp; omega)).trans (new2_0 w _ _)
  have b1 : Boxed w1 (w.heap.size + 1) 4 (.bool false) := (hB.block (w.heap.size + 1) (by simp)).trans (new2_1 w _ _)
  have hB0 : Below w.heap.size w w1 := (below_alloc (below_alloc (Below.refl _ w) _) _).trans (hB.mono (by simp; omega))
  have HS := hide hS
  have HF := hide hF
  have HB := hide hB0
  have BX0 := hide b0
  have BX1 := hide b1
  have hsz1 : w.heap.size + 1 < w1.heap.size := b1.lt
  clear hS hF hB b0 b1 hB0
  gi_wp2
  refine wpIn_rangeFunc_ownG rfl (by omega) (gf := 106) (lb := #[.pointer (some ⟨B, 0, none⟩)]) rfl trivial (enters_of Tryd.func106 (by kernel_rfl) rfl)
    (all_stops Fence.wide 5 trivial rfl (by omega) B v ids w1 HS.out) (fun h k => h.trans k) (KB.put HS.out.lt) (Below.refl _ _) (fun _ => rfl)
    (fun pre W => (id ∉ pre ∧ W.cell? ⟨w.heap.size, 0, none⟩ = some (.int .u32 id) ∧ W.cell? ⟨w.heap.size + 1, 0, none⟩ = some (.bool false) ∧ W.frozen? ⟨w.heap.size + 1, 0, none⟩ = false) ∧ Below w.heap.size w W)
    (fun c pre W => (c = .ret ∧ id ∈ pre ∧ W.cell? ⟨w.heap.size + 1, 0, none⟩ = some (.bool true)) ∧ Below w.heap.size w W)
    (OwnFrom.and (Own.from (fun s A B row hs hg hr => ⟨hs.1, cell_kept hs.2.1 hg hr, cell_kept hs.2.2.1 hg hr, (frozen_kept hs.2.2.1 hg hr).trans hs.2.2.2⟩) _) (ownFrom_below (Nat.le_refl _) (by omega)))
    (fun c => OwnFrom.and (Own.from (fun s A B row hs hg hr => ⟨hs.1, hs.2.1, cell_kept hs.2.2 hg hr⟩) _) (ownFrom_below (Nat.le_refl _) (by omega)))
    ⟨⟨by simp, BX0.out.cell, BX1.out.cell, BX1.out.frozen⟩, HB.out⟩
    (fun x => { tmps := #[.pointer (some ⟨b, 0, none⟩), .int .u32 id, undef, .pointer (some ⟨w.heap.size, 0, none⟩), .pointer (some ⟨w.heap.size + 1, 0, none⟩), .int .u32 x, .pointer (some ⟨b, 0, none⟩), .bool false, .pointer (some ⟨b, 0, none⟩), .pointer (some ⟨b, 0, none⟩), .pointer (some ⟨b, 0, none⟩), .pointer (some ⟨b, 0, none⟩), .pointer (some ⟨g, 0, none⟩), .func (.func 106) #[] #[.pointer (some ⟨B, 0, none⟩)], .int .u32 x, .int .i64 0, undef, undef, undef], defers := [] }) ?assign ?body ?done ?stop
  case assign =>
    intro l x W K hK
    gi_wp2
    exact hK
  case body =>
    rintro l pre x W ⟨⟨hp, hcw, hcr, hfr⟩, hB⟩ _
    by_cases hx : x = id
    · have hx1 : (x == id) = true := by simp [hx]
      have HP := hide hp
      have HX := hide hx
      clear hp hx
      gi_wp2
      exact ⟨(KeepsOthers.setCell _ _ _).from _, ⟨rfl, List.mem_append.2 (.inr (by simp [HX.out])), World.cell?_setCell_same' _ _ _ (by rw [hcr]; rfl)⟩, hB.setCell (p := ⟨w.heap.size + 1, 0, none⟩) (by simp) _⟩
    · have hx1 : (x == id) = false := by simp [hx]
      have HP := hide hp
      have HX := hide hx
      clear hp hx
      gi_wp2
      exact ⟨KeepsFrom.refl _ _, KB.refl _ _, ⟨fun hm => by
        rcases List.mem_append.1 hm with hm | hm
        · exact HP.out hm
        · simp at hm
          exact HX.out hm.symm, hcw, hcr, hfr⟩, hB⟩
  case done =>
    rintro D ys W hD rfl ⟨⟨hne, _, hcr, hfr⟩, hB⟩ hK
    gi_wp2
    have hK' := (KeepsOthers.setCell W ⟨w.heap.size + 1, 0, none⟩ (.bool false)).same D _ hK rfl
    refine ⟨by simp, .inl ⟨_, _, rfl, run_takeDeferred hK', ?_⟩⟩
    have hc5 := cell_kept (World.cell?_setCell_same' W ⟨w.heap.size + 1, 0, none⟩ (.bool false) (by rw [hcr]; rfl)) (grownBy_putObj' _ D (.deferred none)) (fun r e => by cases e; exact ⟨_, hK', rfl⟩)
    refine ⟨.bool false, ?_, by rw [decide_eq_false hne], (hB.setCell (p := ⟨w.heap.size + 1, 0, none⟩) (by simp) _).trans (belowK_b (w := w) (Nat.le_refl _) _ D _ _ (by omega) hK' rfl rfl)⟩
    simp [results, Tryd.results18, go_sem, hc5]
  case stop =>
    rintro D c pre W hD hpre ⟨⟨rfl, hin, hcr⟩, hB⟩ hK
    gi_wp2
    refine ⟨by simp, .inl ⟨_, _, rfl, run_takeDeferred hK, ?_⟩⟩
    have hc5 := cell_kept hcr (grownBy_putObj' _ D (.deferred none)) (fun r e => by cases e; exact ⟨_, hK, rfl⟩)
    refine ⟨.bool true, ?_, by rw [decide_eq_true (hpre.subset hin)], hB.trans (belowK_b (w := w) (Nat.le_refl _) W D _ _ (by omega) hK rfl rfl)⟩
    simp [results, Tryd.results18, go_sem, hc5]
end Go.Proofs.YtdeonehebbofiaaDoor
