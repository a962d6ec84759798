/-
  append on slices of numbers, ready for a walk.
-/
import Derived.Test.YtdeonehebbofiaaDoorBref2
set_option linter.unusedVariables false
namespace Go.Proofs.YtdeonehebbofiaaDoor
open Go.RowKit

/-- The walk stands still here: 'go_wp2_with (at_builtin; refine wait ?_)', then 'unfold Wait'. -/
def Wait (p : Prop) : Prop := p
theorem wait {p : Prop} (h : Wait p) : p := h

/-- What an append left: only the old slice's block may have turned; the new slice lies there, or in a new block. -/
structure Grew (w w1 : World) (v v1 : Value) : Prop where
  upd : Upd (fun k => some k = v.ownBlock) w w1
  own : v1.ownBlock = v.ownBlock ∨ v1.ownBlock = some w.heap.size
  lt : ∀ k, v1.ownBlock = some k → k < w1.heap.size
/-- A slice that was in new memory stays there. -/
theorem Grew.fresh {w0 w w1 : World} {v v1 : Value} (h : Grew w w1 v v1) (hb : Below w0.heap.size w0 w) (hf : ∀ b, v.ownBlock = some b → w0.heap.size ≤ b) :
    Below w0.heap.size w0 w1 ∧ ∀ b, v1.ownBlock = some b → w0.heap.size ≤ b := by
  refine ⟨hb.trans (h.upd.below hb.size (fun i hi e => by have := hf i e.symm; omega)), fun b hb' => ?_⟩
  rcases h.own with ho | ho
  · exact hf b (by rw [← ho, hb'])
  · rw [hb'] at ho
    injection ho with ho
    have := hb.size
    omega
/-- What lay in another block lies there still. -/
theorem Grew.keeps {w w1 : World} {v v1 : Value} {g : Nat} {o : Obj} (h : Grew w w1 v v1) (hb : w.heap[g]? = some o) (hn : v.ownBlock ≠ some g) : w1.heap[g]? = some o := h.upd.keeps hb (fun e => hn e.symm)
theorem Grew.row {w w1 : World} {v v1 x : Value} {ids : List Int} (h : Grew w w1 v v1) (hx : NumRow w x ids) (hn : ∀ k, x.ownBlock = some k → v.ownBlock ≠ some k) : NumRow w1 x ids :=
  Row.upd hx h.upd (fun k hk e => hn k hk e.symm)

theorem NumRow.alloc {w : World} {v : Value} {ids : List Int} (h : NumRow w v ids) (o : Obj) : NumRow (w.alloc o) v ids := Row.alloc h o
theorem NumRow.lit0 (w : World) : NumRow (w.alloc (.cells #[] 34)) (.slice (some ⟨w.heap.size, 0, none⟩) 0 0) [] := Row.lit w 34 1 0 #[] rfl (by decide)
theorem NumRow.lit1 (w : World) (i : Int) : NumRow (w.alloc (.cells #[.int .u32 i] 34)) (.slice (some ⟨w.heap.size, 0, none⟩) 1 1) [i] := Row.lit w 34 1 1 #[.int .u32 i] rfl (by decide)

theorem NumRow.of0 {w : World} {g : Nat} (h : w.heap[g]? = some (.cells #[] 34 (0, 0))) : NumRow w (.slice (some ⟨g, 0, none⟩) 0 0) [] := ⟨rfl, .inr ⟨g, 0, 0, _, rfl, h, Nat.le_refl _, by decide, by simp, rfl⟩⟩
theorem NumRow.of1 {w : World} {g : Nat} {i : Int} (h : w.heap[g]? = some (.cells #[.int .u32 i] 34 (0, 0))) : NumRow w (.slice (some ⟨g, 0, none⟩) 1 1) [i] := ⟨rfl, .inr ⟨g, 0, 1, _, rfl, h, Nat.le_refl _, by decide, by simp, rfl⟩⟩
theorem new1 (w : World) (o : Obj) : (w.alloc o).heap[w.heap.size]? = some o := blk_new w o
theorem new1' (w : World) (o : Obj) : (w.alloc o).heap.size = w.heap.size + 1 := by simp
theorem new2_0 (w : World) (o p : Obj) : ((w.alloc o).alloc p).heap[w.heap.size]? = some o := blk_alloc (blk_new w o) p
theorem new2_1 (w : World) (o p : Obj) : ((w.alloc o).alloc p).heap[w.heap.size + 1]? = some p := by have := blk_new (w.alloc o) p; rwa [new1'] at this
theorem new2' (w : World) (o p : Obj) : ((w.alloc o).alloc p).heap.size = w.heap.size + 2 := by simp
theorem new3_0 (w : World) (o p q : Obj) : (((w.alloc o).alloc p).alloc q).heap[w.heap.size]? = some o := blk_alloc (new2_0 w o p) q
theorem new3_1 (w : World) (o p q : Obj) : (((w.alloc o).alloc p).alloc q).heap[w.heap.size + 1]? = some p := blk_alloc (new2_1 w o p) q
theorem new3_2 (w : World) (o p q : Obj) : (((w.alloc o).alloc p).alloc q).heap[w.heap.size + 2]? = some q := by have := blk_new ((w.alloc o).alloc p) q; rwa [new2'] at this
theorem new3' (w : World) (o p q : Obj) : (((w.alloc o).alloc p).alloc q).heap.size = w.heap.size + 3 := by simp
/-- The world under a name. -/
theorem wpList_name {P : Program} {ops : Array Oper} {rest : List Oper} {Q : Exit → Act → World → Prop} {a : Act} {w : World} (h : ∀ W, W = w → wpList P ops Q rest a W) : wpList P ops Q rest a w := h w rfl

theorem wpList_app_nums {w : World} {ops : Array Oper} {rest : List Oper} {o : Oper} {a : Act} {Q : Exit → Act → World → Prop} (hgd : o.guard = none) (s x : Operand)
    (ho : o.op = .call { callee := .builtin .append, args := #[s, x], argTypes := #[29, 29] })
    (v xv : Value) (ids js : List Int) (hs : a.eval s = v) (hr : NumRow w v ids) (hxv : a.eval x = xv) (hx : NumRow w xv js) (hb : ids.length + js.length ≤ 35184372088832)
    (h : ∀ a1 c1 w1, NumRow w1 (.slice a1 (ids.length + js.length) c1) (ids ++ js) → Grew w w1 v (.slice a1 (ids.length + js.length) c1) → wpList Tryd.prog ops Q rest (a.put o.dst (.slice a1 (ids.length + js.length) c1)) w1) :
    wpList Tryd.prog ops Q (o :: rest) a w := by
  obtain ⟨i0, hinfo, hz0, hz1, hz2⟩ := info_parts infoU32
  refine wpList_append_row w hgd s x 29 ho 34 i0 _ 1 4 Tryd.underlying29 hinfo hz0 hz1 hz2 rfl (by decide) v ids.length _ hs hr xv js.length _ hxv hx (oneCell_ncells js) (by unfold maxLen; omega) (by omega) ?_
  intro v1 w1 hr1 hu1 ho1 hs1 hl1
  obtain ⟨a1, c1, rfl, _, _⟩ := hr1.form
  refine h a1 c1 w1 ?_ ⟨hu1, ho1, hl1⟩
  unfold NumRow
  rw [List.length_append, ncells, List.map_append]
  exact hr1
end Go.Proofs.YtdeonehebbofiaaDoor
