/-
  List: the tickets that wait, in new memory.
-/
import Derived.Test.YtdeonehebbofiaaDoorLane2
namespace Go.Proofs.YtdeonehebbofiaaDoor
open Go.RowKit

def live (es : List En) : List Tk := (es.filter fun e => !e.gone).map (·.t)
def tcells (ts : List Tk) : List Value := ts.flatMap Tk.cells
/-- The slice v reads as these tickets. -/
def TkRow (w : World) (v : Value) (ts : List Tk) : Prop := Row w 55 3 v ts.length (tcells ts)

theorem live_snoc (es : List En) (e : En) : live (es ++ [e]) = live es ++ if e.gone then [] else [e.t] := by
  unfold live
  rw [List.filter_append, List.map_append]
  cases h : e.gone <;> simp [h]
theorem tcells_append (a b : List Tk) : tcells (a ++ b) = tcells a ++ tcells b := by simp [tcells]
theorem tcells_length (ts : List Tk) : (tcells ts).length = ts.length * 3 := by
  unfold tcells
  induction ts with
  | nil => rfl
  | cons t ts ih => simp only [List.flatMap_cons, List.length_append, ih, List.length_cons]; simp [Tk.cells]; omega
theorem live_le (es : List En) : (live es).length ≤ es.length := by
  unfold live
  rw [List.length_map]
  exact List.length_filter_le _ _
theorem take_snoc_at {α : Type} (l : List α) (k : Nat) (x : α) (h : l[k]? = some x) : l.take (k + 1) = l.take k ++ [x] := by
  obtain ⟨hk, hx⟩ := List.getElem?_eq_some_iff.1 h
  rw [List.take_succ_eq_append_getElem hk, hx]
theorem oneCell_tcells (ts : List Tk) : ∀ u ∈ tcells ts, u.oneCell' = true := by
  intro u hu
  obtain ⟨t, _, h⟩ := List.mem_flatMap.1 hu
  simp [Tk.cells] at h
  rcases h with rfl | rfl | rfl <;> rfl

theorem infoTk : (Tryd.prog.info? 55).map (fun i => (i.zero, i.size, i.bytes)) = some (some (.agg #[.int .i64 0, .int .u32 0, .int .u32 0]), 3, 16) := by kernel_rfl

/-- What a round of List leaves: the entries so far. -/
structure ListInv (w : World) (es : List En) (k : Nat) (v : Value) (wr : World) : Prop where
  row : TkRow wr v (live (es.take k))
  own : ∀ b, v.ownBlock = some b → w.heap.size ≤ b
  below : Below w.heap.size w wr

theorem ListInv.step {w wr w1 : World} {es : List En} {k : Nat} {v v1 : Value} {e : En} (h : ListInv w es k v wr) (he : es[k]? = some e) (hg : e.gone = false) (o : Obj)
    (hr : Row w1 55 3 v1 ((live (es.take k)).length + 1) (tcells (live (es.take k)) ++ e.t.cells)) (hu : Upd (fun q => some q = v.ownBlock) (wr.alloc o) w1)
    (ho : v1.ownBlock = v.ownBlock ∨ v1.ownBlock = some (wr.alloc o).heap.size) : ListInv w es (k + 1) v1 w1 where
  row := by
    unfold TkRow
    rw [take_snoc_at es k e he, live_snoc, hg, if_neg (by simp), tcells_append, List.length_append]
    simpa [tcells] using hr
  own := fun b hb => by
    have := h.below.size
    rcases ho with ho | ho
    · exact h.own b (by rw [← ho, hb])
    · rw [hb] at ho
      injection ho with ho
      simp at ho
      omega
  below := (below_alloc h.below o).trans (hu.below (by have := h.below.size; simp; omega) (fun i hi hs => by have := h.own i hs.symm; omega))
theorem ListInv.skip {w wr : World} {es : List En} {k : Nat} {v : Value} {e : En} (h : ListInv w es k v wr) (he : es[k]? = some e) (hg : e.gone = true) : ListInv w es (k + 1) v wr where
  row := by
    rw [take_snoc_at es k e he, live_snoc, hg, if_pos rfl, List.append_nil]
    exact h.row
  own := h.own
  below := h.below

set_option maxHeartbeats 800000 in
theorem lane_list (w : World) (own : Nat → Prop) (g : Nat) (lv : Value) (bm : Nat) (es : List En) (ms : List ((Int × Int) × Nat)) (c : Nat → Int) (n : Int)
    (h : LaneRaw w own g lv bm es ms c n) (hlen : es.length ≤ 17592186044416) (hliv : (live es).length < 8796093022208) :
    Calls Tryd.prog 33 #[.pointer (some ⟨g, 0, none⟩)] w fun e w' => ∃ v, e = .returned v ∧ TkRow w' v (live es) ∧ (∀ b, v.ownBlock = some b → w.heap.size ≤ b) ∧ Below w.heap.size w w' := by
  obtain ⟨i0, hi, hz0, hz1, hz2⟩ := info_parts infoTk
  have c0 := (lane_cells h.blk).1
  have hrow := h.row
  obtain ⟨a, cap, rfl, hcap, hcm⟩ := hrow.form
  have HR := hide hrow
  have HE := hide h.ens
  clear hrow h
  go_enter Tryd.func33, Tryd.ntmps33
  go_wp2
  go_loopw [3, 13] (fun v i wr => ∃ k : Nat, k ≤ es.length ∧ i = .int .i64 k ∧ ListInv w es k v wr) (fun _ i _ => es.length - (intOf i).toNat)
  case atStart => exact ⟨0, Nat.zero_le _, rfl, Row.nil _ _ _, fun b hb => by simp [Value.ownBlock] at hb, Below.refl _ _⟩
  case round =>
    obtain ⟨k, hk, rfl, hI⟩ := hrel
    by_cases hlt : k < es.length
    · obtain ⟨lb, off, cap', hv, _, _, _, hlb⟩ := HR.out.begins (by omega)
      injection hv with ha _ hc
      subst ha; subst hc
      obtain ⟨e, he⟩ : ∃ e, es[k]? = some e := ⟨_, List.getElem?_eq_getElem hlt⟩
      have hem : e ∈ es := List.mem_of_getElem? he
      have cl : wr.cell? ⟨lb, off + k, none⟩ = some (.pointer (some ⟨e.b, 0, none⟩)) := by
        rw [hI.below.cell (p := ⟨lb, off + k, none⟩) hlb, HR.out.cell (by omega), List.getElem?_map, he]
        rfl
      have eb : wr.heap[e.b]? = some (.cells e.cells 137 (0, 0)) := (hI.below.block _ (blk_lt (HE.out e hem))).trans (HE.out e hem)
      have e0 : wr.cell? ⟨e.b, 0, none⟩ = some (.int .i64 e.t.k) := blk_cell eb 0
      have e1 : wr.cell? ⟨e.b, 1, none⟩ = some (.int .u32 e.t.s) := blk_cell eb 1
      have e2 : wr.cell? ⟨e.b, 2, none⟩ = some (.int .u32 e.t.v) := blk_cell eb 2
      have e3 : wr.cell? ⟨e.b, 3, none⟩ = some (.bool e.gone) := blk_cell eb 3
      have HI := hide hI
      have HEk := hide he
      have hll : (live (es.take k)).length ≤ (live es).length := (List.Sublist.map _ ((List.take_sublist k es).filter _)).length_le
      have HM1 := hide (show (live (es.take k)).length + 1 ≤ maxLen by unfold maxLen; omega)
      have HM2 := hide (show ((live (es.take k)).length + 1) * 16 ≤ 140737488355328 by omega)
      have HONE := hide (show ∀ u ∈ e.t.cells, u.oneCell' = true from fun u hu => by
        simp [Tk.cells] at hu
        rcases hu with rfl | rfl | rfl <;> rfl)
      clear hI he eb hll
      cases hg : e.gone with
      | true =>
        rw [hg] at e3
        have HG := hide hg
        clear hg
        go_wp2
        go_roundw
        case rel => exact ⟨k + 1, by omega, by go_num, HI.out.skip HEk.out HG.out⟩
        case measure => simp [intOf]; omega
      | false =>
        rw [hg] at e3
        have HG := hide hg
        clear hg
        go_wp2_with (at_builtin; refine wpList_append_row _ rfl _ _ 52 rfl 55 i0 _ 3 16 Tryd.underlying52 hi hz0 hz1 hz2 rfl (by decide) _ _ _ rfl (HI.out.row.alloc _) _ 1 e.t.cells rfl (Row.lit wr 55 3 1 #[.int .i64 e.t.k, .int .u32 e.t.s, .int .u32 e.t.v] rfl (by decide)) (HONE.out) (HM1.out) (HM2.out) ?_; intro v1 w1 hr1 hu1 ho1 hs1 hl1; have HR1 := hide hr1; have HU1 := hide hu1; have HO1 := hide ho1; clear hr1 hu1 ho1 hl1)
        go_roundw
        case rel => exact ⟨k + 1, by omega, by go_num, HI.out.step HEk.out HG.out _ HR1.out HU1.out HO1.out⟩
        case measure => simp [intOf]; omega
    · obtain rfl : k = es.length := by omega
      have HI := hide hI
      clear hI
      go_wp2
      go_ret
      refine ⟨_, rfl, ?_, HI.out.own, HI.out.below⟩
      have := HI.out.row
      rwa [List.take_length] at this

theorem lane_list_nil (w : World) : Calls Tryd.prog 33 #[.pointer none] w fun e w' => e = .returned (.slice none 0 0) ∧ w = w' := by
  go_enter Tryd.func33, Tryd.ntmps33
  go_wp2
  go_ret
  exact ⟨rfl, rfl⟩
end Go.Proofs.YtdeonehebbofiaaDoor
