/-
  A lane in memory: its block, its list of entries, its map. New, Len, Count, List.
-/
import Derived.Test.YtdeonehebbofiaaDoorLane1
import Derived.Deep.DeepCutAuto
import Derived.Deep.LoopGhost
namespace Go.Proofs.YtdeonehebbofiaaDoor
open Go.RowKit

/-- An entry of the lane: its block, its ticket, whether it waits no more. -/
structure En where
  b : Nat
  t : Tk
  gone : Bool
  deriving DecidableEq

def En.cells (e : En) : Array Value := #[.int .i64 e.t.k, .int .u32 e.t.s, .int .u32 e.t.v, .bool e.gone]
def En.ptr (e : En) : Value := .pointer (some ⟨e.b, 0, none⟩)
def laneCells (lv : Value) (bm : Nat) (c : Nat → Int) (n : Int) : Array Value :=
  #[lv, .map (some bm), .int .i64 (c 0), .int .i64 (c 1), .int .i64 (c 2), .int .i64 (c 3), .int .i64 (c 4), .int .i64 (c 5), .int .i64 (c 6), .int .i64 (c 7), .int .i64 n]
def msv (ms : List ((Int × Int) × Nat)) : List ((Int × Int) × Value) := ms.map fun x => (x.1, .pointer (some ⟨x.2, 0, none⟩))

structure LaneRaw (w : World) (own : Nat → Prop) (g : Nat) (lv : Value) (bm : Nat) (es : List En) (ms : List ((Int × Int) × Nat)) (c : Nat → Int) (n : Int) : Prop where
  blk : w.heap[g]? = some (.cells (laneCells lv bm c n) 129 (0, 0))
  row : Row w 135 1 lv es.length (es.map En.ptr)
  ens : ∀ e ∈ es, w.heap[e.b]? = some (.cells e.cells 137 (0, 0))
  map : MapIs w encPl bm (msv ms)
  og : own g
  om : own bm
  oe : ∀ e ∈ es, own e.b
  ol : ∀ k, lv.ownBlock = some k → own k
  nd : (es.map (·.b)).Nodup
  mnd : (ms.map (·.1)).Nodup
  ob : ∀ k, own k → k < w.heap.size

theorem LaneRaw.upd {w w' : World} {own : Nat → Prop} {g : Nat} {lv : Value} {bm : Nat} {es : List En} {ms : List ((Int × Int) × Nat)} {c : Nat → Int} {n : Int} {S : Nat → Prop}
    (h : LaneRaw w own g lv bm es ms c n) (hu : Upd S w w') (hn : ∀ k, own k → k < w.heap.size → ¬ S k) : LaneRaw w' own g lv bm es ms c n where
  blk := hu.keeps h.blk (hn _ h.og (blk_lt h.blk))
  row := h.row.upd hu (fun k hk => hn k (h.ol k hk) (h.row.lt hk))
  ens := fun e he => hu.keeps (h.ens e he) (hn _ (h.oe e he) (blk_lt (h.ens e he)))
  map := h.map.upd hu (hn _ h.om h.map.lt)
  og := h.og
  om := h.om
  oe := h.oe
  ol := h.ol
  nd := h.nd
  mnd := h.mnd
  ob := fun k hk => Nat.lt_of_lt_of_le (h.ob k hk) hu.size

/-- The lane's eleven cells, read. -/
theorem lane_cells {w : World} {g : Nat} {lv : Value} {bm : Nat} {c : Nat → Int} {n : Int} (h : w.heap[g]? = some (.cells (laneCells lv bm c n) 129 (0, 0))) :
    w.cell? ⟨g, 0, none⟩ = some lv ∧ w.cell? ⟨g, 1, none⟩ = some (.map (some bm)) ∧ w.cell? ⟨g, 10, none⟩ = some (.int .i64 n) ∧
    (∀ k : Int, 0 ≤ k → k < 8 → w.cell? ⟨g, 2 + k.toNat, none⟩ = some (.int .i64 (c k.toNat))) ∧ ∀ i, w.frozen? ⟨g, i, none⟩ = false := by
  refine ⟨blk_cell h 0, blk_cell h 1, blk_cell h 10, fun k h0 h1 => ?_, fun i => blk_frozen h i⟩
  rw [blk_cell h]
  have : k.toNat < 8 := by omega
  generalize k.toNat = j at *
  match j, this with
  | 0, _ => rfl
  | 1, _ => rfl
  | 2, _ => rfl
  | 3, _ => rfl
  | 4, _ => rfl
  | 5, _ => rfl
  | 6, _ => rfl
  | 7, _ => rfl
  | j + 8, h => omega
/-- A count is written. -/
theorem laneCells_count (lv : Value) (bm : Nat) (c : Nat → Int) (n x : Int) (j : Nat) (hj : j < 8) :
    (laneCells lv bm c n).setIfInBounds (2 + j) (.int .i64 x) = laneCells lv bm (fun i => if i = j then x else c i) n := by
  match j, hj with
  | 0, _ => rfl
  | 1, _ => rfl
  | 2, _ => rfl
  | 3, _ => rfl
  | 4, _ => rfl
  | 5, _ => rfl
  | 6, _ => rfl
  | 7, _ => rfl
  | j + 8, h => omega
theorem laneCells_n (lv : Value) (bm : Nat) (c : Nat → Int) (n x : Int) : (laneCells lv bm c n).setIfInBounds 10 (.int .i64 x) = laneCells lv bm c x := rfl
theorem laneCells_list (lv v : Value) (bm : Nat) (c : Nat → Int) (n : Int) : (laneCells lv bm c n).setIfInBounds 0 v = laneCells v bm c n := rfl

/-! ### New, Len, Count -/
theorem lane_new (w : World) : Calls Tryd.prog 29 #[] w fun e w' => e = .returned (.pointer (some ⟨w.heap.size + 1, 0, none⟩)) ∧
    w' = (w.alloc (.map #[] 0)).alloc (.cells (laneCells (.slice none 0 0) w.heap.size (fun _ => 0) 0) 129) := by
  have hmm := @run_makeMap Tryd.prog
  go_enter Tryd.func29, Tryd.ntmps29
  go_wp2
  go_ret
  exact ⟨rfl, rfl⟩
theorem lane_len_nil (w : World) : Calls Tryd.prog 31 #[.pointer none] w fun e w' => e = .returned (.int .i64 0) ∧ w = w' := by
  go_enter Tryd.func31, Tryd.ntmps31
  go_wp2
  go_ret
  exact ⟨rfl, rfl⟩
theorem lane_len (g : Nat) (n : Int) (w : World) (h : w.cell? ⟨g, 10, none⟩ = some (.int .i64 n)) : Calls Tryd.prog 31 #[.pointer (some ⟨g, 0, none⟩)] w fun e w' => e = .returned (.int .i64 n) ∧ w = w' := by
  go_enter Tryd.func31, Tryd.ntmps31
  go_wp2
  go_ret
  exact ⟨rfl, rfl⟩
theorem lane_count_nil (k : Int) (w : World) : Calls Tryd.prog 34 #[.pointer none, .int .i64 k] w fun e w' => e = .returned (.int .i64 0) ∧ w = w' := by
  go_enter Tryd.func34, Tryd.ntmps34
  go_wp2
  go_ret
  exact ⟨rfl, rfl⟩
theorem lane_count (g : Nat) (k : Int) (x : Nat → Int) (w : World) (h : ∀ k : Int, 0 ≤ k → k < 8 → w.cell? ⟨g, 2 + k.toNat, none⟩ = some (.int .i64 (x k.toNat))) :
    Calls Tryd.prog 34 #[.pointer (some ⟨g, 0, none⟩), .int .i64 k] w fun e w' => e = .returned (.int .i64 (if 1 ≤ k ∧ k ≤ 7 then x k.toNat else 0)) ∧ w = w' := by
  by_cases h1 : k < 1
  · rw [if_neg (by omega)]
    clear h
    go_enter Tryd.func34, Tryd.ntmps34
    go_wp2
    go_ret
    exact ⟨rfl, rfl⟩
  · by_cases h7 : 7 < k
    · rw [if_neg (by omega)]
      clear h
      go_enter Tryd.func34, Tryd.ntmps34
      go_wp2
      go_ret
      exact ⟨rfl, rfl⟩
    · rw [if_pos (by omega)]
      have hc := h k (by omega) (by omega)
      clear h
      have k0 : 0 ≤ k := by omega
      have k8 : k < 8 := by omega
      go_enter Tryd.func34, Tryd.ntmps34
      go_wp2
      go_ret
      exact ⟨rfl, rfl⟩
end Go.Proofs.YtdeonehebbofiaaDoor
