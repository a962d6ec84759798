/-
  fifo.Fifo[uint32]: All: what it hands back, and its iterator's contract.
-/
import Derived.Test.YtdeonehebbofiaaDoorFifo3
import Derived.RangeFuncNested
import Derived.RangeFuncBound
import Derived.RangeFuncCalls
import Derived.RangeFuncLeaves
import Derived.Shelf.Abstract
import Derived.Shelf.RegionOpen
import Derived.OwnWalkIn
import Derived.TacticsInMore
import Derived.LoopNIn
import Derived.LoopIn
set_option linter.unusedVariables false
namespace Go.Proofs.YtdeonehebbofiaaDoor
open Go.RowKit Go.Shelf
attribute [local go_sem] Oper.semAt_some

set_option maxRecDepth 100000 in
set_option maxHeartbeats 1600000 in
theorem clone_rows {w : World} {v : Value} {ids : List Int} (h : FRow w v ids) (hl : ids.length ≤ 1048576) :
    Calls Tryd.prog 105 #[v] w fun e w' => ∃ v', e = .returned v' ∧ FRow w' v' ids ∧ (∀ b, v'.ownBlock = some b → w.heap.size ≤ b) ∧ Below w.heap.size w w' := by
  have hcase := h.2
  have HR := hide h
  clear h
  rcases hcase with ⟨rfl, hn⟩ | ⟨g, off, cap, cur, rfl, _⟩
  · have hnil : ids = [] := List.eq_nil_of_length_eq_zero hn
    clear hn
    subst hnil
    have hq : ∀ W : World, (binOp .eql 164 (.slice none 0 0) (.slice none 0 0)).run Tryd.prog W = .ok (.bool true) W := fun W => Lib.run_eql_slice_nil W _ _ _ _ _ _ _ Tryd.underlying164
    go_enter Tryd.func105, Tryd.ntmps105
    go_wp2
    go_ret
    exact ⟨_, rfl, Row.nil _ _ _, fun b hb => by simp [Value.ownBlock] at hb, Below.refl _ _⟩
  · have hq : ∀ W : World, (binOp .eql 164 (.slice (some ⟨g, off, none⟩) ids.length cap) (.slice none 0 0)).run Tryd.prog W = .ok (.bool false) W := fun W => Lib.run_eql_slice_nil W _ _ _ _ _ _ _ Tryd.underlying164
    go_enter Tryd.func105, Tryd.ntmps105
    go_wp2_with (at_builtin; refine wait ?_)
    unfold Wait
    refine wpList_app_frow rfl _ _ rfl (.slice (some ⟨w.heap.size, 0, none⟩) 0 0) (.slice (some ⟨g, off, none⟩) ids.length cap) [] ids rfl ⟨rfl, .inr ⟨_, 0, 0, _, rfl, new1 w _, Nat.le_refl _, by decide, by simp, rfl⟩⟩ rfl (HR.out.alloc _) (by simp; omega) ?_
    intro a1 c1 w1 hr1 hg1
    rw [List.length_nil, Nat.zero_add] at *
    rw [List.nil_append] at hr1
    have hf := hg1.fresh (w0 := w) (below_alloc (Below.refl _ w) _) (fun b hb => by simp [Value.ownBlock] at hb; omega)
    have HR1 := hide hr1
    have HF := hide hf
    clear hr1 hg1 hf
    go_wp2
    go_ret
    exact ⟨_, rfl, HR1.out, HF.out.2, HF.out.1⟩

/-- The blocks of S are as they were. -/
def KB (S : Nat → Prop) (w w' : World) : Prop := ∀ k, S k → w'.heap[k]? = w.heap[k]?
theorem KB.trans {S : Nat → Prop} {A B C : World} (h : KB S A B) (k : KB S B C) : KB S A C := fun i hi => (k i hi).trans (h i hi)
theorem KB.refl (S : Nat → Prop) (w : World) : KB S w w := fun _ _ => rfl
theorem KB.put {S : Nat → Prop} {w : World} (hS : ∀ k, S k → k < w.heap.size) (W : World) (l : Nat) (o o' : Obj) (hl : w.heap.size ≤ l) (h : W.heap[l]? = some o) (_ : o.isCells = false) (_ : o.isWalk = false) : KB S W (W.putObj l o') :=
  fun k hk => World.putObj_heap_other (by have := hS k hk; omega)
theorem KB.alloc {S : Nat → Prop} {A W : World} (h : KB S A W) (hS : ∀ k, S k → k < W.heap.size) (o : Obj) : KB S A (W.alloc o) := fun k hk => (Below.heap_alloc W o k (hS k hk)).trans (h k hk)

/-- A sequence value that goes over ids: a function value whose box B holds the rows v. -/
structure SeqAt (w : World) (B : Nat) (v : Value) (ids : List Int) : Prop where
  box : w.heap[B]? = some (.cells #[v] 164 (0, 0))
  row : FRow w v ids
def SeqS (B : Nat) (v : Value) (k : Nat) : Prop := k = B ∨ v.ownBlock = some k
theorem SeqAt.lt {w : World} {B : Nat} {v : Value} {ids : List Int} (h : SeqAt w B v ids) : ∀ k, SeqS B v k → k < w.heap.size := fun k hk => by
  rcases hk with rfl | hk
  · exact blk_lt h.box
  · exact Row.lt h.row hk
theorem SeqAt.kept {w w' : World} {B : Nat} {v : Value} {ids : List Int} (h : SeqAt w B v ids) (hk : KB (SeqS B v) w w') : SeqAt w' B v ids :=
  ⟨(hk B (.inl rfl)).trans h.box, h.row.move (fun k hb _ => hk k (.inr hb))⟩

set_option maxHeartbeats 1600000 in
theorem fifo_all {w : World} {own : Nat → Prop} {g : Nat} {most : Int} {lv : Value} {ids : List Int} (h : FifoRaw w own g most lv ids) (hl : ids.length ≤ 1048576) :
    Calls Tryd.prog 63 #[.pointer (some ⟨g, 0, none⟩)] w fun e w' => ∃ B v, e = .returned (.func (.func 106) #[] #[.pointer (some ⟨B, 0, none⟩)]) ∧ SeqAt w' B v ids ∧ (∀ k, SeqS B v k → w.heap.size ≤ k) ∧ Below w.heap.size w w' := by
  have c2 : w.cell? ⟨g, 2, none⟩ = some lv := blk_cell h.blk 2
  have lg := blk_lt h.blk
  obtain ⟨a, cap, hv, _, _⟩ := Row.form h.row
  subst hv
  have H := hide h
  clear h
  go_enter Tryd.func63, Tryd.ntmps63
  go_wp2_with fail
  refine (clone_rows (FRow.alloc H.out.row _) hl).mono ?_
  rintro e1 w1 ⟨v1, rfl, r1, f1, b1⟩
  obtain ⟨a1, c1, hv1, _, _⟩ := Row.form r1
  subst hv1
  have b0 := (b1.block w.heap.size (by simp)).trans (new1 w _)
  have y0 : w1.cell? ⟨w.heap.size, 0, none⟩ = some (.slice none 0 0) := blk_cell b0 0
  have yf : ∀ i, w1.frozen? ⟨w.heap.size, i, none⟩ = false := fun i => blk_frozen b0 i
  have B0 := hide b0
  have R1 := hide r1
  have F1 := hide f1
  have B1 := hide ((below_alloc (Below.refl _ w) (.cells #[.slice none 0 0] 164)).trans (b1.mono (by simp)))
  clear r1 f1 b1 b0
  go_wp2
  go_ret
  have hn := Row.ne R1.out B0.out (by decide)
  refine ⟨w.heap.size, _, rfl, ⟨blk_set B0.out 0 _, Row.far R1.out (p := ⟨w.heap.size, 0, none⟩) hn _⟩, fun k hk => ?_, B1.out.setCell (p := ⟨w.heap.size, 0, none⟩) (Nat.le_refl _) _⟩
  rcases hk with rfl | hk
  · exact Nat.le_refl _
  · have := F1.out k hk
    simp at this
    omega

def upTo (ids : List Int) (k : Nat) : List Int := ids.take k
set_option maxRecDepth 100000 in
set_option maxHeartbeats 2000000 in
theorem all1_in (F : Fence) (n : Nat) (h8 : F.fn 106) (hro : F.round = none) (hn : 1 ≤ n) (l B : Nat) (v : Value) (ids : List Int) (J Jx : List Int → World → Prop)
    (hJ : ∀ (pre : List Int) (w : World) (o : Obj), J pre w → J pre (w.alloc o))
    (hY : ∀ pre x W, J pre W → pre.length < ids.length → YieldAt F (n - 1) Tryd.prog l #[.int .u32 x, .int .i64 0] W fun e W' =>
      (e = .returned (.bool true) ∧ J (pre ++ [x]) W' ∧ KB (SeqS B v) W W') ∨ (e = .returned (.bool false) ∧ Jx (pre ++ [x]) W'))
    (W : World) (hS : SeqAt W B v ids) (h0 : J [] W) :
    CallsIn F n Tryd.prog 106 #[.func (.yield l) #[] #[], .pointer (some ⟨B, 0, none⟩)] W fun e W' => (∃ v, e = .returned v) ∧
      ((∃ ys, ys = ids ∧ J ys W') ∨ (∃ pre, pre <+: ids ∧ Jx pre W')) := by
  have hb : W.cell? ⟨B, 0, none⟩ = some v := blk_cell hS.box 0
  obtain ⟨a, cap, hv, hc1, hc2⟩ := Row.form hS.row
  subst hv
  have hle : ids.length ≤ 9223372036854775807 := by unfold maxLen at hc2; omega
  have HS := hide hS
  clear hS
  refine callsIn_of_wp Tryd.func106 rfl h8 ?_ hro
  simp only [Tryd.ntmps106, List.size_toArray, List.length_cons, List.length_nil, Nat.reduceAdd, Nat.reduceSub, Array.replicate_succ, Array.replicate_zero, List.push_toArray, List.append_toArray, List.nil_append, List.cons_append]
  gi_wp2
  gi_loopw [7] (fun i wr => ∃ k : Nat, k ≤ ids.length ∧ i = .int .i64 k ∧ J (upTo ids k) wr ∧ KB (SeqS B (.slice a ids.length cap)) W wr) (fun i _ => ids.length - (intOf i).toNat)
  case atStart => exact ⟨0, Nat.zero_le _, rfl, h0, KB.refl _ _⟩
  case round =>
    obtain ⟨k, hk, rfl, hJs, hKB⟩ := hrel
    by_cases hlt : k < ids.length
    · obtain ⟨x, hx⟩ : ∃ x, ids[k]? = some x := ⟨_, List.getElem?_eq_getElem hlt⟩
      have hs := HS.out.kept hKB
      obtain ⟨lb, off, cap', hv, _, _, _, hlb⟩ := Row.begins hs.row (by omega)
      injection hv with hv1 hv2 hv3
      clear hv2
      subst hv1; subst hv3
      obtain ⟨d0, d1⟩ := FRow.cells' hs.row hx
      obtain ⟨fn, tmps, assign, body, hy, hR⟩ := hY _ x (wr.alloc (.cells #[.int .u32 x, .int .i64 0] 173)) (hJ _ _ _ hJs) (by unfold upTo; rw [List.length_take]; omega)
      have HSL := hide hs.lt
      have HKB := hide hKB
      have htk : ids.take (k + 1) = ids.take k ++ [x] := by rw [List.take_add_one, hx]; rfl
      have HTK := hide htk
      clear hs hx hKB htk
      gi_wp2
      refine hR.mono ?_
      rintro e W3 (⟨rfl, hJ3, hk3⟩ | ⟨rfl, hJx3⟩)
      · gi_wp2
        go_roundw
        case rel => exact ⟨k + 1, by omega, by simp, by unfold upTo; rw [HTK.out]; exact hJ3, (HKB.out.alloc HSL.out _).trans hk3⟩
        case measure => simp [intOf]; omega
      · gi_wp2
        refine bodyPost_ret (results_none rfl _ _ _) rfl ?_
        exact ⟨⟨_, rfl⟩, .inr ⟨ids.take (k + 1), List.take_prefix _ _, by rw [HTK.out]; exact hJx3⟩⟩
    · obtain rfl : k = ids.length := by omega
      gi_wp2
      go_end0
      exact ⟨⟨_, rfl⟩, .inl ⟨_, by unfold upTo; exact List.take_length, hJs⟩⟩

theorem all_stops (F : Fence) (n : Nat) (h8 : F.fn 106) (hro : F.round = none) (hn : 1 ≤ n) (B : Nat) (v : Value) (ids : List Int) (w : World) (hS : SeqAt w B v ids) :
    SeqStopsK F n Tryd.prog 106 #[.pointer (some ⟨B, 0, none⟩)] (fun x : Int => #[Value.int .u32 x, Value.int .i64 0]) (KB (SeqS B v)) (fun ys => ys = ids) (fun pre => pre <+: ids) ids.length w := fun l J Jx W hW hJ hJx hY h0 =>
  all1_in F n h8 hro hn l B v ids J Jx (fun pre W o h => hJ pre W _ none h (World.grownBy_alloc W o none) (fun r e => by cases e)) hY W (hS.kept (fun k hk => hW.block k (hS.lt k hk))) h0
end Go.Proofs.YtdeonehebbofiaaDoor
