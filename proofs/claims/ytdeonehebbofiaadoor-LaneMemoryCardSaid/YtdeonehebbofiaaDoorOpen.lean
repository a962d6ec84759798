/-
  A script of lane operations, opened.
-/
import Derived.Test.YtdeonehebbofiaaDoorLaw3
import Derived.Test.YtdeonehebbofiaaDoorLaid
import Derived.Deep.Slices
import Derived.OpenShut
namespace Go.Proofs.YtdeonehebbofiaaDoor
open Go.RowKit Go.ChangeShapes Go.WideShapes Go.Deep

theorem cellsOp : Tryd.prog.cellsOf 57 = 4 ∧ Tryd.prog.cellsOf 55 = 3 ∧ Tryd.prog.cellsOf 3 = 1 ∧ Tryd.prog.cellsOf 53 = 1 ∧ Tryd.prog.cellsOf 34 = 1 := by
  refine ⟨?_, ?_, ?_, ?_, ?_⟩ <;> kernel_rfl
theorem bytesOp : Tryd.prog.bytesOf 57 = 24 := by kernel_rfl

section
variable {H : Type} {enc : TypeId × Value → H} {W : World} {base : Nat} {sp : Nat → Bool} {held : Bool}

theorem int_open {P : Program} {n : Nat} {t : TypeId} {k : IntKind} {cs : List Value} {o : Nat} {x : DataW H × List MemPlace} (ht : P.underlying t = some (.int k))
    (h : DataW.trod enc P W base sp held n t ((cs.drop o).take 1) = some x) : ∃ z, cs[o]? = some (.int k z) ∧ (Lit.int k z).wf = true := by
  obtain ⟨z, hc, _, hw⟩ := DataW.trod_int ht h
  exact ⟨z, first_of hc, hw⟩
theorem field_open {P : Program} {n : Nat} {t : TypeId} {fs : Array Field} {cs : List Value} {x : DataW H × List MemPlace} (ht : P.underlying t = some (.struct fs)) (h : DataW.trod enc P W base sp held n t cs = some x) {j : Nat} {f : Field} (hf : fs[j]? = some f) :
    ∃ m y, DataW.trod enc P W base sp held m f.type ((cs.drop f.offset).take (P.cellsOf f.type)) = some y := by
  obtain ⟨xs, m, rfl, hx, hl, hxl, hall⟩ := DataW.trod_struct ht h
  have h1 := hall j f hf
  have hj : j < fs.size := (Array.getElem?_eq_some_iff.1 hf).1
  exact ⟨m, xs[j]'(by omega), h1.trans (List.getElem?_eq_getElem (by omega))⟩

set_option maxRecDepth 100000 in
theorem tk_open {n : Nat} {cs : List Value} {x : DataW H × List MemPlace} (h : DataW.trod enc Tryd.prog W base sp held n 55 cs = some x) :
    ∃ t : Tk, cs[0]? = some (.int .i64 t.k) ∧ cs[1]? = some (.int .u32 t.s) ∧ cs[2]? = some (.int .u32 t.v) ∧ t.Wf := by
  obtain ⟨_, _, _, c53, c34⟩ := cellsOp
  obtain ⟨m0, y0, h0⟩ := field_open Tryd.underlying55 h (j := 0) rfl
  obtain ⟨m1, y1, h1⟩ := field_open Tryd.underlying55 h (j := 1) rfl
  obtain ⟨m2, y2, h2⟩ := field_open Tryd.underlying55 h (j := 2) rfl
  obtain ⟨k, e0, w0⟩ := int_open (cs := cs) (o := 0) Tryd.underlying53 (by rw [← c53]; exact h0)
  obtain ⟨s, e1, w1⟩ := int_open (cs := cs) (o := 1) Tryd.underlying34 (by rw [← c34]; exact h1)
  obtain ⟨v, e2, w2⟩ := int_open (cs := cs) (o := 2) Tryd.underlying34 (by rw [← c34]; exact h2)
  have b0 := bounds_i64 w0
  have b1 := bounds_u32 w1
  have b2 := bounds_u32 w2
  exact ⟨⟨k, s, v⟩, e0, e1, e2, ⟨b0.1, b0.2, b1.1, b1.2, b2.1, b2.2⟩⟩

set_option maxRecDepth 100000 in
theorem op_open {n : Nat} {cs : List Value} {x : DataW H × List MemPlace} (h : DataW.trod enc Tryd.prog W base sp held n 57 cs = some x) :
    ∃ o : Op1, cs[0]? = some (.int .i64 o.kd) ∧ cs[1]? = some (.int .i64 o.t.k) ∧ cs[2]? = some (.int .u32 o.t.s) ∧ cs[3]? = some (.int .u32 o.t.v) ∧ o.t.Wf := by
  obtain ⟨_, c55, c3, _, _⟩ := cellsOp
  obtain ⟨m0, y0, h0⟩ := field_open Tryd.underlying57 h (j := 0) rfl
  obtain ⟨m1, y1, h1⟩ := field_open Tryd.underlying57 h (j := 1) rfl
  obtain ⟨kd, e0, _⟩ := int_open (cs := cs) (o := 0) Tryd.underlying3 (by rw [← c3]; exact h0)
  have h1' : DataW.trod enc Tryd.prog W base sp held m1 55 ((cs.drop 1).take 3) = some y1 := by rw [← c55]; exact h1
  obtain ⟨t, e1, e2, e3, hw⟩ := tk_open h1'
  refine ⟨⟨kd, t⟩, e0, ?_, ?_, ?_, hw⟩
  · simpa [List.getElem?_take, List.getElem?_drop] using e1
  · simpa [List.getElem?_take, List.getElem?_drop] using e2
  · simpa [List.getElem?_take, List.getElem?_drop] using e3

set_option maxRecDepth 100000 in
/-- A script, opened: its length, where its cells lie, and how its reading is sized. -/
theorem ops_open {n : Nat} {a : Option Addr} {len cap : Nat} {d : DataW H} {p : List MemPlace} (h : DataW.trod enc Tryd.prog W 0 (fun _ => true) true n 49 [.slice a len cap] = some (d, p)) :
    ∃ os : List Op1, os.length = len ∧ OpAt W a cap os ∧ (∀ o ∈ os, o.t.Wf) ∧ (len = 0 ∨ ∃ es spare, d = .slice es spare ∧ es.length = len) := by
  rcases open_slice Tryd.underlying49 h with ⟨h0, _⟩ | ⟨a', len', cap', m, n', D, Pl, hcs, _, hl, hm, hmm, hx, hall⟩
  · simp at h0
    obtain ⟨rfl, rfl, rfl⟩ := h0
    exact ⟨[], rfl, ⟨Nat.le_refl _, Nat.zero_le _, fun hp => (by simp at hp), fun _ _ e => (by cases e)⟩, fun _ ho => (by cases ho), .inl rfl⟩
  · simp at hcs
    obtain ⟨rfl, rfl, rfl⟩ := hcs
    simp only [if_true] at hmm
    subst hmm
    obtain ⟨c57, _⟩ := cellsOp
    rcases Nat.eq_zero_or_pos len with rfl | hpos
    · exact ⟨[], rfl, ⟨Nat.zero_le _, hm, fun hp => (by simp at hp), fun _ _ _ i o ho => (by simp at ho)⟩, fun _ ho => (by cases ho), .inl rfl⟩
    have hspot : ∃ lb off, a' = ⟨lb, off, none⟩ ∧ lb < W.heap.size := by
      obtain ⟨cs', hc, ht⟩ := hall 0 (by omega)
      rw [c57] at hc
      obtain ⟨_, hlen, hcell⟩ := World.cells?_some hc
      obtain ⟨o, e0, _⟩ := op_open ht
      have h0 := (hcell 0 (by omega)).trans e0
      have ha0 : (a'.add (0 * 4)).add 0 = a' := by simp [Addr.add]
      rw [ha0] at h0
      obtain ⟨lb, off, spt⟩ := a'
      have := cell_spot h0
      subst this
      exact ⟨lb, off, rfl, World.block_lt_of_cell? W _ h0⟩
    obtain ⟨lb, off, rfl, hlb⟩ := hspot
    have one : ∀ i, i < len → ∃ o : Op1, W.cell? ⟨lb, off + i * 4, none⟩ = some (.int .i64 o.kd) ∧ W.cell? ⟨lb, off + i * 4 + 1, none⟩ = some (.int .i64 o.t.k) ∧ W.cell? ⟨lb, off + i * 4 + 2, none⟩ = some (.int .u32 o.t.s) ∧ W.cell? ⟨lb, off + i * 4 + 3, none⟩ = some (.int .u32 o.t.v) ∧ o.t.Wf := by
      intro i hi
      obtain ⟨cs', hc, ht⟩ := hall i (by omega)
      rw [c57] at hc
      obtain ⟨_, hlen, hcell⟩ := World.cells?_some hc
      obtain ⟨o, e0, e1, e2, e3, hw⟩ := op_open ht
      have c0 := hcell 0 (by omega)
      have c1 := hcell 1 (by omega)
      have c2 := hcell 2 (by omega)
      have c3 := hcell 3 (by omega)
      rw [add_at, add_at] at c0 c1 c2 c3
      exact ⟨o, c0.trans e0, c1.trans e1, c2.trans e2, c3.trans e3, hw⟩
    have hex : ∃ F : Nat → Op1, ∀ i, i < len → (W.cell? ⟨lb, off + i * 4, none⟩ = some (.int .i64 (F i).kd) ∧ W.cell? ⟨lb, off + i * 4 + 1, none⟩ = some (.int .i64 (F i).t.k) ∧ W.cell? ⟨lb, off + i * 4 + 2, none⟩ = some (.int .u32 (F i).t.s) ∧ W.cell? ⟨lb, off + i * 4 + 3, none⟩ = some (.int .u32 (F i).t.v) ∧ (F i).t.Wf) :=
      ⟨fun i => if hi : i < len then (one i hi).choose else ⟨0, 0, 0, 0⟩, fun i hi => by simp only [dif_pos hi]; exact (one i hi).choose_spec⟩
    obtain ⟨F, hF⟩ := hex
    refine ⟨(List.range len).map F, by simp, ⟨by simpa using hl, hm, fun _ => ⟨lb, off, rfl, hlb⟩, fun lb' off' e i o ho => ?_⟩, fun o ho => ?_, .inr ⟨_, _, (Prod.mk.inj hx).1, by simp⟩⟩
    · injection e with e
      injection e with e1 e2
      subst e1; subst e2
      have hi : i < len := by
        have := (List.getElem?_eq_some_iff.1 ho).1
        simpa using this
      rw [List.getElem?_map, List.getElem?_range hi] at ho
      simp at ho
      subst ho
      obtain ⟨e0, e1, e2, e3, _⟩ := hF i hi
      exact ⟨e0, e1, e2, e3⟩
    · obtain ⟨i, hi, rfl⟩ := List.mem_map.1 ho
      exact (hF i (List.mem_range.1 hi)).2.2.2.2
end
end Go.Proofs.YtdeonehebbofiaaDoor
