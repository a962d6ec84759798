/-
  Without: the lane without the ticket in a place.
-/
import Derived.Test.YtdeonehebbofiaaDoorLane12
import Derived.Test.YtdeonehebbofiaaDoorSlice
namespace Go.Proofs.YtdeonehebbofiaaDoor
open Go.RowKit

theorem tcells_take (ts : List Tk) (i : Nat) : (tcells ts).take (i * 3) = tcells (ts.take i) := by
  induction ts generalizing i with
  | nil => simp [tcells]
  | cons t ts ih =>
    cases i with
    | zero => simp [tcells]
    | succ i =>
      have e : tcells (t :: ts) = t.cells ++ tcells ts := rfl
      have e2 : (i + 1) * 3 = i * 3 + 3 := by omega
      rw [e, e2, List.take_succ_cons, List.take_append]
      have e3 : tcells (t :: ts.take i) = t.cells ++ tcells (ts.take i) := rfl
      have e4 : t.cells.length = 3 := rfl
      rw [e3, ← ih, e4, List.take_of_length_le (by rw [e4]; omega)]
      simp
theorem tcells_drop (ts : List Tk) (i : Nat) : (tcells ts).drop (i * 3) = tcells (ts.drop i) := by
  induction ts generalizing i with
  | nil => simp [tcells]
  | cons t ts ih =>
    cases i with
    | zero => simp
    | succ i =>
      have e : tcells (t :: ts) = t.cells ++ tcells ts := rfl
      have e2 : (i + 1) * 3 = i * 3 + 3 := by omega
      have e4 : t.cells.length = 3 := rfl
      rw [e, e2, List.drop_succ_cons, ← ih, List.drop_append, e4, List.drop_of_length_le (by rw [e4]; omega)]
      simp

theorem infoTkAt : ∃ j, Tryd.prog.info? 55 = some j ∧ j.size = 3 := by
  obtain ⟨i0, hi, _, hz1, _⟩ := info_parts infoTk
  exact ⟨i0, hi, hz1⟩

/-- The head of a row of tickets. -/
theorem TkRow.head {w : World} {a : Option Addr} {cap : Nat} {ts : List Tk} (h : TkRow w (.slice a ts.length cap) ts) {k : Nat} (hk : k ≤ ts.length) : Row w 55 3 (.slice a k cap) k (tcells (ts.take k)) := by
  have := Row.head h hk
  rwa [tcells_take] at this

set_option linter.unusedVariables false
theorem ownBlock_slice (a : Addr) (n c : Nat) : (Value.slice (some a) n c).ownBlock = some a.block := rfl
/-- An append to a slice in new memory: what was there before is as it was. -/
theorem stepOne {w w1 : World} {o : Obj} {e : TypeId} {sz n m : Nat} {x v v1 : Value} {cs ds : List Value} (hx : Row w e sz x n cs) (hr : Row w1 e sz v1 m ds) (hu : Upd (fun k => some k = v.ownBlock) (w.alloc o) w1)
    (ho : v1.ownBlock = v.ownBlock ∨ v1.ownBlock = some (w.alloc o).heap.size) (hv : v.ownBlock = some w.heap.size) :
    Row w1 e sz x n cs ∧ (∀ b, v1.ownBlock = some b → w.heap.size ≤ b) ∧ Below w.heap.size w w1 := by
  have hb : Below w.heap.size w w1 := (below_alloc (Below.refl _ w) o).trans (hu.below (by simp) (fun i hi e => by rw [hv] at e; injection e; omega))
  refine ⟨hx.below hb, fun b hb' => ?_, hb⟩
  rcases ho with ho | ho
  · rw [hb', hv] at ho
    injection ho with ho
    omega
  · rw [hb'] at ho
    injection ho with ho
    simp at ho
    omega

/-- A further append to a slice in new memory. -/
theorem freshNext {w w1 w2 : World} {v1 v2 : Value} (hf : ∀ b, v1.ownBlock = some b → w.heap.size ≤ b) (hb : Below w.heap.size w w1) (hu : Upd (fun k => some k = v1.ownBlock) w1 w2)
    (ho : v2.ownBlock = v1.ownBlock ∨ v2.ownBlock = some w1.heap.size) : (∀ b, v2.ownBlock = some b → w.heap.size ≤ b) ∧ Below w.heap.size w w2 := by
  refine ⟨fun b hb' => ?_, hb.trans (hu.below hb.size (fun i hi e => ?_))⟩
  · rcases ho with ho | ho
    · exact hf b (by rw [← ho, hb'])
    · rw [hb'] at ho
      injection ho with ho
      have := hb.size
      omega
  · have := hf i e.symm
    omega

set_option maxRecDepth 100000 in
set_option maxHeartbeats 1600000 in
theorem ref_without {w : World} {v : Value} {ts : List Tk} (h : TkRow w v ts) (hl : ts.length ≤ LB) (i : Nat) (hi : i < ts.length) :
    Calls Tryd.prog 74 #[v, .int .i64 i] w fun e w' => ∃ v', e = .returned v' ∧ TkRow w' v' (ts.eraseIdx i) ∧ (∀ b, v'.ownBlock = some b → w.heap.size ≤ b) ∧ Below w.heap.size w w' := by
  obtain ⟨i0, hinfo, hz0, hz1, hz2⟩ := info_parts infoTk
  obtain ⟨lb, off, cap, rfl, hcap, hcm, _, hlb⟩ := Row.begins h (by omega)
  have hl2 : ts.length ≤ 8000000000000 := hl
  have h1 := fun W => cut_head (P := Tryd.prog) Tryd.underlying52 hinfo (some ⟨lb, off, none⟩) ts.length cap i (by omega) hcap W
  obtain ⟨a, hab, h2, h3⟩ := cut_tail Tryd.underlying52 hinfo hz1 lb off ts.length cap (i + 1) (by omega)
  have hA := h.head (k := i) (by omega)
  have hB := h3 w _ h
  rw [tcells_drop] at hB
  have HA := hide hA
  have HB := hide hB
  have HM1 := hide (show 0 + i ≤ maxLen by unfold maxLen; omega)
  have HM2 := hide (show (0 + i) * 16 ≤ 140737488355328 by omega)
  have HM3 := hide (show i + (ts.length - (i + 1)) ≤ maxLen by unfold maxLen; omega)
  have HM4 := hide (show (i + (ts.length - (i + 1))) * 16 ≤ 140737488355328 by omega)
  have h2' : ∀ W : World, (Instr.slice 52 (.slice (some ⟨lb, off, none⟩) ts.length cap) (some (.int .i64 ((i : Int) + 1))) none none).run Tryd.prog W = .ok (.slice (some a) (ts.length - (i + 1)) (cap - (i + 1))) W := h2
  clear h h2 h3 hA hB
  go_enter Tryd.func74, Tryd.ntmps74
  go_wp2_with (at_builtin; first | (refine wpList_append_row _ rfl _ _ 52 rfl 55 i0 _ 3 16 Tryd.underlying52 hinfo hz0 hz1 hz2 rfl (by decide) _ 0 [] rfl (Row.lit w 55 3 0 #[] rfl (by decide)) _ i _ rfl (HA.out.alloc _) (oneCell_tcells _) HM1.out HM2.out ?_; intro v1 w1 hr1 hu1 ho1 hs1 hl1; have HX1 := hide (stepOne HB.out hr1 hu1 ho1 rfl); simp only [Nat.zero_add, List.nil_append] at hr1; obtain ⟨a1, c1, hv1, _, _⟩ := Row.form hr1; subst hv1; have HR1 := hide hr1; clear hr1 hu1 ho1 hl1) | (refine wpList_append_row _ rfl _ _ 52 rfl 55 i0 _ 3 16 Tryd.underlying52 hinfo hz0 hz1 hz2 rfl (by decide) _ i _ rfl HR1.out _ (ts.length - (i + 1)) _ rfl HX1.out.1 (oneCell_tcells _) HM3.out HM4.out ?_; intro v2 w2 hr2 hu2 ho2 hs2 hl2; obtain ⟨a2, c2, hv2, _, _⟩ := Row.form hr2; subst hv2; have HR2 := hide hr2; have HX2 := hide (freshNext HX1.out.2.1 HX1.out.2.2 hu2 ho2); clear hr2 hu2 ho2 hl2))
  go_ret
  refine ⟨_, rfl, ?_, HX2.out.1, HX2.out.2⟩
  have hr := HR2.out
  unfold TkRow
  rw [List.eraseIdx_eq_take_drop_succ, tcells_append, List.length_append, List.length_take, List.length_drop, Nat.min_eq_left (by omega)]
  exact hr
end Go.Proofs.YtdeonehebbofiaaDoor
