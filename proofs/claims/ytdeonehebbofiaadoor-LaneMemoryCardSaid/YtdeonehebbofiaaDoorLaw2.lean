/-
  The law's step on no lane; the step, whatever its kind.
-/
import Derived.Test.YtdeonehebbofiaaDoorLaw1
set_option linter.unusedVariables false
namespace Go.Proofs.YtdeonehebbofiaaDoor
open Go.RowKit

theorem step_any (E : Nat → Addr) (w0 w : World) (own : Nat → Prop) (g : Nat) (v : Value) (ts : List Tk) (h : LawSt w0 w own g v ts) (hS : Sent w0 E) (hF : Forms w0) (kd : Int) (t : Tk) (hw : t.Wf) (hl : ts.length ≤ LB) :
    Calls Tryd.prog 30 #[.pointer (some ⟨g, 0, none⟩), v, .agg #[.int .i64 kd, .int .i64 t.k, .int .u32 t.s, .int .u32 t.v]] w (StepPost w0 w g ts) := by
  by_cases h0 : kd = 0
  · subst h0; exact step_put E w0 w own g v ts h hS hF t hw hl
  by_cases h1 : kd = 1
  · subst h1
    cases ts with
    | nil => exact step_next_nil E w0 w own g v [] h hS hF t hw hl rfl
    | cons u r => exact step_next_cons E w0 w own g v (u :: r) h hS hF t hw hl u r rfl
  by_cases h2 : kd = 2
  · subst h2
    cases hf : ts.findIdx? (keyB t.k t.s) with
    | none => exact step_with_none E w0 w own g v ts h hS hF t hw hl hf
    | some i => exact step_with_some E w0 w own g v ts h hS hF t hw hl i hf
  by_cases h3 : kd = 3
  · subst h3; exact step_forget E w0 w own g v ts h hS hF t hw hl
  by_cases h4 : kd = 4
  · subst h4; exact step_clear E w0 w own g v ts h hS hF t hw hl
  exact step_count E w0 w own g v ts h hS hF t hw hl kd h0 h1 h2 h3 h4

theorem next_none (w : World) : Calls Tryd.prog 72 #[.pointer none] w fun e w' => e = .returned (.tuple #[.agg #[.int .i64 0, .int .u32 0, .int .u32 0], .bool false]) ∧ Below w.heap.size w w' := by
  exact next_nil w

def NilPost (w : World) (e : Ending) (w' : World) : Prop := ∃ v', e = .returned (.tuple #[v', .bool true]) ∧ TkRow w' v' [] ∧ Below w.heap.size w w'
set_option maxRecDepth 100000 in
set_option maxHeartbeats 3200000 in
theorem stepnil_put (E : Nat → Addr) (w : World) (v : Value) (h : TkRow w v []) (hS : Sent w E) (t : Tk) (hw : t.Wf) :
    Calls Tryd.prog 30 #[.pointer none, v, .agg #[.int .i64 0, .int .i64 t.k, .int .u32 t.s, .int .u32 t.v]] w (NilPost w) := by
  have HS := hide hS
  have HW := hide hw
  have hb0 := below_alloc (Below.refl _ w) (.cells #[.int .i64 0, .int .i64 t.k, .int .u32 t.s, .int .u32 t.v] 57)
  have HB0 := hide hb0
  have H := hide (h.below' hb0)
  have hbx := blk_new w (.cells #[.int .i64 0, .int .i64 t.k, .int .u32 t.s, .int .u32 t.v] 57)
  have HBX := hide hbx
  have HLT := hide (show w.heap.size < (w.alloc (.cells #[.int .i64 0, .int .i64 t.k, .int .u32 t.s, .int .u32 t.v] 57)).heap.size by simp)
  obtain ⟨a, cap, hv, _, _⟩ := Row.form h
  subst hv
  have HP := hide (ref_put_is H.out (by decide) t hw (fun _ h => by cases h) List.Pairwise.nil)
  clear hS hw h hbx hb0
  go_enter Tryd.func30, Tryd.ntmps30
  go_wp2_with (first
    | (go_at_call 73; refine HP.out.mono ?_; rintro e1 w1 ⟨v1, rfl, r1, f1, b1⟩; have t1 := (b1.block w.heap.size HLT.out).trans HBX.out; have x10 : w1.cell? ⟨w.heap.size, 1, none⟩ = some (.int .i64 t.k) := blk_cell t1 1; have x11 : w1.cell? ⟨w.heap.size, 2, none⟩ = some (.int .u32 t.s) := blk_cell t1 2; have x12 : w1.cell? ⟨w.heap.size, 3, none⟩ = some (.int .u32 t.v) := blk_cell t1 3; clear t1; have HB1 := hide b1; clear r1 f1 b1)
    | (go_at_call 71; refine (put_nil E w1 (HS.out.belows (HB0.out.trans (HB1.out.mono HB0.out.size))) t).mono ?_; rintro e2 w2 ⟨rfl, b2⟩; have HB2 := hide b2; clear b2)
    | (go_at_call 16; refine (code_any E w2 (HS.out.belows ((HB0.out.trans (HB1.out.mono HB0.out.size)).trans (HB2.out.mono (Nat.le_trans HB0.out.size HB1.out.size)))) 1 (by decide)).mono ?_; rintro e3 w3 ⟨rfl, rfl⟩))
  go_ret2
  exact ⟨_, rfl, (H.out.below' HB1.out).below' HB2.out, (HB0.out.trans (HB1.out.mono HB0.out.size)).trans (HB2.out.mono (Nat.le_trans HB0.out.size HB1.out.size))⟩

set_option maxRecDepth 100000 in
set_option maxHeartbeats 3200000 in
theorem stepnil_next (E : Nat → Addr) (w : World) (v : Value) (h : TkRow w v []) (hS : Sent w E) (t : Tk) (hw : t.Wf) :
    Calls Tryd.prog 30 #[.pointer none, v, .agg #[.int .i64 1, .int .i64 t.k, .int .u32 t.s, .int .u32 t.v]] w (NilPost w) := by
  have HS := hide hS
  have HW := hide hw
  have hb0 := below_alloc (Below.refl _ w) (.cells #[.int .i64 1, .int .i64 t.k, .int .u32 t.s, .int .u32 t.v] 57)
  have HB0 := hide hb0
  have H := hide (h.below' hb0)
  have hbx := blk_new w (.cells #[.int .i64 1, .int .i64 t.k, .int .u32 t.s, .int .u32 t.v] 57)
  have HBX := hide hbx
  have HLT := hide (show w.heap.size < (w.alloc (.cells #[.int .i64 1, .int .i64 t.k, .int .u32 t.s, .int .u32 t.v] 57)).heap.size by simp)
  obtain ⟨a, cap, hv, _, _⟩ := Row.form h
  subst hv
  clear hS hw h hbx hb0
  go_enter Tryd.func30, Tryd.ntmps30
  go_wp2_with (go_at_call 72; refine (next_none _).mono ?_; rintro e1 w1 ⟨rfl, b1⟩; have HB1 := hide (HB0.out.trans (b1.mono HB0.out.size)); have HR1 := hide (H.out.below' b1); clear b1)
  go_quiet (fail)
  go_wp2
  go_ret2
  have hb := below_alloc (Below.refl _ w1) (.cells #[.int .i64 0, .int .u32 0, .int .u32 0] 55)
  exact ⟨_, rfl, HR1.out.below' (below_drewN hb _), HB1.out.trans ((below_drewN hb _).mono HB1.out.size)⟩

set_option maxRecDepth 100000 in
set_option maxHeartbeats 3200000 in
theorem stepnil_with (E : Nat → Addr) (w : World) (v : Value) (h : TkRow w v []) (hS : Sent w E) (t : Tk) (hw : t.Wf) :
    Calls Tryd.prog 30 #[.pointer none, v, .agg #[.int .i64 2, .int .i64 t.k, .int .u32 t.s, .int .u32 t.v]] w (NilPost w) := by
  have HS := hide hS
  have HW := hide hw
  have hb0 := below_alloc (Below.refl _ w) (.cells #[.int .i64 2, .int .i64 t.k, .int .u32 t.s, .int .u32 t.v] 57)
  have HB0 := hide hb0
  have H := hide (h.below' hb0)
  have hbx := blk_new w (.cells #[.int .i64 2, .int .i64 t.k, .int .u32 t.s, .int .u32 t.v] 57)
  have HBX := hide hbx
  have HLT := hide (show w.heap.size < (w.alloc (.cells #[.int .i64 2, .int .i64 t.k, .int .u32 t.s, .int .u32 t.v] 57)).heap.size by simp)
  obtain ⟨a, cap, hv, _, _⟩ := Row.form h
  subst hv
  have HFI := hide (show findS [] t.k t.s = -1 from rfl)
  clear hS hw h hbx hb0
  go_enter Tryd.func30, Tryd.ntmps30
  go_wp2_with (first
    | (go_at_call 75; refine (ref_find H.out t.k t.s).mono ?_; rintro e0 wz ⟨rfl, rfl⟩; rw [HFI.out])
    | (go_at_call 76; refine (lane_withdraw_nil _ t.k t.s).mono ?_; rintro e1 w1 ⟨rfl, rfl⟩))
  go_ret2
  exact ⟨_, rfl, H.out, HB0.out⟩

set_option maxRecDepth 100000 in
set_option maxHeartbeats 3200000 in
theorem stepnil_forget (E : Nat → Addr) (w : World) (v : Value) (h : TkRow w v []) (hS : Sent w E) (t : Tk) (hw : t.Wf) :
    Calls Tryd.prog 30 #[.pointer none, v, .agg #[.int .i64 3, .int .i64 t.k, .int .u32 t.s, .int .u32 t.v]] w (NilPost w) := by
  have HS := hide hS
  have HW := hide hw
  have hb0 := below_alloc (Below.refl _ w) (.cells #[.int .i64 3, .int .i64 t.k, .int .u32 t.s, .int .u32 t.v] 57)
  have HB0 := hide hb0
  have H := hide (h.below' hb0)
  have hbx := blk_new w (.cells #[.int .i64 3, .int .i64 t.k, .int .u32 t.s, .int .u32 t.v] 57)
  have HBX := hide hbx
  have HLT := hide (show w.heap.size < (w.alloc (.cells #[.int .i64 3, .int .i64 t.k, .int .u32 t.s, .int .u32 t.v] 57)).heap.size by simp)
  obtain ⟨a, cap, hv, _, _⟩ := Row.form h
  subst hv
  clear hS hw h hbx hb0
  go_enter Tryd.func30, Tryd.ntmps30
  go_wp2_with (first
    | (go_at_call 77; refine (ref_forget H.out (by decide) t.s).mono ?_; rintro e1 w1 ⟨v1, rfl, r1, o1, b1⟩; have t1 := (b1.block w.heap.size HLT.out).trans HBX.out; have x10 : w1.cell? ⟨w.heap.size, 1, none⟩ = some (.int .i64 t.k) := blk_cell t1 1; have x11 : w1.cell? ⟨w.heap.size, 2, none⟩ = some (.int .u32 t.s) := blk_cell t1 2; have x12 : w1.cell? ⟨w.heap.size, 3, none⟩ = some (.int .u32 t.v) := blk_cell t1 3; clear t1; have HR1 := hide r1; have HB1 := hide b1; clear r1 o1 b1)
    | (go_at_call 78; refine (lane_forget_nil _ t.s).mono ?_; rintro e2 w2 ⟨rfl, rfl⟩))
  go_ret2
  exact ⟨_, rfl, HR1.out, HB0.out.trans (HB1.out.mono HB0.out.size)⟩

set_option maxRecDepth 100000 in
set_option maxHeartbeats 3200000 in
theorem stepnil_clear (E : Nat → Addr) (w : World) (v : Value) (h : TkRow w v []) (hS : Sent w E) (t : Tk) (hw : t.Wf) :
    Calls Tryd.prog 30 #[.pointer none, v, .agg #[.int .i64 4, .int .i64 t.k, .int .u32 t.s, .int .u32 t.v]] w (NilPost w) := by
  have HS := hide hS
  have HW := hide hw
  have hb0 := below_alloc (Below.refl _ w) (.cells #[.int .i64 4, .int .i64 t.k, .int .u32 t.s, .int .u32 t.v] 57)
  have HB0 := hide hb0
  have H := hide (h.below' hb0)
  have hbx := blk_new w (.cells #[.int .i64 4, .int .i64 t.k, .int .u32 t.s, .int .u32 t.v] 57)
  have HBX := hide hbx
  have HLT := hide (show w.heap.size < (w.alloc (.cells #[.int .i64 4, .int .i64 t.k, .int .u32 t.s, .int .u32 t.v] 57)).heap.size by simp)
  obtain ⟨a, cap, hv, _, _⟩ := Row.form h
  subst hv
  clear hS hw h hbx hb0
  go_enter Tryd.func30, Tryd.ntmps30
  go_wp2_with (go_at_call 79; refine (lane_clear_nil _).mono ?_; rintro e2 w2 ⟨rfl, rfl⟩)
  go_ret2
  exact ⟨_, rfl, Row.nil _ _ _, HB0.out⟩

set_option maxRecDepth 100000 in
set_option maxHeartbeats 3200000 in
theorem stepnil_count (E : Nat → Addr) (w : World) (v : Value) (h : TkRow w v []) (hS : Sent w E) (t : Tk) (hw : t.Wf) (kd : Int) (n0 : kd ≠ 0) (n1 : kd ≠ 1) (n2 : kd ≠ 2) (n3 : kd ≠ 3) (n4 : kd ≠ 4) :
    Calls Tryd.prog 30 #[.pointer none, v, .agg #[.int .i64 kd, .int .i64 t.k, .int .u32 t.s, .int .u32 t.v]] w (NilPost w) := by
  have HS := hide hS
  have HW := hide hw
  have hb0 := below_alloc (Below.refl _ w) (.cells #[.int .i64 kd, .int .i64 t.k, .int .u32 t.s, .int .u32 t.v] 57)
  have HB0 := hide hb0
  have H := hide (h.below' hb0)
  have hbx := blk_new w (.cells #[.int .i64 kd, .int .i64 t.k, .int .u32 t.s, .int .u32 t.v] 57)
  have HBX := hide hbx
  have HLT := hide (show w.heap.size < (w.alloc (.cells #[.int .i64 kd, .int .i64 t.k, .int .u32 t.s, .int .u32 t.v] 57)).heap.size by simp)
  obtain ⟨a, cap, hv, _, _⟩ := Row.form h
  subst hv
  have b0 : (kd == 0) = false := by simp; omega
  have b1 : (kd == 1) = false := by simp; omega
  have b2 : (kd == 2) = false := by simp; omega
  have b3 : (kd == 3) = false := by simp; omega
  have b4 : (kd == 4) = false := by simp; omega
  clear n0 n1 n2 n3 n4
  clear hS hw h hbx hb0
  go_enter Tryd.func30, Tryd.ntmps30
  go_wp2
  go_quiet (first | (go_at_call 34; refine Calls.quiet_of_same ((lane_count_nil t.k _).mono (fun _ _ h => ⟨h.1, h.2.symm⟩))) | (go_at_call 35; refine Calls.quiet_of_same ((ref_count (H.out.below' (below_drewN (Below.refl _ _) _)) t.k).mono (fun _ _ h => ⟨h.1, h.2.symm⟩))))
  go_wp2
  go_ret2
  exact ⟨_, rfl, H.out.below' (below_drewN (Below.refl _ _) _), below_drewN HB0.out _⟩

theorem stepnil_any (E : Nat → Addr) (w : World) (v : Value) (h : TkRow w v []) (hS : Sent w E) (kd : Int) (t : Tk) (hw : t.Wf) :
    Calls Tryd.prog 30 #[.pointer none, v, .agg #[.int .i64 kd, .int .i64 t.k, .int .u32 t.s, .int .u32 t.v]] w (NilPost w) := by
  by_cases h0 : kd = 0
  · subst h0; exact stepnil_put E w v h hS t hw
  by_cases h1 : kd = 1
  · subst h1; exact stepnil_next E w v h hS t hw
  by_cases h2 : kd = 2
  · subst h2; exact stepnil_with E w v h hS t hw
  by_cases h3 : kd = 3
  · subst h3; exact stepnil_forget E w v h hS t hw
  by_cases h4 : kd = 4
  · subst h4; exact stepnil_clear E w v h hS t hw
  exact stepnil_count E w v h hS t hw kd h0 h1 h2 h3 h4
end Go.Proofs.YtdeonehebbofiaaDoor
