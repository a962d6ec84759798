/-
  The document's Put.
-/
import Derived.Test.YtdeonehebbofiaaDoorRefA
import Derived.Test.YtdeonehebbofiaaDoorRefB
import Derived.Test.YtdeonehebbofiaaDoorRefC
namespace Go.Proofs.YtdeonehebbofiaaDoor
open Go.RowKit

def putR (ts : List Tk) (t : Tk) : List Tk × Nat :=
  if may t ≠ 0 then (ts, may t) else
  match ts.findIdx? (keyB t.k t.s) with
  | none => (ts ++ [t], 0)
  | some i => if t.k = 5 ∨ t.k = 6 then (ts ++ [t], 0) else if t.k ≠ 3 then (ts, 8) else
    match ts[i]? with
    | none => (ts, 0)
    | some u => if 4294967295 < u.v + t.v then (ts, 4) else (ts.set i { u with v := u.v + t.v }, 0)

theorem tcells_set {ts : List Tk} {i : Nat} {u : Tk} (h : ts[i]? = some u) (x : Int) : tcells (ts.set i { u with v := x }) = (tcells ts).set (i * 3 + 2) (.int .u32 x) := by
  induction ts generalizing i with
  | nil => simp at h
  | cons t ts ih =>
    cases i with
    | zero =>
      simp at h
      subst h
      rfl
    | succ i =>
      simp at h
      have e : ∀ (a : Tk) (r : List Tk), tcells (a :: r) = a.cells ++ tcells r := fun _ _ => rfl
      rw [List.set_cons_succ, e, e, ih h, List.set_append_right _ _ (by simp [Tk.cells]; omega)]
      congr 2
      simp [Tk.cells]
      omega

def PutRPost (w : World) (v : Value) (ts : List Tk) (t : Tk) (e : Ending) (w' : World) : Prop :=
  ∃ v', e = .returned (.tuple #[v', .int .i64 (putR ts t).2]) ∧ TkRow w' v' (putR ts t).1 ∧ (v' = v ∨ ∀ b, v'.ownBlock = some b → w.heap.size ≤ b) ∧ Below w.heap.size w w'

set_option maxRecDepth 100000 in
set_option maxHeartbeats 1600000 in
theorem refput_bad {w : World} {v : Value} {ts : List Tk} (h : TkRow w v ts) (hl : ts.length ≤ LB) (t : Tk) (hm : may t ≠ 0) :
    Calls Tryd.prog 73 #[v, t.val] w (PutRPost w v ts t) := by
  have hps : putR ts t = (ts, may t) := by simp [putR, hm]
  unfold PutRPost
  rw [hps]
  have HMAY := hide (ref_may t (w.alloc (.cells #[.int .i64 t.k, .int .u32 t.s, .int .u32 t.v] 55)))
  have HR := hide h
  have hl2 : ts.length ≤ 8000000000000 := hl
  obtain ⟨i0, hinfo, hz0, hz1, hz2⟩ := info_parts infoTk
  obtain ⟨a, cap, hv, hcap, hcm⟩ := Row.form h
  subst hv
  clear h hps
  have HMZ := hide (show may t = may t from rfl)
  have hmb : (((may t : Nat) : Int) == 0) = false := by simp; omega
  have hmb2 : (((may t : Nat) : Int) != 0) = true := by simp; omega
  generalize may t = m at *
  clear hm
  unfold Tk.val
  go_enter Tryd.func73, Tryd.ntmps73
  go_wp2_with (go_at_call 89; refine HMAY.out.mono ?_; rintro e5 w5 ⟨rfl, hb5⟩; have HB5 := hide (below_then (below_alloc (Below.refl _ w) _) (by simp) hb5); have t5 : w5.heap[w.heap.size]? = some (.cells #[.int .i64 t.k, .int .u32 t.s, .int .u32 t.v] 55 (0, 0)) := (hb5.block _ (by simp)).trans (blk_new w _); have x0 : w5.cell? ⟨w.heap.size, 0, none⟩ = some (.int .i64 t.k) := blk_cell t5 0; have x1 : w5.cell? ⟨w.heap.size, 1, none⟩ = some (.int .u32 t.s) := blk_cell t5 1; have x2 : w5.cell? ⟨w.heap.size, 2, none⟩ = some (.int .u32 t.v) := blk_cell t5 2; have HT5 := hide t5; clear hb5 t5)
  go_ret2
  exact ⟨_, rfl, HR.out.below' HB5.out, .inl rfl, HB5.out⟩

set_option maxRecDepth 100000 in
set_option maxHeartbeats 1600000 in
theorem refput_new {w : World} {v : Value} {ts : List Tk} (h : TkRow w v ts) (hl : ts.length ≤ LB) (t : Tk) (hm : may t = 0) (hf : ts.findIdx? (keyB t.k t.s) = none) :
    Calls Tryd.prog 73 #[v, t.val] w (PutRPost w v ts t) := by
  have hps : putR ts t = (ts ++ [t], 0) := by simp [putR, hm, hf]
  unfold PutRPost
  rw [hps]
  have HMAY := hide (ref_may t (w.alloc (.cells #[.int .i64 t.k, .int .u32 t.s, .int .u32 t.v] 55)))
  have HR := hide h
  have hl2 : ts.length ≤ 8000000000000 := hl
  obtain ⟨i0, hinfo, hz0, hz1, hz2⟩ := info_parts infoTk
  obtain ⟨a, cap, hv, hcap, hcm⟩ := Row.form h
  subst hv
  clear h hps
  have HMZ := hide hm
  have HFI := hide (show findS ts t.k t.s = -1 by unfold findS; rw [hf])
  have HM1 := hide (show 0 + ts.length ≤ maxLen by unfold maxLen; omega)
  have HM2 := hide (show (0 + ts.length) * 16 ≤ 140737488355328 by omega)
  have HM3 := hide (show ts.length + 1 ≤ maxLen by unfold maxLen; omega)
  have HM4 := hide (show (ts.length + 1) * 16 ≤ 140737488355328 by omega)
  have HONE := hide (oneCell_tcells [t])
  clear hm hf
  unfold Tk.val
  go_enter Tryd.func73, Tryd.ntmps73
  go_wp2_with (first | (go_at_call 89; refine HMAY.out.mono ?_; rintro e5 w5 ⟨rfl, hb5⟩; have HB5 := hide (below_then (below_alloc (Below.refl _ w) _) (by simp) hb5); have t5 : w5.heap[w.heap.size]? = some (.cells #[.int .i64 t.k, .int .u32 t.s, .int .u32 t.v] 55 (0, 0)) := (hb5.block _ (by simp)).trans (blk_new w _); have x0 : w5.cell? ⟨w.heap.size, 0, none⟩ = some (.int .i64 t.k) := blk_cell t5 0; have x1 : w5.cell? ⟨w.heap.size, 1, none⟩ = some (.int .u32 t.s) := blk_cell t5 1; have x2 : w5.cell? ⟨w.heap.size, 2, none⟩ = some (.int .u32 t.v) := blk_cell t5 2; have HT5 := hide t5; clear hb5 t5; rw [HMZ.out]) | (go_at_call 75; refine (ref_find (HR.out.below' HB5.out) t.k t.s).mono ?_; rintro e6 w6 ⟨rfl, rfl⟩; rw [HFI.out]) | (at_builtin; first | (refine wpList_append_row _ rfl _ _ 52 rfl 55 i0 _ 3 16 Tryd.underlying52 hinfo hz0 hz1 hz2 rfl (by decide) _ 0 [] rfl (Row.lit w5 55 3 0 #[] rfl (by decide)) _ ts.length _ rfl (Row.alloc (HR.out.below' HB5.out) _) (oneCell_tcells ts) HM1.out HM2.out ?_; intro v7 w7 hr7 hu7 ho7 hs7 hl7; have HX7 := hide (stepOne (HR.out.below' HB5.out) hr7 hu7 ho7 rfl); simp only [Nat.zero_add, List.nil_append] at hr7; obtain ⟨a7, c7, hv7, _, _⟩ := Row.form hr7; subst hv7; have y0 := (HX7.out.2.2.cell (p := ⟨w.heap.size, 0, none⟩) (blk_lt HT5.out)).trans x0; have y1 := (HX7.out.2.2.cell (p := ⟨w.heap.size, 1, none⟩) (blk_lt HT5.out)).trans x1; have y2 := (HX7.out.2.2.cell (p := ⟨w.heap.size, 2, none⟩) (blk_lt HT5.out)).trans x2; have HR7 := hide hr7; clear hr7 hu7 ho7 hl7 x0 x1 x2) | (refine wpList_append_row _ rfl _ _ 52 rfl 55 i0 _ 3 16 Tryd.underlying52 hinfo hz0 hz1 hz2 rfl (by decide) _ ts.length _ rfl (Row.alloc HR7.out _) _ 1 (tcells [t]) rfl (Row.lit w7 55 3 1 #[.int .i64 t.k, .int .u32 t.s, .int .u32 t.v] rfl (by decide)) HONE.out HM3.out HM4.out ?_; intro v8 w8 hr8 hu8 ho8 hs8 hl8; have HX8 := hide (freshNext (w := w5) (v2 := v8) HX7.out.2.1 (HX7.out.2.2.trans ((below_alloc (Below.refl _ w7) _).mono HX7.out.2.2.size)) hu8 ho8); obtain ⟨a8, c8, hv8, _, _⟩ := Row.form hr8; subst hv8; have HR8 := hide hr8; clear hr8 hu8 ho8 hl8)))
  go_ret2
  refine ⟨_, rfl, ?_, .inr (fun b hb => Nat.le_trans HB5.out.size (HX8.out.1 b hb)), HB5.out.trans (HX8.out.2.mono HB5.out.size)⟩
  have hr := HR8.out
  unfold TkRow
  rw [tcells_append, List.length_append]
  exact hr

set_option maxRecDepth 100000 in
set_option maxHeartbeats 1600000 in
theorem refput_five {w : World} {v : Value} {ts : List Tk} (h : TkRow w v ts) (hl : ts.length ≤ LB) (t : Tk) (hm : may t = 0) {i : Nat} (hf : ts.findIdx? (keyB t.k t.s) = some i) (hk : t.k = 5) :
    Calls Tryd.prog 73 #[v, t.val] w (PutRPost w v ts t) := by
  have hps : putR ts t = (ts ++ [t], 0) := by unfold putR; rw [if_neg (by simp [hm]), hf]; simp [hk]
  unfold PutRPost
  rw [hps]
  have HMAY := hide (ref_may t (w.alloc (.cells #[.int .i64 t.k, .int .u32 t.s, .int .u32 t.v] 55)))
  have HR := hide h
  have hl2 : ts.length ≤ 8000000000000 := hl
  obtain ⟨i0, hinfo, hz0, hz1, hz2⟩ := info_parts infoTk
  obtain ⟨a, cap, hv, hcap, hcm⟩ := Row.form h
  subst hv
  clear h hps
  have HMZ := hide hm
  have HFI := hide (show findS ts t.k t.s = i by unfold findS; rw [hf])
  have HM1 := hide (show 0 + ts.length ≤ maxLen by unfold maxLen; omega)
  have HM2 := hide (show (0 + ts.length) * 16 ≤ 140737488355328 by omega)
  have HM3 := hide (show ts.length + 1 ≤ maxLen by unfold maxLen; omega)
  have HM4 := hide (show (ts.length + 1) * 16 ≤ 140737488355328 by omega)
  have HONE := hide (oneCell_tcells [t])
  have hk5 : (t.k == 5) = true := by simp [hk]
  clear hm hf hk
  unfold Tk.val
  go_enter Tryd.func73, Tryd.ntmps73
  go_wp2_with (first | (go_at_call 89; refine HMAY.out.mono ?_; rintro e5 w5 ⟨rfl, hb5⟩; have HB5 := hide (below_then (below_alloc (Below.refl _ w) _) (by simp) hb5); have t5 : w5.heap[w.heap.size]? = some (.cells #[.int .i64 t.k, .int .u32 t.s, .int .u32 t.v] 55 (0, 0)) := (hb5.block _ (by simp)).trans (blk_new w _); have x0 : w5.cell? ⟨w.heap.size, 0, none⟩ = some (.int .i64 t.k) := blk_cell t5 0; have x1 : w5.cell? ⟨w.heap.size, 1, none⟩ = some (.int .u32 t.s) := blk_cell t5 1; have x2 : w5.cell? ⟨w.heap.size, 2, none⟩ = some (.int .u32 t.v) := blk_cell t5 2; have HT5 := hide t5; clear hb5 t5; rw [HMZ.out]) | (go_at_call 75; refine (ref_find (HR.out.below' HB5.out) t.k t.s).mono ?_; rintro e6 w6 ⟨rfl, rfl⟩; rw [HFI.out]) | (at_builtin; first | (refine wpList_append_row _ rfl _ _ 52 rfl 55 i0 _ 3 16 Tryd.underlying52 hinfo hz0 hz1 hz2 rfl (by decide) _ 0 [] rfl (Row.lit w5 55 3 0 #[] rfl (by decide)) _ ts.length _ rfl (Row.alloc (HR.out.below' HB5.out) _) (oneCell_tcells ts) HM1.out HM2.out ?_; intro v7 w7 hr7 hu7 ho7 hs7 hl7; have HX7 := hide (stepOne (HR.out.below' HB5.out) hr7 hu7 ho7 rfl); simp only [Nat.zero_add, List.nil_append] at hr7; obtain ⟨a7, c7, hv7, _, _⟩ := Row.form hr7; subst hv7; have y0 := (HX7.out.2.2.cell (p := ⟨w.heap.size, 0, none⟩) (blk_lt HT5.out)).trans x0; have y1 := (HX7.out.2.2.cell (p := ⟨w.heap.size, 1, none⟩) (blk_lt HT5.out)).trans x1; have y2 := (HX7.out.2.2.cell (p := ⟨w.heap.size, 2, none⟩) (blk_lt HT5.out)).trans x2; have HR7 := hide hr7; clear hr7 hu7 ho7 hl7 x0 x1 x2) | (refine wpList_append_row _ rfl _ _ 52 rfl 55 i0 _ 3 16 Tryd.underlying52 hinfo hz0 hz1 hz2 rfl (by decide) _ ts.length _ rfl (Row.alloc HR7.out _) _ 1 (tcells [t]) rfl (Row.lit w7 55 3 1 #[.int .i64 t.k, .int .u32 t.s, .int .u32 t.v] rfl (by decide)) HONE.out HM3.out HM4.out ?_; intro v8 w8 hr8 hu8 ho8 hs8 hl8; have HX8 := hide (freshNext (w := w5) (v2 := v8) HX7.out.2.1 (HX7.out.2.2.trans ((below_alloc (Below.refl _ w7) _).mono HX7.out.2.2.size)) hu8 ho8); obtain ⟨a8, c8, hv8, _, _⟩ := Row.form hr8; subst hv8; have HR8 := hide hr8; clear hr8 hu8 ho8 hl8)))
  go_ret2
  refine ⟨_, rfl, ?_, .inr (fun b hb => Nat.le_trans HB5.out.size (HX8.out.1 b hb)), HB5.out.trans (HX8.out.2.mono HB5.out.size)⟩
  have hr := HR8.out
  unfold TkRow
  rw [tcells_append, List.length_append]
  exact hr

set_option maxRecDepth 100000 in
set_option maxHeartbeats 1600000 in
theorem refput_six {w : World} {v : Value} {ts : List Tk} (h : TkRow w v ts) (hl : ts.length ≤ LB) (t : Tk) (hm : may t = 0) {i : Nat} (hf : ts.findIdx? (keyB t.k t.s) = some i) (hk : t.k = 6) :
    Calls Tryd.prog 73 #[v, t.val] w (PutRPost w v ts t) := by
  have hps : putR ts t = (ts ++ [t], 0) := by unfold putR; rw [if_neg (by simp [hm]), hf]; simp [hk]
  unfold PutRPost
  rw [hps]
  have HMAY := hide (ref_may t (w.alloc (.cells #[.int .i64 t.k, .int .u32 t.s, .int .u32 t.v] 55)))
  have HR := hide h
  have hl2 : ts.length ≤ 8000000000000 := hl
  obtain ⟨i0, hinfo, hz0, hz1, hz2⟩ := info_parts infoTk
  obtain ⟨a, cap, hv, hcap, hcm⟩ := Row.form h
  subst hv
  clear h hps
  have HMZ := hide hm
  have HFI := hide (show findS ts t.k t.s = i by unfold findS; rw [hf])
  have HM1 := hide (show 0 + ts.length ≤ maxLen by unfold maxLen; omega)
  have HM2 := hide (show (0 + ts.length) * 16 ≤ 140737488355328 by omega)
  have HM3 := hide (show ts.length + 1 ≤ maxLen by unfold maxLen; omega)
  have HM4 := hide (show (ts.length + 1) * 16 ≤ 140737488355328 by omega)
  have HONE := hide (oneCell_tcells [t])
  have hk5 : (t.k == 5) = false := by simp [hk]
  have hk6 : (t.k == 6) = true := by simp [hk]
  clear hm hf hk
  unfold Tk.val
  go_enter Tryd.func73, Tryd.ntmps73
  go_wp2_with (first | (go_at_call 89; refine HMAY.out.mono ?_; rintro e5 w5 ⟨rfl, hb5⟩; have HB5 := hide (below_then (below_alloc (Below.refl _ w) _) (by simp) hb5); have t5 : w5.heap[w.heap.size]? = some (.cells #[.int .i64 t.k, .int .u32 t.s, .int .u32 t.v] 55 (0, 0)) := (hb5.block _ (by simp)).trans (blk_new w _); have x0 : w5.cell? ⟨w.heap.size, 0, none⟩ = some (.int .i64 t.k) := blk_cell t5 0; have x1 : w5.cell? ⟨w.heap.size, 1, none⟩ = some (.int .u32 t.s) := blk_cell t5 1; have x2 : w5.cell? ⟨w.heap.size, 2, none⟩ = some (.int .u32 t.v) := blk_cell t5 2; have HT5 := hide t5; clear hb5 t5; rw [HMZ.out]) | (go_at_call 75; refine (ref_find (HR.out.below' HB5.out) t.k t.s).mono ?_; rintro e6 w6 ⟨rfl, rfl⟩; rw [HFI.out]) | (at_builtin; first | (refine wpList_append_row _ rfl _ _ 52 rfl 55 i0 _ 3 16 Tryd.underlying52 hinfo hz0 hz1 hz2 rfl (by decide) _ 0 [] rfl (Row.lit w5 55 3 0 #[] rfl (by decide)) _ ts.length _ rfl (Row.alloc (HR.out.below' HB5.out) _) (oneCell_tcells ts) HM1.out HM2.out ?_; intro v7 w7 hr7 hu7 ho7 hs7 hl7; have HX7 := hide (stepOne (HR.out.below' HB5.out) hr7 hu7 ho7 rfl); simp only [Nat.zero_add, List.nil_append] at hr7; obtain ⟨a7, c7, hv7, _, _⟩ := Row.form hr7; subst hv7; have y0 := (HX7.out.2.2.cell (p := ⟨w.heap.size, 0, none⟩) (blk_lt HT5.out)).trans x0; have y1 := (HX7.out.2.2.cell (p := ⟨w.heap.size, 1, none⟩) (blk_lt HT5.out)).trans x1; have y2 := (HX7.out.2.2.cell (p := ⟨w.heap.size, 2, none⟩) (blk_lt HT5.out)).trans x2; have HR7 := hide hr7; clear hr7 hu7 ho7 hl7 x0 x1 x2) | (refine wpList_append_row _ rfl _ _ 52 rfl 55 i0 _ 3 16 Tryd.underlying52 hinfo hz0 hz1 hz2 rfl (by decide) _ ts.length _ rfl (Row.alloc HR7.out _) _ 1 (tcells [t]) rfl (Row.lit w7 55 3 1 #[.int .i64 t.k, .int .u32 t.s, .int .u32 t.v] rfl (by decide)) HONE.out HM3.out HM4.out ?_; intro v8 w8 hr8 hu8 ho8 hs8 hl8; have HX8 := hide (freshNext (w := w5) (v2 := v8) HX7.out.2.1 (HX7.out.2.2.trans ((below_alloc (Below.refl _ w7) _).mono HX7.out.2.2.size)) hu8 ho8); obtain ⟨a8, c8, hv8, _, _⟩ := Row.form hr8; subst hv8; have HR8 := hide hr8; clear hr8 hu8 ho8 hl8)))
  go_ret2
  refine ⟨_, rfl, ?_, .inr (fun b hb => Nat.le_trans HB5.out.size (HX8.out.1 b hb)), HB5.out.trans (HX8.out.2.mono HB5.out.size)⟩
  have hr := HR8.out
  unfold TkRow
  rw [tcells_append, List.length_append]
  exact hr

set_option maxRecDepth 100000 in
set_option maxHeartbeats 1600000 in
theorem refput_twice {w : World} {v : Value} {ts : List Tk} (h : TkRow w v ts) (hl : ts.length ≤ LB) (t : Tk) (hm : may t = 0) {i : Nat} (hf : ts.findIdx? (keyB t.k t.s) = some i) (hn5 : t.k ≠ 5) (hn6 : t.k ≠ 6) (hn3 : t.k ≠ 3) :
    Calls Tryd.prog 73 #[v, t.val] w (PutRPost w v ts t) := by
  have hps : putR ts t = (ts, 8) := by simp [putR, hm, hf, hn5, hn6, hn3]
  unfold PutRPost
  rw [hps]
  have HMAY := hide (ref_may t (w.alloc (.cells #[.int .i64 t.k, .int .u32 t.s, .int .u32 t.v] 55)))
  have HR := hide h
  have hl2 : ts.length ≤ 8000000000000 := hl
  obtain ⟨i0, hinfo, hz0, hz1, hz2⟩ := info_parts infoTk
  obtain ⟨a, cap, hv, hcap, hcm⟩ := Row.form h
  subst hv
  clear h hps
  have HMZ := hide hm
  have HFI := hide (show findS ts t.k t.s = i by unfold findS; rw [hf])
  have hk5 : (t.k == 5) = false := by simp; omega
  have hk6 : (t.k == 6) = false := by simp; omega
  have hk3 : (t.k == 3) = false := by simp; omega
  have hk3' : (t.k != 3) = true := by simp; omega
  clear hm hf hn5 hn6 hn3
  unfold Tk.val
  go_enter Tryd.func73, Tryd.ntmps73
  go_wp2_with (first | (go_at_call 89; refine HMAY.out.mono ?_; rintro e5 w5 ⟨rfl, hb5⟩; have HB5 := hide (below_then (below_alloc (Below.refl _ w) _) (by simp) hb5); have t5 : w5.heap[w.heap.size]? = some (.cells #[.int .i64 t.k, .int .u32 t.s, .int .u32 t.v] 55 (0, 0)) := (hb5.block _ (by simp)).trans (blk_new w _); have x0 : w5.cell? ⟨w.heap.size, 0, none⟩ = some (.int .i64 t.k) := blk_cell t5 0; have x1 : w5.cell? ⟨w.heap.size, 1, none⟩ = some (.int .u32 t.s) := blk_cell t5 1; have x2 : w5.cell? ⟨w.heap.size, 2, none⟩ = some (.int .u32 t.v) := blk_cell t5 2; have HT5 := hide t5; clear hb5 t5; rw [HMZ.out]) | (go_at_call 75; refine (ref_find (HR.out.below' HB5.out) t.k t.s).mono ?_; rintro e6 w6 ⟨rfl, rfl⟩; rw [HFI.out]))
  go_ret2
  exact ⟨_, rfl, HR.out.below' HB5.out, .inl rfl, HB5.out⟩

set_option maxRecDepth 100000 in
set_option maxHeartbeats 1600000 in
theorem refput_over {w : World} {v : Value} {ts : List Tk} (h : TkRow w v ts) (hl : ts.length ≤ LB) (t : Tk) (hm : may t = 0) {i : Nat} (hf : ts.findIdx? (keyB t.k t.s) = some i) (hk : t.k = 3) {u : Tk} (hu : ts[i]? = some u) (hw : t.Wf) (hw2 : u.Wf) (hov : 4294967295 < u.v + t.v) :
    Calls Tryd.prog 73 #[v, t.val] w (PutRPost w v ts t) := by
  have hps : putR ts t = (ts, 4) := by unfold putR; rw [if_neg (by simp [hm]), hf]; simp only []; rw [if_neg (by omega), if_neg (by omega), hu]; simp [hov]
  unfold PutRPost
  rw [hps]
  have HMAY := hide (ref_may t (w.alloc (.cells #[.int .i64 t.k, .int .u32 t.s, .int .u32 t.v] 55)))
  have HR := hide h
  have hl2 : ts.length ≤ 8000000000000 := hl
  obtain ⟨i0, hinfo, hz0, hz1, hz2⟩ := info_parts infoTk
  obtain ⟨a, cap, hv, hcap, hcm⟩ := Row.form h
  subst hv
  clear h hps
  have HMZ := hide hm
  have HFI := hide (show findS ts t.k t.s = i by unfold findS; rw [hf])
  obtain ⟨hil, hiu⟩ := List.getElem?_eq_some_iff.1 hu
  clear hiu
  obtain ⟨lb, off, cap', hv, _, _, _, hlb⟩ := Row.begins HR.out (by omega)
  injection hv with ha hle hc
  clear hle
  subst ha; subst hc
  have HU := hide hu
  have hk5 : (t.k == 5) = false := by simp; omega
  have hk6 : (t.k == 6) = false := by simp; omega
  have hk3' : (t.k != 3) = false := by simp; omega
  have hk3 : (t.k == 3) = true := by simp; omega
  have g0 := hw.v0
  have g1 := hw.v1
  have g2 := hw2.v0
  have g3 := hw2.v1
  clear hm hf hk hu hw hw2
  unfold Tk.val
  go_enter Tryd.func73, Tryd.ntmps73
  go_wp2_with (first | (go_at_call 89; refine HMAY.out.mono ?_; rintro e5 w5 ⟨rfl, hb5⟩; have HB5 := hide (below_then (below_alloc (Below.refl _ w) _) (by simp) hb5); have t5 : w5.heap[w.heap.size]? = some (.cells #[.int .i64 t.k, .int .u32 t.s, .int .u32 t.v] 55 (0, 0)) := (hb5.block _ (by simp)).trans (blk_new w _); have x0 : w5.cell? ⟨w.heap.size, 0, none⟩ = some (.int .i64 t.k) := blk_cell t5 0; have x1 : w5.cell? ⟨w.heap.size, 1, none⟩ = some (.int .u32 t.s) := blk_cell t5 1; have x2 : w5.cell? ⟨w.heap.size, 2, none⟩ = some (.int .u32 t.v) := blk_cell t5 2; have HT5 := hide t5; clear hb5 t5; rw [HMZ.out]; obtain ⟨q0, q1, q2⟩ := (HR.out.below' HB5.out).cells HU.out) | (go_at_call 75; refine (ref_find (HR.out.below' HB5.out) t.k t.s).mono ?_; rintro e6 w6 ⟨rfl, rfl⟩; rw [HFI.out]))
  go_quiet (fail)
  go_wp2
  go_ret2
  exact ⟨_, rfl, HR.out.below' (below_drewN HB5.out _), .inl rfl, below_drewN HB5.out _⟩

set_option maxRecDepth 100000 in
set_option maxHeartbeats 1600000 in
theorem refput_add {w : World} {v : Value} {ts : List Tk} (h : TkRow w v ts) (hl : ts.length ≤ LB) (t : Tk) (hm : may t = 0) {i : Nat} (hf : ts.findIdx? (keyB t.k t.s) = some i) (hk : t.k = 3) {u : Tk} (hu : ts[i]? = some u) (hw : t.Wf) (hw2 : u.Wf) (hov : ¬ 4294967295 < u.v + t.v) :
    Calls Tryd.prog 73 #[v, t.val] w (PutRPost w v ts t) := by
  have hps : putR ts t = (ts.set i { u with v := u.v + t.v }, 0) := by unfold putR; rw [if_neg (by simp [hm]), hf]; simp only []; rw [if_neg (by omega), if_neg (by omega), hu]; simp [hov]
  unfold PutRPost
  rw [hps]
  have HMAY := hide (ref_may t (w.alloc (.cells #[.int .i64 t.k, .int .u32 t.s, .int .u32 t.v] 55)))
  have HR := hide h
  have hl2 : ts.length ≤ 8000000000000 := hl
  obtain ⟨i0, hinfo, hz0, hz1, hz2⟩ := info_parts infoTk
  obtain ⟨a, cap, hv, hcap, hcm⟩ := Row.form h
  subst hv
  clear h hps
  have HMZ := hide hm
  have HFI := hide (show findS ts t.k t.s = i by unfold findS; rw [hf])
  have HM1 := hide (show 0 + ts.length ≤ maxLen by unfold maxLen; omega)
  have HM2 := hide (show (0 + ts.length) * 16 ≤ 140737488355328 by omega)
  have HM3 := hide (show ts.length + 1 ≤ maxLen by unfold maxLen; omega)
  have HM4 := hide (show (ts.length + 1) * 16 ≤ 140737488355328 by omega)
  have HONE := hide (oneCell_tcells [t])
  obtain ⟨hil, hiu⟩ := List.getElem?_eq_some_iff.1 hu
  clear hiu
  obtain ⟨lb, off, cap', hv, _, _, _, hlb⟩ := Row.begins HR.out (by omega)
  injection hv with ha hle hc
  clear hle
  subst ha; subst hc
  have HU := hide hu
  have hk5 : (t.k == 5) = false := by simp; omega
  have hk6 : (t.k == 6) = false := by simp; omega
  have hk3' : (t.k != 3) = false := by simp; omega
  have hk3 : (t.k == 3) = true := by simp; omega
  have g0 := hw.v0
  have g1 := hw.v1
  have g2 := hw2.v0
  have g3 := hw2.v1
  clear hm hf hk hu hw hw2
  unfold Tk.val
  go_enter Tryd.func73, Tryd.ntmps73
  go_wp2_with (first | (go_at_call 89; refine HMAY.out.mono ?_; rintro e5 w5 ⟨rfl, hb5⟩; have HB5 := hide (below_then (below_alloc (Below.refl _ w) _) (by simp) hb5); have t5 : w5.heap[w.heap.size]? = some (.cells #[.int .i64 t.k, .int .u32 t.s, .int .u32 t.v] 55 (0, 0)) := (hb5.block _ (by simp)).trans (blk_new w _); have x0 : w5.cell? ⟨w.heap.size, 0, none⟩ = some (.int .i64 t.k) := blk_cell t5 0; have x1 : w5.cell? ⟨w.heap.size, 1, none⟩ = some (.int .u32 t.s) := blk_cell t5 1; have x2 : w5.cell? ⟨w.heap.size, 2, none⟩ = some (.int .u32 t.v) := blk_cell t5 2; have HT5 := hide t5; clear hb5 t5; rw [HMZ.out]; obtain ⟨q0, q1, q2⟩ := (HR.out.below' HB5.out).cells HU.out) | (go_at_call 75; refine (ref_find (HR.out.below' HB5.out) t.k t.s).mono ?_; rintro e6 w6 ⟨rfl, rfl⟩; rw [HFI.out]))
  go_quiet (fail)
  go_wp2_with (at_builtin; (refine wpList_append_row _ rfl _ _ 52 rfl 55 i0 _ 3 16 Tryd.underlying52 hinfo hz0 hz1 hz2 rfl (by decide) _ 0 [] rfl (Row.lit _ 55 3 0 #[] rfl (by decide)) _ ts.length _ rfl (Row.alloc (Row.drewN (HR.out.below' HB5.out) _) _) (oneCell_tcells ts) HM1.out HM2.out ?_; intro v7 w7 hr7 hu7 ho7 hs7 hl7; have HX7 := hide (stepOne (Row.drewN (HR.out.below' HB5.out) _) hr7 hu7 ho7 rfl); simp only [Nat.zero_add, List.nil_append] at hr7; obtain ⟨b7, o7, c7, hv7, _, _, _, _⟩ := Row.begins hr7 (by omega); subst hv7; obtain ⟨z0, z1, z2⟩ := TkRow.cells hr7 HU.out; have zf : ∀ i, w7.frozen? ⟨b7, i, none⟩ = false := (fun i => Row.frozen hr7 i); have HR7 := hide hr7; clear hr7 hu7 ho7 hl7 x0 x1 x2))
  go_ret2
  have hb7 := HX7.out.2.2
  have hn7 := HX7.out.2.1 b7 rfl
  have hbw : Below w.heap.size w w7 := (below_drewN HB5.out _).trans (hb7.mono HB5.out.size)
  have hbs : w.heap.size ≤ b7 := Nat.le_trans HB5.out.size hn7
  refine ⟨_, rfl, ?_, .inr (fun b hb => ?_), hbw.setCell hbs _⟩
  · have hr := Row.set HR7.out (i := i * 3 + 2) (by omega) (.int .u32 (u.v + t.v))
    unfold TkRow
    rw [tcells_set HU.out, List.length_set]
    first | exact hr | simpa [Nat.add_assoc] using hr
  · simp [Value.ownBlock] at hb
    omega

end Go.Proofs.YtdeonehebbofiaaDoor
