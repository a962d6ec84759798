/-
  The law's step on a lane and the document's list.
-/
import Derived.Test.YtdeonehebbofiaaDoorLaw0
import Derived.Deep.RegionWith
import Derived.BigQuiet
set_option linter.unusedVariables false
namespace Go.Proofs.YtdeonehebbofiaaDoor
open Go.RowKit

structure LawSt (w0 w : World) (own : Nat → Prop) (g : Nat) (v : Value) (ts : List Tk) : Prop where
  ls : LS w0 w own g ts
  row : TkRow w v ts
  apart : ∀ b, v.ownBlock = some b → ¬ own b
theorem LawSt.same {w0 w w' : World} {own : Nat → Prop} {g : Nat} {v : Value} {ts : List Tk} (h : LawSt w0 w own g v ts) (hb : Below w.heap.size w w') : LawSt w0 w' own g v ts :=
  ⟨h.ls.same hb, h.row.below' hb, h.apart⟩
theorem LawSt.alloc {w0 w : World} {own : Nat → Prop} {g : Nat} {v : Value} {ts : List Tk} (h : LawSt w0 w own g v ts) (o : Obj) : LawSt w0 (w.alloc o) own g v ts := h.same (below_alloc (Below.refl _ w) o)
/-- The lane moves on, and the row is another, apart from it. -/
theorem LawSt.to {w0 w w' : World} {own : Nat → Prop} {g : Nat} {ts ts' us : List Tk} {v : Value} (h : LS w0 w own g ts) (hr : TkRow w v us) (ha : ∀ b, v.ownBlock = some b → ¬ own b) (hl : LaneTo w own g ts' w') :
    ∃ own', LS w0 w' own' g ts' ∧ TkRow w' v us ∧ (∀ b, v.ownBlock = some b → ¬ own' b) ∧ Upd own w w' := by
  obtain ⟨own', hI, hU, hO⟩ := hl
  refine ⟨own', ⟨hI, h.low.trans (hU.below h.low.size (fun i hi e => by have := h.far i e; omega)), fun k hk => ?_⟩, Row.upd hr hU (fun k hk => ha k hk), fun b hb ho => ?_, hU⟩
  · rcases hO k hk with h1 | h1
    · exact h.far k h1
    · have := h.low.size; omega
  · rcases hO b ho with h1 | h1
    · exact ha b hb h1
    · have := hr.lt' b hb; omega
/-- The row is another: the old one, or one in new memory. -/
theorem LawSt.row' {w0 w : World} {own : Nat → Prop} {g : Nat} {v v' : Value} {ts : List Tk} (h : LawSt w0 w own g v ts) (hf : v' = v ∨ ∀ b, v'.ownBlock = some b → w.heap.size ≤ b) : ∀ b, v'.ownBlock = some b → ¬ own b := by
  intro b hb ho
  rcases hf with rfl | hf
  · exact h.apart b hb ho
  · have := hf b hb; have := h.ls.lane.own_lt b ho; omega

theorem code_any (E : Nat → Addr) (w : World) (hS : Sent w E) (k : Nat) (h2 : k ≤ 15) : Calls Tryd.prog 16 #[errOf E k] w fun e w' => e = .returned (.int .i64 k) ∧ w = w' := by
  by_cases h : k = 0
  · subst h
    exact code_nil w
  · rw [show errOf E k = errv (E k) from if_neg h]
    exact code_sent E w hS k (by omega) (by omega) (by omega)
theorem putS_le (ts : List Tk) (t : Tk) : (putS ts t).2 ≤ 15 := by
  unfold putS
  have := may_le t
  split
  · exact this
  · split
    · simp
    · split
      · simp
      · split <;> simp
theorem putS_len (ts : List Tk) (t : Tk) : (putS ts t).1.length ≤ ts.length + 1 := by
  unfold putS
  split
  · simp
  · split
    · simp
    · split
      · simp
      · split <;> simp [addGrant]

theorem next_nil_is {w : World} {own : Nat → Prop} {g : Nat} (h : IsLane w own g []) : Calls Tryd.prog 72 #[.pointer (some ⟨g, 0, none⟩)] w fun e w' =>
    e = .returned (.tuple #[.agg #[.int .i64 0, .int .u32 0, .int .u32 0], .bool false]) ∧ LaneTo w own g [] w' := by
  refine (lane_next_is h (by decide)).mono ?_
  rintro e w' (⟨_, rfl, hto⟩ | ⟨_, _, hc, _⟩)
  · exact ⟨rfl, hto⟩
  · cases hc
theorem next_cons_is {w : World} {own : Nat → Prop} {g : Nat} {t : Tk} {r : List Tk} (h : IsLane w own g (t :: r)) (hl : (t :: r).length ≤ LB) : Calls Tryd.prog 72 #[.pointer (some ⟨g, 0, none⟩)] w fun e w' =>
    e = .returned (.tuple #[.agg #[.int .i64 t.k, .int .u32 t.s, .int .u32 t.v], .bool true]) ∧ LaneTo w own g r w' := by
  refine (lane_next_is h hl).mono ?_
  rintro e w' (⟨h1, _⟩ | ⟨t', r', h1, rfl, hto⟩)
  · cases h1
  · injection h1 with h1 h2
    subst h1; subst h2
    exact ⟨rfl, hto⟩

def StepPost (w0 w : World) (g : Nat) (ts : List Tk) (e : Ending) (w' : World) : Prop :=
  ∃ own' v' ts', e = .returned (.tuple #[v', .bool true]) ∧ LawSt w0 w' own' g v' ts' ∧ ts'.length ≤ ts.length + 1 ∧ w.heap.size ≤ w'.heap.size

set_option maxRecDepth 100000 in
set_option maxHeartbeats 3200000 in
theorem step_put (E : Nat → Addr) (w0 w : World) (own : Nat → Prop) (g : Nat) (v : Value) (ts : List Tk) (h : LawSt w0 w own g v ts) (hS : Sent w0 E) (hF : Forms w0) (t : Tk) (hw : t.Wf) (hl : ts.length ≤ LB) :
    Calls Tryd.prog 30 #[.pointer (some ⟨g, 0, none⟩), v, .agg #[.int .i64 0, .int .i64 t.k, .int .u32 t.s, .int .u32 t.v]] w (StepPost w0 w g ts) := by
  have HS := hide hS
  have HF := hide hF
  have HW := hide hw
  have H0 := hide h
  have H := hide (h.alloc (.cells #[.int .i64 0, .int .i64 t.k, .int .u32 t.s, .int .u32 t.v] 57))
  have hbx := blk_new w (.cells #[.int .i64 0, .int .i64 t.k, .int .u32 t.s, .int .u32 t.v] 57)
  have HBX := hide hbx
  have HLT := hide (show w.heap.size < (w.alloc (.cells #[.int .i64 0, .int .i64 t.k, .int .u32 t.s, .int .u32 t.v] 57)).heap.size by simp)
  obtain ⟨a, cap, hv, _, _⟩ := Row.form h.row
  subst hv
  have HP := hide (ref_put_is H.out.row hl t hw H.out.ls.lane.wf H.out.ls.lane.uniq)
  have HPL := hide (putS_le ts t)
  have HPN := hide (putS_len ts t)
  clear hS hF hw h hbx
  go_enter Tryd.func30, Tryd.ntmps30
  go_wp2_with (first
    | (go_at_call 73; (refine HP.out.mono ?_; rintro e1 w1 ⟨v1, rfl, r1, f1, b1⟩; have t1 := (b1.block w.heap.size HLT.out).trans HBX.out; have x0 : w1.cell? ⟨w.heap.size, 1, none⟩ = some (.int .i64 t.k) := blk_cell t1 1; have x1 : w1.cell? ⟨w.heap.size, 2, none⟩ = some (.int .u32 t.s) := blk_cell t1 2; have x2 : w1.cell? ⟨w.heap.size, 3, none⟩ = some (.int .u32 t.v) := blk_cell t1 3; clear t1; have HR1 := hide r1; have HA1 := hide (H.out.row' f1); have HB1 := hide b1; clear r1 f1 b1))
    | (go_at_call 71; refine (lane_put_is (H.out.ls.same HB1.out).lane (HS.out.belows (H.out.ls.same HB1.out).low) (HF.out.belows (H.out.ls.same HB1.out).low) t HW.out hl).mono ?_; rintro e2 w2 ⟨rfl, hto⟩; have HN := hide (LawSt.to (H.out.ls.same HB1.out) HR1.out HA1.out hto); clear hto)
    | (go_at_call 16; refine (code_any E w2 (HS.out.belows (by obtain ⟨_, h1, _⟩ := HN.out; exact h1.low)) _ HPL.out).mono ?_; rintro e3 w3 ⟨rfl, rfl⟩))
  go_ret2
  obtain ⟨own', h1, h2, h3, h4⟩ := HN.out
  exact ⟨own', _, _, rfl, ⟨h1, h2, h3⟩, HPN.out, Nat.le_trans (by simp) (Nat.le_trans HB1.out.size h4.size)⟩

set_option maxRecDepth 100000 in
set_option maxHeartbeats 3200000 in
theorem step_next_nil (E : Nat → Addr) (w0 w : World) (own : Nat → Prop) (g : Nat) (v : Value) (ts : List Tk) (h : LawSt w0 w own g v ts) (hS : Sent w0 E) (hF : Forms w0) (t : Tk) (hw : t.Wf) (hl : ts.length ≤ LB) (hts : ts = []) :
    Calls Tryd.prog 30 #[.pointer (some ⟨g, 0, none⟩), v, .agg #[.int .i64 1, .int .i64 t.k, .int .u32 t.s, .int .u32 t.v]] w (StepPost w0 w g ts) := by
  have HS := hide hS
  have HF := hide hF
  have HW := hide hw
  have H0 := hide h
  have H := hide (h.alloc (.cells #[.int .i64 1, .int .i64 t.k, .int .u32 t.s, .int .u32 t.v] 57))
  have hbx := blk_new w (.cells #[.int .i64 1, .int .i64 t.k, .int .u32 t.s, .int .u32 t.v] 57)
  have HBX := hide hbx
  have HLT := hide (show w.heap.size < (w.alloc (.cells #[.int .i64 1, .int .i64 t.k, .int .u32 t.s, .int .u32 t.v] 57)).heap.size by simp)
  obtain ⟨a, cap, hv, _, _⟩ := Row.form h.row
  subst hv
  subst hts
  clear hS hF hw h hbx
  go_enter Tryd.func30, Tryd.ntmps30
  go_wp2_with (go_at_call 72; refine (next_nil_is H.out.ls.lane).mono ?_; rintro e1 w1 ⟨rfl, hto⟩; have HN := hide (LawSt.to H.out.ls H.out.row H.out.apart hto); clear hto)
  go_quiet (fail)
  go_wp2
  go_ret2
  obtain ⟨own', h1, h2, h3, h4⟩ := HN.out
  have hb := below_alloc (Below.refl _ w1) (.cells #[.int .i64 0, .int .u32 0, .int .u32 0] 55)
  exact ⟨own', _, _, rfl, LawSt.same ⟨h1, h2, h3⟩ (below_drewN hb _), by simp, Nat.le_trans (Nat.le_trans (by simp) h4.size) hb.size⟩

set_option maxRecDepth 100000 in
set_option maxHeartbeats 3200000 in
theorem step_next_cons (E : Nat → Addr) (w0 w : World) (own : Nat → Prop) (g : Nat) (v : Value) (ts : List Tk) (h : LawSt w0 w own g v ts) (hS : Sent w0 E) (hF : Forms w0) (t : Tk) (hw : t.Wf) (hl : ts.length ≤ LB) (u : Tk) (r : List Tk) (hts : ts = u :: r) :
    Calls Tryd.prog 30 #[.pointer (some ⟨g, 0, none⟩), v, .agg #[.int .i64 1, .int .i64 t.k, .int .u32 t.s, .int .u32 t.v]] w (StepPost w0 w g ts) := by
  have HS := hide hS
  have HF := hide hF
  have HW := hide hw
  have H0 := hide h
  have H := hide (h.alloc (.cells #[.int .i64 1, .int .i64 t.k, .int .u32 t.s, .int .u32 t.v] 57))
  have hbx := blk_new w (.cells #[.int .i64 1, .int .i64 t.k, .int .u32 t.s, .int .u32 t.v] 57)
  have HBX := hide hbx
  have HLT := hide (show w.heap.size < (w.alloc (.cells #[.int .i64 1, .int .i64 t.k, .int .u32 t.s, .int .u32 t.v] 57)).heap.size by simp)
  obtain ⟨a, cap, hv, _, _⟩ := Row.form h.row
  subst hv
  subst hts
  obtain ⟨lb, off, cap', hv, _, _, _, hlb⟩ := Row.begins H.out.row (by simp)
  injection hv with ha hle hc
  clear hle
  subst ha; subst hc
  have hl0 : 0 < (u :: r).length := by simp
  have HL0 := hide hl0
  clear hS hF hw h hbx
  go_enter Tryd.func30, Tryd.ntmps30
  go_wp2_with (go_at_call 72; refine (next_cons_is H.out.ls.lane hl).mono ?_; rintro e1 w1 ⟨rfl, hto⟩; have HN := hide (LawSt.to H.out.ls H.out.row H.out.apart hto); clear hto)
  obtain ⟨own1, h1, h2, h3, h4⟩ := HN.out
  have hb1 : Below w1.heap.size w1 (w1.alloc (.cells #[.int .i64 u.k, .int .u32 u.s, .int .u32 u.v] 55)).drew := below_drewN (below_alloc (Below.refl _ w1) _) 1
  have hwi := ref_without (h2.below' hb1) hl 0 hl0
  have HWI := hide hwi
  have HRD := hide (h2.below' hb1)
  have hnb := blk_new w1 (.cells #[.int .i64 u.k, .int .u32 u.s, .int .u32 u.v] 55)
  have HNB := hide hnb
  have HLT1 := hide (show w1.heap.size < (w1.alloc (.cells #[.int .i64 u.k, .int .u32 u.s, .int .u32 u.v] 55)).drew.heap.size from blk_lt hnb)
  have HLS := hide (h1.same hb1)
  have HSZ := hide (Nat.le_trans h4.size hb1.size)
  have HAP := hide h3
  clear h1 h2 h3 h4 hb1 hwi hnb
  go_region_with (go_at_call 74; refine HWI.out.mono ?_; rintro e2 w2 ⟨v2, rfl, r2, o2, b2⟩; have hbu := (b2.block w1.heap.size HLT1.out).trans HNB.out; have y0 : w2.cell? ⟨w1.heap.size, 0, none⟩ = some (.int .i64 u.k) := blk_cell hbu 0; have y1 : w2.cell? ⟨w1.heap.size, 1, none⟩ = some (.int .u32 u.s) := blk_cell hbu 1; have y2 : w2.cell? ⟨w1.heap.size, 2, none⟩ = some (.int .u32 u.v) := blk_cell hbu 2; obtain ⟨p0, p1, p2⟩ := TkRow.cells (HRD.out.below' b2) (i := 0) rfl; simp only [Nat.zero_mul, Nat.add_zero] at p0 p1 p2; have HR2 := hide r2; have HO2 := hide o2; have HB2 := hide b2; clear r2 o2 b2 hbu)
  all_goals (go_wp2; go_ret2; exact ⟨own1, _, r, rfl, LawSt.mk (HLS.out.same HB2.out) HR2.out (fun b hb ho => by have := HO2.out b hb; have := HLS.out.lane.own_lt b ho; omega), by simp; omega, Nat.le_trans (Nat.le_trans (by simp) HSZ.out) HB2.out.size⟩)

set_option maxRecDepth 100000 in
set_option maxHeartbeats 3200000 in
theorem step_with_none (E : Nat → Addr) (w0 w : World) (own : Nat → Prop) (g : Nat) (v : Value) (ts : List Tk) (h : LawSt w0 w own g v ts) (hS : Sent w0 E) (hF : Forms w0) (t : Tk) (hw : t.Wf) (hl : ts.length ≤ LB) (hf : ts.findIdx? (keyB t.k t.s) = none) :
    Calls Tryd.prog 30 #[.pointer (some ⟨g, 0, none⟩), v, .agg #[.int .i64 2, .int .i64 t.k, .int .u32 t.s, .int .u32 t.v]] w (StepPost w0 w g ts) := by
  have HS := hide hS
  have HF := hide hF
  have HW := hide hw
  have H0 := hide h
  have H := hide (h.alloc (.cells #[.int .i64 2, .int .i64 t.k, .int .u32 t.s, .int .u32 t.v] 57))
  have hbx := blk_new w (.cells #[.int .i64 2, .int .i64 t.k, .int .u32 t.s, .int .u32 t.v] 57)
  have HBX := hide hbx
  have HLT := hide (show w.heap.size < (w.alloc (.cells #[.int .i64 2, .int .i64 t.k, .int .u32 t.s, .int .u32 t.v] 57)).heap.size by simp)
  obtain ⟨a, cap, hv, _, _⟩ := Row.form h.row
  subst hv
  have HFI := hide (show findS ts t.k t.s = -1 by unfold findS; rw [hf])
  have HANY := hide (show ts.any (keyB t.k t.s) = false by rw [any_findIdx, hf]; rfl)
  have HER := hide (show ts.eraseP (keyB t.k t.s) = ts by rw [eraseP_findIdx, hf])
  clear hf
  clear hS hF hw h hbx
  go_enter Tryd.func30, Tryd.ntmps30
  go_wp2_with (first | (go_at_call 75; refine (ref_find H.out.row t.k t.s).mono ?_; rintro e0 wz ⟨rfl, rfl⟩; rw [HFI.out]) | (go_at_call 76; refine (lane_withdraw_is H.out.ls.lane hl t.k t.s).mono ?_; rintro e1 w1 ⟨rfl, hto⟩; rw [HANY.out]; have hbx1 := (LawSt.to H.out.ls H.out.row H.out.apart hto).choose_spec.2.2.2.keeps HBX.out (fun e => by have := H0.out.ls.lane.own_lt _ e; omega); have HN := hide (LawSt.to H.out.ls H.out.row H.out.apart hto); clear hto))
  go_ret2
  obtain ⟨own', h1, h2, h3, h4⟩ := HN.out
  rw [HER.out] at h1
  exact ⟨own', _, _, rfl, ⟨h1, h2, h3⟩, by omega, Nat.le_trans (by simp) h4.size⟩

set_option maxRecDepth 100000 in
set_option maxHeartbeats 3200000 in
theorem step_with_some (E : Nat → Addr) (w0 w : World) (own : Nat → Prop) (g : Nat) (v : Value) (ts : List Tk) (h : LawSt w0 w own g v ts) (hS : Sent w0 E) (hF : Forms w0) (t : Tk) (hw : t.Wf) (hl : ts.length ≤ LB) (i : Nat) (hf : ts.findIdx? (keyB t.k t.s) = some i) :
    Calls Tryd.prog 30 #[.pointer (some ⟨g, 0, none⟩), v, .agg #[.int .i64 2, .int .i64 t.k, .int .u32 t.s, .int .u32 t.v]] w (StepPost w0 w g ts) := by
  have HS := hide hS
  have HF := hide hF
  have HW := hide hw
  have H0 := hide h
  have H := hide (h.alloc (.cells #[.int .i64 2, .int .i64 t.k, .int .u32 t.s, .int .u32 t.v] 57))
  have hbx := blk_new w (.cells #[.int .i64 2, .int .i64 t.k, .int .u32 t.s, .int .u32 t.v] 57)
  have HBX := hide hbx
  have HLT := hide (show w.heap.size < (w.alloc (.cells #[.int .i64 2, .int .i64 t.k, .int .u32 t.s, .int .u32 t.v] 57)).heap.size by simp)
  obtain ⟨a, cap, hv, _, _⟩ := Row.form h.row
  subst hv
  have HFI := hide (show findS ts t.k t.s = i by unfold findS; rw [hf])
  have HANY := hide (show ts.any (keyB t.k t.s) = true by rw [any_findIdx, hf]; rfl)
  have HER := hide (show ts.eraseP (keyB t.k t.s) = ts.eraseIdx i by rw [eraseP_findIdx, hf])
  have HIL := hide (show i < ts.length from (List.findIdx?_eq_some_iff_getElem.1 hf).1)
  have hi0 : (0 : Int) ≤ (i : Int) := by omega
  clear hf
  clear hS hF hw h hbx
  go_enter Tryd.func30, Tryd.ntmps30
  go_wp2_with (first | (go_at_call 75; refine (ref_find H.out.row t.k t.s).mono ?_; rintro e0 wz ⟨rfl, rfl⟩; rw [HFI.out]) | (go_at_call 76; refine (lane_withdraw_is H.out.ls.lane hl t.k t.s).mono ?_; rintro e1 w1 ⟨rfl, hto⟩; rw [HANY.out]; have hbx1 := (LawSt.to H.out.ls H.out.row H.out.apart hto).choose_spec.2.2.2.keeps HBX.out (fun e => by have := H0.out.ls.lane.own_lt _ e; omega); have HN := hide (LawSt.to H.out.ls H.out.row H.out.apart hto); clear hto) | (go_at_call 74; obtain ⟨own1, h1, h2, h3, h4⟩ := HN.out; refine (ref_without h2 hl i HIL.out).mono ?_; rintro e2 w2 ⟨v2, rfl, r2, o2, b2⟩; have HLS := hide (h1.same b2); have HR2 := hide r2; have HAP := hide (show ∀ b, v2.ownBlock = some b → ¬ own1 b from fun b hb ho => Nat.lt_irrefl _ (Nat.lt_of_lt_of_le (h1.lane.own_lt b ho) (o2 b hb))); have HSZ := hide (Nat.le_trans h4.size b2.size); clear h1 h2 h3 h4 r2 o2 b2))
  go_ret2
  have h1 := HLS.out
  rw [HER.out] at h1
  exact ⟨own1, _, _, rfl, ⟨h1, HR2.out, HAP.out⟩, by rw [List.length_eraseIdx]; split <;> omega, Nat.le_trans (by simp) HSZ.out⟩

set_option maxRecDepth 100000 in
set_option maxHeartbeats 3200000 in
theorem step_forget (E : Nat → Addr) (w0 w : World) (own : Nat → Prop) (g : Nat) (v : Value) (ts : List Tk) (h : LawSt w0 w own g v ts) (hS : Sent w0 E) (hF : Forms w0) (t : Tk) (hw : t.Wf) (hl : ts.length ≤ LB) :
    Calls Tryd.prog 30 #[.pointer (some ⟨g, 0, none⟩), v, .agg #[.int .i64 3, .int .i64 t.k, .int .u32 t.s, .int .u32 t.v]] w (StepPost w0 w g ts) := by
  have HS := hide hS
  have HF := hide hF
  have HW := hide hw
  have H0 := hide h
  have H := hide (h.alloc (.cells #[.int .i64 3, .int .i64 t.k, .int .u32 t.s, .int .u32 t.v] 57))
  have hbx := blk_new w (.cells #[.int .i64 3, .int .i64 t.k, .int .u32 t.s, .int .u32 t.v] 57)
  have HBX := hide hbx
  have HLT := hide (show w.heap.size < (w.alloc (.cells #[.int .i64 3, .int .i64 t.k, .int .u32 t.s, .int .u32 t.v] 57)).heap.size by simp)
  obtain ⟨a, cap, hv, _, _⟩ := Row.form h.row
  subst hv
  clear hS hF hw h hbx
  go_enter Tryd.func30, Tryd.ntmps30
  go_wp2_with (first
    | (go_at_call 77; refine (ref_forget H.out.row hl t.s).mono ?_; rintro e1 w1 ⟨v1, rfl, r1, o1, b1⟩; have t1 := (b1.block w.heap.size HLT.out).trans HBX.out; have x10 : w1.cell? ⟨w.heap.size, 1, none⟩ = some (.int .i64 t.k) := blk_cell t1 1; have x11 : w1.cell? ⟨w.heap.size, 2, none⟩ = some (.int .u32 t.s) := blk_cell t1 2; have x12 : w1.cell? ⟨w.heap.size, 3, none⟩ = some (.int .u32 t.v) := blk_cell t1 3; clear t1; have HR1 := hide r1; have HA1 := hide (H.out.row' (.inr o1)); have HB1 := hide b1; have HLS1 := hide (H.out.ls.same b1); clear r1 o1 b1)
    | (go_at_call 78; refine (lane_forget_is HLS1.out.lane hl t.s).mono ?_; rintro e2 w2 ⟨rfl, hto⟩; have HN := hide (LawSt.to HLS1.out HR1.out HA1.out hto); clear hto))
  go_ret2
  obtain ⟨own', h1, h2, h3, h4⟩ := HN.out
  exact ⟨own', _, _, rfl, ⟨h1, h2, h3⟩, Nat.le_trans (List.length_filter_le _ _) (by omega), Nat.le_trans (by simp) (Nat.le_trans HB1.out.size h4.size)⟩

set_option maxRecDepth 100000 in
set_option maxHeartbeats 3200000 in
theorem step_clear (E : Nat → Addr) (w0 w : World) (own : Nat → Prop) (g : Nat) (v : Value) (ts : List Tk) (h : LawSt w0 w own g v ts) (hS : Sent w0 E) (hF : Forms w0) (t : Tk) (hw : t.Wf) (hl : ts.length ≤ LB) :
    Calls Tryd.prog 30 #[.pointer (some ⟨g, 0, none⟩), v, .agg #[.int .i64 4, .int .i64 t.k, .int .u32 t.s, .int .u32 t.v]] w (StepPost w0 w g ts) := by
  have HS := hide hS
  have HF := hide hF
  have HW := hide hw
  have H0 := hide h
  have H := hide (h.alloc (.cells #[.int .i64 4, .int .i64 t.k, .int .u32 t.s, .int .u32 t.v] 57))
  have hbx := blk_new w (.cells #[.int .i64 4, .int .i64 t.k, .int .u32 t.s, .int .u32 t.v] 57)
  have HBX := hide hbx
  have HLT := hide (show w.heap.size < (w.alloc (.cells #[.int .i64 4, .int .i64 t.k, .int .u32 t.s, .int .u32 t.v] 57)).heap.size by simp)
  obtain ⟨a, cap, hv, _, _⟩ := Row.form h.row
  subst hv
  have hnil : TkRow (w.alloc (.cells #[.int .i64 4, .int .i64 t.k, .int .u32 t.s, .int .u32 t.v] 57)) (.slice none 0 0) [] := Row.nil _ _ _
  have HNIL := hide hnil
  have HNOB := hide (show ∀ b, (Value.slice none 0 0).ownBlock = some b → ¬ own b from fun b hb => by simp [Value.ownBlock] at hb)
  clear hnil
  clear hS hF hw h hbx
  go_enter Tryd.func30, Tryd.ntmps30
  go_wp2_with (go_at_call 79; refine (lane_clear_is H.out.ls.lane).mono ?_; rintro e1 w1 ⟨rfl, hto⟩; have HN := hide (LawSt.to H.out.ls HNIL.out HNOB.out hto); clear hto)
  go_ret2
  obtain ⟨own', h1, h2, h3, h4⟩ := HN.out
  exact ⟨own', _, _, rfl, ⟨h1, h2, h3⟩, by simp, Nat.le_trans (by simp) h4.size⟩

set_option maxRecDepth 100000 in
set_option maxHeartbeats 3200000 in
theorem step_count (E : Nat → Addr) (w0 w : World) (own : Nat → Prop) (g : Nat) (v : Value) (ts : List Tk) (h : LawSt w0 w own g v ts) (hS : Sent w0 E) (hF : Forms w0) (t : Tk) (hw : t.Wf) (hl : ts.length ≤ LB) (kd : Int) (n0 : kd ≠ 0) (n1 : kd ≠ 1) (n2 : kd ≠ 2) (n3 : kd ≠ 3) (n4 : kd ≠ 4) :
    Calls Tryd.prog 30 #[.pointer (some ⟨g, 0, none⟩), v, .agg #[.int .i64 kd, .int .i64 t.k, .int .u32 t.s, .int .u32 t.v]] w (StepPost w0 w g ts) := by
  have HS := hide hS
  have HF := hide hF
  have HW := hide hw
  have H0 := hide h
  have H := hide (h.alloc (.cells #[.int .i64 kd, .int .i64 t.k, .int .u32 t.s, .int .u32 t.v] 57))
  have hbx := blk_new w (.cells #[.int .i64 kd, .int .i64 t.k, .int .u32 t.s, .int .u32 t.v] 57)
  have HBX := hide hbx
  have HLT := hide (show w.heap.size < (w.alloc (.cells #[.int .i64 kd, .int .i64 t.k, .int .u32 t.s, .int .u32 t.v] 57)).heap.size by simp)
  obtain ⟨a, cap, hv, _, _⟩ := Row.form h.row
  subst hv
  have b0 : (kd == 0) = false := by simp; omega
  have b1 : (kd == 1) = false := by simp; omega
  have b2 : (kd == 2) = false := by simp; omega
  have b3 : (kd == 3) = false := by simp; omega
  have b4 : (kd == 4) = false := by simp; omega
  clear n0 n1 n2 n3 n4
  clear hS hF hw h hbx
  go_enter Tryd.func30, Tryd.ntmps30
  go_wp2
  go_quiet (first | (go_at_call 34; refine Calls.quiet_of_same ((lane_count_is (H.out.same (below_drewN (Below.refl _ _) _)).ls.lane t.k).mono (fun _ _ h => ⟨h.1, h.2.symm⟩))) | (go_at_call 35; refine Calls.quiet_of_same ((ref_count (H.out.same (below_drewN (Below.refl _ _) _)).row t.k).mono (fun _ _ h => ⟨h.1, h.2.symm⟩))))
  go_wp2
  go_ret2
  exact ⟨own, _, _, rfl, H.out.same (below_drewN (Below.refl _ _) _), by omega, by simp⟩

end Go.Proofs.YtdeonehebbofiaaDoor
