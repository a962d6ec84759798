/-
  The document's Forget.
-/
import Derived.Test.YtdeonehebbofiaaDoorRefC
namespace Go.Proofs.YtdeonehebbofiaaDoor
open Go.RowKit

structure RFInv (w : World) (ts : List Tk) (s : Int) (j : Nat) (v : Value) (wr : World) : Prop where
  row : TkRow wr v ((ts.take j).filter fun u => u.s != s)
  own : ∀ b, v.ownBlock = some b → w.heap.size ≤ b
  below : Below w.heap.size w wr
theorem filter_snoc (ts : List Tk) (s : Int) (t : Tk) : (ts ++ [t]).filter (fun u => u.s != s) = ts.filter (fun u => u.s != s) ++ if t.s == s then [] else [t] := by
  rw [List.filter_append]
  cases h : t.s == s <;> simp [bne, h]
theorem RFInv.skip {w wr : World} {ts : List Tk} {s : Int} {j : Nat} {v : Value} {t : Tk} (h : RFInv w ts s j v wr) (ht : ts[j]? = some t) (hs : (t.s == s) = true) : RFInv w ts s (j + 1) v wr where
  row := by rw [take_snoc_at ts j t ht, filter_snoc, hs, if_pos rfl, List.append_nil]; exact h.row
  own := h.own
  below := h.below
theorem RFInv.step {w wr w1 : World} {ts : List Tk} {s : Int} {j : Nat} {v v1 : Value} {t : Tk} (h : RFInv w ts s j v wr) (ht : ts[j]? = some t) (hs : (t.s == s) = false) (o : Obj)
    (hr : Row w1 55 3 v1 (((ts.take j).filter fun u => u.s != s).length + 1) (tcells ((ts.take j).filter fun u => u.s != s) ++ t.cells))
    (hu : Upd (fun q => some q = v.ownBlock) (wr.alloc o) w1) (ho : v1.ownBlock = v.ownBlock ∨ v1.ownBlock = some (wr.alloc o).heap.size) : RFInv w ts s (j + 1) v1 w1 := by
  have hx := freshNext h.own (h.below.trans ((below_alloc (Below.refl _ wr) o).mono h.below.size)) hu ho
  refine ⟨?_, hx.1, hx.2⟩
  unfold TkRow
  rw [take_snoc_at ts j t ht, filter_snoc, hs, if_neg (by simp), tcells_append, List.length_append]
  simpa [tcells] using hr

set_option maxRecDepth 100000 in
set_option maxHeartbeats 1600000 in
theorem ref_forget {w : World} {v : Value} {ts : List Tk} (h : TkRow w v ts) (hl : ts.length ≤ LB) (s : Int) :
    Calls Tryd.prog 77 #[v, .int .u32 s] w fun e w' =>
      ∃ v', e = .returned (.tuple #[v', .int .i64 ((ts.length : Int) - (ts.filter (fun u => u.s != s)).length)]) ∧ TkRow w' v' (ts.filter (fun u => u.s != s)) ∧ (∀ b, v'.ownBlock = some b → w.heap.size ≤ b) ∧ Below w.heap.size w w' := by
  obtain ⟨i0, hinfo, hz0, hz1, hz2⟩ := info_parts infoTk
  obtain ⟨a, cap, rfl, hcap, hcm⟩ := Row.form h
  have HR := hide h
  have hl2 : ts.length ≤ 8000000000000 := hl
  have HI0 := hide (show RFInv w ts s 0 (.slice (some ⟨w.heap.size, 0, none⟩) 0 0) (w.alloc (.cells #[] 55)) from
    ⟨Row.lit w 55 3 0 #[] rfl (by decide), fun b hb => by simp [Value.ownBlock] at hb; omega, below_alloc (Below.refl _ w) _⟩)
  clear h
  go_enter Tryd.func77, Tryd.ntmps77
  go_wp2
  go_loopw [6, 7] (fun v i wr => ∃ j : Nat, j ≤ ts.length ∧ i = .int .i64 j ∧ RFInv w ts s j v wr) (fun _ i _ => ts.length - (intOf i).toNat)
  case atStart => exact ⟨0, Nat.zero_le _, rfl, HI0.out⟩
  case round =>
    obtain ⟨j, hj, rfl, hI⟩ := hrel
    by_cases hlt : j < ts.length
    · obtain ⟨lb, off, cap', hv, _, _, _, hlb⟩ := Row.begins HR.out (by omega)
      injection hv with ha _ hc
      subst ha; subst hc
      obtain ⟨t, ht⟩ : ∃ t, ts[j]? = some t := ⟨_, List.getElem?_eq_getElem hlt⟩
      obtain ⟨e0, e1, e2⟩ := (HR.out.below' hI.below).cells ht
      obtain ⟨a1, c1, hv1, _, _⟩ := Row.form hI.row
      subst hv1
      have hfl := List.length_filter_le (fun u : Tk => u.s != s) (ts.take j)
      have htl := List.length_take_le j ts
      have HI := hide hI
      have HT := hide ht
      have HM1 := hide (show ((ts.take j).filter fun u => u.s != s).length + 1 ≤ maxLen by unfold maxLen; omega)
      have HM2 := hide (show (((ts.take j).filter fun u => u.s != s).length + 1) * 16 ≤ 140737488355328 by omega)
      have HONE := hide (oneCell_tcells [t])
      clear hI ht hfl htl
      rcases Bool.eq_false_or_eq_true (t.s == s) with hs | hs
      · have HS := hide hs
        go_wp2
        go_roundw
        case rel => exact ⟨j + 1, by omega, by go_num, HI.out.skip HT.out HS.out⟩
        case measure => simp [intOf]; omega
      · have HS := hide hs
        go_wp2_with (at_builtin; refine wpList_append_row _ rfl _ _ 52 rfl 55 i0 _ 3 16 Tryd.underlying52 hinfo hz0 hz1 hz2 rfl (by decide) _ _ _ rfl (Row.alloc HI.out.row _) _ 1 (tcells [t]) rfl (Row.lit wr 55 3 1 #[.int .i64 t.k, .int .u32 t.s, .int .u32 t.v] rfl (by decide)) HONE.out HM1.out HM2.out ?_; intro v1 w1 hr1 hu1 ho1 hs1 hl1; have HST := hide (HI.out.step HT.out HS.out _ (by simpa [tcells] using hr1) hu1 ho1); clear hr1 hu1 ho1 hl1)
        go_roundw
        case rel => exact ⟨j + 1, by omega, by go_num, HST.out⟩
        case measure => simp [intOf]; omega
    · obtain rfl : j = ts.length := by omega
      have hfl := List.length_filter_le (fun u : Tk => u.s != s) ts
      have hr := hI.row
      rw [List.take_length] at hr
      obtain ⟨a1, c1, hv1, _, _⟩ := Row.form hr
      subst hv1
      have HI := hide hI
      have HRR := hide hr
      generalize hn : (ts.filter fun u => u.s != s).length = n at *
      clear hI hr
      go_wp2
      go_ret2
      exact ⟨_, by rw [hn]; rfl, HRR.out, HI.out.own, HI.out.below⟩
end Go.Proofs.YtdeonehebbofiaaDoor
