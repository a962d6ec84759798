/-
  fifo.Fifo[uint32]: Remove, at the two functions that backlog hands in.
-/
import Derived.Test.YtdeonehebbofiaaDoorFifo2
import Derived.Test.YtdeonehebbofiaaDoorNapp
set_option linter.unusedVariables false
namespace Go.Proofs.YtdeonehebbofiaaDoor
open Go.RowKit

def FRow (w : World) (v : Value) (ids : List Int) : Prop := Row w 173 2 v ids.length (fcells ids)
theorem FRow.below' {w w' : World} {v : Value} {us : List Int} (h : FRow w v us) (hb : Below w.heap.size w w') : FRow w' v us := Row.upd h (Upd.of_below hb (fun _ => False)) (fun _ _ e => e)
theorem FRow.alloc {w : World} {v : Value} {ids : List Int} (h : FRow w v ids) (o : Obj) : FRow (w.alloc o) v ids := Row.alloc h o
theorem FRow.of1 {w : World} {g : Nat} {i : Int} (h : w.heap[g]? = some (.cells #[.int .u32 i, .int .i64 0] 173 (0, 0))) : FRow w (.slice (some ⟨g, 0, none⟩) 1 1) [i] := ⟨rfl, .inr ⟨g, 0, 1, _, rfl, h, Nat.le_refl _, by decide, by simp, rfl⟩⟩
theorem FRow.cells' {w : World} {lb off cap : Nat} {us : List Int} {i : Nat} {x : Int} (h : FRow w (.slice (some ⟨lb, off, none⟩) us.length cap) us) (hi : us[i]? = some x) :
    w.cell? ⟨lb, off + i * 2, none⟩ = some (.int .u32 x) ∧ w.cell? ⟨lb, off + i * 2 + 1, none⟩ = some (.int .i64 0) := by
  have hil : i < us.length := (List.getElem?_eq_some_iff.1 hi).1
  have key : ∀ (us : List Int) (i : Nat) (x : Int), us[i]? = some x → (fcells us)[i * 2]? = some (.int .u32 x) ∧ (fcells us)[i * 2 + 1]? = some (.int .i64 0) := by
    intro us
    induction us with
    | nil => intro i x h; simp at h
    | cons t us ih =>
      intro i x hx
      cases i with
      | zero => simp at hx; subst hx; exact ⟨rfl, rfl⟩
      | succ i =>
        have := ih i x (by simpa using hx)
        have e : fcells (t :: us) = [.int .u32 t, .int .i64 0] ++ fcells us := rfl
        rw [e, show (i + 1) * 2 = i * 2 + 2 by omega, show i * 2 + 2 + 1 = (i * 2 + 1) + 2 by omega]
        exact this
  obtain ⟨k1, k2⟩ := key us i x hi
  exact ⟨(Row.cell h (by omega)).trans k1, by rw [Nat.add_assoc]; exact (Row.cell h (by omega)).trans k2⟩

theorem wpList_app_frow {w : World} {ops : Array Oper} {rest : List Oper} {o : Oper} {a : Act} {Q : Exit → Act → World → Prop} (hgd : o.guard = none) (s x : Operand)
    (ho : o.op = .call { callee := .builtin .append, args := #[s, x], argTypes := #[164, 164] })
    (v xv : Value) (ids js : List Int) (hs : a.eval s = v) (hr : FRow w v ids) (hxv : a.eval x = xv) (hx : FRow w xv js) (hb : ids.length + js.length ≤ 8796093022208)
    (h : ∀ a1 c1 w1, FRow w1 (.slice a1 (ids.length + js.length) c1) (ids ++ js) → Grew w w1 v (.slice a1 (ids.length + js.length) c1) → wpList Tryd.prog ops Q rest (a.put o.dst (.slice a1 (ids.length + js.length) c1)) w1) :
    wpList Tryd.prog ops Q (o :: rest) a w := by
  obtain ⟨i0, hinfo, hz0, hz1, hz2⟩ := info_parts infoFr
  refine wpList_append_row w hgd s x 164 ho 173 i0 _ 2 16 Tryd.underlying164 hinfo hz0 hz1 hz2 rfl (by decide) v ids.length _ hs hr xv js.length _ hxv hx (fun u hu => by
    obtain ⟨i, _, hu⟩ := List.mem_flatMap.1 hu
    simp at hu
    rcases hu with rfl | rfl <;> rfl) (by unfold maxLen; omega) (by omega) ?_
  intro v1 w1 hr1 hu1 ho1 hs1 hl1
  obtain ⟨a1, c1, rfl, _, _⟩ := hr1.form
  refine h a1 c1 w1 ?_ ⟨hu1, ho1, hl1⟩
  unfold FRow
  rw [List.length_append, fcells_append]
  exact hr1

theorem keep_one (id x : Int) (c : Nat) (w : World) (hc : w.cell? ⟨c, 0, none⟩ = some (.int .u32 id)) : Calls Tryd.prog 66 #[.int .u32 x, .pointer (some ⟨c, 0, none⟩)] w fun e w' => e = .returned (.bool (x == id)) ∧ w = w' := by
  go_enter Tryd.func66, Tryd.ntmps66
  go_wp2
  go_ret
  exact ⟨rfl, rfl⟩
theorem keep_all (x : Int) (w : World) : Calls Tryd.prog 70 #[.int .u32 x] w fun e w' => e = .returned (.bool true) ∧ w = w' := by
  go_enter Tryd.func70, Tryd.ntmps70
  go_wp2
  go_ret
  exact ⟨rfl, rfl⟩

theorem eql_fn_nil (fn : Fn) (first cap : Array Value) (w : World) : (binOp BinOp.eql 41 (.func fn first cap) .nilFunc).run Tryd.prog w = .ok (.bool false) w := by kernel_rfl
set_option maxHeartbeats 1600000 in
theorem fifo_remove_empty {w : World} {own : Nat → Prop} {g : Nat} {most : Int} {lv : Value} (h : FifoRaw w own g most lv []) (fv : Value) :
    Calls Tryd.prog 65 #[.pointer (some ⟨g, 0, none⟩), fv] w fun e w' => e = .returned (.int .i64 0) ∧ w = w' := by
  have H := hide h
  clear h
  go_enter Tryd.func65, Tryd.ntmps65
  go_wp2_with (go_at_call 67; refine (fifo_len H.out).mono ?_; rintro e1 w1 ⟨rfl, rfl⟩)
  go_ret
  exact ⟨rfl, rfl⟩

set_option maxRecDepth 100000 in
set_option maxHeartbeats 1600000 in
theorem fifo_remove_one {w : World} {own : Nat → Prop} {g : Nat} {most : Int} {lv : Value} {ids : List Int} (h : FifoRaw w own g most lv ids) (p : Int → Bool) (c : Nat)
    (hk : ∀ x W, Below w.heap.size w W → Calls Tryd.prog 66 #[.int .u32 x, .pointer (some ⟨c, 0, none⟩)] W fun e w' => e = .returned (.bool (p x)) ∧ W = w') (hl : ids.length ≤ 1048576) (hp : 0 < ids.length) :
    Calls Tryd.prog 65 #[.pointer (some ⟨g, 0, none⟩), .func (.func 66) #[] #[.pointer (some ⟨c, 0, none⟩)]] w fun e w' => e = .returned (.int .i64 (ids.length - (ids.filter (fun x => !p x)).length : Int)) ∧ FifoTo w own g most (ids.filter (fun x => !p x)) w' := by
  obtain ⟨lb, off, cap, hv, hlc, hcm, _, hlb⟩ := h.row.begins hp
  subst hv
  have c2 : w.cell? ⟨g, 2, none⟩ = some (.slice (some ⟨lb, off, none⟩) ids.length cap) := blk_cell h.blk 2
  have hz : ((ids.length : Int) == 0) = false := by rw [beq_eq_false_iff_ne]; omega
  have hq := eql_fn_nil
  have hfl : (ids.filter (fun x => !p x)).length ≤ ids.length := List.length_filter_le _ _
  have H := hide h
  have HK := hide hk
  clear h hk
  go_enter Tryd.func65, Tryd.ntmps65
  go_wp2_with (go_at_call 67; refine (fifo_len H.out).mono ?_; rintro e1 w1 ⟨rfl, rfl⟩)
  go_loopw [5, 6, 22] (fun sv wt i wr => ∃ k : Nat, k ≤ ids.length ∧ i = .int .i64 k ∧ wt = .int .i64 0 ∧ FRow wr sv ((ids.take k).filter (fun x => !p x)) ∧ (∀ b, sv.ownBlock = some b → w.heap.size ≤ b) ∧ Below w.heap.size w wr) (fun _ _ i _ => ids.length - (intOf i).toNat)
  case atStart => exact ⟨0, Nat.zero_le _, rfl, rfl, by simp; exact Row.nil _ _ _, fun b hb => by simp [Value.ownBlock] at hb, Below.refl _ _⟩
  case round =>
    obtain ⟨k, hk, rfl, rfl, hR, hF, hB⟩ := hrel
    have hlen2 : ((ids.take k).filter (fun x => !p x)).length ≤ k := Nat.le_trans (List.length_filter_le _ _) (by rw [List.length_take]; omega)
    obtain ⟨sa, sc, hsv, _, _⟩ := Row.form hR
    subst hsv
    by_cases hlt : k < ids.length
    · obtain ⟨x, hx⟩ : ∃ x, ids[k]? = some x := ⟨_, List.getElem?_eq_getElem hlt⟩
      have hrow : FRow wr (.slice (some ⟨lb, off, none⟩) ids.length cap) ids := Row.upd H.out.row (Upd.of_below hB (fun _ => False)) (fun _ _ e => e)
      obtain ⟨d0, d1⟩ := FRow.cells' hrow hx
      have hlb2 : lb < wr.heap.size := Nat.lt_of_lt_of_le hlb hB.size
      have htk : ids.take (k + 1) = ids.take k ++ [x] := by rw [List.take_add_one, hx]; rfl
      have HTK := hide htk
      have HR := hide hR
      have HFR := hide hF
      have HB := hide hB
      have HL2 := hide hlen2
      clear hx hrow htk hR hF hB hlen2
      cases hpx : p x
      · -- it stays
        have HPX := hide hpx
        clear hpx
        go_wp2_with fail
        refine (HK.out x _ (below_then HB.out HB.out.size (below_alloc (Below.refl _ wr) _))).mono ?_
        rintro e2 w2 ⟨rfl, rfl⟩
        rw [HPX.out]
        go_wp2_with (at_builtin; refine wait ?_)
        unfold Wait
        refine wpList_app_frow rfl _ _ rfl (.slice sa ((ids.take k).filter (fun x => !p x)).length sc) (.slice (some ⟨wr.heap.size + 1, 0, none⟩) 1 1) _ [x] rfl ((HR.out.alloc _).alloc _) rfl (FRow.of1 (new2_1 wr _ _)) (by have := HL2.out; simp; omega) ?_
        intro a1 c1 w1 hr1 hg1
        have hf1 := hg1.fresh (w0 := w) (below_then HB.out HB.out.size (below_alloc (below_alloc (Below.refl _ wr) _) _)) HFR.out
        have b0 := hg1.keeps (new2_0 wr _ _) (fun e => by have := Row.lt HR.out e; omega)
        have y1 : w1.cell? ⟨wr.heap.size, 1, none⟩ = some (.int .i64 0) := blk_cell b0 1
        have l1 := blk_lt b0
        have e1 : (ids.take (k + 1)).filter (fun x => !p x) = (ids.take k).filter (fun x => !p x) ++ [x] := by rw [HTK.out, List.filter_append]; simp [HPX.out]
        have HR1 := hide (show FRow w1 (.slice a1 (((ids.take k).filter (fun x => !p x)).length + [x].length) c1) ((ids.take (k + 1)).filter (fun x => !p x)) by rw [e1]; exact hr1)
        have HF1 := hide hf1
        clear hr1 hg1 hf1 b0 e1
        go_wp2
        go_roundw
        case rel => exact ⟨k + 1, by omega, by go_num, rfl, HR1.out, HF1.out.2, HF1.out.1⟩
        case measure => simp [intOf]; omega
      · have HPX := hide hpx
        clear hpx
        go_wp2_with fail
        refine (HK.out x _ (below_then HB.out HB.out.size (below_alloc (Below.refl _ wr) _))).mono ?_
        rintro e2 w2 ⟨rfl, rfl⟩
        rw [HPX.out]
        go_wp2
        go_roundw
        case rel => exact ⟨k + 1, by omega, by go_num, rfl, by rw [HTK.out, List.filter_append]; simp [HPX.out]; exact HR.out.alloc _, HFR.out, below_then HB.out HB.out.size (below_alloc (Below.refl _ wr) _)⟩
        case measure => simp [intOf]; omega
    · obtain rfl : k = ids.length := by omega
      rw [List.take_length] at hR hF hlen2 ⊢
      have hb := (Upd.of_below hB (fun _ => False)).keeps H.out.blk (fun e => e)
      have c2' : wr.cell? ⟨g, 2, none⟩ = some (.slice (some ⟨lb, off, none⟩) ids.length cap) := blk_cell hb 2
      have c3' : wr.cell? ⟨g, 3, none⟩ = some (.int .i64 0) := blk_cell hb 3
      have fg : ∀ i, wr.frozen? ⟨g, i, none⟩ = false := fun i => blk_frozen hb i
      have hne := Row.ne hR hb (by decide)
      have HR := hide hR
      have HFR := hide hF
      have HB := hide hB
      have HB0 := hide hb
      have HNE := hide hne
      clear hR hF hB hb hne hlt
      go_wp2
      refine wp_nameP (fun wd hwd => ?_)
      have hU : Upd own w wd := by
        subst hwd
        exact (((Upd.of_below HB.out own)).setCell (p := ⟨g, 2, none⟩) (.inl H.out.og) _).setCell (p := ⟨g, 3, none⟩) (.inl H.out.og) _
      have hbd : wd.heap[g]? = some (.cells #[.int .i64 most, .int .i64 0, .slice sa (ids.filter (fun x => !p x)).length sc, .int .i64 0] 166 (0, 0)) := by
        subst hwd
        exact blk_set (blk_set HB0.out 2 _) 3 _
      have hrow : FRow wd (.slice sa (ids.filter (fun x => !p x)).length sc) (ids.filter (fun x => !p x)) := by
        subst hwd
        exact (Row.far HR.out (p := ⟨g, 2, none⟩) HNE.out _).far (p := ⟨g, 3, none⟩) HNE.out _
      clear hwd
      go_ret
      exact ⟨rfl, fun k => own k ∨ (w.heap.size ≤ k ∧ k < wd.heap.size), _, ⟨hbd, hrow, .inl H.out.og, fun k hk => .inr ⟨HFR.out k hk, Row.lt hrow hk⟩, fun k hk => by
        rcases hk with hk | hk
        · exact Nat.lt_of_lt_of_le (H.out.ob k hk) hU.size
        · exact hk.2⟩, hU, fun k hk => by
        rcases hk with hk | hk
        · exact .inl hk
        · exact .inr hk.1⟩

set_option maxRecDepth 100000 in
set_option maxHeartbeats 1600000 in
theorem fifo_remove_all {w : World} {own : Nat → Prop} {g : Nat} {most : Int} {lv : Value} {ids : List Int} (h : FifoRaw w own g most lv ids) (p : Int → Bool) 
    (hk : ∀ x W, Below w.heap.size w W → Calls Tryd.prog 70 #[.int .u32 x] W fun e w' => e = .returned (.bool (p x)) ∧ W = w') (hl : ids.length ≤ 1048576) (hp : 0 < ids.length) :
    Calls Tryd.prog 65 #[.pointer (some ⟨g, 0, none⟩), .func (.func 70) #[] #[]] w fun e w' => e = .returned (.int .i64 (ids.length - (ids.filter (fun x => !p x)).length : Int)) ∧ FifoTo w own g most (ids.filter (fun x => !p x)) w' := by
  obtain ⟨lb, off, cap, hv, hlc, hcm, _, hlb⟩ := h.row.begins hp
  subst hv
  have c2 : w.cell? ⟨g, 2, none⟩ = some (.slice (some ⟨lb, off, none⟩) ids.length cap) := blk_cell h.blk 2
  have hz : ((ids.length : Int) == 0) = false := by rw [beq_eq_false_iff_ne]; omega
  have hq := eql_fn_nil
  have hfl : (ids.filter (fun x => !p x)).length ≤ ids.length := List.length_filter_le _ _
  have H := hide h
  have HK := hide hk
  clear h hk
  go_enter Tryd.func65, Tryd.ntmps65
  go_wp2_with (go_at_call 67; refine (fifo_len H.out).mono ?_; rintro e1 w1 ⟨rfl, rfl⟩)
  go_loopw [5, 6, 22] (fun sv wt i wr => ∃ k : Nat, k ≤ ids.length ∧ i = .int .i64 k ∧ wt = .int .i64 0 ∧ FRow wr sv ((ids.take k).filter (fun x => !p x)) ∧ (∀ b, sv.ownBlock = some b → w.heap.size ≤ b) ∧ Below w.heap.size w wr) (fun _ _ i _ => ids.length - (intOf i).toNat)
  case atStart => exact ⟨0, Nat.zero_le _, rfl, rfl, by simp; exact Row.nil _ _ _, fun b hb => by simp [Value.ownBlock] at hb, Below.refl _ _⟩
  case round =>
    obtain ⟨k, hk, rfl, rfl, hR, hF, hB⟩ := hrel
    have hlen2 : ((ids.take k).filter (fun x => !p x)).length ≤ k := Nat.le_trans (List.length_filter_le _ _) (by rw [List.length_take]; omega)
    obtain ⟨sa, sc, hsv, _, _⟩ := Row.form hR
    subst hsv
    by_cases hlt : k < ids.length
    · obtain ⟨x, hx⟩ : ∃ x, ids[k]? = some x := ⟨_, List.getElem?_eq_getElem hlt⟩
      have hrow : FRow wr (.slice (some ⟨lb, off, none⟩) ids.length cap) ids := Row.upd H.out.row (Upd.of_below hB (fun _ => False)) (fun _ _ e => e)
      obtain ⟨d0, d1⟩ := FRow.cells' hrow hx
      have hlb2 : lb < wr.heap.size := Nat.lt_of_lt_of_le hlb hB.size
      have htk : ids.take (k + 1) = ids.take k ++ [x] := by rw [List.take_add_one, hx]; rfl
      have HTK := hide htk
      have HR := hide hR
      have HFR := hide hF
      have HB := hide hB
      have HL2 := hide hlen2
      clear hx hrow htk hR hF hB hlen2
      cases hpx : p x
      · -- it stays
        have HPX := hide hpx
        clear hpx
        go_wp2_with fail
        refine (HK.out x _ (below_then HB.out HB.out.size (below_alloc (Below.refl _ wr) _))).mono ?_
        rintro e2 w2 ⟨rfl, rfl⟩
        rw [HPX.out]
        go_wp2_with (at_builtin; refine wait ?_)
        unfold Wait
        refine wpList_app_frow rfl _ _ rfl (.slice sa ((ids.take k).filter (fun x => !p x)).length sc) (.slice (some ⟨wr.heap.size + 1, 0, none⟩) 1 1) _ [x] rfl ((HR.out.alloc _).alloc _) rfl (FRow.of1 (new2_1 wr _ _)) (by have := HL2.out; simp; omega) ?_
        intro a1 c1 w1 hr1 hg1
        have hf1 := hg1.fresh (w0 := w) (below_then HB.out HB.out.size (below_alloc (below_alloc (Below.refl _ wr) _) _)) HFR.out
        have b0 := hg1.keeps (new2_0 wr _ _) (fun e => by have := Row.lt HR.out e; omega)
        have y1 : w1.cell? ⟨wr.heap.size, 1, none⟩ = some (.int .i64 0) := blk_cell b0 1
        have l1 := blk_lt b0
        have e1 : (ids.take (k + 1)).filter (fun x => !p x) = (ids.take k).filter (fun x => !p x) ++ [x] := by rw [HTK.out, List.filter_append]; simp [HPX.out]
        have HR1 := hide (show FRow w1 (.slice a1 (((ids.take k).filter (fun x => !p x)).length + [x].length) c1) ((ids.take (k + 1)).filter (fun x => !p x)) by rw [e1]; exact hr1)
        have HF1 := hide hf1
        clear hr1 hg1 hf1 b0 e1
        go_wp2
        go_roundw
        case rel => exact ⟨k + 1, by omega, by go_num, rfl, HR1.out, HF1.out.2, HF1.out.1⟩
        case measure => simp [intOf]; omega
      · have HPX := hide hpx
        clear hpx
        go_wp2_with fail
        refine (HK.out x _ (below_then HB.out HB.out.size (below_alloc (Below.refl _ wr) _))).mono ?_
        rintro e2 w2 ⟨rfl, rfl⟩
        rw [HPX.out]
        go_wp2
        go_roundw
        case rel => exact ⟨k + 1, by omega, by go_num, rfl, by rw [HTK.out, List.filter_append]; simp [HPX.out]; exact HR.out.alloc _, HFR.out, below_then HB.out HB.out.size (below_alloc (Below.refl _ wr) _)⟩
        case measure => simp [intOf]; omega
    · obtain rfl : k = ids.length := by omega
      rw [List.take_length] at hR hF hlen2 ⊢
      have hb := (Upd.of_below hB (fun _ => False)).keeps H.out.blk (fun e => e)
      have c2' : wr.cell? ⟨g, 2, none⟩ = some (.slice (some ⟨lb, off, none⟩) ids.length cap) := blk_cell hb 2
      have c3' : wr.cell? ⟨g, 3, none⟩ = some (.int .i64 0) := blk_cell hb 3
      have fg : ∀ i, wr.frozen? ⟨g, i, none⟩ = false := fun i => blk_frozen hb i
      have hne := Row.ne hR hb (by decide)
      have HR := hide hR
      have HFR := hide hF
      have HB := hide hB
      have HB0 := hide hb
      have HNE := hide hne
      clear hR hF hB hb hne hlt
      go_wp2
      refine wp_nameP (fun wd hwd => ?_)
      have hU : Upd own w wd := by
        subst hwd
        exact (((Upd.of_below HB.out own)).setCell (p := ⟨g, 2, none⟩) (.inl H.out.og) _).setCell (p := ⟨g, 3, none⟩) (.inl H.out.og) _
      have hbd : wd.heap[g]? = some (.cells #[.int .i64 most, .int .i64 0, .slice sa (ids.filter (fun x => !p x)).length sc, .int .i64 0] 166 (0, 0)) := by
        subst hwd
        exact blk_set (blk_set HB0.out 2 _) 3 _
      have hrow : FRow wd (.slice sa (ids.filter (fun x => !p x)).length sc) (ids.filter (fun x => !p x)) := by
        subst hwd
        exact (Row.far HR.out (p := ⟨g, 2, none⟩) HNE.out _).far (p := ⟨g, 3, none⟩) HNE.out _
      clear hwd
      go_ret
      exact ⟨rfl, fun k => own k ∨ (w.heap.size ≤ k ∧ k < wd.heap.size), _, ⟨hbd, hrow, .inl H.out.og, fun k hk => .inr ⟨HFR.out k hk, Row.lt hrow hk⟩, fun k hk => by
        rcases hk with hk | hk
        · exact Nat.lt_of_lt_of_le (H.out.ob k hk) hU.size
        · exact hk.2⟩, hU, fun k hk => by
        rcases hk with hk | hk
        · exact .inl hk
        · exact .inr hk.1⟩
end Go.Proofs.YtdeonehebbofiaaDoor
