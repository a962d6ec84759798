/-
  Next.
-/
import Derived.Test.YtdeonehebbofiaaDoorLane7
import Derived.Test.YtdeonehebbofiaaDoorSlice
import Derived.Laws.ResultCell
namespace Go.Proofs.YtdeonehebbofiaaDoor
open Go.RowKit

def zeroTk : Value := .agg #[.int .i64 0, .int .u32 0, .int .u32 0]

theorem next_nil (w : World) : Calls Tryd.prog 72 #[.pointer none] w fun e w' => e = .returned (.tuple #[zeroTk, .bool false]) ∧ Below w.heap.size w w' := by
  go_enter Tryd.func72, Tryd.ntmps72
  go_wp2
  refine bodyPost_ret (v := .tuple #[zeroTk, .bool false]) (by simp [results, Tryd.results72, go_sem]; rfl) rfl ⟨rfl, ?_⟩
  exact below_alloc (Below.refl _ _) _

/-- What a walk of the list needs to know of an entry that waits. -/
structure LiveOk (es : List En) (ms : List ((Int × Int) × Nat)) (c : Nat → Int) (n : Int) : Prop where
  k1 : ∀ x ∈ es, x.gone = false → 1 ≤ x.t.k
  k7 : ∀ x ∈ es, x.gone = false → x.t.k ≤ 7
  c1 : ∀ x ∈ es, x.gone = false → 1 ≤ c x.t.k.toNat
  c2 : ∀ x ∈ es, x.gone = false → c x.t.k.toNat ≤ 8796093022208
  n1 : ∀ x ∈ es, x.gone = false → 1 ≤ n
  n2 : n ≤ 8796093022208
  mx : ∀ x ∈ es, x.gone = false → ∀ p ∈ ms, p.1 = (x.t.k, x.t.s) → p.2 = x.b
  len : es.length < 17592186044416

def NextPost (w : World) (own : Nat → Prop) (g bm : Nat) (es : List En) (ms : List ((Int × Int) × Nat)) (c : Nat → Int) (n : Int) (e : Ending) (w' : World) : Prop :=
  (e = .returned (.tuple #[zeroTk, .bool false]) ∧ (∀ x ∈ es, x.gone = true) ∧ ∃ lv', LaneRaw w' own g lv' bm [] ms c n ∧ Upd own w w') ∨
  (∃ pre x post own' lv', e = .returned (.tuple #[x.t.val, .bool true]) ∧ es = pre ++ x :: post ∧ (∀ y ∈ pre, y.gone = true) ∧ x.gone = false ∧
    LaneRaw w' own' g lv' bm (dropEs x.b post n) (ms.filter fun p => p.1 ≠ (x.t.k, x.t.s)) (fun i => if i = x.t.k.toNat then c x.t.k.toNat - 1 else c i) (n - 1) ∧ Upd own w w' ∧ (∀ k, own' k → own k ∨ w.heap.size ≤ k))

/-- How many elements the lane's list has. -/
def lenAt (w : World) (g : Nat) : Nat := match w.cell? ⟨g, 0, none⟩ with | some (.slice _ n _) => n | _ => 0

structure NextInv (w : World) (own : Nat → Prop) (g bm : Nat) (es : List En) (ms : List ((Int × Int) × Nat)) (c : Nat → Int) (n : Int) (wr : World) (pre post : List En) (lv : Value) : Prop where
  raw : LaneRaw wr own g lv bm post ms c n
  split : es = pre ++ post
  gone : ∀ y ∈ pre, y.gone = true
  upd : Upd own w wr
  box : wr.heap[w.heap.size]? = some (.cells #[.int .i64 0, .int .u32 0, .int .u32 0] 55 (0, 0))

theorem NextInv.tail {w wr : World} {own : Nat → Prop} {g bm : Nat} {es : List En} {ms : List ((Int × Int) × Nat)} {c : Nat → Int} {n : Int} {pre post : List En} {x : En} {lv v1 : Value}
    (h : NextInv w own g bm es ms c n wr pre (x :: post) lv) (ht : Row wr 135 1 v1 post.length (post.map En.ptr)) (hab : ∀ k, v1.ownBlock = some k → lv.ownBlock = some k) :
    LaneRaw (wr.setCell ⟨g, 0, none⟩ v1) own g v1 bm post ms c n ∧ Upd own w (wr.setCell ⟨g, 0, none⟩ v1) ∧
    (wr.setCell ⟨g, 0, none⟩ v1).heap[x.b]? = some (.cells x.cells 137 (0, 0)) ∧
    (wr.setCell ⟨g, 0, none⟩ v1).heap[w.heap.size]? = some (.cells #[.int .i64 0, .int .u32 0, .int .u32 0] 55 (0, 0)) := by
  have hbk := h.raw.blk
  have hU : Upd (fun k => k = g) wr (wr.setCell ⟨g, 0, none⟩ v1) := (Upd.refl (fun k => k = g) wr).setCell (p := ⟨g, 0, none⟩) (.inl rfl) _
  have hx := h.raw.ens x (by simp)
  refine ⟨⟨?_, ht.upd hU (fun k hk e => by subst e; exact ht.ne hbk (by decide) hk), ?_, ?_, h.raw.og, h.raw.om, fun e he => h.raw.oe e (List.mem_cons_of_mem _ he), fun k hk => h.raw.ol k (hab k hk), ?_, h.raw.mnd, fun k hk => Nat.lt_of_lt_of_le (h.raw.ob k hk) hU.size⟩,
    h.upd.trans hU (fun i _ hi => by rw [hi]; exact h.raw.og), hU.keeps hx (blk_ne hx hbk (by decide)), hU.keeps h.box (blk_ne h.box hbk (by decide))⟩
  · have := blk_set hbk 0 v1
    rwa [laneCells_list] at this
  · intro e he
    have := h.raw.ens e (List.mem_cons_of_mem _ he)
    exact hU.keeps this (blk_ne this hbk (by decide))
  · exact h.raw.map.upd hU (fun e => h.raw.map.ne_cells hbk e)
  · have := h.raw.nd
    simp only [List.map_cons, List.nodup_cons] at this
    exact this.2

set_option maxRecDepth 100000 in
set_option maxHeartbeats 1600000 in
theorem lane_next (w : World) (own : Nat → Prop) (g : Nat) (lv : Value) (bm : Nat) (es : List En) (ms : List ((Int × Int) × Nat)) (c : Nat → Int) (n : Int)
    (h : LaneRaw w own g lv bm es ms c n) (hL : LiveOk es ms c n) :
    Calls Tryd.prog 72 #[.pointer (some ⟨g, 0, none⟩)] w fun e w' => NextPost w own g bm es ms c n e w' := by
  have HL := hide hL
  obtain ⟨la, lcap, rfl, _, _⟩ := h.row.form
  have hI0 : NextInv w own g bm es ms c n (w.alloc (.cells #[.int .i64 0, .int .u32 0, .int .u32 0] 55)) [] es (.slice la es.length lcap) :=
    ⟨h.upd ((Upd.refl (fun _ => False) w).alloc _) (fun _ _ _ e => e), rfl, fun _ hy => (by cases hy), (Upd.refl own w).alloc _, blk_new w _⟩
  have HI0 := hide hI0
  have HOB := hide h.ob
  clear h hL hI0
  go_enter Tryd.func72, Tryd.ntmps72
  go_wp2
  go_loopw [] (fun wr => ∃ pre post lv', NextInv w own g bm es ms c n wr pre post lv') (fun wr => lenAt wr g)
  case atStart => exact ⟨[], es, _, HI0.out⟩
  case round =>
    obtain ⟨pre, post, lv', hI⟩ := hrel
    cases post with
    | nil =>
      obtain ⟨la', cap', rfl, _, _⟩ := hI.raw.row.form
      obtain ⟨c0, _, _, _, fg⟩ := lane_cells hI.raw.blk
      have r0 := blk_cell hI.box 0
      have r1 := blk_cell hI.box 1
      have r2 := blk_cell hI.box 2
      have fr : ∀ i, wr.frozen? ⟨w.heap.size, i, none⟩ = false := fun i => blk_frozen hI.box i
      have HI := hide hI
      clear hI
      go_wp2
      refine wp_nameP (fun wd hwd => ?_)
      have hbd : wd.heap[w.heap.size]? = some (.cells #[.int .i64 0, .int .u32 0, .int .u32 0] 55 (0, 0)) := by
        subst hwd
        exact blk_set (blk_set (blk_set HI.out.box 0 _) 1 _) 2 _
      have hU : Upd (fun k => k = w.heap.size) wr wd := by
        subst hwd
        exact (((Upd.refl (fun k => k = w.heap.size) wr).setCell (p := ⟨w.heap.size, 0, none⟩) (.inl rfl) _).setCell (p := ⟨w.heap.size, 1, none⟩) (.inl rfl) _).setCell (p := ⟨w.heap.size, 2, none⟩) (.inl rfl) _
      clear hwd
      have q0 := blk_cell hbd 0
      have q1 := blk_cell hbd 1
      have q2 := blk_cell hbd 2
      refine bodyPost_ret (v := .tuple #[zeroTk, .bool false]) (by simp [results, Tryd.results72, go_sem, q0, q1, q2]; rfl) rfl (.inl ⟨rfl, ?_, _, HI.out.raw.upd hU (fun k hk _ e => by have := HOB.out k hk; omega), HI.out.upd.trans hU (fun i hi e => by omega)⟩)
      have hsp := HI.out.split
      rw [List.append_nil] at hsp
      rw [hsp]
      exact HI.out.gone
    | cons x post =>
      obtain ⟨lb, off, cap', rfl, hcp, _, _, _⟩ := hI.raw.row.begins (by simp)
      obtain ⟨c0, _, _, _, fg⟩ := lane_cells hI.raw.blk
      have cx : wr.cell? ⟨lb, off, none⟩ = some (.pointer (some ⟨x.b, 0, none⟩)) := hI.raw.row.cell (i := 0) (by simp)
      obtain ⟨j, hj, _, hj2⟩ : ∃ j, Tryd.prog.info? 135 = some j ∧ True ∧ j.size = 1 := by
        obtain ⟨i0, hi, _, hz1, _⟩ := info_parts infoPtr
        exact ⟨i0, hi, trivial, hz1⟩
      obtain ⟨a, hab, hsl, hrw⟩ := cut_tail Tryd.underlying126 hj hj2 lb off (x :: post).length cap' 1 (by simp)
      have hrow := hrw wr _ hI.raw.row
      simp only [List.map_cons, Nat.one_mul, List.drop_succ_cons, List.drop_zero, List.length_cons, Nat.add_sub_cancel] at hrow hsl c0 hcp
      have hsl' : ∀ W : World, (Instr.slice 126 (.slice (some ⟨lb, off, none⟩) (post.length + 1) cap') (some (.int .i64 1)) none none).run Tryd.prog W = .ok (.slice (some a) post.length (cap' - 1)) W := hsl
      clear hsl
      obtain ⟨hR, hU, hX, hB⟩ := hI.tail hrow (fun k hk => by simpa [Value.ownBlock, hab] using hk)
      have hxb := hI.raw.ens x (by simp)
      have x3 : wr.cell? ⟨x.b, 3, none⟩ = some (.bool x.gone) := blk_cell hxb 3
      have hne : x.b ≠ g := blk_ne hxb hI.raw.blk (by decide)
      have lx := blk_lt hxb
      have HI := hide hI
      have HR := hide hR
      have HU := hide hU
      have HX := hide hX
      have HB := hide hB
      have hm1 : lenAt (wr.setCell ⟨g, 0, none⟩ (.slice (some a) post.length (cap' - 1))) g < lenAt wr g := by
        unfold lenAt
        rw [c0, (lane_cells hR.blk).1]
        simp
      have HM := hide hm1
      have hL := HL.out
      clear hI hR hU hX hB hrow hrw hxb hm1
      rcases Bool.eq_false_or_eq_true x.gone with hg | hg
      · rw [hg] at x3
        have HG := hide hg
        clear hg hL
        go_wp2
        go_roundw
        case rel => exact ⟨pre ++ [x], post, _, HR.out, by rw [HI.out.split]; simp, fun y hy => (by
          rcases List.mem_append.1 hy with hy | hy
          · exact HI.out.gone y hy
          · simp at hy
            subst hy
            exact HG.out), HU.out, HB.out⟩
        case measure => exact HM.out
      · rw [hg] at x3
        have hxe : x ∈ es := by rw [HI.out.split]; simp
        have hD := lane_drop _ own g _ bm post ms c n HR.out x HX.out hg (HI.out.raw.oe x (by simp))
          (hL.k1 x hxe hg) (hL.k7 x hxe hg) (hL.c1 x hxe hg) (hL.c2 x hxe hg) (hL.n1 x hxe hg) hL.n2 (fun e he hb => nodup_b_inj HI.out.raw.nd (List.mem_cons_of_mem _ he) List.mem_cons_self hb) (hL.mx x hxe hg) (by have := hL.len; rw [HI.out.split] at this; simp at this; omega)
        have HD := hide hD
        have HG := hide hg
        clear hg hL hD hxe
        go_wp2_with (go_at_call 107; refine HD.out.mono ?_; rintro e w5 ⟨rfl, own', lv2, hd⟩; have y0 : w5.cell? ⟨x.b, 0, none⟩ = some (.int .i64 x.t.k) := blk_cell hd.ent 0; have y1 : w5.cell? ⟨x.b, 1, none⟩ = some (.int .u32 x.t.s) := blk_cell hd.ent 1; have y2 : w5.cell? ⟨x.b, 2, none⟩ = some (.int .u32 x.t.v) := blk_cell hd.ent 2; have hb5 := hd.upd.keeps HB.out (fun e => Nat.lt_irrefl _ (HOB.out _ e)); have r0 := blk_cell hb5 0; have r1 := blk_cell hb5 1; have r2 := blk_cell hb5 2; have fr : ∀ i, w5.frozen? ⟨w.heap.size, i, none⟩ = false := fun i => blk_frozen hb5 i; have HB5 := hide hb5; have HDD := hide hd; clear hb5 hd)
        refine wp_nameP (fun wd hwd => ?_)
        have hbd : wd.heap[w.heap.size]? = some (.cells #[.int .i64 x.t.k, .int .u32 x.t.s, .int .u32 x.t.v] 55 (0, 0)) := by
          subst hwd
          exact blk_set (blk_set (blk_set HB5.out 0 _) 1 _) 2 _
        have hU : Upd (fun k => k = w.heap.size) w5 wd := by
          subst hwd
          exact (((Upd.refl (fun k => k = w.heap.size) w5).setCell (p := ⟨w.heap.size, 0, none⟩) (.inl rfl) _).setCell (p := ⟨w.heap.size, 1, none⟩) (.inl rfl) _).setCell (p := ⟨w.heap.size, 2, none⟩) (.inl rfl) _
        clear hwd r0 r1 r2
        have q0 := blk_cell hbd 0
        have q1 := blk_cell hbd 1
        have q2 := blk_cell hbd 2
        refine bodyPost_ret (v := .tuple #[x.t.val, .bool true]) (by simp [results, Tryd.results72, go_sem, q0, q1, q2]; rfl) rfl (.inr ⟨pre, x, post, own', lv2, rfl, HI.out.split, HI.out.gone, HG.out, ?_, ?_, ?_⟩)
        · refine HDD.out.raw.upd hU ?_
          intro k hk _ e
          subst e
          rcases HDD.out.own _ hk with h | h
          · exact Nat.lt_irrefl _ (HOB.out _ h)
          · exact Nat.lt_irrefl _ (Nat.lt_of_lt_of_le (blk_lt HB.out) h)
        · exact ((HU.out.trans HDD.out.upd (fun _ _ e => e)).trans hU (fun i hi e => by omega))
        · intro k hk
          rcases HDD.out.own _ hk with h | h
          · exact .inl h
          · exact .inr (Nat.le_trans (Nat.le_of_lt (blk_lt HB.out)) h)
end Go.Proofs.YtdeonehebbofiaaDoor
