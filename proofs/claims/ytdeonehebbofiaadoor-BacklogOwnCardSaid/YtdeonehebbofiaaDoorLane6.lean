/-
  Put of a ticket that finds none waiting.
-/
import Derived.Test.YtdeonehebbofiaaDoorLane5
namespace Go.Proofs.YtdeonehebbofiaaDoor
open Go.RowKit

/-- A world in which the new entry lies at nb, and the map holds ms'. -/
structure NewAt (w w1 : World) (own : Nat → Prop) (g : Nat) (lv : Value) (bm : Nat) (es : List En) (ms' : List ((Int × Int) × Nat)) (c : Nat → Int) (n : Int) (t : Tk) (nb pb : Nat) : Prop where
  pl : w1.heap[pb]? = some (.cells #[.int .i64 t.k, .int .u32 t.s] 176 (0, 0))
  blk : w1.heap[g]? = some (.cells (laneCells lv bm c n) 129 (0, 0))
  row : Row w1 135 1 lv es.length (es.map En.ptr)
  ens : ∀ e ∈ es, w1.heap[e.b]? = some (.cells e.cells 137 (0, 0))
  map : MapIs w1 encPl bm (msv ms')
  box : w1.heap[w.heap.size]? = some (.cells #[.int .i64 t.k, .int .u32 t.s, .int .u32 t.v] 55 (0, 0))
  new : w1.heap[nb]? = some (.cells #[.int .i64 t.k, .int .u32 t.s, .int .u32 t.v, .bool false] 137 (0, 0))
  upd : Upd own w w1
  og : own g
  om : own bm
  oe : ∀ e ∈ es, own e.b
  ol : ∀ k, lv.ownBlock = some k → own k
  nd : (es.map (·.b)).Nodup
  mnd : (ms'.map (·.1)).Nodup
  nb : w.heap.size ≤ nb
  gl : g < w.heap.size
  el : ∀ e ∈ es, e.b < w.heap.size
  ob : ∀ k, own k → k < w.heap.size

theorem PutAt.new {w w1 wb : World} {own : Nat → Prop} {g : Nat} {lv : Value} {bm : Nat} {es : List En} {ms : List ((Int × Int) × Nat)} {c : Nat → Int} {n : Int} {E : Nat → Addr} {t : Tk}
    (h : PutAt w w1 own g lv bm es ms c n E t) (h0 : LaneRaw w own g lv bm es ms c n) (q : Nat) (hwb : wb = (((w1.alloc (.cells #[.int .i64 t.k, .int .u32 t.s] 176)).drewN q).alloc (.cells #[.int .i64 t.k, .int .u32 t.s, .int .u32 t.v, .bool false] 137))) :
    NewAt w wb own g lv bm es ms c n t (w1.heap.size + 1) w1.heap.size := by
  have hU : Upd (fun _ => False) w1 wb := by
    subst hwb
    exact (((Upd.refl (fun _ => False) w1).alloc _).drewN q).alloc _
  have hs := h.below.size
  have hp : wb.heap[w1.heap.size]? = some (.cells #[.int .i64 t.k, .int .u32 t.s] 176 (0, 0)) := by
    subst hwb
    exact blk_alloc (w := (w1.alloc _).drewN q) (blk_new w1 _) _
  refine ⟨hp, hU.keeps h.raw.blk (fun e => e), h.raw.row.upd hU (fun _ _ e => e), fun e he => hU.keeps (h.raw.ens e he) (fun e => e), h.raw.map.upd hU (fun e => e), hU.keeps h.box (fun e => e), ?_,
    (Upd.of_below h.below own).trans hU (fun _ _ e => e.elim), h.raw.og, h.raw.om, h.raw.oe, h.raw.ol, h.raw.nd, h.raw.mnd, by omega, blk_lt h0.blk, (fun e he => blk_lt (h0.ens e he)), h0.ob⟩
  subst hwb
  have := blk_new ((w1.alloc (.cells #[.int .i64 t.k, .int .u32 t.s] 176)).drewN q) (.cells #[.int .i64 t.k, .int .u32 t.s, .int .u32 t.v, .bool false] 137)
  have hz : ((w1.alloc (.cells #[.int .i64 t.k, .int .u32 t.s] 176)).drewN q).heap.size = w1.heap.size + 1 := by simp
  rw [hz] at this
  exact this

/-- The map has one key more. -/
theorem NewAt.mapped {w wb w2 : World} {own : Nat → Prop} {g : Nat} {lv : Value} {bm : Nat} {es : List En} {ms : List ((Int × Int) × Nat)} {c : Nat → Int} {n : Int} {t : Tk} {nb pb : Nat}
    (h : NewAt w wb own g lv bm es ms c n t nb pb) (hn : ∀ p ∈ ms, p.1 ≠ (t.k, t.s)) (hm : MapIs w2 encPl bm (msv ms ++ [((t.k, t.s), .pointer (some ⟨nb, 0, none⟩))])) (hU : Upd (fun k => k = bm) wb w2) :
    NewAt w w2 own g lv bm es (ms ++ [((t.k, t.s), nb)]) c n t nb pb where
  pl := hU.keeps h.pl (fun e => h.map.ne_cells h.pl e.symm)
  blk := hU.keeps h.blk (fun e => h.map.ne_cells h.blk e.symm)
  row := h.row.upd hU (fun k hk e => by
    obtain ⟨cur, hb⟩ := h.row.blk hk
    exact h.map.ne_cells hb e.symm)
  ens := fun e he => hU.keeps (h.ens e he) (fun e' => h.map.ne_cells (h.ens e he) e'.symm)
  map := by simpa [msv] using hm
  box := hU.keeps h.box (fun e => h.map.ne_cells h.box e.symm)
  new := hU.keeps h.new (fun e => h.map.ne_cells h.new e.symm)
  upd := h.upd.trans hU (fun i _ hi => by rw [hi]; exact h.om)
  og := h.og
  om := h.om
  oe := h.oe
  ol := h.ol
  nd := h.nd
  mnd := by
    rw [List.map_append, List.nodup_append]
    refine ⟨h.mnd, by simp, ?_⟩
    intro a ha b hb hab
    obtain ⟨p, hp, rfl⟩ := List.mem_map.1 ha
    simp at hb
    subst hb
    exact hn p hp hab
  nb := h.nb
  gl := h.gl
  el := h.el
  ob := h.ob

/-- Behind the append: all but the row. -/
structure AppAt (w w3 : World) (own : Nat → Prop) (g : Nat) (lv v1 : Value) (bm : Nat) (es : List En) (ms' : List ((Int × Int) × Nat)) (c : Nat → Int) (n : Int) (t : Tk) (nb : Nat) : Prop where
  blk : w3.heap[g]? = some (.cells (laneCells lv bm c n) 129 (0, 0))
  row : Row w3 135 1 v1 (es.length + 1) (es.map En.ptr ++ [.pointer (some ⟨nb, 0, none⟩)])
  ens : ∀ e ∈ es, w3.heap[e.b]? = some (.cells e.cells 137 (0, 0))
  map : MapIs w3 encPl bm (msv ms')
  box : w3.heap[w.heap.size]? = some (.cells #[.int .i64 t.k, .int .u32 t.s, .int .u32 t.v] 55 (0, 0))
  new : w3.heap[nb]? = some (.cells #[.int .i64 t.k, .int .u32 t.s, .int .u32 t.v, .bool false] 137 (0, 0))
  upd : Upd own w w3
  og : own g
  om : own bm
  oe : ∀ e ∈ es, own e.b
  ol : ∀ k, v1.ownBlock = some k → own k ∨ (w.heap.size ≤ k ∧ k < w3.heap.size)
  nd : (es.map (·.b)).Nodup
  mnd : (ms'.map (·.1)).Nodup
  nb : w.heap.size ≤ nb
  el : ∀ e ∈ es, e.b < w.heap.size
  ob : ∀ k, own k → k < w.heap.size

theorem NewAt.appended {w w2 w3 : World} {own : Nat → Prop} {g : Nat} {lv v1 : Value} {bm : Nat} {es : List En} {ms' : List ((Int × Int) × Nat)} {c : Nat → Int} {n : Int} {t : Tk} {nb pb : Nat}
    (h : NewAt w w2 own g lv bm es ms' c n t nb pb) (o : Obj) (hr : Row w3 135 1 v1 (es.length + 1) (es.map En.ptr ++ [.pointer (some ⟨nb, 0, none⟩)]))
    (hu : Upd (fun k => some k = lv.ownBlock) (w2.alloc o) w3) (ho : v1.ownBlock = lv.ownBlock ∨ v1.ownBlock = some (w2.alloc o).heap.size) : AppAt w w3 own g lv v1 bm es ms' c n t nb := by
  have hu2 : Upd (fun k => some k = lv.ownBlock) w2 w3 := ((Upd.refl _ w2).alloc o).trans hu (fun _ _ e => e)
  have hnc : ∀ {k : Nat} {cs : Array Value} {t' : TypeId}, w2.heap[k]? = some (.cells cs t' (0, 0)) → 135 ≠ t' → ¬ some k = lv.ownBlock := fun hk hne e => h.row.ne hk hne e.symm
  refine ⟨hu2.keeps h.blk (hnc h.blk (by decide)), hr, fun e he => hu2.keeps (h.ens e he) (hnc (h.ens e he) (by decide)), h.map.upd hu2 (fun e => ?_), hu2.keeps h.box (hnc h.box (by decide)), hu2.keeps h.new (hnc h.new (by decide)),
    h.upd.trans hu2 (fun i _ hi => h.ol i hi.symm), h.og, h.om, h.oe, fun k hk => ?_, h.nd, h.mnd, h.nb, h.el, h.ob⟩
  · obtain ⟨cur, hb⟩ := h.row.blk e.symm
    exact h.map.ne_cells hb rfl
  · rcases ho with ho | ho
    · exact .inl (h.ol k (by rw [← ho, hk]))
    · rw [hk] at ho
      injection ho with ho
      have := h.upd.size
      have h3 := hr.lt hk
      simp at ho
      right; omega

structure PutNew (w : World) (own : Nat → Prop) (g bm : Nat) (es : List En) (ms' : List ((Int × Int) × Nat)) (c : Nat → Int) (n : Int) (t : Tk) (nb : Nat) (w' : World) (own' : Nat → Prop) (lv : Value) : Prop where
  raw : LaneRaw w' own' g lv bm (es ++ [⟨nb, t, false⟩]) ms' (fun i => if i = t.k.toNat then c t.k.toNat + 1 else c i) (n + 1)
  upd : Upd own w w'
  own : ∀ k, own' k → own k ∨ w.heap.size ≤ k
  nb : w.heap.size ≤ nb

theorem AppAt.stored {w w3 wd : World} {own : Nat → Prop} {g : Nat} {lv v1 : Value} {bm : Nat} {es : List En} {ms' : List ((Int × Int) × Nat)} {c : Nat → Int} {n : Int} {t : Tk} {nb : Nat}
    (h : AppAt w w3 own g lv v1 bm es ms' c n t nb) (hk0 : 0 ≤ t.k) (hk8 : t.k < 8) (q : Nat)
    (hwd : wd = ((((w3.setCell ⟨g, 0, none⟩ v1).drewN q).setCell ⟨g, 2 + t.k.toNat, none⟩ (.int .i64 (c t.k.toNat + 1))).setCell ⟨g, 10, none⟩ (.int .i64 (n + 1)))) :
    PutNew w own g bm es ms' c n t nb wd (fun k => own k ∨ (w.heap.size ≤ k ∧ k < w3.heap.size)) v1 := by
  have hU : Upd (fun k => k = g) w3 wd := by
    subst hwd
    exact ((((Upd.refl (fun k => k = g) w3).setCell (p := ⟨g, 0, none⟩) (.inl rfl) _).drewN q).setCell (p := ⟨g, 2 + t.k.toNat, none⟩) (.inl rfl) _).setCell (p := ⟨g, 10, none⟩) (.inl rfl) _
  have hg : wd.heap[g]? = some (.cells (laneCells v1 bm (fun i => if i = t.k.toNat then c t.k.toNat + 1 else c i) (n + 1)) 129 (0, 0)) := by
    subst hwd
    have s1 := blk_set h.blk 0 v1
    rw [laneCells_list] at s1
    have s2 := blk_set (w := (w3.setCell ⟨g, 0, none⟩ v1).drewN q) s1 (2 + t.k.toNat) (.int .i64 (c t.k.toNat + 1))
    rw [laneCells_count _ _ _ _ _ _ (by omega)] at s2
    have s3 := blk_set s2 10 (.int .i64 (n + 1))
    rw [laneCells_n] at s3
    exact s3
  refine ⟨⟨hg, ?_, ?_, ?_, .inl h.og, .inl h.om, ?_, h.ol, ?_, h.mnd, ?_⟩, h.upd.trans hU (fun i _ hi => by rw [hi]; exact h.og), fun _ e => e.imp id (·.1), h.nb⟩
  · have := h.row.upd hU (fun k hk e => by subst e; exact h.row.ne h.blk (by decide) hk)
    simpa [En.ptr] using this
  · intro e he
    rcases List.mem_append.1 he with he | he
    · exact hU.keeps (h.ens e he) (blk_ne (h.ens e he) h.blk (by decide))
    · simp at he
      subst he
      exact hU.keeps h.new (blk_ne h.new h.blk (by decide))
  · exact h.map.upd hU (fun e => h.map.ne_cells h.blk e)
  · intro e he
    rcases List.mem_append.1 he with he | he
    · exact .inl (h.oe e he)
    · simp at he
      subst he
      exact .inr ⟨h.nb, blk_lt h.new⟩
  · rw [List.map_append, List.nodup_append]
    refine ⟨h.nd, by simp, ?_⟩
    intro a ha b hb hab
    obtain ⟨p, hp, rfl⟩ := List.mem_map.1 ha
    simp at hb
    subst hb
    have := h.el p hp
    have := h.nb
    omega
  · intro k hk
    have h3 : wd.heap.size = w3.heap.size := by subst hwd; simp
    rw [h3]
    rcases hk with hk | hk
    · exact Nat.lt_of_lt_of_le (h.ob k hk) h.upd.size
    · exact hk.2

set_option maxRecDepth 100000 in
set_option maxHeartbeats 1600000 in
theorem put_new_once (E : Nat → Addr) (w : World) (own : Nat → Prop) (g : Nat) (lv : Value) (bm : Nat) (es : List En) (ms : List ((Int × Int) × Nat)) (c : Nat → Int) (n : Int)
    (h : LaneRaw w own g lv bm es ms c n) (hS : Sent w E) (hF : Forms w) (t : Tk) (hm : may t = 0) (hmx : ∀ p ∈ ms, p.1 ≠ (t.k, t.s)) (ho : fOnce t.k = true) (hk0 : 1 ≤ t.k) (hk7 : t.k ≤ 7)
    (hc0 : 0 ≤ c t.k.toNat) (hc1 : c t.k.toNat ≤ 8796093022208) (hn0 : 0 ≤ n) (hn1 : n ≤ 8796093022208) (hlen : es.length < 17592186044416) :
    Calls Tryd.prog 71 #[.pointer (some ⟨g, 0, none⟩), t.val] w fun e w' => e = .returned .nilIface ∧ ∃ nb own' lv', PutNew w own g bm es (ms ++ [((t.k, t.s), nb)]) c n t nb w' own' lv' := by
  have HS := hide (hS.alloc (.cells #[.int .i64 t.k, .int .u32 t.s, .int .u32 t.v] 55))
  have HF := hide (hF.alloc (.cells #[.int .i64 t.k, .int .u32 t.s, .int .u32 t.v] 55))
  have he : errOf E (may t) = .nilIface := by rw [hm]; rfl
  have HE := hide he
  obtain ⟨la, lcap, rfl, _, _⟩ := h.row.form
  have H := hide h
  have HS0 := hide hS
  have HF0 := hide hF
  have HO := hide ho
  have HMX := hide hmx
  have hzv : ∀ W, (zeroValue 135).run Tryd.prog W = .ok (.pointer none) W := Tryd.zeroValue135
  have k0 : 0 ≤ t.k := by omega
  have k8 : t.k < 8 := by omega
  clear h hS hF he hm ho hmx
  unfold Tk.val
  go_enter Tryd.func71, Tryd.ntmps71
  go_upto_region 4 with (go_at_call 90; refine (check_any E t _ HS.out HF.out).mono ?_; rintro e w1 ⟨rfl, hb⟩; rw [HE.out]; have HB := hide hb; clear hb)
  have hP := put_at H.out HS0.out HF0.out HB.out
  obtain ⟨_, c1, c10, ck, fg⟩ := lane_cells hP.raw.blk
  have ckk := ck t.k k0 k8
  have b0 : w1.cell? ⟨w.heap.size, 0, none⟩ = some (.int .i64 t.k) := blk_cell hP.box 0
  have b1 : w1.cell? ⟨w.heap.size, 1, none⟩ = some (.int .u32 t.s) := blk_cell hP.box 1
  have b2 : w1.cell? ⟨w.heap.size, 2, none⟩ = some (.int .u32 t.v) := blk_cell hP.box 2
  have lb := blk_lt hP.box
  have lg := blk_lt hP.raw.blk
  have fon := hP.forms.on t.k k0 (by omega)
  have lF := hP.forms.lt
  rw [HO.out] at fon
  have HP := hide hP
  clear hP ck
  have hlk : ∀ q, (Instr.lookup 125 (.map (some bm)) (.agg #[.int .i64 t.k, .int .u32 t.s]) false).run Tryd.prog ((w1.alloc (.cells #[.int .i64 t.k, .int .u32 t.s] 176)).drewN q) = .ok (.pointer none) ((w1.alloc (.cells #[.int .i64 t.k, .int .u32 t.s] 176)).drewN q) := fun q => by
    have := run_lookup_is (w := (w1.alloc (.cells #[.int .i64 t.k, .int .u32 t.s] 176)).drewN q) pl_key Tryd.underlying125 hzv (HP.out.raw.map.alloc _) (t.k, t.s)
    rw [lookup_none HMX.out] at this
    exact this
  clear hzv
  go_wp2
  go_quiet (fail)
  clear hlk
  go_wp2
  obtain ⟨i0, hi, hz0, hz1, hz2⟩ := info_parts infoPtr
  refine wp_name (fun wb hwb => ?_)
  have hN := HP.out.new H.out _ hwb
  clear hwb c1 c10 fg ckk b0 b1 b2 fon
  obtain ⟨_, c1, c10, ck, fg⟩ := lane_cells hN.blk
  clear c10 ck
  have p0 : wb.cell? ⟨w1.heap.size, 0, none⟩ = some (.int .i64 t.k) := blk_cell hN.pl 0
  have p1 : wb.cell? ⟨w1.heap.size, 1, none⟩ = some (.int .u32 t.s) := blk_cell hN.pl 1
  obtain ⟨w2, hmu, hm2, hu2⟩ := run_mapUpdate_new (w := wb.drew) pl_key Tryd.underlying125 hN.map (t.k, t.s) (.pointer (some ⟨w1.heap.size + 1, 0, none⟩)) (lookup_none HMX.out)
  have hM := hN.mapped HMX.out hm2 (show Upd _ wb w2 from ⟨hu2.os, hu2.tape, hu2.output, hu2.size, hu2.block⟩)
  have HM := hide hM
  clear hm2 hu2 hM hN
  have hmu' : (Instr.mapUpdate 125 (.map (some bm)) (.agg #[.int .i64 t.k, .int .u32 t.s]) (.pointer (some ⟨w1.heap.size + 1, 0, none⟩))).run Tryd.prog wb.drew = .ok () w2 := hmu
  clear hmu
  go_region
  clear hmu' c1 fg p0 p1
  have e0 := (lane_cells HM.out.blk).1
  have HR2 := hide HM.out.row
  have HM1 := hide (show es.length + 1 ≤ maxLen by unfold maxLen; omega)
  have HM2 := hide (show (es.length + 1) * 8 ≤ 140737488355328 by omega)
  have HONE := hide (show ∀ u ∈ [Value.pointer (some ⟨w1.heap.size + 1, 0, none⟩)], u.oneCell' = true from fun u hu => by
    simp at hu
    subst hu
    rfl)
  go_wp2_with (at_builtin; refine wpList_append_row _ rfl _ _ 126 rfl 135 i0 _ 1 8 Tryd.underlying126 hi hz0 hz1 hz2 rfl (by decide) _ _ _ rfl (HR2.out.alloc _) _ 1 [.pointer (some ⟨w1.heap.size + 1, 0, none⟩)] rfl (Row.lit w2 135 1 1 #[.pointer (some ⟨w1.heap.size + 1, 0, none⟩)] rfl (by decide)) (HONE.out) (HM1.out) (HM2.out) ?_; intro v1 w3 hr1 hu1 ho1 hs1 hl1; have hA := HM.out.appended _ hr1 hu1 ho1; obtain ⟨va, vc, rfl, _, _⟩ := hr1.form; obtain ⟨e0, _, c10, ck, fg⟩ := lane_cells hA.blk; have ckk := ck t.k k0 k8; have b0 : w3.cell? ⟨w.heap.size, 0, none⟩ = some (.int .i64 t.k) := blk_cell hA.box 0; have lb3 := blk_lt hA.box; have lg3 := blk_lt hA.blk; have hgne := blk_ne hA.blk hA.box (by decide); have HA := hide hA; clear hr1 hu1 ho1 hl1 hA ck)
  go_region
  go_wp2
  refine wp_nameP (fun wd hwd => ?_)
  go_ret
  refine ⟨rfl, w1.heap.size + 1, _, _, HA.out.stored k0 k8 _ hwd⟩
set_option maxRecDepth 100000 in
set_option maxHeartbeats 1600000 in
theorem put_new_grant (E : Nat → Addr) (w : World) (own : Nat → Prop) (g : Nat) (lv : Value) (bm : Nat) (es : List En) (ms : List ((Int × Int) × Nat)) (c : Nat → Int) (n : Int)
    (h : LaneRaw w own g lv bm es ms c n) (hS : Sent w E) (hF : Forms w) (t : Tk) (hm : may t = 0) (hmx : ∀ p ∈ ms, p.1 ≠ (t.k, t.s)) (ho : fOnce t.k = false) (hb3 : (t.k == 3) = true) (hk0 : 1 ≤ t.k) (hk7 : t.k ≤ 7)
    (hc0 : 0 ≤ c t.k.toNat) (hc1 : c t.k.toNat ≤ 8796093022208) (hn0 : 0 ≤ n) (hn1 : n ≤ 8796093022208) (hlen : es.length < 17592186044416) :
    Calls Tryd.prog 71 #[.pointer (some ⟨g, 0, none⟩), t.val] w fun e w' => e = .returned .nilIface ∧ ∃ nb own' lv', PutNew w own g bm es (ms ++ [((t.k, t.s), nb)]) c n t nb w' own' lv' := by
  have HS := hide (hS.alloc (.cells #[.int .i64 t.k, .int .u32 t.s, .int .u32 t.v] 55))
  have HF := hide (hF.alloc (.cells #[.int .i64 t.k, .int .u32 t.s, .int .u32 t.v] 55))
  have he : errOf E (may t) = .nilIface := by rw [hm]; rfl
  have HE := hide he
  obtain ⟨la, lcap, rfl, _, _⟩ := h.row.form
  have H := hide h
  have HS0 := hide hS
  have HF0 := hide hF
  have HO := hide ho
  have HMX := hide hmx
  have hzv : ∀ W, (zeroValue 135).run Tryd.prog W = .ok (.pointer none) W := Tryd.zeroValue135
  have k0 : 0 ≤ t.k := by omega
  have k8 : t.k < 8 := by omega
  clear h hS hF he hm ho hmx
  unfold Tk.val
  go_enter Tryd.func71, Tryd.ntmps71
  go_upto_region 4 with (go_at_call 90; refine (check_any E t _ HS.out HF.out).mono ?_; rintro e w1 ⟨rfl, hb⟩; rw [HE.out]; have HB := hide hb; clear hb)
  have hP := put_at H.out HS0.out HF0.out HB.out
  obtain ⟨_, c1, c10, ck, fg⟩ := lane_cells hP.raw.blk
  have ckk := ck t.k k0 k8
  have b0 : w1.cell? ⟨w.heap.size, 0, none⟩ = some (.int .i64 t.k) := blk_cell hP.box 0
  have b1 : w1.cell? ⟨w.heap.size, 1, none⟩ = some (.int .u32 t.s) := blk_cell hP.box 1
  have b2 : w1.cell? ⟨w.heap.size, 2, none⟩ = some (.int .u32 t.v) := blk_cell hP.box 2
  have lb := blk_lt hP.box
  have lg := blk_lt hP.raw.blk
  have fon := hP.forms.on t.k k0 (by omega)
  have lF := hP.forms.lt
  rw [HO.out] at fon
  have HP := hide hP
  clear hP ck
  have hlk : ∀ q, (Instr.lookup 125 (.map (some bm)) (.agg #[.int .i64 t.k, .int .u32 t.s]) false).run Tryd.prog ((w1.alloc (.cells #[.int .i64 t.k, .int .u32 t.s] 176)).drewN q) = .ok (.pointer none) ((w1.alloc (.cells #[.int .i64 t.k, .int .u32 t.s] 176)).drewN q) := fun q => by
    have := run_lookup_is (w := (w1.alloc (.cells #[.int .i64 t.k, .int .u32 t.s] 176)).drewN q) pl_key Tryd.underlying125 hzv (HP.out.raw.map.alloc _) (t.k, t.s)
    rw [lookup_none HMX.out] at this
    exact this
  clear hzv
  go_wp2
  go_quiet (fail)
  clear hlk
  go_wp2
  obtain ⟨i0, hi, hz0, hz1, hz2⟩ := info_parts infoPtr
  refine wp_name (fun wb hwb => ?_)
  have hN := HP.out.new H.out _ hwb
  clear hwb c1 c10 fg ckk b0 b1 b2 fon
  obtain ⟨_, c1, c10, ck, fg⟩ := lane_cells hN.blk
  clear c10 ck
  have p0 : wb.cell? ⟨w1.heap.size, 0, none⟩ = some (.int .i64 t.k) := blk_cell hN.pl 0
  have p1 : wb.cell? ⟨w1.heap.size, 1, none⟩ = some (.int .u32 t.s) := blk_cell hN.pl 1
  obtain ⟨w2, hmu, hm2, hu2⟩ := run_mapUpdate_new (w := wb.drew) pl_key Tryd.underlying125 hN.map (t.k, t.s) (.pointer (some ⟨w1.heap.size + 1, 0, none⟩)) (lookup_none HMX.out)
  have hM := hN.mapped HMX.out hm2 (show Upd _ wb w2 from ⟨hu2.os, hu2.tape, hu2.output, hu2.size, hu2.block⟩)
  have HM := hide hM
  clear hm2 hu2 hM hN
  have hmu' : (Instr.mapUpdate 125 (.map (some bm)) (.agg #[.int .i64 t.k, .int .u32 t.s]) (.pointer (some ⟨w1.heap.size + 1, 0, none⟩))).run Tryd.prog wb.drew = .ok () w2 := hmu
  clear hmu
  go_region
  clear hmu' c1 fg p0 p1
  have e0 := (lane_cells HM.out.blk).1
  have HR2 := hide HM.out.row
  have HM1 := hide (show es.length + 1 ≤ maxLen by unfold maxLen; omega)
  have HM2 := hide (show (es.length + 1) * 8 ≤ 140737488355328 by omega)
  have HONE := hide (show ∀ u ∈ [Value.pointer (some ⟨w1.heap.size + 1, 0, none⟩)], u.oneCell' = true from fun u hu => by
    simp at hu
    subst hu
    rfl)
  go_wp2_with (at_builtin; refine wpList_append_row _ rfl _ _ 126 rfl 135 i0 _ 1 8 Tryd.underlying126 hi hz0 hz1 hz2 rfl (by decide) _ _ _ rfl (HR2.out.alloc _) _ 1 [.pointer (some ⟨w1.heap.size + 1, 0, none⟩)] rfl (Row.lit w2 135 1 1 #[.pointer (some ⟨w1.heap.size + 1, 0, none⟩)] rfl (by decide)) (HONE.out) (HM1.out) (HM2.out) ?_; intro v1 w3 hr1 hu1 ho1 hs1 hl1; have hA := HM.out.appended _ hr1 hu1 ho1; obtain ⟨va, vc, rfl, _, _⟩ := hr1.form; obtain ⟨e0, _, c10, ck, fg⟩ := lane_cells hA.blk; have ckk := ck t.k k0 k8; have b0 : w3.cell? ⟨w.heap.size, 0, none⟩ = some (.int .i64 t.k) := blk_cell hA.box 0; have lb3 := blk_lt hA.box; have lg3 := blk_lt hA.blk; have hgne := blk_ne hA.blk hA.box (by decide); have HA := hide hA; clear hr1 hu1 ho1 hl1 hA ck)
  go_region
  go_wp2
  refine wp_nameP (fun wd hwd => ?_)
  go_ret
  refine ⟨rfl, w1.heap.size + 1, _, _, HA.out.stored k0 k8 _ hwd⟩

set_option maxRecDepth 100000 in
set_option maxHeartbeats 1600000 in
theorem put_new_ping (E : Nat → Addr) (w : World) (own : Nat → Prop) (g : Nat) (lv : Value) (bm : Nat) (es : List En) (ms : List ((Int × Int) × Nat)) (c : Nat → Int) (n : Int)
    (h : LaneRaw w own g lv bm es ms c n) (hS : Sent w E) (hF : Forms w) (t : Tk) (hm : may t = 0) (hmx : ∀ p ∈ ms, p.1 ≠ (t.k, t.s)) (ho : fOnce t.k = false) (hb3 : (t.k == 3) = false) (hk0 : 1 ≤ t.k) (hk7 : t.k ≤ 7)
    (hc0 : 0 ≤ c t.k.toNat) (hc1 : c t.k.toNat ≤ 8796093022208) (hn0 : 0 ≤ n) (hn1 : n ≤ 8796093022208) (hlen : es.length < 17592186044416) :
    Calls Tryd.prog 71 #[.pointer (some ⟨g, 0, none⟩), t.val] w fun e w' => e = .returned .nilIface ∧ ∃ nb own' lv', PutNew w own g bm es ms c n t nb w' own' lv' := by
  have HS := hide (hS.alloc (.cells #[.int .i64 t.k, .int .u32 t.s, .int .u32 t.v] 55))
  have HF := hide (hF.alloc (.cells #[.int .i64 t.k, .int .u32 t.s, .int .u32 t.v] 55))
  have he : errOf E (may t) = .nilIface := by rw [hm]; rfl
  have HE := hide he
  obtain ⟨la, lcap, rfl, _, _⟩ := h.row.form
  have H := hide h
  have HS0 := hide hS
  have HF0 := hide hF
  have HO := hide ho
  have HMX := hide hmx
  have hzv : ∀ W, (zeroValue 135).run Tryd.prog W = .ok (.pointer none) W := Tryd.zeroValue135
  have k0 : 0 ≤ t.k := by omega
  have k8 : t.k < 8 := by omega
  clear h hS hF he hm ho hmx
  unfold Tk.val
  go_enter Tryd.func71, Tryd.ntmps71
  go_upto_region 4 with (go_at_call 90; refine (check_any E t _ HS.out HF.out).mono ?_; rintro e w1 ⟨rfl, hb⟩; rw [HE.out]; have HB := hide hb; clear hb)
  have hP := put_at H.out HS0.out HF0.out HB.out
  obtain ⟨_, c1, c10, ck, fg⟩ := lane_cells hP.raw.blk
  have ckk := ck t.k k0 k8
  have b0 : w1.cell? ⟨w.heap.size, 0, none⟩ = some (.int .i64 t.k) := blk_cell hP.box 0
  have b1 : w1.cell? ⟨w.heap.size, 1, none⟩ = some (.int .u32 t.s) := blk_cell hP.box 1
  have b2 : w1.cell? ⟨w.heap.size, 2, none⟩ = some (.int .u32 t.v) := blk_cell hP.box 2
  have lb := blk_lt hP.box
  have lg := blk_lt hP.raw.blk
  have fon := hP.forms.on t.k k0 (by omega)
  have lF := hP.forms.lt
  rw [HO.out] at fon
  have HP := hide hP
  clear hP ck
  have hlk : ∀ q, (Instr.lookup 125 (.map (some bm)) (.agg #[.int .i64 t.k, .int .u32 t.s]) false).run Tryd.prog ((w1.alloc (.cells #[.int .i64 t.k, .int .u32 t.s] 176)).drewN q) = .ok (.pointer none) ((w1.alloc (.cells #[.int .i64 t.k, .int .u32 t.s] 176)).drewN q) := fun q => by
    have := run_lookup_is (w := (w1.alloc (.cells #[.int .i64 t.k, .int .u32 t.s] 176)).drewN q) pl_key Tryd.underlying125 hzv (HP.out.raw.map.alloc _) (t.k, t.s)
    rw [lookup_none HMX.out] at this
    exact this
  clear hzv
  go_wp2
  go_quiet (fail)
  clear hlk
  go_upto_region 18 with (fail)
  obtain ⟨i0, hi, hz0, hz1, hz2⟩ := info_parts infoPtr
  refine wp_name (fun wb hwb => ?_)
  have hM := HP.out.new H.out _ hwb
  clear hwb c1 c10 fg ckk b0 b1 b2 fon
  have HM := hide hM
  clear hM
  have e0 := (lane_cells HM.out.blk).1
  have HR2 := hide HM.out.row
  have HM1 := hide (show es.length + 1 ≤ maxLen by unfold maxLen; omega)
  have HM2 := hide (show (es.length + 1) * 8 ≤ 140737488355328 by omega)
  have HONE := hide (show ∀ u ∈ [Value.pointer (some ⟨w1.heap.size + 1, 0, none⟩)], u.oneCell' = true from fun u hu => by
    simp at hu
    subst hu
    rfl)
  go_wp2_with (at_builtin; refine wpList_append_row _ rfl _ _ 126 rfl 135 i0 _ 1 8 Tryd.underlying126 hi hz0 hz1 hz2 rfl (by decide) _ _ _ rfl (HR2.out.alloc _) _ 1 [.pointer (some ⟨w1.heap.size + 1, 0, none⟩)] rfl (Row.lit wb 135 1 1 #[.pointer (some ⟨w1.heap.size + 1, 0, none⟩)] rfl (by decide)) (HONE.out) (HM1.out) (HM2.out) ?_; intro v1 w3 hr1 hu1 ho1 hs1 hl1; have hA := HM.out.appended _ hr1 hu1 ho1; obtain ⟨va, vc, rfl, _, _⟩ := hr1.form; obtain ⟨e0, _, c10, ck, fg⟩ := lane_cells hA.blk; have ckk := ck t.k k0 k8; have b0 : w3.cell? ⟨w.heap.size, 0, none⟩ = some (.int .i64 t.k) := blk_cell hA.box 0; have lb3 := blk_lt hA.box; have lg3 := blk_lt hA.blk; have hgne := blk_ne hA.blk hA.box (by decide); have HA := hide hA; clear hr1 hu1 ho1 hl1 hA ck)
  go_region
  go_wp2
  refine wp_nameP (fun wd hwd => ?_)
  go_ret
  refine ⟨rfl, w1.heap.size + 1, _, _, HA.out.stored k0 k8 _ hwd⟩
end Go.Proofs.YtdeonehebbofiaaDoor
