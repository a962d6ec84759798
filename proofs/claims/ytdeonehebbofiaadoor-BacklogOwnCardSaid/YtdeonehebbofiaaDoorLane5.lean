/-
  Put.
-/
import Derived.Test.YtdeonehebbofiaaDoorLane4
namespace Go.Proofs.YtdeonehebbofiaaDoor
open Go.RowKit

theorem Sent.alloc {w : World} {E : Nat → Addr} (h : Sent w E) (o : Obj) : Sent (w.alloc o) E := h.below (below_alloc (Below.refl _ w) o) h.lt
theorem Forms.alloc {w : World} (h : Forms w) (o : Obj) : Forms (w.alloc o) := h.below (below_alloc (Below.refl _ w) o) h.lt
theorem Sent.belows {w w' : World} {E : Nat → Addr} (h : Sent w E) (hb : Below w.heap.size w w') : Sent w' E := h.below hb h.lt
theorem Forms.belows {w w' : World} (h : Forms w) (hb : Below w.heap.size w w') : Forms w' := h.below hb h.lt

theorem put_nil (E : Nat → Addr) (w : World) (hS : Sent w E) (t : Tk) : Calls Tryd.prog 71 #[.pointer none, t.val] w fun e w' => e = .returned (errOf E 1) ∧ Below w.heap.size w w' := by
  have c1 := hS.cell 1 (by decide) (by decide)
  have l1 := (hS.lt 1 (by decide) (by decide)).1
  simp only [gid] at c1 l1
  clear hS
  unfold Tk.val
  go_enter Tryd.func71, Tryd.ntmps71
  go_wp2
  go_ret
  exact ⟨rfl, below_alloc (Below.refl _ _) _⟩

/-- A ticket that may not be. -/
theorem put_bad (E : Nat → Addr) (w : World) (hS : Sent w E) (hF : Forms w) (g : Nat) (t : Tk) (hm : may t ≠ 0) :
    Calls Tryd.prog 71 #[.pointer (some ⟨g, 0, none⟩), t.val] w fun e w' => e = .returned (errOf E (may t)) ∧ Below w.heap.size w w' := by
  have HS := hide (hS.alloc (.cells #[.int .i64 t.k, .int .u32 t.s, .int .u32 t.v] 55))
  have HF := hide (hF.alloc (.cells #[.int .i64 t.k, .int .u32 t.s, .int .u32 t.v] 55))
  have he : errOf E (may t) = errv (E (may t)) := by unfold errOf; rw [if_neg hm]
  have HE := hide he
  clear hS hF he hm
  unfold Tk.val
  go_enter Tryd.func71, Tryd.ntmps71
  go_wp2_with (go_at_call 90; refine (check_any E t _ HS.out HF.out).mono ?_; rintro e w' ⟨rfl, hb⟩; rw [HE.out]; unfold errv)
  go_ret
  exact ⟨by rw [HE.out]; rfl, (below_alloc (Below.refl _ _) _).trans (hb.mono (by simp))⟩

/-- Behind check: what lies as it lay. -/
structure PutAt (w w1 : World) (own : Nat → Prop) (g : Nat) (lv : Value) (bm : Nat) (es : List En) (ms : List ((Int × Int) × Nat)) (c : Nat → Int) (n : Int) (E : Nat → Addr) (t : Tk) : Prop where
  raw : LaneRaw w1 own g lv bm es ms c n
  sent : Sent w1 E
  forms : Forms w1
  below : Below w.heap.size w w1
  box : w1.heap[w.heap.size]? = some (.cells #[.int .i64 t.k, .int .u32 t.s, .int .u32 t.v] 55 (0, 0))
theorem put_at {w w1 : World} {own : Nat → Prop} {g : Nat} {lv : Value} {bm : Nat} {es : List En} {ms : List ((Int × Int) × Nat)} {c : Nat → Int} {n : Int} {E : Nat → Addr} {t : Tk}
    (h : LaneRaw w own g lv bm es ms c n) (hS : Sent w E) (hF : Forms w)
    (hb : Below (w.alloc (.cells #[.int .i64 t.k, .int .u32 t.s, .int .u32 t.v] 55)).heap.size (w.alloc (.cells #[.int .i64 t.k, .int .u32 t.s, .int .u32 t.v] 55)) w1) : PutAt w w1 own g lv bm es ms c n E t where
  raw := h.upd ((Upd.of_below ((below_alloc (Below.refl _ w) _).trans (hb.mono (by simp))) (fun _ => False))) (fun _ _ _ e => e)
  sent := (hS.alloc _).belows hb
  forms := (hF.alloc _).belows hb
  below := (below_alloc (Below.refl _ w) _).trans (hb.mono (by simp))
  box := (hb.block _ (by simp)).trans (blk_new w _)

set_option maxRecDepth 100000 in
set_option maxHeartbeats 800000 in
/-- A ticket of a kind of which one is enough, and there is one. -/
theorem put_twice (E : Nat → Addr) (w : World) (own : Nat → Prop) (g : Nat) (lv : Value) (bm : Nat) (es : List En) (ms : List ((Int × Int) × Nat)) (c : Nat → Int) (n : Int)
    (h : LaneRaw w own g lv bm es ms c n) (hS : Sent w E) (hF : Forms w) (t : Tk) (hm : may t = 0) (b : Nat) (hmx : ∀ p ∈ ms, p.1 = (t.k, t.s) → p.2 = b) (hme : ∃ p ∈ ms, p.1 = (t.k, t.s)) (ho : fOnce t.k = true) (hk0 : 1 ≤ t.k) (hk7 : t.k ≤ 7) :
    Calls Tryd.prog 71 #[.pointer (some ⟨g, 0, none⟩), t.val] w fun e w' => e = .returned (errOf E 8) ∧ Below w.heap.size w w' := by
  have HS := hide (hS.alloc (.cells #[.int .i64 t.k, .int .u32 t.s, .int .u32 t.v] 55))
  have HF := hide (hF.alloc (.cells #[.int .i64 t.k, .int .u32 t.s, .int .u32 t.v] 55))
  have he : errOf E (may t) = .nilIface := by rw [hm]; rfl
  have HE := hide he
  have H := hide h
  have HS0 := hide hS
  have HF0 := hide hF
  have HO := hide ho
  have HMX := hide hmx
  have HME := hide hme
  have hzv : ∀ W, (zeroValue 135).run Tryd.prog W = .ok (.pointer none) W := Tryd.zeroValue135
  have k0 : 0 ≤ t.k := by omega
  have k8 : t.k < 8 := by omega
  clear h hS hF he hm ho hmx hme
  unfold Tk.val
  go_enter Tryd.func71, Tryd.ntmps71
  go_upto_region 4 with (go_at_call 90; refine (check_any E t _ HS.out HF.out).mono ?_; rintro e w1 ⟨rfl, hb⟩; rw [HE.out]; have HB := hide hb; clear hb)
  have hP := put_at H.out HS0.out HF0.out HB.out
  obtain ⟨_, c1, c10, ck, fg⟩ := lane_cells hP.raw.blk
  have ckk := ck t.k k0 k8
  have b0 : w1.cell? ⟨w.heap.size, 0, none⟩ = some (.int .i64 t.k) := blk_cell hP.box 0
  have b1 : w1.cell? ⟨w.heap.size, 1, none⟩ = some (.int .u32 t.s) := blk_cell hP.box 1
  have b2 : w1.cell? ⟨w.heap.size, 2, none⟩ = some (.int .u32 t.v) := blk_cell hP.box 2
  have lb := blk_lt hP.box
  have lg := blk_lt hP.raw.blk
  have fon := hP.forms.on t.k k0 (by omega)
  have lF := hP.forms.lt
  have HP := hide hP
  clear hP ck
  have hlk : ∀ q, (Instr.lookup 125 (.map (some bm)) (.agg #[.int .i64 t.k, .int .u32 t.s]) false).run Tryd.prog ((w1.alloc (.cells #[.int .i64 t.k, .int .u32 t.s] 176)).drewN q) = .ok (.pointer (some ⟨b, 0, none⟩)) ((w1.alloc (.cells #[.int .i64 t.k, .int .u32 t.s] 176)).drewN q) := fun q => by
    obtain ⟨j, hj⟩ := lookup_some (i := 0) HMX.out HME.out
    have := run_lookup_is (w := (w1.alloc (.cells #[.int .i64 t.k, .int .u32 t.s] 176)).drewN q) pl_key Tryd.underlying125 hzv (HP.out.raw.map.alloc _) (t.k, t.s)
    rw [hj] at this
    exact this
  rw [HO.out] at fon
  have c8 := HP.out.sent.cell 8 (by decide) (by decide)
  have l8 := (HP.out.sent.lt 8 (by decide) (by decide)).1
  simp only [gid] at c8 l8
  clear hzv
  go_wp2
  go_quiet (fail)
  clear hlk
  go_wp2
  go_ret
  exact ⟨rfl, below_drewN (below_alloc HP.out.below _) _⟩
set_option maxRecDepth 100000 in
set_option maxHeartbeats 800000 in
/-- A grant, where one waits: too much, or added to it. -/
theorem put_over (E : Nat → Addr) (w : World) (own : Nat → Prop) (g : Nat) (lv : Value) (bm : Nat) (es : List En) (ms : List ((Int × Int) × Nat)) (c : Nat → Int) (n : Int)
    (h : LaneRaw w own g lv bm es ms c n) (hS : Sent w E) (hF : Forms w) (t : Tk) (hm : may t = 0) (x : En) (hx : x ∈ es) (hmx : ∀ p ∈ ms, p.1 = (t.k, t.s) → p.2 = x.b) (hme : ∃ p ∈ ms, p.1 = (t.k, t.s)) (ho : fOnce t.k = false) (hv0 : 0 ≤ x.t.v) (hv1 : x.t.v ≤ 4294967295) (hov : 4294967295 - x.t.v < t.v) (hk0 : 1 ≤ t.k) (hk7 : t.k ≤ 7) :
    Calls Tryd.prog 71 #[.pointer (some ⟨g, 0, none⟩), t.val] w fun e w' => e = .returned (errOf E 4) ∧ Below w.heap.size w w' := by
  have HS := hide (hS.alloc (.cells #[.int .i64 t.k, .int .u32 t.s, .int .u32 t.v] 55))
  have HF := hide (hF.alloc (.cells #[.int .i64 t.k, .int .u32 t.s, .int .u32 t.v] 55))
  have he : errOf E (may t) = .nilIface := by rw [hm]; rfl
  have HE := hide he
  have H := hide h
  have HS0 := hide hS
  have HF0 := hide hF
  have HO := hide ho
  have HMX := hide hmx
  have HME := hide hme
  have hzv : ∀ W, (zeroValue 135).run Tryd.prog W = .ok (.pointer none) W := Tryd.zeroValue135
  have k0 : 0 ≤ t.k := by omega
  have k8 : t.k < 8 := by omega
  clear h hS hF he hm ho hmx hme
  unfold Tk.val
  go_enter Tryd.func71, Tryd.ntmps71
  go_upto_region 4 with (go_at_call 90; refine (check_any E t _ HS.out HF.out).mono ?_; rintro e w1 ⟨rfl, hb⟩; rw [HE.out]; have HB := hide hb; clear hb)
  have hP := put_at H.out HS0.out HF0.out HB.out
  obtain ⟨_, c1, c10, ck, fg⟩ := lane_cells hP.raw.blk
  have ckk := ck t.k k0 k8
  have b0 : w1.cell? ⟨w.heap.size, 0, none⟩ = some (.int .i64 t.k) := blk_cell hP.box 0
  have b1 : w1.cell? ⟨w.heap.size, 1, none⟩ = some (.int .u32 t.s) := blk_cell hP.box 1
  have b2 : w1.cell? ⟨w.heap.size, 2, none⟩ = some (.int .u32 t.v) := blk_cell hP.box 2
  have lb := blk_lt hP.box
  have lg := blk_lt hP.raw.blk
  have fon := hP.forms.on t.k k0 (by omega)
  have lF := hP.forms.lt
  have eb := hP.raw.ens x hx
  have x2 : w1.cell? ⟨x.b, 2, none⟩ = some (.int .u32 x.t.v) := blk_cell eb 2
  have lx := blk_lt eb
  clear eb
  have HP := hide hP
  clear hP ck
  have hlk : ∀ q, (Instr.lookup 125 (.map (some bm)) (.agg #[.int .i64 t.k, .int .u32 t.s]) false).run Tryd.prog ((w1.alloc (.cells #[.int .i64 t.k, .int .u32 t.s] 176)).drewN q) = .ok (.pointer (some ⟨x.b, 0, none⟩)) ((w1.alloc (.cells #[.int .i64 t.k, .int .u32 t.s] 176)).drewN q) := fun q => by
    obtain ⟨j, hj⟩ := lookup_some (i := 0) HMX.out HME.out
    have := run_lookup_is (w := (w1.alloc (.cells #[.int .i64 t.k, .int .u32 t.s] 176)).drewN q) pl_key Tryd.underlying125 hzv (HP.out.raw.map.alloc _) (t.k, t.s)
    rw [hj] at this
    exact this
  rw [HO.out] at fon
  have c4 := HP.out.sent.cell 4 (by decide) (by decide)
  have l4 := (HP.out.sent.lt 4 (by decide) (by decide)).1
  simp only [gid] at c4 l4
  clear hzv
  go_wp2
  go_quiet (fail)
  clear hlk
  go_wp2
  go_quiet (fail)
  go_wp2
  go_ret
  exact ⟨rfl, below_drewN (below_alloc HP.out.below _) _⟩

/-- The entry's value is more by the ticket's. -/
def addTo (b : Nat) (v : Int) (es : List En) : List En := es.map fun e => if e.b = b then { e with t := { e.t with v := e.t.v + v } } else e
structure PutAdd (w : World) (own : Nat → Prop) (g : Nat) (lv : Value) (bm : Nat) (es : List En) (ms : List ((Int × Int) × Nat)) (c : Nat → Int) (n : Int) (x : En) (t : Tk) (w' : World) : Prop where
  raw : LaneRaw w' own g lv bm (addTo x.b t.v es) ms c n
  upd : Upd own w w'

theorem addTo_ptr (b : Nat) (v : Int) (es : List En) : (addTo b v es).map En.ptr = es.map En.ptr := by
  simp only [addTo, List.map_map]
  apply List.map_congr_left
  intro e _
  simp only [Function.comp]
  split <;> rfl
theorem addTo_b (b : Nat) (v : Int) (es : List En) : (addTo b v es).map (·.b) = es.map (·.b) := by
  simp only [addTo, List.map_map]
  apply List.map_congr_left
  intro e _
  simp only [Function.comp]
  split <;> rfl
theorem addTo_length (b : Nat) (v : Int) (es : List En) : (addTo b v es).length = es.length := by simp [addTo]
theorem addTo_mem {b : Nat} {v : Int} {es : List En} {e : En} (h : e ∈ addTo b v es) : ∃ e0 ∈ es, (e0.b = b ∧ e = { e0 with t := { e0.t with v := e0.t.v + v } }) ∨ (e0.b ≠ b ∧ e = e0) := by
  obtain ⟨e0, h0, h1⟩ := List.mem_map.1 h
  refine ⟨e0, h0, ?_⟩
  split at h1
  · rename_i hb; exact .inl ⟨hb, h1.symm⟩
  · rename_i hb; exact .inr ⟨hb, h1.symm⟩
theorem nodup_b_inj {es : List En} (h : (es.map (·.b)).Nodup) {a b : En} (ha : a ∈ es) (hb : b ∈ es) (hab : a.b = b.b) : a = b := by
  induction es with
  | nil => cases ha
  | cons e es ih =>
    simp only [List.map_cons, List.nodup_cons] at h
    rcases List.mem_cons.1 ha with ha1 | ha1
    · rcases List.mem_cons.1 hb with hb1 | hb1
      · rw [ha1, hb1]
      · exact absurd (List.mem_map.2 ⟨b, hb1, by rw [← hab, ha1]⟩) h.1
    · rcases List.mem_cons.1 hb with hb1 | hb1
      · exact absurd (List.mem_map.2 ⟨a, ha1, by rw [hab, hb1]⟩) h.1
      · exact ih h.2 ha1 hb1
theorem wp_nameP {P : Program} {fn : Func} {R : Ending → World → Prop} {x : Exit} {a : Act} {W : World} (h : ∀ wc, wc = W → bodyPost P fn R x a wc) : bodyPost P fn R x a W := h W rfl

theorem add_stored {w w1 : World} {own : Nat → Prop} {g : Nat} {lv : Value} {bm : Nat} {es : List En} {ms : List ((Int × Int) × Nat)} {c : Nat → Int} {n : Int} {E : Nat → Addr} {t : Tk}
    (h : PutAt w w1 own g lv bm es ms c n E t) (x : En) (hx : x ∈ es) (o : Obj) (wd : World) (q : Nat) (hwd : wd = (((w1.alloc o).drewN q).setCell ⟨x.b, 2, none⟩ (.int .u32 (x.t.v + t.v)))) : PutAdd w own g lv bm es ms c n x t wd := by
  have hU : Upd (fun k => k = x.b) w1 wd := by
    subst hwd
    exact (((Upd.refl (fun k => k = x.b) w1).alloc o).drewN q).setCell (p := ⟨x.b, 2, none⟩) (.inl rfl) _
  have hbx : wd.heap[x.b]? = some (.cells (En.cells { x with t := { x.t with v := x.t.v + t.v } }) 137 (0, 0)) := by
    subst hwd
    exact blk_set (w := (w1.alloc o).drewN q) (blk_alloc (h.raw.ens x hx) o) 2 _
  have ho := h.raw.oe x hx
  refine ⟨⟨?_, ?_, ?_, ?_, h.raw.og, h.raw.om, ?_, h.raw.ol, ?_, h.raw.mnd, fun k hk => Nat.lt_of_lt_of_le (h.raw.ob k hk) hU.size⟩, (Upd.of_below h.below own).trans hU (fun i _ hi => by rw [hi]; exact ho)⟩
  · exact hU.keeps h.raw.blk (fun e => blk_ne (h.raw.ens x hx) h.raw.blk (by decide) e.symm)
  · rw [addTo_ptr, addTo_length]
    exact h.raw.row.upd hU (fun k hk hS => by subst hS; exact h.raw.row.ne (h.raw.ens x hx) (by decide) hk)
  · intro e he
    obtain ⟨e0, h0, ⟨hb, rfl⟩ | ⟨hb, rfl⟩⟩ := addTo_mem he
    · obtain rfl := nodup_b_inj h.raw.nd h0 hx hb
      exact hbx
    · exact hU.keeps (h.raw.ens e h0) hb
  · exact h.raw.map.upd hU (fun e => h.raw.map.ne_cells (h.raw.ens x hx) e)
  · intro e he
    obtain ⟨e0, h0, ⟨_, rfl⟩ | ⟨_, rfl⟩⟩ := addTo_mem he
    · exact h.raw.oe e0 h0
    · exact h.raw.oe _ h0
  · rw [addTo_b]; exact h.raw.nd

set_option maxRecDepth 100000 in
set_option maxHeartbeats 800000 in
/-- A grant, where one waits: it is added to it. -/
theorem put_add (E : Nat → Addr) (w : World) (own : Nat → Prop) (g : Nat) (lv : Value) (bm : Nat) (es : List En) (ms : List ((Int × Int) × Nat)) (c : Nat → Int) (n : Int)
    (h : LaneRaw w own g lv bm es ms c n) (hS : Sent w E) (hF : Forms w) (t : Tk) (hm : may t = 0) (x : En) (hx : x ∈ es) (hmx : ∀ p ∈ ms, p.1 = (t.k, t.s) → p.2 = x.b) (hme : ∃ p ∈ ms, p.1 = (t.k, t.s)) (ho : fOnce t.k = false) (hv0 : 0 ≤ x.t.v) (hv1 : x.t.v ≤ 4294967295) (hov : t.v ≤ 4294967295 - x.t.v) (hv2 : 0 ≤ t.v) (hk0 : 1 ≤ t.k) (hk7 : t.k ≤ 7) :
    Calls Tryd.prog 71 #[.pointer (some ⟨g, 0, none⟩), t.val] w fun e w' => e = .returned .nilIface ∧ PutAdd w own g lv bm es ms c n x t w' := by
  have HS := hide (hS.alloc (.cells #[.int .i64 t.k, .int .u32 t.s, .int .u32 t.v] 55))
  have HF := hide (hF.alloc (.cells #[.int .i64 t.k, .int .u32 t.s, .int .u32 t.v] 55))
  have he : errOf E (may t) = .nilIface := by rw [hm]; rfl
  have HE := hide he
  have H := hide h
  have HS0 := hide hS
  have HF0 := hide hF
  have HO := hide ho
  have HMX := hide hmx
  have HME := hide hme
  have hzv : ∀ W, (zeroValue 135).run Tryd.prog W = .ok (.pointer none) W := Tryd.zeroValue135
  have k0 : 0 ≤ t.k := by omega
  have k8 : t.k < 8 := by omega
  clear h hS hF he hm ho hmx hme
  unfold Tk.val
  go_enter Tryd.func71, Tryd.ntmps71
  go_upto_region 4 with (go_at_call 90; refine (check_any E t _ HS.out HF.out).mono ?_; rintro e w1 ⟨rfl, hb⟩; rw [HE.out]; have HB := hide hb; clear hb)
  have hP := put_at H.out HS0.out HF0.out HB.out
  obtain ⟨_, c1, c10, ck, fg⟩ := lane_cells hP.raw.blk
  have ckk := ck t.k k0 k8
  have b0 : w1.cell? ⟨w.heap.size, 0, none⟩ = some (.int .i64 t.k) := blk_cell hP.box 0
  have b1 : w1.cell? ⟨w.heap.size, 1, none⟩ = some (.int .u32 t.s) := blk_cell hP.box 1
  have b2 : w1.cell? ⟨w.heap.size, 2, none⟩ = some (.int .u32 t.v) := blk_cell hP.box 2
  have lb := blk_lt hP.box
  have lg := blk_lt hP.raw.blk
  have fon := hP.forms.on t.k k0 (by omega)
  have lF := hP.forms.lt
  have eb := hP.raw.ens x hx
  have x2 : w1.cell? ⟨x.b, 2, none⟩ = some (.int .u32 x.t.v) := blk_cell eb 2
  have lx := blk_lt eb
  clear eb
  have HP := hide hP
  clear hP ck
  have hlk : ∀ q, (Instr.lookup 125 (.map (some bm)) (.agg #[.int .i64 t.k, .int .u32 t.s]) false).run Tryd.prog ((w1.alloc (.cells #[.int .i64 t.k, .int .u32 t.s] 176)).drewN q) = .ok (.pointer (some ⟨x.b, 0, none⟩)) ((w1.alloc (.cells #[.int .i64 t.k, .int .u32 t.s] 176)).drewN q) := fun q => by
    obtain ⟨j, hj⟩ := lookup_some (i := 0) HMX.out HME.out
    have := run_lookup_is (w := (w1.alloc (.cells #[.int .i64 t.k, .int .u32 t.s] 176)).drewN q) pl_key Tryd.underlying125 hzv (HP.out.raw.map.alloc _) (t.k, t.s)
    rw [hj] at this
    exact this
  rw [HO.out] at fon
  have c4 := HP.out.sent.cell 4 (by decide) (by decide)
  have l4 := (HP.out.sent.lt 4 (by decide) (by decide)).1
  simp only [gid] at c4 l4
  clear hzv
  go_wp2
  go_quiet (fail)
  clear hlk
  have fx2 : w1.frozen? ⟨x.b, 2, none⟩ = false := blk_frozen (HP.out.raw.ens x hx) 2
  go_wp2
  go_quiet (fail)
  go_wp2
  go_region
  go_wp2
  refine wp_nameP (fun wd hwd => ?_)
  go_ret
  have hD := add_stored HP.out x hx _ wd _ hwd
  exact ⟨rfl, hD⟩
end Go.Proofs.YtdeonehebbofiaaDoor
