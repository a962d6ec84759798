/-
  drop: an entry waits no more.
-/
import Derived.Test.YtdeonehebbofiaaDoorLane3
import Derived.LaidEqlPtr
import Derived.Deep.RegionLaw
namespace Go.Proofs.YtdeonehebbofiaaDoor
open Go.RowKit

theorem wp_name {P : Program} {c : Code} {Q : Exit → Act → World → Prop} {a : Act} {W : World} (h : ∀ wc, wc = W → Code.wp P c Q a wc) : Code.wp P c Q a W := h W rfl

theorem run_eql_nil_ptr {P : Program} (w : World) {tp te : TypeId} (b : Option Addr) (hp : P.underlying tp = some (.pointer te)) :
    (binOp .eql tp (.pointer none) (.pointer b)).run P w = .ok (.bool b.isNone) w := by
  have h : ∀ d : Nat, (Op.equalIn (d + 1) tp (.pointer none) (.pointer b)).run P w = .ok b.isNone w := fun d => by
    simp [Op.equalIn, run_underlying hp]
  simp only [binOp]
  simp [Op.equal, Op.maxDepth, h 9999]

/-- No entry of a key, or the first one. -/
theorem lookup_none {x : Int × Int} {ms : List ((Int × Int) × Nat)} (h : ∀ p ∈ ms, p.1 ≠ x) : mfind x (msv ms) 0 = none := by
  rw [mfind_none]
  intro p hp
  obtain ⟨q, hq, rfl⟩ := List.mem_map.1 hp
  exact h q hq
theorem lookup_some {x : Int × Int} {b : Nat} : ∀ {ms : List ((Int × Int) × Nat)} {i : Nat}, (∀ p ∈ ms, p.1 = x → p.2 = b) → (∃ p ∈ ms, p.1 = x) → ∃ j, mfind x (msv ms) i = some (j, .pointer (some ⟨b, 0, none⟩))
  | [], _, _, h => by obtain ⟨p, hp, _⟩ := h; cases hp
  | (k, u) :: r, i, h, hp => by
    simp only [msv, List.map_cons, mfind]
    by_cases hk : x = k
    · subst hk
      have := h (x, u) (by simp) rfl
      simp at this
      subst this
      exact ⟨i, by simp⟩
    · rw [if_neg hk]
      refine lookup_some (fun p hp => h p (List.mem_cons_of_mem _ hp)) ?_
      obtain ⟨p, hp, hpx⟩ := hp
      rcases List.mem_cons.1 hp with rfl | hp
      · exact absurd hpx.symm hk
      · exact ⟨p, hp, hpx⟩
/-- delete, where no key stands twice. -/
theorem mdel_filter {x : Int × Int} : ∀ {ms : List ((Int × Int) × Nat)}, (ms.map (·.1)).Nodup → mdel x (msv ms) = msv (ms.filter fun p => p.1 ≠ x) := by
  intro ms hnd
  have key : ∀ (ms : List ((Int × Int) × Nat)) (i : Nat), (ms.map (·.1)).Nodup →
      (match mfind x (msv ms) i with | some (j, _) => (msv ms).eraseIdx (j - i) | none => msv ms) = msv (ms.filter fun p => p.1 ≠ x) := by
    intro ms
    induction ms with
    | nil => intro i _; simp [msv, mfind]
    | cons p r ih =>
      intro i hnd
      obtain ⟨k, u⟩ := p
      simp only [List.map_cons, List.nodup_cons] at hnd
      simp only [msv, List.map_cons, mfind]
      by_cases hk : x = k
      · subst hk
        rw [if_pos rfl]
        have hall : r.filter (fun p => p.1 ≠ x) = r := by
          rw [List.filter_eq_self]
          intro p hp
          simp only [ne_eq, decide_eq_true_eq]
          rintro rfl
          exact hnd.1 (List.mem_map.2 ⟨p, hp, rfl⟩)
        rw [List.filter_cons, if_neg (by simp), hall]
        simp only [Nat.sub_self, List.eraseIdx_zero, List.tail_cons]
      · have hk' : ¬ k = x := fun e => hk e.symm
        rw [if_neg hk]
        have := ih (i + 1) hnd.2
        simp only [msv] at this
        rw [List.filter_cons, if_pos (by simpa using hk'), List.map_cons, ← this]
        cases hm : mfind x (List.map (fun x => (x.1, Value.pointer (some ⟨x.2, 0, none⟩))) r) (i + 1) with
        | none => rfl
        | some q =>
          obtain ⟨j, v⟩ := q
          have hj := (mfind_some hm).1
          dsimp only
          rw [show j - i = (j - (i + 1)) + 1 from by omega]
          simp
  have := key ms 0 hnd
  unfold mdel
  cases hm : mfind x (msv ms) 0 with
  | none => rw [hm] at this; exact this
  | some q => rw [hm] at this; exact this

def markGone (b : Nat) (es : List En) : List En := es.map fun e => if e.b = b then { e with gone := true } else e

theorem markGone_of_not_mem {b : Nat} : ∀ {es : List En}, b ∉ es.map (·.b) → markGone b es = es
  | [], _ => rfl
  | e :: es, h => by
    simp only [List.map_cons, List.mem_cons, not_or] at h
    have ih := markGone_of_not_mem h.2
    unfold markGone at ih ⊢
    rw [List.map_cons, ih, if_neg (fun he => h.1 he.symm)]
theorem markGone_ptr (b : Nat) (es : List En) : (markGone b es).map En.ptr = es.map En.ptr := by
  simp only [markGone, List.map_map]
  apply List.map_congr_left
  intro e _
  simp only [Function.comp]
  split <;> rfl
theorem markGone_b (b : Nat) (es : List En) : (markGone b es).map (·.b) = es.map (·.b) := by
  simp only [markGone, List.map_map]
  apply List.map_congr_left
  intro e _
  simp only [Function.comp]
  split <;> rfl
theorem markGone_length (b : Nat) (es : List En) : (markGone b es).length = es.length := by simp [markGone]
theorem markGone_mem {b : Nat} {es : List En} {e : En} (h : e ∈ markGone b es) : ∃ e0 ∈ es, (e0.b = b ∧ e = { e0 with gone := true }) ∨ (e0.b ≠ b ∧ e = e0) := by
  obtain ⟨e0, h0, h1⟩ := List.mem_map.1 h
  refine ⟨e0, h0, ?_⟩
  split at h1
  · rename_i hb; exact .inl ⟨hb, h1.symm⟩
  · rename_i hb; exact .inr ⟨hb, h1.symm⟩

theorem LaneRaw.mapTurn {w w' : World} {own : Nat → Prop} {g : Nat} {lv : Value} {bm : Nat} {es : List En} {ms : List ((Int × Int) × Nat)} {c : Nat → Int} {n : Int} {q : (Int × Int) × Nat → Bool}
    (h : LaneRaw w own g lv bm es ms c n) (hu : Upd (fun k => k = bm) w w') (hm : MapIs w' encPl bm (msv (ms.filter q))) : LaneRaw w' own g lv bm es (ms.filter q) c n where
  blk := hu.keeps h.blk (fun e => h.map.ne_cells h.blk e.symm)
  row := h.row.upd hu (fun k hk e => by
    obtain ⟨cur, hb⟩ := h.row.blk hk
    exact h.map.ne_cells hb e.symm)
  ens := fun e he => hu.keeps (h.ens e he) (fun e' => h.map.ne_cells (h.ens e he) e'.symm)
  map := hm
  og := h.og
  om := h.om
  oe := h.oe
  ol := h.ol
  nd := h.nd
  mnd := by
    have : ((ms.filter q).map (·.1)).Sublist (ms.map (·.1)) := List.Sublist.map _ List.filter_sublist
    exact this.nodup h.mnd
  ob := fun k hk => Nat.lt_of_lt_of_le (h.ob k hk) hu.size

/-- Behind the first four statements of drop. -/
theorem drop_state {w : World} {own : Nat → Prop} {g : Nat} {lv : Value} {bm : Nat} {es : List En} {ms : List ((Int × Int) × Nat)} {c : Nat → Int} {n : Int}
    (h : LaneRaw w own g lv bm es ms c n) (x : En) (hx : w.heap[x.b]? = some (.cells x.cells 137 (0, 0))) (hox : own x.b) (hxe : ∀ e ∈ es, e.b = x.b → e = x)
    (hk1 : 1 ≤ x.t.k) (hk7 : x.t.k ≤ 7) (o : Obj) (wc : World)
    (hwc : wc = ((((w.setCell { block := x.b, off := 3 } (Value.bool true)).setCell { block := g, off := 2 + x.t.k.toNat } (Value.int IntKind.i64 (c x.t.k.toNat - 1))).setCell { block := g, off := 10 } (Value.int IntKind.i64 (n - 1))).alloc o).drew.drew) :
    LaneRaw wc own g lv bm (markGone x.b es) ms (fun i => if i = x.t.k.toNat then c x.t.k.toNat - 1 else c i) (n - 1) ∧
    wc.heap[x.b]? = some (.cells (En.cells { x with gone := true }) 137 (0, 0)) ∧ wc.heap[w.heap.size]? = some o ∧ Upd own w wc ∧ wc.heap.size = w.heap.size + 1 := by
  have hne : x.b ≠ g := blk_ne hx h.blk (by decide)
  have hbx : wc.heap[x.b]? = some (.cells (En.cells { x with gone := true }) 137 (0, 0)) := by
    subst hwc
    have s1 := blk_set hx 3 (.bool true)
    exact blk_alloc (blk_far (blk_far s1 (p := ⟨g, 2 + x.t.k.toNat, none⟩) hne _) (p := ⟨g, 10, none⟩) hne _) _
  have hbg : wc.heap[g]? = some (.cells (laneCells lv bm (fun i => if i = x.t.k.toNat then c x.t.k.toNat - 1 else c i) (n - 1)) 129 (0, 0)) := by
    subst hwc
    have s1 := blk_far h.blk (p := ⟨x.b, 3, none⟩) (fun e => hne e.symm) (.bool true)
    have s2 := blk_set s1 (2 + x.t.k.toNat) (.int .i64 (c x.t.k.toNat - 1))
    rw [laneCells_count _ _ _ _ _ _ (by omega)] at s2
    have s3 := blk_set s2 10 (.int .i64 (n - 1))
    rw [laneCells_n] at s3
    exact blk_alloc s3 _
  have hU : Upd (fun k => k = x.b ∨ k = g) w wc := by
    subst hwc
    exact (((((Upd.refl _ w).setCell (p := ⟨x.b, 3, none⟩) (.inl (.inl rfl)) _).setCell (p := ⟨g, 2 + x.t.k.toNat, none⟩) (.inl (.inr rfl)) _).setCell (p := ⟨g, 10, none⟩) (.inl (.inr rfl)) _).alloc _).drew.drew
  have hsz : wc.heap.size = w.heap.size + 1 := by subst hwc; simp
  have hnew : wc.heap[w.heap.size]? = some o := by
    subst hwc
    have := blk_new (((w.setCell { block := x.b, off := 3 } (Value.bool true)).setCell { block := g, off := 2 + x.t.k.toNat } (Value.int IntKind.i64 (c x.t.k.toNat - 1))).setCell { block := g, off := 10 } (Value.int IntKind.i64 (n - 1))) o
    simp only [World.size_setCell] at this
    exact this
  refine ⟨⟨hbg, ?_, ?_, ?_, h.og, h.om, ?_, h.ol, ?_, h.mnd, fun k hk => Nat.lt_of_lt_of_le (h.ob k hk) hU.size⟩, hbx, hnew, hU.mono (fun i _ hi => by rcases hi with rfl | rfl; exact hox; exact h.og), hsz⟩
  · rw [markGone_ptr, markGone_length]
    exact h.row.upd hU (fun k hk hS => by
      rcases hS with rfl | rfl
      · exact h.row.ne hx (by decide) hk
      · exact h.row.ne h.blk (by decide) hk)
  · intro e he
    obtain ⟨e0, h0, ⟨hb, rfl⟩ | ⟨hb, rfl⟩⟩ := markGone_mem he
    · have := hxe e0 h0 hb
      subst this
      exact hbx
    · exact hU.keeps (h.ens e h0) (fun hS => by
        rcases hS with hS | hS
        · exact hb hS
        · exact blk_ne (h.ens e h0) h.blk (by decide) hS)
  · exact h.map.upd hU (fun hS => by
      rcases hS with hS | hS
      · exact h.map.ne_cells hx hS
      · exact h.map.ne_cells h.blk hS)
  · intro e he
    obtain ⟨e0, h0, ⟨_, rfl⟩ | ⟨_, rfl⟩⟩ := markGone_mem he
    · exact h.oe e0 h0
    · exact h.oe _ h0
  · rw [markGone_b]; exact h.nd

theorem infoPtr : (Tryd.prog.info? 135).map (fun i => (i.zero, i.size, i.bytes)) = some (some (.pointer none), 1, 8) := by kernel_rfl

/-- What a round of drop's loop leaves: the entries that wait, so far. -/
structure DropInv (w : World) (es : List En) (k : Nat) (v : Value) (wr : World) : Prop where
  row : Row wr 135 1 v ((es.take k).filter fun e => !e.gone).length (((es.take k).filter fun e => !e.gone).map En.ptr)
  own : ∀ b, v.ownBlock = some b → w.heap.size ≤ b
  below : Below w.heap.size w wr
theorem DropInv.step {w wr w1 : World} {es : List En} {k : Nat} {v v1 : Value} {e : En} (h : DropInv w es k v wr) (he : es[k]? = some e) (hg : e.gone = false) (o : Obj)
    (hr : Row w1 135 1 v1 (((es.take k).filter fun e => !e.gone).length + 1) (((es.take k).filter fun e => !e.gone).map En.ptr ++ [e.ptr])) (hu : Upd (fun q => some q = v.ownBlock) (wr.alloc o) w1)
    (ho : v1.ownBlock = v.ownBlock ∨ v1.ownBlock = some (wr.alloc o).heap.size) : DropInv w es (k + 1) v1 w1 where
  row := by
    rw [take_snoc_at es k e he, List.filter_append, List.map_append, List.length_append]
    simpa [hg] using hr
  own := fun b hb => by
    have := h.below.size
    rcases ho with ho | ho
    · exact h.own b (by rw [← ho, hb])
    · rw [hb] at ho
      injection ho with ho
      simp at ho
      omega
  below := (below_alloc h.below o).trans (hu.below (by have := h.below.size; simp; omega) (fun i hi hs => by have := h.own i hs.symm; omega))
theorem DropInv.skip {w wr : World} {es : List En} {k : Nat} {v : Value} {e : En} (h : DropInv w es k v wr) (he : es[k]? = some e) (hg : e.gone = true) : DropInv w es (k + 1) v wr where
  row := by
    rw [take_snoc_at es k e he, List.filter_append, List.map_append]
    simpa [hg] using h.row
  own := h.own
  below := h.below

/-- The entries behind drop. -/
def dropEs (b : Nat) (es : List En) (n : Int) : List En := if 2 * (n - 1) + 16 < (es.length : Int) then (markGone b es).filter (fun e => !e.gone) else markGone b es

structure DropPost (w : World) (own : Nat → Prop) (g bm : Nat) (es : List En) (ms : List ((Int × Int) × Nat)) (c : Nat → Int) (n : Int) (x : En) (w' : World) (own' : Nat → Prop) (lv : Value) : Prop where
  raw : LaneRaw w' own' g lv bm (dropEs x.b es n) (ms.filter fun p => p.1 ≠ (x.t.k, x.t.s)) (fun i => if i = x.t.k.toNat then c x.t.k.toNat - 1 else c i) (n - 1)
  ent : w'.heap[x.b]? = some (.cells (En.cells { x with gone := true }) 137 (0, 0))
  upd : Upd own w w'
  own : ∀ k, own' k → own k ∨ w.heap.size ≤ k

/-- The list is stored, made anew. -/
theorem drop_stored {w wc wr : World} {own : Nat → Prop} {g : Nat} {lv v : Value} {bm : Nat} {es : List En} {ms : List ((Int × Int) × Nat)} {c : Nat → Int} {n : Int}
    (h : LaneRaw wc own g lv bm es ms c n) (hU : Upd own w wc) (hI : DropInv wc es es.length v wr) :
    LaneRaw (wr.setCell ⟨g, 0, none⟩ v) (fun k => own k ∨ (w.heap.size ≤ k ∧ k < wr.heap.size)) g v bm (es.filter fun e => !e.gone) ms c n ∧ Upd own w (wr.setCell ⟨g, 0, none⟩ v) ∧
    (∀ k o, wc.heap[k]? = some o → k ≠ g → (wr.setCell ⟨g, 0, none⟩ v).heap[k]? = some o) := by
  have hb : Upd (fun _ => False) wc wr := Upd.of_below hI.below _
  have hfar : ∀ k o, wc.heap[k]? = some o → k ≠ g → (wr.setCell ⟨g, 0, none⟩ v).heap[k]? = some o := fun k o hk hne =>
    blk_far (hb.keeps hk (fun e => e)) (p := ⟨g, 0, none⟩) hne v
  have hsz := hU.size
  refine ⟨⟨?_, ?_, ?_, ?_, .inl h.og, .inl h.om, ?_, ?_, ?_, h.mnd, ?_⟩, ?_, hfar⟩
  · have := blk_set (hb.keeps h.blk (fun e => e)) 0 v
    rwa [laneCells_list] at this
  · have hr := hI.row
    rw [List.take_length] at hr
    exact hr.far (p := ⟨g, 0, none⟩) (fun e => by have := hI.own g e; have := blk_lt h.blk; omega) v
  · intro e he
    have he' := (List.mem_filter.1 he).1
    exact hfar _ _ (h.ens e he') (blk_ne (h.ens e he') h.blk (by decide))
  · exact (h.map.upd hb (fun e => e)).far (p := ⟨g, 0, none⟩) (h.map.ne_cells h.blk) v
  · exact fun e he => .inl (h.oe e ((List.mem_filter.1 he).1))
  · exact fun k hk => .inr ⟨Nat.le_trans hsz (hI.own k hk), hI.row.lt hk⟩
  · have : ((es.filter fun e => !e.gone).map (·.b)).Sublist (es.map (·.b)) := List.Sublist.map _ List.filter_sublist
    exact this.nodup h.nd
  · intro k hk
    simp only [World.size_setCell]
    rcases hk with hk | hk
    · exact Nat.lt_of_lt_of_le (h.ob k hk) hI.below.size
    · exact hk.2
  · exact (hU.trans hb (fun _ _ e => e.elim)).setCell (p := ⟨g, 0, none⟩) (.inl h.og) v

set_option maxRecDepth 100000 in
set_option maxHeartbeats 800000 in
theorem lane_drop (w : World) (own : Nat → Prop) (g : Nat) (lv : Value) (bm : Nat) (es : List En) (ms : List ((Int × Int) × Nat)) (c : Nat → Int) (n : Int)
    (h : LaneRaw w own g lv bm es ms c n) (x : En) (hx : w.heap[x.b]? = some (.cells x.cells 137 (0, 0))) (hxg : x.gone = false) (hox : own x.b)
    (hk1 : 1 ≤ x.t.k) (hk7 : x.t.k ≤ 7) (hc1 : 1 ≤ c x.t.k.toNat) (hc2 : c x.t.k.toNat ≤ 8796093022208) (hn1 : 1 ≤ n) (hn2 : n ≤ 8796093022208)
    (hxe : ∀ e ∈ es, e.b = x.b → e = x) (hmx : ∀ p ∈ ms, p.1 = (x.t.k, x.t.s) → p.2 = x.b) (hlen : es.length < 17592186044416) :
    Calls Tryd.prog 107 #[.pointer (some ⟨g, 0, none⟩), .pointer (some ⟨x.b, 0, none⟩)] w fun e w' => e = .returned (.tuple #[]) ∧ ∃ own' lv', DropPost w own g bm es ms c n x w' own' lv' := by
  obtain ⟨la, lcap, rfl, hlc, hlm⟩ := h.row.form
  obtain ⟨c0, c1, c10, ck, fg⟩ := lane_cells h.blk
  have ckk := ck x.t.k (by omega) (by omega)
  have e0 : w.cell? ⟨x.b, 0, none⟩ = some (.int .i64 x.t.k) := blk_cell hx 0
  have e1 : w.cell? ⟨x.b, 1, none⟩ = some (.int .u32 x.t.s) := blk_cell hx 1
  have e3 : w.cell? ⟨x.b, 3, none⟩ = some (.bool false) := by rw [← hxg]; exact blk_cell hx 3
  have fx : ∀ i, w.frozen? ⟨x.b, i, none⟩ = false := fun i => blk_frozen hx i
  have hne : x.b ≠ g := blk_ne hx h.blk (by decide)
  have lx := blk_lt hx
  have lg := blk_lt h.blk
  have H := hide h
  have HX := hide hx
  clear h hx ck
  go_enter Tryd.func107, Tryd.ntmps107
  go_wp2
  go_region
  go_wp2
  go_region
  go_wp2
  refine wp_name (fun wa hwa => ?_)
  obtain ⟨hR, hbx, hpl, hU, hsz⟩ := drop_state H.out x HX.out hox hxe hk1 hk7 _ wa hwa
  clear c0 c1 c10 fg ckk e0 e1 e3 fx
  clear hwa
  obtain ⟨d0, d1, d10, _, fd⟩ := lane_cells hR.blk
  have p0 : wa.cell? ⟨w.heap.size, 0, none⟩ = some (.int .i64 x.t.k) := blk_cell hpl 0
  have p1 : wa.cell? ⟨w.heap.size, 1, none⟩ = some (.int .u32 x.t.s) := blk_cell hpl 1
  have hzv : ∀ W, (zeroValue 135).run Tryd.prog W = .ok (.pointer none) W := Tryd.zeroValue135
  have HR := hide hR
  have HBX := hide hbx
  have HU := hide hU
  clear hR hbx hU hpl
  obtain ⟨V, bb, hlk, heq, hbb⟩ : ∃ (V : Option Addr) (bb : Bool), (∀ q, (Instr.lookup 125 (.map (some bm)) (.agg #[.int .i64 x.t.k, .int .u32 x.t.s]) false).run Tryd.prog (wa.drewN q) = .ok (.pointer V) (wa.drewN q)) ∧
      (∀ q, (binOp .eql 135 (.pointer V) (.pointer (some ⟨x.b, 0, none⟩))).run Tryd.prog (wa.drewN q) = .ok (.bool bb) (wa.drewN q)) ∧ (bb = false → ∀ p ∈ ms, p.1 ≠ (x.t.k, x.t.s)) := by
    by_cases hm : ∃ p ∈ ms, p.1 = (x.t.k, x.t.s)
    · obtain ⟨j, hj⟩ := lookup_some (i := 0) hmx hm
      refine ⟨some ⟨x.b, 0, none⟩, true, fun q => ?_, fun q => ?_, fun h => by cases h⟩
      · have := run_lookup_is (w := wa.drewN q) pl_key Tryd.underlying125 hzv HR.out.map (x.t.k, x.t.s)
        rw [hj] at this
        exact this
      · obtain ⟨j, hj⟩ : ∃ j, Tryd.prog.info? 137 = some j := by
          have : (Tryd.prog.info? 137).isSome = true := by kernel_rfl
          exact Option.isSome_iff_exists.1 this
        exact run_eql_ptr_same (wa.drewN q) _ Tryd.underlying135 hj
    · have hm' : ∀ p ∈ ms, p.1 ≠ (x.t.k, x.t.s) := fun p hp he => hm ⟨p, hp, he⟩
      refine ⟨none, false, fun q => ?_, fun q => ?_, fun _ => hm'⟩
      · have := run_lookup_is (w := wa.drewN q) pl_key Tryd.underlying125 hzv HR.out.map (x.t.k, x.t.s)
        rw [lookup_none hm'] at this
        exact this
      · exact run_eql_nil_ptr (wa.drewN q) _ Tryd.underlying135
  have HB := hide hbb
  have HMX := hide hmx
  clear hbb hmx hzv
  go_quiet (fail)
  clear hlk heq
  go_upto_if 50 with (fail)
  go_cut [] (fun wx => LaneRaw wx own g (.slice la es.length lcap) bm (markGone x.b es) (ms.filter fun p => p.1 ≠ (x.t.k, x.t.s)) (fun i => if i = x.t.k.toNat then c x.t.k.toNat - 1 else c i) (n - 1) ∧
    wx.heap[x.b]? = some (.cells (En.cells { x with gone := true }) 137 (0, 0)) ∧ Upd own w wx)
  case first =>
    go_wp2
    · have hbt : bb = true := by assumption
      go_region_law ((refine step_delete_is rfl _ _ 125 176 rfl 135 pl_key Tryd.underlying125 bm rfl (x.t.k, x.t.s) rfl HR.out.map ?_; intro w1 hm1 hu1))
      all_goals
        have HM1 := hide hm1
        have HU1 := hide hu1
        clear hm1 hu1
        go_wp2
        go_meet
        have hd : Upd (fun k => k = bm) wa w1 := ⟨HU1.out.os, HU1.out.tape, HU1.out.output, HU1.out.size, HU1.out.block⟩
        refine ⟨HR.out.mapTurn hd (by rw [← mdel_filter HR.out.mnd]; exact HM1.out), hd.keeps HBX.out (fun e => HR.out.map.ne_cells HBX.out e.symm), HU.out.trans hd (fun i _ hi => by rw [hi]; exact HR.out.om)⟩
    · have hbf : bb = false := by assumption
      go_meet
      have hf : ms.filter (fun p => p.1 ≠ (x.t.k, x.t.s)) = ms := by
        rw [List.filter_eq_self]
        intro p hp
        simpa using HB.out hbf p hp
      rw [hf]
      exact ⟨HR.out.upd ((Upd.refl (fun _ => False) wa).drewN nq) (fun _ _ _ h => h), HBX.out, HU.out.drewN nq⟩
  case rest =>
    obtain ⟨hR, hbx, hU⟩ := hcut
    obtain ⟨c0, c1, c10, ck, fg⟩ := lane_cells hR.blk
    clear ck
    have HR := hide hR
    have HBX := hide hbx
    have HU := hide hU
    clear hR hbx hU
    go_wp2
    obtain ⟨i0, hi, hz0, hz1, hz2⟩ := info_parts infoPtr
    by_cases hbig : 2 * (n - 1) + 16 < (es.length : Int)
    · have hd : dropEs x.b es n = (markGone x.b es).filter fun e => !e.gone := by unfold dropEs; rw [if_pos hbig]
      have HD := hide hd
      clear hd
      go_quiet (fail)
      go_wp2
      go_loopw [5, 73] (fun v i wr => ∃ k : Nat, k ≤ es.length ∧ i = .int .i64 k ∧ DropInv wc (markGone x.b es) k v wr) (fun _ i _ => es.length - (intOf i).toNat)
      case atStart => exact ⟨0, Nat.zero_le _, rfl, Row.nil _ _ _, fun b hb => by simp [Value.ownBlock] at hb, below_drewN (Below.refl _ _) _⟩
      case round =>
        obtain ⟨k, hk, rfl, hI⟩ := hrel
        by_cases hlt : k < es.length
        · have hml : (markGone x.b es).length = es.length := markGone_length _ _
          obtain ⟨lb, off, cap', hv, _, _, _, hlb⟩ := HR.out.row.begins (by omega)
          injection hv with ha hle hc
          clear hle
          subst ha; subst hc
          obtain ⟨e, he⟩ : ∃ e, (markGone x.b es)[k]? = some e := ⟨_, List.getElem?_eq_getElem (by omega)⟩
          have hem : e ∈ markGone x.b es := List.mem_of_getElem? he
          have cl : wr.cell? ⟨lb, off + k, none⟩ = some (.pointer (some ⟨e.b, 0, none⟩)) := by
            have h1 := HR.out.row
            rw [hml] at h1
            rw [hI.below.cell (p := ⟨lb, off + k, none⟩) hlb, h1.cell (by omega), List.getElem?_map, he]
            rfl
          have eb : wr.heap[e.b]? = some (.cells e.cells 137 (0, 0)) := (hI.below.block _ (blk_lt (HR.out.ens e hem))).trans (HR.out.ens e hem)
          have e3 : wr.cell? ⟨e.b, 3, none⟩ = some (.bool e.gone) := blk_cell eb 3
          have HI := hide hI
          have HEk := hide he
          have hll : (((markGone x.b es).take k).filter fun e => !e.gone).length ≤ k := Nat.le_trans (List.length_filter_le _ _) (List.length_take_le k _)
          have HM1 := hide (show (((markGone x.b es).take k).filter fun e => !e.gone).length + 1 ≤ maxLen by unfold maxLen; omega)
          have HM2 := hide (show ((((markGone x.b es).take k).filter fun e => !e.gone).length + 1) * 8 ≤ 140737488355328 by omega)
          have HONE := hide (show ∀ u ∈ [e.ptr], u.oneCell' = true from fun u hu => by
            simp at hu
            subst hu
            rfl)
          clear hI he eb hll hml
          cases hg : e.gone with
          | true =>
            rw [hg] at e3
            have HG := hide hg
            clear hg
            go_wp2
            go_roundw
            case rel => exact ⟨k + 1, by omega, by go_num, HI.out.skip HEk.out HG.out⟩
            case measure => simp [intOf]; omega
          | false =>
            rw [hg] at e3
            have HG := hide hg
            clear hg
            go_wp2_with (at_builtin; refine wpList_append_row _ rfl _ _ 126 rfl 135 i0 _ 1 8 Tryd.underlying126 hi hz0 hz1 hz2 rfl (by decide) _ _ _ rfl (HI.out.row.alloc _) _ 1 [e.ptr] rfl (Row.lit wr 135 1 1 #[.pointer (some ⟨e.b, 0, none⟩)] rfl (by decide)) (HONE.out) (HM1.out) (HM2.out) ?_; intro v1 w1 hr1 hu1 ho1 hs1 hl1; have HR1 := hide hr1; have HU1 := hide hu1; have HO1 := hide ho1; clear hr1 hu1 ho1 hl1)
            go_roundw
            case rel => exact ⟨k + 1, by omega, by go_num, HI.out.step HEk.out HG.out _ HR1.out HU1.out HO1.out⟩
            case measure => simp [intOf]; omega
        · obtain rfl : k = es.length := by omega
          have hml : (markGone x.b es).length = es.length := markGone_length _ _
          have hI' : DropInv wc (markGone x.b es) (markGone x.b es).length u5 wr := by rw [hml]; exact hI
          have hst := drop_stored HR.out HU.out hI'
          have d0 : wr.cell? ⟨g, 0, none⟩ = some (.slice la es.length lcap) := (hI.below.cell (p := ⟨g, 0, none⟩) (blk_lt HR.out.blk)).trans c0
          have f0 : wr.frozen? ⟨g, 0, none⟩ = false := (hI.below.frozen (p := ⟨g, 0, none⟩) (blk_lt HR.out.blk)).trans (fg 0)
          obtain ⟨va, vc, hv, _, _⟩ := hI.row.form
          subst hv
          have HST := hide hst
          clear hst hI hI' hml
          go_wp2
          go_end0
          have hraw := HST.out.1
          rw [← HD.out] at hraw
          exact ⟨rfl, _, _, hraw, HST.out.2.2 _ _ HBX.out (blk_ne HBX.out HR.out.blk (by decide)), HST.out.2.1, fun _ h => h.imp id (·.1)⟩
    · have hd : dropEs x.b es n = markGone x.b es := by unfold dropEs; rw [if_neg hbig]
      have HD := hide hd
      clear hd
      go_quiet (fail)
      go_wp2
      go_end0
      refine ⟨rfl, own, .slice la es.length lcap, ?_, HBX.out, HU.out.drewN nq, fun _ h => .inl h⟩
      rw [HD.out]
      exact HR.out.upd ((Upd.refl (fun _ => False) wc).drewN nq) (fun _ _ _ h => h)
end Go.Proofs.YtdeonehebbofiaaDoor
