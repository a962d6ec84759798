/-
  backlog.Backlog: List.
-/
import Derived.Test.YtdeonehebbofiaaDoorBack0
set_option linter.unusedVariables false
namespace Go.Proofs.YtdeonehebbofiaaDoor
open Go.RowKit Go.Shelf
attribute [local go_sem] Oper.semAt_some

theorem wpListIn_app_nums {F : Fence} {n : Nat} {w : World} {ops : Array Oper} {rest : List Oper} {o : Oper} {a : Act} {Q : Exit → Act → World → Prop} (hgd : o.guard = none) (s x : Operand)
    (ho : o.op = .call { callee := .builtin .append, args := #[s, x], argTypes := #[29, 29] })
    (v xv : Value) (ids js : List Int) (hs : a.eval s = v) (hr : NumRow w v ids) (hxv : a.eval x = xv) (hx : NumRow w xv js) (hb : ids.length + js.length ≤ 35184372088832)
    (h : ∀ a1 c1 w1, NumRow w1 (.slice a1 (ids.length + js.length) c1) (ids ++ js) → Grew w w1 v (.slice a1 (ids.length + js.length) c1) → wpListIn F n Tryd.prog ops Q rest (a.put o.dst (.slice a1 (ids.length + js.length) c1)) w1) :
    wpListIn F n Tryd.prog ops Q (o :: rest) a w := by
  obtain ⟨i0, hinfo, hz0, hz1, hz2⟩ := info_parts infoU32
  obtain ⟨v1, w1, hrun, hr1, hu1, ho1, hs1, hl1⟩ := run_append_row (P := Tryd.prog) w 29 o.type 34 i0 _ 1 4 Tryd.underlying29 hinfo hz0 hz1 hz2 rfl (by decide) v ids.length _ hr xv js.length _ hx (oneCell_ncells js) (by unfold maxLen; omega) (by omega)
  obtain ⟨a1, c1, rfl, _, _⟩ := hr1.form
  refine wpListIn_plain hgd fun K hK' => ?_
  unfold Oper.wpIn
  refine ⟨?_, ?_⟩
  · simp [Oper.about, ho, resolve, Target.leads, Sem.run_pure]
  · rw [Oper.semAt_plain F _ _ (by rw [ho]; intro c hc'; cases hc')]
    simp [execOp, ho, resolve, invoke, builtin, hs, hxv, hrun, Result.andThen]
    refine hK' _ _ (h a1 c1 w1 ?_ ⟨hu1, ho1, hl1⟩)
    unfold NumRow
    rw [List.length_append, ncells, List.map_append]
    exact hr1

theorem numRow_ownFrom (B n0 : Nat) (Bx : Nat) (t : TypeId) (q : Value → Prop) : OwnFrom B (fun (pre : List Int) W => ∃ v, Boxed W Bx t v ∧ NumRow W v pre ∧ q v) := by
  rintro pre W W' row ⟨v, h1, h2, h3⟩ hg hr
  have key : ∀ k c u, W.heap[k]? = some (Obj.cells c u (0, 0)) → W'.heap[k]? = W.heap[k]? := fun k c u hk => by
    refine hg.block k (blk_lt hk) (fun e => ?_)
    obtain ⟨_, o, ho, hc⟩ := hr k e.symm
    rw [hk] at ho
    injection ho with ho
    subst ho
    exact absurd hc (by simp [Obj.isCells])
  refine ⟨v, (key _ _ _ h1).trans h1, h2.move (fun k hk hlt => ?_), h3⟩
  obtain ⟨c, hc⟩ := Row.blk h2 hk
  exact key _ _ _ hc

theorem ownFrom_size {β : Type} (B n : Nat) : OwnFrom B (fun (_ : β) W => n ≤ W.heap.size) := fun _ _ _ _ hs hg _ => Nat.le_trans hs hg.size
theorem blk_lt' {w : World} {g : Nat} {o : Obj} (h : w.heap[g]? = some o) : g < w.heap.size := (Array.getElem?_eq_some_iff.1 h).1
/-- A step that turns blocks of cells alone. -/
theorem Upd.keepsFrom {S : Nat → Prop} {W W' : World} (h : Upd S W W') (B : Nat) (hS : ∀ k, S k → k < W.heap.size → ∃ c t, W.heap[k]? = some (Obj.cells c t (0, 0))) : KeepsFrom B W W' :=
  ⟨h.size, fun k o _ hk ho => (h.block k (blk_lt' hk) (fun hs => by
    obtain ⟨c, t, hc⟩ := hS k hs (blk_lt' hk)
    rw [hk] at hc
    injection hc with hc
    subst hc
    exact absurd ho (by simp [Obj.isCells]))).trans hk⟩
theorem Upd.kb {S T : Nat → Prop} {W W' : World} (h : Upd S W W') (hl : ∀ k, T k → k < W.heap.size) (hn : ∀ k, T k → ¬ S k) : KB T W W' := fun k hk => h.block k (hl k hk) (hn k hk)

set_option maxHeartbeats 1600000 in
theorem back_list_nil (w : World) : Calls Tryd.prog 21 #[.pointer none] w fun e w' => e = .returned (.slice none 0 0) ∧ Below w.heap.size w w' := by
  go_enter Tryd.func21, Tryd.ntmps21
  go_wp2
  go_ret
  exact ⟨rfl, below_alloc (Below.refl _ w) _⟩

set_option maxRecDepth 100000 in
set_option maxHeartbeats 2000000 in
theorem back_list {w : World} {own : Nat → Prop} {b : Nat} {most : Int} {ids : List Int} (h : IsBack w own b most ids) :
    Calls Tryd.prog 21 #[.pointer (some ⟨b, 0, none⟩)] w fun e w' => ∃ v, e = .returned v ∧ NumRow w' v ids ∧ (∀ k, v.ownBlock = some k → w.heap.size ≤ k) ∧ Below w.heap.size w w' := by
  obtain ⟨g, lv, h⟩ := h
  have hl : ids.length ≤ 1048576 := by have := h.le; have := h.mx; omega
  have c0 : w.cell? ⟨b, 0, none⟩ = some (.pointer (some ⟨g, 0, none⟩)) := blk_cell h.blk 0
  have lb := blk_lt h.blk
  have H := hide h
  have HL := hide hl
  clear h hl
  refine (callsIn_wide (n := 6)).1 ?_
  refine callsIn_of_wp_marks Tryd.func21 rfl trivial ?_ rfl
  simp only [Tryd.ntmps21, List.size_toArray, List.length_cons, List.length_nil, Nat.reduceAdd, Nat.reduceSub, Array.replicate_succ, Array.replicate_zero, List.push_toArray, List.append_toArray, List.nil_append, List.cons_append]
  gi_wp2_with fail
  refine ⟨trivial, ?_⟩
  refine (callsIn_wide.2 (fifo_all (H.out.fifo.upd (Upd.of_below (below_alloc (Below.refl _ w) _) (fun _ => False)) (fun _ _ _ e => e)) HL.out)).mono ?_
  rintro e1 w1 ⟨B, v, rfl, hS, hF, hB⟩
  have b0 : Boxed w1 w.heap.size 29 (.slice none 0 0) := (hB.block w.heap.size (by simp)).trans (new1 w _)
  have hB0 : Below w.heap.size w w1 := (below_alloc (Below.refl _ w) _).trans (hB.mono (by simp))
  have HS := hide hS
  have HF := hide hF
  have HB := hide hB0
  have BX0 := hide b0
  have hsz1 : w.heap.size < w1.heap.size := b0.lt
  clear hS hF hB b0 hB0
  gi_wp2
  refine wpIn_rangeFunc_ownG rfl (by omega) (gf := 106) (lb := #[.pointer (some ⟨B, 0, none⟩)]) rfl trivial (enters_of Tryd.func106 (by kernel_rfl) rfl)
    (all_stops Fence.wide 5 trivial rfl (by omega) B v ids w1 HS.out) (fun h k => h.trans k) (KB.put HS.out.lt) (Below.refl _ _) (fun _ => rfl)
    (fun pre W => (∃ v, Boxed W w.heap.size 29 v ∧ NumRow W v pre ∧ (∀ k, v.ownBlock = some k → w1.heap.size ≤ k)) ∧ (Below w.heap.size w W ∧ w1.heap.size ≤ W.heap.size))
    (fun _ _ _ => False)
    (OwnFrom.and (numRow_ownFrom _ 0 _ _ _) (OwnFrom.and (ownFrom_below (Nat.le_refl _) (by omega)) (ownFrom_size _ _)))
    (fun _ _ _ _ _ hs _ _ => hs)
    ⟨⟨_, BX0.out, Row.nil _ _ _, fun k hk => by simp [Value.ownBlock] at hk⟩, HB.out, Nat.le_refl _⟩
    (fun x => { tmps := #[.pointer (some ⟨b, 0, none⟩), undef, .slice none 0 0, .pointer (some ⟨w.heap.size, 0, none⟩), .int .u32 x, .pointer (some ⟨b, 0, none⟩), .bool true, .pointer (some ⟨b, 0, none⟩), .pointer (some ⟨b, 0, none⟩), .pointer (some ⟨b, 0, none⟩), .pointer (some ⟨b, 0, none⟩), .pointer (some ⟨g, 0, none⟩), .func (.func 106) #[] #[.pointer (some ⟨B, 0, none⟩)], .int .u32 x, .int .i64 0, undef, undef, undef, undef, undef], defers := [] }) ?assign ?body ?done ?stop
  case assign =>
    intro l x W K hK
    gi_wp2
    exact hK
  case body =>
    rintro l pre x W ⟨⟨u, hX, hR, hU⟩, hBW, hsz⟩ hlen
    have hu0 : W.cell? ⟨w.heap.size, 0, none⟩ = some u := hX.cell
    have hpl : pre.length ≤ 1048576 := by have := HL.out; omega
    obtain ⟨a0, k0, hu, _, _⟩ := Row.form hR
    subst hu
    have HX := hide hX
    have HR := hide hR
    have HU := hide hU
    have HBW := hide hBW
    clear hX hR hU hBW
    gi_wp2_with (gi_at_builtin; refine wait ?_)
    unfold Wait
    refine wpListIn_app_nums rfl _ _ rfl (.slice a0 pre.length k0) (.slice (some ⟨W.heap.size, 0, none⟩) 1 1) pre [x] rfl (HR.out.alloc _) rfl (NumRow.of1 (new1 W _)) (by simp; omega) ?_
    intro a2 k2 w2 hr2 hg2
    have hnx : (Value.slice a0 pre.length k0).ownBlock ≠ some w.heap.size := Row.ne HR.out HX.out (by decide)
    have hx2 : Boxed w2 w.heap.size 29 (.slice a0 pre.length k0) := hg2.keeps (blk_alloc HX.out _) hnx
    have hf2 := hg2.fresh (w0 := w) (HBW.out.trans ((below_alloc (Below.refl _ W) _).mono HBW.out.size)) (fun k hk => Nat.le_trans (by omega) (HU.out k hk))
    have hf3 : ∀ k, (Value.slice a2 (pre.length + [x].length) k2).ownBlock = some k → w1.heap.size ≤ k := fun k hk => by
      rcases hg2.own with ho | ho
      · exact HU.out k (by rw [← ho, hk])
      · rw [hk] at ho
        injection ho with ho
        simp at ho
        omega
    have y0 : w2.cell? ⟨w.heap.size, 0, none⟩ = some (.slice a0 pre.length k0) := hx2.cell
    have yf := hx2.frozen
    have HX2 := hide hx2
    have HR2 := hide hr2
    have HG2 := hide hg2
    have HF2 := hide hf2
    have HF3 := hide hf3
    clear hx2 hr2 hg2 hf2 hf3 hnx
    gi_wp2
    have hU2 : Upd (fun k => k = w.heap.size ∨ (Value.slice a0 pre.length k0).ownBlock = some k) W (w2.setCell ⟨w.heap.size, 0, none⟩ (.slice a2 (pre.length + 1) k2)) :=
      ((((Upd.refl _ W).alloc _).trans HG2.out.upd (fun i _ e => .inr e.symm))).setCell (p := ⟨w.heap.size, 0, none⟩) (.inl (.inl rfl)) _
    have hSl := HS.out.lt
    have hSf := HF.out
    rw [new1'] at hSf
    refine ⟨hU2.keepsFrom _ (fun k hk hlt => ?_), hU2.kb (fun k hk => Nat.lt_of_lt_of_le (hSl k hk) hsz) (fun k hk e => ?_), ⟨_, HX2.out.set _, ?_, HF3.out⟩, HF2.out.1.setCell (p := ⟨w.heap.size, 0, none⟩) (Nat.le_refl _) _, Nat.le_trans hsz hU2.size⟩
    · rcases hk with rfl | hk
      · exact ⟨_, _, HX.out⟩
      · obtain ⟨c, hc⟩ := Row.blk HR.out hk
        exact ⟨_, _, hc⟩
    · rcases e with rfl | e
      · have := hSf _ hk
        omega
      · have h1 := HU.out k e
        have h2 := hSl k hk
        omega
    · have hr := HR2.out
      exact Row.far hr (p := ⟨w.heap.size, 0, none⟩) (Row.ne hr HX2.out (by decide)) _
  case done =>
    rintro D ys W hD rfl ⟨⟨u, hX, hR, hU⟩, hBW, _⟩ hK
    have hu0 : W.cell? ⟨w.heap.size, 0, none⟩ = some u := hX.cell
    obtain ⟨a0, k0, hu, _, _⟩ := Row.form hR
    subst hu
    gi_wp2
    refine ⟨by simp, .inl ⟨_, _, rfl, run_takeDeferred hK, ?_⟩⟩
    refine ⟨_, results_tmp rfl _ _ _, _, rfl, ?_, fun k hk => ?_, hBW.trans (belowK_b (w := w) (Nat.le_refl _) W D _ _ (by omega) hK rfl rfl)⟩
    · refine hR.move (fun k hk _ => World.putObj_heap_other (fun e => ?_))
      obtain ⟨c, hc⟩ := Row.blk hR hk
      rw [e, hK] at hc
      injection hc with hc
      cases hc
    · have := hU k hk
      omega
  case stop =>
    rintro D c pre W _ _ h _
    exact h.elim
end Go.Proofs.YtdeonehebbofiaaDoor
