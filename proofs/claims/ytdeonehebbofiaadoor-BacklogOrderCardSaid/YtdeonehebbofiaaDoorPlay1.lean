/-
  culvertlaw16: the step.
-/
import Derived.Test.YtdeonehebbofiaaDoorPlay0
import Derived.Deep.RegionWith
set_option linter.unusedVariables false
namespace Go.Proofs.YtdeonehebbofiaaDoor
open Go.RowKit

/-- A backlog (of bs) and the document's (of ids), in a law: what was there when the law began is as it was. -/
structure PH (w0 wb : World) (ob : Nat → Prop) (w : World) (own : Nat → Prop) (b : Nat) (most : Int) (bs : List Int) (v : Value) (ids : List Int) : Prop where
  back : IsBack w own b most bs
  row : NumRow w v ids
  apart : ∀ k, v.ownBlock = some k → ¬ own k
  low : Below w0.heap.size w0 w
  far : ∀ k, own k → w0.heap.size ≤ k
  base : Upd ob wb w
  inb : ∀ k, own k → ob k ∨ wb.heap.size ≤ k
def PS (w0 wb : World) (ob : Nat → Prop) (w : World) (own : Nat → Prop) (b : Nat) (most : Int) (v : Value) (ids : List Int) : Prop := PH w0 wb ob w own b most ids v ids
section
variable {w0 wb w w' : World} {ob own : Nat → Prop} {b : Nat} {most : Int} {v v' : Value} {bs ids ids' : List Int}
theorem PS.start (h : PS w0 wb ob w own b most v ids) : PS w0 w own w own b most v ids := ⟨h.back, h.row, h.apart, h.low, h.far, Upd.refl _ _, fun _ hk => .inl hk⟩
theorem PH.same (h : PH w0 wb ob w own b most bs v ids) (hb : Below w.heap.size w w') : PH w0 wb ob w' own b most bs v ids := ⟨h.back.same hb, h.row.below' hb, h.apart, below_then h.low h.low.size hb, h.far, h.base.trans (Upd.of_below hb (fun _ => False)) (fun _ _ e => e.elim), h.inb⟩
theorem PH.len (h : PH w0 wb ob w own b most bs v ids) : bs.length ≤ 1048576 := by
  obtain ⟨g, lv, hb⟩ := h.back
  exact hb.small
theorem PH.nd (h : PH w0 wb ob w own b most bs v ids) : bs.Nodup := by
  obtain ⟨g, lv, hb⟩ := h.back
  exact hb.nd
/-- The backlog moves on. -/
theorem PH.to {bs' : List Int} (h : PH w0 wb ob w own b most bs v ids) (hto : BackTo w own b most bs' w') :
    ∃ own', PH w0 wb ob w' own' b most bs' v ids ∧ Upd own w w' ∧ ∀ k, own' k → own k ∨ w.heap.size ≤ k := by
  obtain ⟨own', hI, hU, hO⟩ := hto
  refine ⟨own', ⟨hI, Row.upd h.row hU (fun k hk => h.apart k hk), fun k hk ho => ?_, h.low.trans (hU.below h.low.size (fun i hi e => by have := h.far i e; omega)), fun k hk => ?_, h.base.trans hU (fun i hi e => ?_), fun k hk => ?_⟩, hU, hO⟩
  · rcases hO k ho with h1 | h1
    · exact h.apart k hk h1
    · have := Row.lt h.row hk
      omega
  · rcases hO k hk with h1 | h1
    · exact h.far k h1
    · have := h.low.size
      omega
  · rcases h.inb i e with h1 | h1
    · exact h1
    · omega
  · rcases hO k hk with h1 | h1
    · exact h.inb k h1
    · have := h.base.size
      exact .inr (by omega)
/-- The document's backlog moves on. -/
theorem PH.row' (h : PH w0 wb ob w own b most bs v ids) (hr : NumRow w' v' ids') (hn : v' = v ∨ ∀ b, v'.ownBlock = some b → w.heap.size ≤ b) (hb : Below w.heap.size w w') : PH w0 wb ob w' own b most bs v' ids' :=
  ⟨h.back.same hb, hr, fun k hk ho => by
    rcases hn with rfl | hn
    · exact h.apart k hk ho
    · have := hn k hk
      have := h.back.lt k ho
      omega, below_then h.low h.low.size hb, h.far, h.base.trans (Upd.of_below hb (fun _ => False)) (fun _ _ e => e.elim), h.inb⟩
end
/-- The step's own blocks: the document's backlog, the operation, the result. -/
structure SB (w W : World) (most : Int) (v : Value) (kd n id : Int) : Prop where
  r : W.heap[w.heap.size]? = some (.cells #[.int .i64 most, v] 31 (0, 0))
  o : W.heap[w.heap.size + 1]? = some (.cells #[.int .i64 kd, .int .i64 n, .int .u32 id] 36 (0, 0))
  z : W.heap[w.heap.size + 2]? = some (.cells #[.int .i64 0, .slice none 0 0] 31 (0, 0))
theorem SB.start (w : World) (most : Int) (v : Value) (kd n id : Int) : SB w (((w.alloc (.cells #[.int .i64 most, v] 31)).alloc (.cells #[.int .i64 kd, .int .i64 n, .int .u32 id] 36)).alloc (.cells #[.int .i64 0, .slice none 0 0] 31)) most v kd n id :=
  ⟨new3_0 w _ _ _, new3_1 w _ _ _, new3_2 w _ _ _⟩
theorem SB.upd {w W W' : World} {most : Int} {v : Value} {kd n id : Int} {S : Nat → Prop} (h : SB w W most v kd n id) (hu : Upd S W W') (hS : ∀ k, w.heap.size ≤ k → ¬ S k) : SB w W' most v kd n id :=
  ⟨hu.keeps h.r (hS _ (Nat.le_refl _)), hu.keeps h.o (hS _ (by omega)), hu.keeps h.z (hS _ (by omega))⟩
theorem SB.below {w W W' : World} {most : Int} {v : Value} {kd n id : Int} (h : SB w W most v kd n id) (hb : Below W.heap.size W W') : SB w W' most v kd n id := h.upd (Upd.of_below hb (fun _ => False)) (fun _ _ e => e)
theorem bput_le (most : Int) (ids : List Int) (id : Int) : (bput most ids id).2 ≤ 15 := by
  unfold bput
  split
  · simp
  · split <;> simp
def opVal (kd n id : Int) : Value := .agg #[.int .i64 kd, .int .i64 n, .int .u32 id]
def StepOk (w0 w : World) (own : Nat → Prop) (b : Nat) (most : Int) (e : Ending) (w' : World) : Prop := ∃ own' v' ids', e = .returned (.tuple #[rbVal most v', .bool true]) ∧ PS w0 w own w' own' b most v' ids' ∧ w.heap.size ≤ w'.heap.size

/-- The result goes into its cell. -/
theorem PS.put {w0 w W wd : World} {ob own : Nat → Prop} {b : Nat} {most : Int} {v x y : Value} {ids : List Int} {q : Nat} (hP : PS w0 w ob W own b most v ids) (hz : W.heap[w.heap.size + 2]? = some (.cells #[x, y] 31 (0, 0))) (ho : ¬ own (w.heap.size + 2)) (hl : w0.heap.size ≤ w.heap.size)
    (hwd : wd = ((W.drewN q).setCell ⟨w.heap.size + 1 + 1, 0, none⟩ (.int .i64 most)).setCell ⟨w.heap.size + 1 + 1, 1, none⟩ v) :
    wd.cell? ⟨w.heap.size + 1 + 1, 0, none⟩ = some (.int .i64 most) ∧ wd.cell? ⟨w.heap.size + 1 + 1, 1, none⟩ = some v ∧ PS w0 w ob wd own b most v ids ∧ w.heap.size ≤ wd.heap.size := by
  have hn := Row.ne hP.row hz (by decide)
  have hbd : wd.heap[w.heap.size + 1 + 1]? = some (.cells #[.int .i64 most, v] 31 (0, 0)) := by
    subst hwd
    exact blk_set2 _ _ _ _ hz
  have hU : Upd (fun k => k = w.heap.size + 2) W wd := by
    subst hwd
    exact (((Upd.refl (fun k => k = w.heap.size + 2) W).drewN q).setCell (p := ⟨w.heap.size + 1 + 1, 0, none⟩) (.inl rfl) _).setCell (p := ⟨w.heap.size + 1 + 1, 1, none⟩) (.inl rfl) _
  refine ⟨blk_cell hbd 0, blk_cell hbd 1, ⟨hP.back.upd hU (fun k hk _ e => ho (e ▸ hk)), Row.upd hP.row hU (fun k hk e => hn (e ▸ hk)), hP.apart, hP.low.trans (hU.below hP.low.size (fun i hi e => by omega)), hP.far, hP.base.trans hU (fun i hi e => by omega), hP.inb⟩, ?_⟩
  have := blk_lt hz
  have := hU.size
  omega

set_option maxRecDepth 100000 in
set_option maxHeartbeats 3200000 in
theorem step16_put {E : Nat → Addr} {w0 wb w : World} {ob own : Nat → Prop} {b : Nat} {most : Int} {v : Value} {ids : List Int} (h : PS w0 wb ob w own b most v ids) (hS : Sent w0 E) (n id : Int) :
    Calls Tryd.prog 17 #[.pointer (some ⟨b, 0, none⟩), rbVal most v, opVal 2 n id] w (StepOk w0 w own b most) := by
  obtain ⟨a, cap, hv, _, _⟩ := Row.form h.row
  subst hv
  replace h := h.start
  have HS := hide hS
  have H := hide h
  rcases hbp : bput most ids id with ⟨ids', k⟩
  have HBP := hide hbp
  have HK := hide (show k ≤ 15 by have := bput_le most ids id; rw [hbp] at this; exact this)
  clear h hS hbp
  unfold rbVal opVal
  have hp := H.out.same (below_alloc (below_alloc (below_alloc (Below.refl _ w) (.cells #[.int .i64 most, .slice a ids.length cap] 31)) (.cells #[.int .i64 2, .int .i64 n, .int .u32 id] 36)) (.cells #[.int .i64 0, .slice none 0 0] 31))
  have HP := hide hp
  have OL := hide H.out.back.lt
  clear hp
  go_enter Tryd.func17, Tryd.ntmps17
  go_wp2_with fail
  refine (back_put HP.out.back (HS.out.belows HP.out.low) id).mono ?_
  rintro e1 w1 ⟨rfl, hto⟩
  rw [HBP.out] at hto ⊢
  obtain ⟨own1, hp1, hu1, ho1⟩ := HP.out.to hto
  have hs1 := (SB.start w most (.slice a ids.length cap) 2 n id).upd hu1 (fun k hk ho => by have := OL.out k ho; omega)
  have z0 : w1.cell? ⟨w.heap.size, 0, none⟩ = some (.int .i64 most) := blk_cell hs1.r 0
  have z1 : w1.cell? ⟨w.heap.size, 1, none⟩ = some (.slice a ids.length cap) := blk_cell hs1.r 1
  have y2 : w1.cell? ⟨w.heap.size + 1, 2, none⟩ = some (.int .u32 id) := blk_cell hs1.o 2
  have P1 := hide hp1
  have S1 := hide hs1
  have O1 := hide (show ¬ own1 (w.heap.size + 2) from fun h => by
    rcases ho1 _ h with h | h
    · have := OL.out _ h; omega
    · simp at h; omega)
  clear hto hp1 hs1 hu1 ho1
  go_wp2_with fail
  refine (ref16_put P1.out.row most id H.out.len).mono ?_
  rintro e2 w2 ⟨v2, rfl, hr2, hn2, hb2⟩
  rw [HBP.out] at hr2 ⊢
  obtain ⟨a2, c2, hv2, _, _⟩ := Row.form hr2
  subst hv2
  have hs2 := (S1.out.below hb2).below (below_alloc (Below.refl _ w2) (.cells #[.int .i64 most, .slice a2 ids'.length c2] 31))
  have hp2 : PS w0 w own w2 own1 b most (.slice a2 ids'.length c2) ids' := P1.out.row' hr2 hn2 hb2
  have P2 := hide (hp2.same (below_alloc (Below.refl _ w2) (.cells #[.int .i64 most, .slice a2 ids'.length c2] 31)))
  have x0 : (w2.alloc (.cells #[.int .i64 most, .slice a2 ids'.length c2] 31)).cell? ⟨w.heap.size + 1 + 1, 0, none⟩ = some (.int .i64 0) := blk_cell hs2.z 0
  have x1 : (w2.alloc (.cells #[.int .i64 most, .slice a2 ids'.length c2] 31)).cell? ⟨w.heap.size + 1 + 1, 1, none⟩ = some (.slice none 0 0) := blk_cell hs2.z 1
  have xf : ∀ i, (w2.alloc (.cells #[.int .i64 most, .slice a2 ids'.length c2] 31)).frozen? ⟨w.heap.size + 1 + 1, i, none⟩ = false := fun i => blk_frozen hs2.z i
  have S2 := hide hs2
  clear hr2 hn2 hb2 hp2 hs2
  unfold rbVal
  go_wp2_with fail
  go_region_with (go_at_call 16; refine (code_le E _ (HS.out.belows (P2.out.same (below_drewN (Below.refl _ _) _)).low) k HK.out).mono ?_; rintro e3 w3 ⟨rfl, rfl⟩)
  all_goals go_wp2
  all_goals refine wp_nameP (fun wd hwd => ?_)
  all_goals obtain ⟨q0, q1, hps, hsz⟩ := PS.put P2.out S2.out.z O1.out H.out.low.size hwd
  all_goals clear hwd
  all_goals exact bodyPost_ret (v := .tuple #[rbVal most (.slice a2 ids'.length c2), .bool true]) (by simp [results, Tryd.results17, go_sem, q0, q1]; rfl) rfl ⟨own1, _, ids', rfl, hps, hsz⟩
end Go.Proofs.YtdeonehebbofiaaDoor
