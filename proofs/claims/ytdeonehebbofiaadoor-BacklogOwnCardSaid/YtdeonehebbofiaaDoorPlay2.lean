/-
  culvertlaw16: the step by its kinds.
-/
import Derived.Test.YtdeonehebbofiaaDoorPlay1
import Derived.Deep.RegionHeld3
set_option linter.unusedVariables false
namespace Go.Proofs.YtdeonehebbofiaaDoor
open Go.RowKit

theorem cell_far' {w : World} {g i g' j : Nat} {u : Value} (h : g ≠ g') : (w.setCell ⟨g, i, none⟩ u).cell? ⟨g', j, none⟩ = w.cell? ⟨g', j, none⟩ := World.cell?_of_block (Below.heap_setCell w _ u g' (fun e => h e.symm))
theorem keepz {W : World} {n : Nat} {x y p q r : Value} (h : W.cell? ⟨n, 0, none⟩ = some p ∧ W.cell? ⟨n, 1, none⟩ = some q ∧ W.cell? ⟨n + 1, 2, none⟩ = some r) :
    ((W.setCell ⟨n + 1 + 1, 0, none⟩ x).setCell ⟨n + 1 + 1, 1, none⟩ y).cell? ⟨n, 0, none⟩ = some p ∧ ((W.setCell ⟨n + 1 + 1, 0, none⟩ x).setCell ⟨n + 1 + 1, 1, none⟩ y).cell? ⟨n, 1, none⟩ = some q ∧ ((W.setCell ⟨n + 1 + 1, 0, none⟩ x).setCell ⟨n + 1 + 1, 1, none⟩ y).cell? ⟨n + 1, 2, none⟩ = some r := by
  rw [cell_far' (by omega), cell_far' (by omega), cell_far' (by omega), cell_far' (by omega), cell_far' (by omega), cell_far' (by omega)]
  exact h
theorem keepu {W : World} {n m : Nat} {x y p q r : Value} (hm : n + 2 < m) (h : W.cell? ⟨m, 0, none⟩ = some p ∧ W.cell? ⟨m, 1, none⟩ = some q ∧ W.cell? ⟨n + 1, 2, none⟩ = some r) :
    ((W.setCell ⟨n + 1 + 1, 0, none⟩ x).setCell ⟨n + 1 + 1, 1, none⟩ y).cell? ⟨m, 0, none⟩ = some p ∧ ((W.setCell ⟨n + 1 + 1, 0, none⟩ x).setCell ⟨n + 1 + 1, 1, none⟩ y).cell? ⟨m, 1, none⟩ = some q ∧ ((W.setCell ⟨n + 1 + 1, 0, none⟩ x).setCell ⟨n + 1 + 1, 1, none⟩ y).cell? ⟨n + 1, 2, none⟩ = some r := by
  rw [cell_far' (by omega), cell_far' (by omega), cell_far' (by omega), cell_far' (by omega), cell_far' (by omega), cell_far' (by omega)]
  exact h
theorem keepz2 {W : World} {n : Nat} {x y p q : Value} (h : W.cell? ⟨n, 0, none⟩ = some p ∧ W.cell? ⟨n, 1, none⟩ = some q) :
    ((W.setCell ⟨n + 1 + 1, 0, none⟩ x).setCell ⟨n + 1 + 1, 1, none⟩ y).cell? ⟨n, 0, none⟩ = some p ∧ ((W.setCell ⟨n + 1 + 1, 0, none⟩ x).setCell ⟨n + 1 + 1, 1, none⟩ y).cell? ⟨n, 1, none⟩ = some q := by
  rw [cell_far' (by omega), cell_far' (by omega), cell_far' (by omega), cell_far' (by omega)]
  exact h
theorem idx_pos (ids : List Int) (id : Int) : decide (0 ≤ idxS ids id) = decide (id ∈ ids) := by
  unfold idxS
  by_cases h : id ∈ ids
  · obtain ⟨i, hi⟩ := idx_some h
    rw [hi, decide_eq_true h]
    simp
  · rw [idx_none h, decide_eq_false h]
    rfl

set_option maxRecDepth 100000 in
set_option maxHeartbeats 3200000 in
theorem step16_take {E : Nat → Addr} {w0 wb w : World} {ob own : Nat → Prop} {b : Nat} {most : Int} {v : Value} {ids : List Int} (h : PS w0 wb ob w own b most v ids) (hS : Sent w0 E) (n id : Int) :
    Calls Tryd.prog 17 #[.pointer (some ⟨b, 0, none⟩), rbVal most v, opVal 3 n id] w (StepOk w0 w own b most) := by
  obtain ⟨a, cap, hv, _, _⟩ := Row.form h.row
  subst hv
  obtain ⟨fs, hfs⟩ : ∃ fs, ids.tail = fs := ⟨_, rfl⟩
  have HF := hide hfs
  clear hfs
  replace h := h.start
  have HS := hide hS
  have H := hide h
  clear h hS
  unfold rbVal opVal
  have hp := H.out.same (below_alloc (below_alloc (below_alloc (Below.refl _ w) (.cells #[.int .i64 most, .slice a ids.length cap] 31)) (.cells #[.int .i64 3, .int .i64 n, .int .u32 id] 36)) (.cells #[.int .i64 0, .slice none 0 0] 31))
  have HP := hide hp
  have OL := hide H.out.back.lt
  have S0 := hide (SB.start w most (.slice a ids.length cap) 3 n id)
  clear hp
  go_enter Tryd.func17, Tryd.ntmps17
  go_wp2_with fail
  refine (back_take HP.out.back).mono ?_
  rintro e1 w1 ⟨rfl, hto⟩
  rw [HF.out] at hto
  obtain ⟨own1, hp1, hu1, ho1⟩ := HP.out.to hto
  have hs1 := S0.out.upd hu1 (fun k hk ho => by have := OL.out k ho; omega)
  have O1 := hide (show ¬ own1 (w.heap.size + 2) from fun h => by
    rcases ho1 _ h with h | h
    · have := OL.out _ h; omega
    · simp at h; omega)
  have z0 : w1.cell? ⟨w.heap.size, 0, none⟩ = some (.int .i64 most) := blk_cell hs1.r 0
  have z1 : w1.cell? ⟨w.heap.size, 1, none⟩ = some (.slice a ids.length cap) := blk_cell hs1.r 1
  have P1 := hide hp1
  have S1 := hide hs1
  clear hto hp1 hs1 hu1 ho1
  go_wp2_with fail
  refine (ref16_take P1.out.row most H.out.len).mono ?_
  rintro e2 w2 ⟨v2, rfl, hr2, hn2, hb2⟩
  rw [HF.out] at hr2
  obtain ⟨a2, c2, hv2, _, _⟩ := Row.form hr2
  subst hv2
  have hs2 := (S1.out.below hb2).below (below_alloc (Below.refl _ w2) (.cells #[.int .i64 most, .slice a2 fs.length c2] 31))
  have hp2 : PS w0 w own w2 own1 b most (.slice a2 fs.length c2) fs := P1.out.row' hr2 hn2 hb2
  have P2 := hide (hp2.same (below_alloc (Below.refl _ w2) (.cells #[.int .i64 most, .slice a2 fs.length c2] 31)))
  have x0 : (w2.alloc (.cells #[.int .i64 most, .slice a2 fs.length c2] 31)).cell? ⟨w.heap.size + 1 + 1, 0, none⟩ = some (.int .i64 0) := blk_cell hs2.z 0
  have x1 : (w2.alloc (.cells #[.int .i64 most, .slice a2 fs.length c2] 31)).cell? ⟨w.heap.size + 1 + 1, 1, none⟩ = some (.slice none 0 0) := blk_cell hs2.z 1
  have xf : ∀ i, (w2.alloc (.cells #[.int .i64 most, .slice a2 fs.length c2] 31)).frozen? ⟨w.heap.size + 1 + 1, i, none⟩ = false := fun i => blk_frozen hs2.z i
  have S2 := hide hs2
  clear hr2 hn2 hb2 hp2 hs2
  unfold rbVal
  go_wp2
  refine wp_nameP (fun wd hwd => ?_)
  obtain ⟨q0, q1, hps, hsz⟩ := PS.put (q := 0) P2.out S2.out.z O1.out H.out.low.size hwd
  clear hwd
  exact bodyPost_ret (v := .tuple #[rbVal most (.slice a2 fs.length c2), .bool true]) (by simp [results, Tryd.results17, go_sem, q0, q1]; rfl) rfl ⟨own1, _, fs, rfl, hps, hsz⟩

set_option maxRecDepth 100000 in
set_option maxHeartbeats 3200000 in
theorem step16_head {E : Nat → Addr} {w0 wb w : World} {ob own : Nat → Prop} {b : Nat} {most : Int} {v : Value} {ids : List Int} (h : PS w0 wb ob w own b most v ids) (hS : Sent w0 E) (n id : Int) :
    Calls Tryd.prog 17 #[.pointer (some ⟨b, 0, none⟩), rbVal most v, opVal 6 n id] w (StepOk w0 w own b most) := by
  obtain ⟨a, cap, hv, _, _⟩ := Row.form h.row
  subst hv
  obtain ⟨fs, hfs⟩ : ∃ fs, ids.tail = fs := ⟨_, rfl⟩
  have HF := hide hfs
  clear hfs
  replace h := h.start
  have HS := hide hS
  have H := hide h
  clear h hS
  unfold rbVal opVal
  have hp := H.out.same (below_alloc (below_alloc (below_alloc (Below.refl _ w) (.cells #[.int .i64 most, .slice a ids.length cap] 31)) (.cells #[.int .i64 6, .int .i64 n, .int .u32 id] 36)) (.cells #[.int .i64 0, .slice none 0 0] 31))
  have HP := hide hp
  have OL := hide H.out.back.lt
  have S0 := hide (SB.start w most (.slice a ids.length cap) 6 n id)
  clear hp
  go_enter Tryd.func17, Tryd.ntmps17
  go_wp2_with fail
  refine (back_head HP.out.back).mono ?_
  rintro e1 w1 ⟨rfl, hb1⟩
  have hs1 := S0.out.below hb1
  have O1 := hide (show ¬ own (w.heap.size + 2) from fun h => by have := OL.out _ h; omega)
  have z0 : w1.cell? ⟨w.heap.size, 0, none⟩ = some (.int .i64 most) := blk_cell hs1.r 0
  have z1 : w1.cell? ⟨w.heap.size, 1, none⟩ = some (.slice a ids.length cap) := blk_cell hs1.r 1
  have P1 := hide (HP.out.same hb1)
  have S1 := hide hs1
  clear hb1 hs1
  go_wp2_with fail
  refine (ref16_take P1.out.row most H.out.len).mono ?_
  rintro e2 w2 ⟨v2, rfl, hr2, hn2, hb2⟩
  rw [HF.out] at hr2
  obtain ⟨a2, c2, hv2, _, _⟩ := Row.form hr2
  subst hv2
  have hs2 := (S1.out.below hb2).below (below_alloc (Below.refl _ w2) (.cells #[.int .i64 most, .slice a2 fs.length c2] 31))
  have P2 := hide ((P1.out.same hb2).same (below_alloc (Below.refl _ w2) (.cells #[.int .i64 most, .slice a2 fs.length c2] 31)))
  have z0 : (w2.alloc (.cells #[.int .i64 most, .slice a2 fs.length c2] 31)).cell? ⟨w.heap.size, 0, none⟩ = some (.int .i64 most) := blk_cell hs2.r 0
  have z1 : (w2.alloc (.cells #[.int .i64 most, .slice a2 fs.length c2] 31)).cell? ⟨w.heap.size, 1, none⟩ = some (.slice a ids.length cap) := blk_cell hs2.r 1
  have x0 : (w2.alloc (.cells #[.int .i64 most, .slice a2 fs.length c2] 31)).cell? ⟨w.heap.size + 1 + 1, 0, none⟩ = some (.int .i64 0) := blk_cell hs2.z 0
  have x1 : (w2.alloc (.cells #[.int .i64 most, .slice a2 fs.length c2] 31)).cell? ⟨w.heap.size + 1 + 1, 1, none⟩ = some (.slice none 0 0) := blk_cell hs2.z 1
  have xf : ∀ i, (w2.alloc (.cells #[.int .i64 most, .slice a2 fs.length c2] 31)).frozen? ⟨w.heap.size + 1 + 1, i, none⟩ = false := fun i => blk_frozen hs2.z i
  have S2 := hide hs2
  clear hr2 hn2 hb2 hs2
  unfold rbVal
  go_wp2
  refine wp_nameP (fun wd hwd => ?_)
  obtain ⟨q0, q1, hps, hsz⟩ := PS.put (q := 0) P2.out S2.out.z O1.out H.out.low.size hwd
  clear hwd
  exact bodyPost_ret (v := .tuple #[rbVal most (.slice a ids.length cap), .bool true]) (by simp [results, Tryd.results17, go_sem, q0, q1]; rfl) rfl ⟨own, _, ids, rfl, hps, hsz⟩

set_option maxRecDepth 100000 in
set_option maxHeartbeats 3200000 in
theorem step16_remove {E : Nat → Addr} {w0 wb w : World} {ob own : Nat → Prop} {b : Nat} {most : Int} {v : Value} {ids : List Int} (h : PS w0 wb ob w own b most v ids) (hS : Sent w0 E) (n id : Int) :
    Calls Tryd.prog 17 #[.pointer (some ⟨b, 0, none⟩), rbVal most v, opVal 4 n id] w (StepOk w0 w own b most) := by
  obtain ⟨a, cap, hv, _, _⟩ := Row.form h.row
  subst hv
  obtain ⟨fs, hfs⟩ : ∃ fs, ids.filter (fun x => !(x == id)) = fs := ⟨_, rfl⟩
  have HF := hide hfs
  clear hfs
  replace h := h.start
  have HS := hide hS
  have H := hide h
  clear h hS
  unfold rbVal opVal
  have hp := H.out.same (below_alloc (below_alloc (below_alloc (Below.refl _ w) (.cells #[.int .i64 most, .slice a ids.length cap] 31)) (.cells #[.int .i64 4, .int .i64 n, .int .u32 id] 36)) (.cells #[.int .i64 0, .slice none 0 0] 31))
  have HP := hide hp
  have OL := hide H.out.back.lt
  have S0 := hide (SB.start w most (.slice a ids.length cap) 4 n id)
  clear hp
  go_enter Tryd.func17, Tryd.ntmps17
  go_wp2_with fail
  refine (ref16_remove HP.out.row H.out.nd most id H.out.len).mono ?_
  rintro e2 w2 ⟨v2, rfl, hr2, hn2, hb2⟩
  rw [HF.out] at hr2
  obtain ⟨a2, c2, hv2, _, _⟩ := Row.form hr2
  subst hv2
  have hs2 := (S0.out.below hb2).below (below_alloc (Below.refl _ w2) (.cells #[.int .i64 most, .slice a2 fs.length c2] 31))
  have hp2 : PH w0 w own w2 own b most ids (.slice a2 fs.length c2) fs := HP.out.row' hr2 hn2 hb2
  have P2 := hide (hp2.same (below_alloc (Below.refl _ w2) (.cells #[.int .i64 most, .slice a2 fs.length c2] 31)))
  have y2 : (w2.alloc (.cells #[.int .i64 most, .slice a2 fs.length c2] 31)).cell? ⟨w.heap.size + 1, 2, none⟩ = some (.int .u32 id) := blk_cell hs2.o 2
  have x0 : (w2.alloc (.cells #[.int .i64 most, .slice a2 fs.length c2] 31)).cell? ⟨w.heap.size + 1 + 1, 0, none⟩ = some (.int .i64 0) := blk_cell hs2.z 0
  have x1 : (w2.alloc (.cells #[.int .i64 most, .slice a2 fs.length c2] 31)).cell? ⟨w.heap.size + 1 + 1, 1, none⟩ = some (.slice none 0 0) := blk_cell hs2.z 1
  have xf : ∀ i, (w2.alloc (.cells #[.int .i64 most, .slice a2 fs.length c2] 31)).frozen? ⟨w.heap.size + 1 + 1, i, none⟩ = false := fun i => blk_frozen hs2.z i
  have S2 := hide hs2
  have hz2 : w.heap.size + 2 < w2.heap.size := by have := hb2.size; simp at this; omega
  have B2 := hide (new1 w2 (.cells #[.int .i64 most, .slice a2 fs.length c2] 31))
  have u0 : (w2.alloc (.cells #[.int .i64 most, .slice a2 fs.length c2] 31)).cell? ⟨w2.heap.size, 0, none⟩ = some (.int .i64 most) := blk_cell B2.out 0
  have u1 : (w2.alloc (.cells #[.int .i64 most, .slice a2 fs.length c2] 31)).cell? ⟨w2.heap.size, 1, none⟩ = some (.slice a2 fs.length c2) := blk_cell B2.out 1
  clear hr2 hn2 hb2 hp2 hs2
  unfold rbVal
  go_wp2_with fail
  go_region_held3 (fun w' => w'.cell? ⟨w2.heap.size, 0, none⟩ = some (.int .i64 most) ∧ w'.cell? ⟨w2.heap.size, 1, none⟩ = some (.slice a2 fs.length c2) ∧ w'.cell? ⟨w.heap.size + 1, 2, none⟩ = some (.int .u32 id)) (first | exact ⟨u0, u1, y2⟩ | exact keepu (by omega) ⟨u0, u1, y2⟩ | go_keep) ((go_at_call 20; refine (back_remove (P2.out.same (below_drewN (Below.refl _ _) _)).back id).mono ?_; rintro e3 w3 ⟨rfl, hto⟩; rw [HF.out] at hto; obtain ⟨own1, hp1, hu1, ho1⟩ := (P2.out.same (below_drewN (Below.refl _ _) _)).to hto; have hs1 := S2.out.upd ((Upd.refl own _).drewN _ |>.trans hu1 (fun _ _ e => e)) (fun k hk ho => by have := OL.out k ho; omega); have hb1 := hu1.keeps (show _ = _ from B2.out) (fun ho => by have := OL.out _ ho; omega); have u0 : w3.cell? ⟨w2.heap.size, 0, none⟩ = some (.int .i64 most) := blk_cell hb1 0; have u1 : w3.cell? ⟨w2.heap.size, 1, none⟩ = some (.slice a2 fs.length c2) := blk_cell hb1 1; have y2 : w3.cell? ⟨w.heap.size + 1, 2, none⟩ = some (.int .u32 id) := blk_cell hs1.o 2; have x0 : w3.cell? ⟨w.heap.size + 1 + 1, 0, none⟩ = some (.int .i64 0) := blk_cell hs1.z 0; have x1 : w3.cell? ⟨w.heap.size + 1 + 1, 1, none⟩ = some (.slice none 0 0) := blk_cell hs1.z 1; have xf : ∀ i, w3.frozen? ⟨w.heap.size + 1 + 1, i, none⟩ = false := fun i => blk_frozen hs1.z i; have O1 := hide (show ¬ own1 (w.heap.size + 2) from fun h => (ho1 _ h).elim (fun h => by have := OL.out _ h; omega) (fun h => by simp at h; omega)); have P1 := hide hp1; have S1 := hide hs1; clear hto hp1 hs1 hu1 ho1 hb1))
  all_goals go_wp2
  all_goals refine wp_nameP (fun wd hwd => ?_)
  all_goals first | (obtain ⟨q0, q1, hps, hsz⟩ := PS.put (q := 0) P1.out S1.out.z O1.out H.out.low.size hwd) | (obtain ⟨q0, q1, hps, hsz⟩ := PS.put P1.out S1.out.z O1.out H.out.low.size hwd)
  all_goals clear hwd
  all_goals exact bodyPost_ret (v := .tuple #[rbVal most (.slice a2 fs.length c2), .bool true]) (by simp [results, Tryd.results17, go_sem, q0, q1]; rfl) rfl ⟨own1, _, fs, rfl, hps, hsz⟩

set_option maxRecDepth 100000 in
set_option maxHeartbeats 3200000 in
theorem step16_clear {E : Nat → Addr} {w0 wb w : World} {ob own : Nat → Prop} {b : Nat} {most : Int} {v : Value} {ids : List Int} (h : PS w0 wb ob w own b most v ids) (hS : Sent w0 E) (n id : Int) :
    Calls Tryd.prog 17 #[.pointer (some ⟨b, 0, none⟩), rbVal most v, opVal 5 n id] w (StepOk w0 w own b most) := by
  obtain ⟨a, cap, hv, _, _⟩ := Row.form h.row
  subst hv
  replace h := h.start
  have HS := hide hS
  have H := hide h
  clear h hS
  unfold rbVal opVal
  have hp := H.out.same (below_alloc (below_alloc (below_alloc (Below.refl _ w) (.cells #[.int .i64 most, .slice a ids.length cap] 31)) (.cells #[.int .i64 5, .int .i64 n, .int .u32 id] 36)) (.cells #[.int .i64 0, .slice none 0 0] 31))
  have HP := hide hp
  have OL := hide H.out.back.lt
  have S0 := hide (SB.start w most (.slice a ids.length cap) 5 n id)
  clear hp
  have O9 := hide (show ¬ own (w.heap.size + 2) from fun h => by have := OL.out _ h; omega)
  have z0 : (((w.alloc (.cells #[.int .i64 most, .slice a ids.length cap] 31)).alloc (.cells #[.int .i64 5, .int .i64 n, .int .u32 id] 36)).alloc (.cells #[.int .i64 0, .slice none 0 0] 31)).cell? ⟨w.heap.size, 0, none⟩ = some (.int .i64 most) := blk_cell S0.out.r 0
  have z1 : (((w.alloc (.cells #[.int .i64 most, .slice a ids.length cap] 31)).alloc (.cells #[.int .i64 5, .int .i64 n, .int .u32 id] 36)).alloc (.cells #[.int .i64 0, .slice none 0 0] 31)).cell? ⟨w.heap.size, 1, none⟩ = some (.slice a ids.length cap) := blk_cell S0.out.r 1
  have x0 : (((w.alloc (.cells #[.int .i64 most, .slice a ids.length cap] 31)).alloc (.cells #[.int .i64 5, .int .i64 n, .int .u32 id] 36)).alloc (.cells #[.int .i64 0, .slice none 0 0] 31)).cell? ⟨w.heap.size + 1 + 1, 0, none⟩ = some (.int .i64 0) := blk_cell S0.out.z 0
  have x1 : (((w.alloc (.cells #[.int .i64 most, .slice a ids.length cap] 31)).alloc (.cells #[.int .i64 5, .int .i64 n, .int .u32 id] 36)).alloc (.cells #[.int .i64 0, .slice none 0 0] 31)).cell? ⟨w.heap.size + 1 + 1, 1, none⟩ = some (.slice none 0 0) := blk_cell S0.out.z 1
  have xf : ∀ i, (((w.alloc (.cells #[.int .i64 most, .slice a ids.length cap] 31)).alloc (.cells #[.int .i64 5, .int .i64 n, .int .u32 id] 36)).alloc (.cells #[.int .i64 0, .slice none 0 0] 31)).frozen? ⟨w.heap.size + 1 + 1, i, none⟩ = false := fun i => blk_frozen S0.out.z i
  go_enter Tryd.func17, Tryd.ntmps17
  go_wp2_with fail
  go_region_held3 (fun w' => w'.cell? ⟨w.heap.size, 0, none⟩ = some (.int .i64 most) ∧ w'.cell? ⟨w.heap.size, 1, none⟩ = some (.slice a ids.length cap)) (first | exact ⟨z0, z1⟩ | exact keepz2 ⟨z0, z1⟩ | go_keep) ((go_at_call 25; refine (back_clear (HP.out.same (below_drewN (Below.refl _ _) _)).back).mono ?_; rintro e3 w3 ⟨rfl, hto⟩; obtain ⟨own1, hp1, hu1, ho1⟩ := (HP.out.same (below_drewN (Below.refl _ _) _)).to hto; have hs1 := S0.out.upd ((Upd.refl own _).drewN _ |>.trans hu1 (fun _ _ e => e)) (fun k hk ho => by have := OL.out k ho; omega); have z0 : w3.cell? ⟨w.heap.size, 0, none⟩ = some (.int .i64 most) := blk_cell hs1.r 0; have z1 : w3.cell? ⟨w.heap.size, 1, none⟩ = some (.slice a ids.length cap) := blk_cell hs1.r 1; have x0 : w3.cell? ⟨w.heap.size + 1 + 1, 0, none⟩ = some (.int .i64 0) := blk_cell hs1.z 0; have x1 : w3.cell? ⟨w.heap.size + 1 + 1, 1, none⟩ = some (.slice none 0 0) := blk_cell hs1.z 1; have xf : ∀ i, w3.frozen? ⟨w.heap.size + 1 + 1, i, none⟩ = false := fun i => blk_frozen hs1.z i; have O1 := hide (show ¬ own1 (w.heap.size + 2) from fun h => (ho1 _ h).elim (fun h => by have := OL.out _ h; omega) (fun h => by simp at h; omega)); have hp2 : PS w0 w own w3 own1 b most (.slice none 0 0) [] := hp1.row' (Row.nil _ _ _) (.inr (fun k hk => by simp [Value.ownBlock] at hk)) (Below.refl _ _); have P1 := hide hp2; have S1 := hide hs1; clear hto hp1 hp2 hs1 hu1 ho1))
  all_goals go_wp2
  all_goals refine wp_nameP (fun wd hwd => ?_)
  all_goals first | (obtain ⟨q0, q1, hps, hsz⟩ := PS.put (q := 0) P1.out S1.out.z O1.out H.out.low.size hwd) | (obtain ⟨q0, q1, hps, hsz⟩ := PS.put P1.out S1.out.z O1.out H.out.low.size hwd)
  all_goals clear hwd
  all_goals exact bodyPost_ret (v := .tuple #[rbVal most (.slice none 0 0), .bool true]) (by simp [results, Tryd.results17, go_sem, q0, q1]; rfl) rfl ⟨own1, _, [], rfl, hps, hsz⟩

set_option maxRecDepth 100000 in
set_option maxHeartbeats 3200000 in
theorem step16_has {E : Nat → Addr} {w0 wb w : World} {ob own : Nat → Prop} {b : Nat} {most : Int} {v : Value} {ids : List Int} (h : PS w0 wb ob w own b most v ids) (hS : Sent w0 E) (n id : Int) :
    Calls Tryd.prog 17 #[.pointer (some ⟨b, 0, none⟩), rbVal most v, opVal 7 n id] w (StepOk w0 w own b most) := by
  obtain ⟨a, cap, hv, _, _⟩ := Row.form h.row
  subst hv
  replace h := h.start
  have HS := hide hS
  have H := hide h
  clear h hS
  unfold rbVal opVal
  have hp := H.out.same (below_alloc (below_alloc (below_alloc (Below.refl _ w) (.cells #[.int .i64 most, .slice a ids.length cap] 31)) (.cells #[.int .i64 7, .int .i64 n, .int .u32 id] 36)) (.cells #[.int .i64 0, .slice none 0 0] 31))
  have HP := hide hp
  have OL := hide H.out.back.lt
  have S0 := hide (SB.start w most (.slice a ids.length cap) 7 n id)
  clear hp
  have O1 := hide (show ¬ own (w.heap.size + 2) from fun h => by have := OL.out _ h; omega)
  have z0 : (((w.alloc (.cells #[.int .i64 most, .slice a ids.length cap] 31)).alloc (.cells #[.int .i64 7, .int .i64 n, .int .u32 id] 36)).alloc (.cells #[.int .i64 0, .slice none 0 0] 31)).cell? ⟨w.heap.size, 0, none⟩ = some (.int .i64 most) := blk_cell S0.out.r 0
  have z1 : (((w.alloc (.cells #[.int .i64 most, .slice a ids.length cap] 31)).alloc (.cells #[.int .i64 7, .int .i64 n, .int .u32 id] 36)).alloc (.cells #[.int .i64 0, .slice none 0 0] 31)).cell? ⟨w.heap.size, 1, none⟩ = some (.slice a ids.length cap) := blk_cell S0.out.r 1
  have y2 : (((w.alloc (.cells #[.int .i64 most, .slice a ids.length cap] 31)).alloc (.cells #[.int .i64 7, .int .i64 n, .int .u32 id] 36)).alloc (.cells #[.int .i64 0, .slice none 0 0] 31)).cell? ⟨w.heap.size + 1, 2, none⟩ = some (.int .u32 id) := blk_cell S0.out.o 2
  have x0 : (((w.alloc (.cells #[.int .i64 most, .slice a ids.length cap] 31)).alloc (.cells #[.int .i64 7, .int .i64 n, .int .u32 id] 36)).alloc (.cells #[.int .i64 0, .slice none 0 0] 31)).cell? ⟨w.heap.size + 1 + 1, 0, none⟩ = some (.int .i64 0) := blk_cell S0.out.z 0
  have x1 : (((w.alloc (.cells #[.int .i64 most, .slice a ids.length cap] 31)).alloc (.cells #[.int .i64 7, .int .i64 n, .int .u32 id] 36)).alloc (.cells #[.int .i64 0, .slice none 0 0] 31)).cell? ⟨w.heap.size + 1 + 1, 1, none⟩ = some (.slice none 0 0) := blk_cell S0.out.z 1
  have xf : ∀ i, (((w.alloc (.cells #[.int .i64 most, .slice a ids.length cap] 31)).alloc (.cells #[.int .i64 7, .int .i64 n, .int .u32 id] 36)).alloc (.cells #[.int .i64 0, .slice none 0 0] 31)).frozen? ⟨w.heap.size + 1 + 1, i, none⟩ = false := fun i => blk_frozen S0.out.z i
  have hix : decide (0 ≤ idxS ids id) = decide (id ∈ ids) := idx_pos ids id
  go_enter Tryd.func17, Tryd.ntmps17
  go_wp2_with fail
  go_region_held3 (fun w' => w'.cell? ⟨w.heap.size, 0, none⟩ = some (.int .i64 most) ∧ w'.cell? ⟨w.heap.size, 1, none⟩ = some (.slice a ids.length cap) ∧ w'.cell? ⟨w.heap.size + 1, 2, none⟩ = some (.int .u32 id)) (first | exact ⟨z0, z1, y2⟩ | exact keepz ⟨z0, z1, y2⟩ | go_keep) (first | (go_at_call 18; refine (back_has (HP.out.same (below_drewN (Below.refl _ _) _)).back id).mono ?_; rintro e3 w3 ⟨rfl, hb3⟩; have hp3 := (HP.out.same (below_drewN (Below.refl _ _) _)).same hb3; have hs3 := (S0.out.below (below_drewN (Below.refl _ _) _)).below hb3; have z0 : w3.cell? ⟨w.heap.size, 0, none⟩ = some (.int .i64 most) := blk_cell hs3.r 0; have z1 : w3.cell? ⟨w.heap.size, 1, none⟩ = some (.slice a ids.length cap) := blk_cell hs3.r 1; have y2 : w3.cell? ⟨w.heap.size + 1, 2, none⟩ = some (.int .u32 id) := blk_cell hs3.o 2; have x0 : w3.cell? ⟨w.heap.size + 1 + 1, 0, none⟩ = some (.int .i64 0) := blk_cell hs3.z 0; have x1 : w3.cell? ⟨w.heap.size + 1 + 1, 1, none⟩ = some (.slice none 0 0) := blk_cell hs3.z 1; have xf : ∀ i, w3.frozen? ⟨w.heap.size + 1 + 1, i, none⟩ = false := fun i => blk_frozen hs3.z i; have P3 := hide hp3; have S3 := hide hs3; clear hb3 hp3 hs3) | (go_at_call 62; refine (ref_at P3.out.row most id).mono ?_; rintro e4 w4 ⟨rfl, hb4⟩; have hp4 := P3.out.same hb4; have hs4 := S3.out.below hb4; have z0 : w4.cell? ⟨w.heap.size, 0, none⟩ = some (.int .i64 most) := blk_cell hs4.r 0; have z1 : w4.cell? ⟨w.heap.size, 1, none⟩ = some (.slice a ids.length cap) := blk_cell hs4.r 1; have y2 : w4.cell? ⟨w.heap.size + 1, 2, none⟩ = some (.int .u32 id) := blk_cell hs4.o 2; have x0 : w4.cell? ⟨w.heap.size + 1 + 1, 0, none⟩ = some (.int .i64 0) := blk_cell hs4.z 0; have x1 : w4.cell? ⟨w.heap.size + 1 + 1, 1, none⟩ = some (.slice none 0 0) := blk_cell hs4.z 1; have xf : ∀ i, w4.frozen? ⟨w.heap.size + 1 + 1, i, none⟩ = false := fun i => blk_frozen hs4.z i; have P4 := hide hp4; have S4 := hide hs4; clear hb4 hp4 hs4) | (go_at_call 62; refine (ref_at (P3.out.same (below_drewN (Below.refl _ _) _)).row most id).mono ?_; rintro e4 w4 ⟨rfl, hb4⟩; have hp4 := (P3.out.same (below_drewN (Below.refl _ _) _)).same hb4; have hs4 := (S3.out.below (below_drewN (Below.refl _ _) _)).below hb4; have z0 : w4.cell? ⟨w.heap.size, 0, none⟩ = some (.int .i64 most) := blk_cell hs4.r 0; have z1 : w4.cell? ⟨w.heap.size, 1, none⟩ = some (.slice a ids.length cap) := blk_cell hs4.r 1; have y2 : w4.cell? ⟨w.heap.size + 1, 2, none⟩ = some (.int .u32 id) := blk_cell hs4.o 2; have x0 : w4.cell? ⟨w.heap.size + 1 + 1, 0, none⟩ = some (.int .i64 0) := blk_cell hs4.z 0; have x1 : w4.cell? ⟨w.heap.size + 1 + 1, 1, none⟩ = some (.slice none 0 0) := blk_cell hs4.z 1; have xf : ∀ i, w4.frozen? ⟨w.heap.size + 1 + 1, i, none⟩ = false := fun i => blk_frozen hs4.z i; have P4 := hide hp4; have S4 := hide hs4; clear hb4 hp4 hs4))
  all_goals go_wp2
  all_goals refine wp_nameP (fun wd hwd => ?_)
  all_goals first | (obtain ⟨q0, q1, hps, hsz⟩ := PS.put (q := 0) P4.out S4.out.z O1.out H.out.low.size hwd) | (obtain ⟨q0, q1, hps, hsz⟩ := PS.put P4.out S4.out.z O1.out H.out.low.size hwd)
  all_goals clear hwd
  all_goals exact bodyPost_ret (v := .tuple #[rbVal most (.slice a ids.length cap), .bool true]) (by simp [results, Tryd.results17, go_sem, q0, q1]; rfl) rfl ⟨own, _, ids, rfl, hps, hsz⟩

set_option maxRecDepth 100000 in
set_option maxHeartbeats 3200000 in
theorem step16_look {E : Nat → Addr} {w0 wb w : World} {ob own : Nat → Prop} {b : Nat} {most : Int} {v : Value} {ids : List Int} (h : PS w0 wb ob w own b most v ids) (hS : Sent w0 E) (kd n id : Int) (n2 : kd ≠ 2) (n3 : kd ≠ 3) (n4 : kd ≠ 4) (n5 : kd ≠ 5) (n6 : kd ≠ 6) (n7 : kd ≠ 7) :
    Calls Tryd.prog 17 #[.pointer (some ⟨b, 0, none⟩), rbVal most v, opVal kd n id] w (StepOk w0 w own b most) := by
  obtain ⟨a, cap, hv, _, _⟩ := Row.form h.row
  subst hv
  have b2 : (kd == 2) = false := by simpa using n2
  have b3 : (kd == 3) = false := by simpa using n3
  have b4 : (kd == 4) = false := by simpa using n4
  have b5 : (kd == 5) = false := by simpa using n5
  have b6 : (kd == 6) = false := by simpa using n6
  have b7 : (kd == 7) = false := by simpa using n7
  clear n2 n3 n4 n5 n6 n7
  replace h := h.start
  have HS := hide hS
  have H := hide h
  clear h hS
  unfold rbVal opVal
  have hp := H.out.same (below_alloc (below_alloc (below_alloc (Below.refl _ w) (.cells #[.int .i64 most, .slice a ids.length cap] 31)) (.cells #[.int .i64 kd, .int .i64 n, .int .u32 id] 36)) (.cells #[.int .i64 0, .slice none 0 0] 31))
  have HP := hide hp
  have OL := hide H.out.back.lt
  have S0 := hide (SB.start w most (.slice a ids.length cap) kd n id)
  clear hp
  have O1 := hide (show ¬ own (w.heap.size + 2) from fun h => by have := OL.out _ h; omega)
  have z0 : (((w.alloc (.cells #[.int .i64 most, .slice a ids.length cap] 31)).alloc (.cells #[.int .i64 kd, .int .i64 n, .int .u32 id] 36)).alloc (.cells #[.int .i64 0, .slice none 0 0] 31)).cell? ⟨w.heap.size, 0, none⟩ = some (.int .i64 most) := blk_cell S0.out.r 0
  have z1 : (((w.alloc (.cells #[.int .i64 most, .slice a ids.length cap] 31)).alloc (.cells #[.int .i64 kd, .int .i64 n, .int .u32 id] 36)).alloc (.cells #[.int .i64 0, .slice none 0 0] 31)).cell? ⟨w.heap.size, 1, none⟩ = some (.slice a ids.length cap) := blk_cell S0.out.r 1
  have x0 : (((w.alloc (.cells #[.int .i64 most, .slice a ids.length cap] 31)).alloc (.cells #[.int .i64 kd, .int .i64 n, .int .u32 id] 36)).alloc (.cells #[.int .i64 0, .slice none 0 0] 31)).cell? ⟨w.heap.size + 1 + 1, 0, none⟩ = some (.int .i64 0) := blk_cell S0.out.z 0
  have x1 : (((w.alloc (.cells #[.int .i64 most, .slice a ids.length cap] 31)).alloc (.cells #[.int .i64 kd, .int .i64 n, .int .u32 id] 36)).alloc (.cells #[.int .i64 0, .slice none 0 0] 31)).cell? ⟨w.heap.size + 1 + 1, 1, none⟩ = some (.slice none 0 0) := blk_cell S0.out.z 1
  have xf : ∀ i, (((w.alloc (.cells #[.int .i64 most, .slice a ids.length cap] 31)).alloc (.cells #[.int .i64 kd, .int .i64 n, .int .u32 id] 36)).alloc (.cells #[.int .i64 0, .slice none 0 0] 31)).frozen? ⟨w.heap.size + 1 + 1, i, none⟩ = false := fun i => blk_frozen S0.out.z i
  go_enter Tryd.func17, Tryd.ntmps17
  go_wp2_with fail
  go_region_held3 (fun w' => w'.cell? ⟨w.heap.size, 0, none⟩ = some (.int .i64 most) ∧ w'.cell? ⟨w.heap.size, 1, none⟩ = some (.slice a ids.length cap)) (first | exact ⟨z0, z1⟩ | exact keepz2 ⟨z0, z1⟩ | go_keep) (first | (go_at_call 22; refine (back_len (HP.out.same (below_drewN (Below.refl _ _) _)).back).mono ?_; rintro e2 w2 ⟨rfl, rfl⟩) | (go_at_call 21; refine (back_list (HP.out.same (below_drewN (Below.refl _ _) _)).back).mono ?_; rintro e3 w3 ⟨v3, rfl, hr3, hf3, hb3⟩; obtain ⟨a3, c3, hv3, _, _⟩ := Row.form hr3; subst hv3; have hp3 := (HP.out.same (below_drewN (Below.refl _ _) _)).same hb3; have hs3 := (S0.out.below (below_drewN (Below.refl _ _) _)).below hb3; have z0 : w3.cell? ⟨w.heap.size, 0, none⟩ = some (.int .i64 most) := blk_cell hs3.r 0; have z1 : w3.cell? ⟨w.heap.size, 1, none⟩ = some (.slice a ids.length cap) := blk_cell hs3.r 1; have x0 : w3.cell? ⟨w.heap.size + 1 + 1, 0, none⟩ = some (.int .i64 0) := blk_cell hs3.z 0; have x1 : w3.cell? ⟨w.heap.size + 1 + 1, 1, none⟩ = some (.slice none 0 0) := blk_cell hs3.z 1; have xf : ∀ i, w3.frozen? ⟨w.heap.size + 1 + 1, i, none⟩ = false := fun i => blk_frozen hs3.z i; have R3 := hide hr3; have P3 := hide hp3; have S3 := hide hs3; clear hr3 hf3 hb3 hp3 hs3) | (go_at_call 27; refine (same_numbers R3.out P3.out.row).mono ?_; rintro e4 w4 ⟨rfl, hb4⟩; rw [decide_eq_true rfl]; have hp4 := P3.out.same hb4; have hs4 := S3.out.below hb4; have z0 : w4.cell? ⟨w.heap.size, 0, none⟩ = some (.int .i64 most) := blk_cell hs4.r 0; have z1 : w4.cell? ⟨w.heap.size, 1, none⟩ = some (.slice a ids.length cap) := blk_cell hs4.r 1; have x0 : w4.cell? ⟨w.heap.size + 1 + 1, 0, none⟩ = some (.int .i64 0) := blk_cell hs4.z 0; have x1 : w4.cell? ⟨w.heap.size + 1 + 1, 1, none⟩ = some (.slice none 0 0) := blk_cell hs4.z 1; have xf : ∀ i, w4.frozen? ⟨w.heap.size + 1 + 1, i, none⟩ = false := fun i => blk_frozen hs4.z i; have P4 := hide hp4; have S4 := hide hs4; clear hb4 hp4 hs4))
  all_goals go_wp2
  all_goals refine wp_nameP (fun wd hwd => ?_)
  all_goals first | (obtain ⟨q0, q1, hps, hsz⟩ := PS.put (q := 0) P4.out S4.out.z O1.out H.out.low.size hwd) | (obtain ⟨q0, q1, hps, hsz⟩ := PS.put P4.out S4.out.z O1.out H.out.low.size hwd)
  all_goals clear hwd
  all_goals exact bodyPost_ret (v := .tuple #[rbVal most (.slice a ids.length cap), .bool true]) (by simp [results, Tryd.results17, go_sem, q0, q1]; rfl) rfl ⟨own, _, ids, rfl, hps, hsz⟩
end Go.Proofs.YtdeonehebbofiaaDoor
