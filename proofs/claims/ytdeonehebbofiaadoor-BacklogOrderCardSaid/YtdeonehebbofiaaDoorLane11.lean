/-
  Put and Clear, on lists.
-/
import Derived.Test.YtdeonehebbofiaaDoorLane10
namespace Go.Proofs.YtdeonehebbofiaaDoor
open Go.RowKit

/-- Put: the lane behind it, and the error's number. -/
def putS (ts : List Tk) (t : Tk) : List Tk × Nat :=
  if may t ≠ 0 then (ts, may t) else
  match (if spc t.k then ts.find? (keyB t.k t.s) else none) with
  | none => (ts ++ [t], 0)
  | some u => if fOnce t.k then (ts, 8) else if 4294967295 - u.v < t.v then (ts, 4) else (addGrant t.s t.v ts, 0)

theorem may_le (t : Tk) : may t ≤ 15 := by
  unfold may
  split
  · omega
  · split
    · omega
    · split <;> omega

theorem lane_put_is {E : Nat → Addr} {w : World} {own : Nat → Prop} {g : Nat} {ts : List Tk} (h : IsLane w own g ts) (hS : Sent w E) (hF : Forms w) (t : Tk) (hw : t.Wf) (hl : ts.length ≤ LB) :
    Calls Tryd.prog 71 #[.pointer (some ⟨g, 0, none⟩), t.val] w fun e w' => e = .returned (errOf E (putS ts t).2) ∧ LaneTo w own g (putS ts t).1 w' := by
  by_cases hm : may t = 0
  · obtain ⟨hk0, hk7⟩ := may_range hm
    have hI := h
    obtain ⟨lv, bm, es, ms, c, n, hR, hO⟩ := h
    have hlen := hO.len
    have hct := hO.cnt t.k.toNat (by omega)
    have hcl := cntK_le ts (t.k.toNat : Nat)
    have hnn := hO.nn
    unfold LB at hl
    have hfind : ∀ u, spc t.k = true → ts.find? (keyB t.k t.s) = some u → ∃ x ∈ es, x.gone = false ∧ x.t = u ∧ x.t.k = t.k ∧ x.t.s = t.s ∧ ((t.k, t.s), x.b) ∈ ms ∧ ∀ p ∈ ms, p.1 = (t.k, t.s) → p.2 = x.b := by
      intro u hs hu
      have hk := List.find?_some hu
      have hmem := List.mem_of_find?_eq_some hu
      rw [hO.tk] at hmem
      obtain ⟨x, hx, hg, rfl⟩ := mem_live.1 hmem
      simp [keyB] at hk
      have hms : ((t.k, t.s), x.b) ∈ ms := by
        have := hO.m2 x hx hg (by rw [hk.1]; exact hs)
        rwa [hk.1, hk.2] at this
      refine ⟨x, hx, hg, rfl, hk.1, hk.2, hms, fun p hp hpk => ?_⟩
      rw [key_unique hR.mnd hp hms hpk]
    have hnone : (spc t.k = true → ts.find? (keyB t.k t.s) = none) → ∀ p ∈ ms, p.1 ≠ (t.k, t.s) := by
      intro hn p hp hpk
      obtain ⟨hs, e, he, hge, _, hke⟩ := hO.m1 p hp
      have hs' : spc t.k = true := by rw [hpk] at hs; exact hs
      have := List.find?_eq_none.1 (hn hs') e.t (hO.tk ▸ mem_live.2 ⟨e, he, hge, rfl⟩)
      rw [hpk] at hke
      simp at hke
      simp [keyB, hke] at this
    cases hs : spc t.k with
    | false =>
      have ho : fOnce t.k = false := by simp only [spc, Bool.or_eq_false_iff] at hs; exact hs.1
      have hb3 : (t.k == 3) = false := by simp only [spc, Bool.or_eq_false_iff] at hs; exact hs.2
      have hps : putS ts t = (ts ++ [t], 0) := by simp [putS, hm, hs]
      rw [hps]
      refine (put_new_ping E w own g lv bm es ms c n hR hS hF t hm (hnone (fun h => by rw [hs] at h; cases h)) ho hb3 hk0 hk7 (by omega) (by omega) (by omega) (by omega) (by omega)).mono ?_
      rintro e w' ⟨rfl, nb, own', lv', hN⟩
      exact ⟨rfl, own', ⟨lv', bm, _, _, _, _, hN.raw, hO.putPing t nb hm hw hs⟩, hN.upd, hN.own⟩
    | true =>
      cases hf : ts.find? (keyB t.k t.s) with
      | none =>
        have hps : putS ts t = (ts ++ [t], 0) := by simp [putS, hm, hs, hf]
        rw [hps]
        have hne := hnone (fun _ => hf)
        cases ho : fOnce t.k with
        | true =>
          refine (put_new_once E w own g lv bm es ms c n hR hS hF t hm hne ho hk0 hk7 (by omega) (by omega) (by omega) (by omega) (by omega)).mono ?_
          rintro e w' ⟨rfl, nb, own', lv', hN⟩
          exact ⟨rfl, own', ⟨lv', bm, _, _, _, _, hN.raw, hO.put t nb hm hw hs⟩, hN.upd, hN.own⟩
        | false =>
          have hb3 : (t.k == 3) = true := by simpa [spc, ho] using hs
          refine (put_new_grant E w own g lv bm es ms c n hR hS hF t hm hne ho hb3 hk0 hk7 (by omega) (by omega) (by omega) (by omega) (by omega)).mono ?_
          rintro e w' ⟨rfl, nb, own', lv', hN⟩
          exact ⟨rfl, own', ⟨lv', bm, _, _, _, _, hN.raw, hO.put t nb hm hw hs⟩, hN.upd, hN.own⟩
      | some u =>
        obtain ⟨x, hx, hg, rfl, hxk, hxs, hms, hmx⟩ := hfind u hs hf
        have hxw : x.t.Wf := hO.wf _ (hO.tk ▸ mem_live.2 ⟨x, hx, hg, rfl⟩)
        cases ho : fOnce t.k with
        | true =>
          have hps : putS ts t = (ts, 8) := by simp [putS, hm, hs, hf, ho]
          rw [hps]
          refine (put_twice E w own g lv bm es ms c n hR hS hF t hm x.b hmx ⟨_, hms, rfl⟩ ho hk0 hk7).mono ?_
          rintro e w' ⟨rfl, hb⟩
          exact ⟨rfl, .of_below hI hb⟩
        | false =>
          have hb3 : t.k = 3 := by simpa [spc, ho] using hs
          by_cases hov : 4294967295 - x.t.v < t.v
          · have hps : putS ts t = (ts, 4) := by simp [putS, hm, hs, hf, ho, hov]
            rw [hps]
            refine (put_over E w own g lv bm es ms c n hR hS hF t hm x hx hmx ⟨_, hms, rfl⟩ ho hxw.v0 hxw.v1 hov hk0 hk7).mono ?_
            rintro e w' ⟨rfl, hb⟩
            exact ⟨rfl, .of_below hI hb⟩
          · have hps : putS ts t = (addGrant t.s t.v ts, 0) := by simp [putS, hm, hs, hf, ho, hov]
            rw [hps]
            have hv1 : 1 ≤ t.v := by
              have := hm
              simp only [may, hb3, fStream, fValue, fitsB] at this
              have := hw.v0
              by_cases hz : t.v = 0
              · simp [hz] at *
                split at * <;> simp_all
              · omega
            refine (put_add E w own g lv bm es ms c n hR hS hF t hm x hx hmx ⟨_, hms, rfl⟩ ho hxw.v0 hxw.v1 (by omega) hw.v0 hk0 hk7).mono ?_
            rintro e w' ⟨rfl, hA⟩
            have := hO.add hR.nd hR.mnd hx hg (by rw [hxk, hb3]) t.v (by omega) (by omega)
            rw [hxs] at this
            exact ⟨rfl, own, ⟨lv, bm, _, _, _, _, hA.raw, this⟩, hA.upd, fun _ hk => .inl hk⟩
  · have hps : putS ts t = (ts, may t) := by simp [putS, hm]
    rw [hps]
    refine (put_bad E w hS hF g t hm).mono ?_
    rintro e w' ⟨rfl, hb⟩
    exact ⟨rfl, .of_below h hb⟩

theorem blk_set11 {w : World} {g : Nat} {t : TypeId} (x0 x1 x2 x3 x4 x5 x6 x7 x8 x9 x10 v0 v1 v2 v3 v4 v5 v6 v7 v8 v9 v10 : Value) (h : w.heap[g]? = some (.cells #[x0, x1, x2, x3, x4, x5, x6, x7, x8, x9, x10] t (0, 0))) :
    (((((((((((w.setCell ⟨g, 0, none⟩ v0).setCell ⟨g, 1, none⟩ v1).setCell ⟨g, 2, none⟩ v2).setCell ⟨g, 3, none⟩ v3).setCell ⟨g, 4, none⟩ v4).setCell ⟨g, 5, none⟩ v5).setCell ⟨g, 6, none⟩ v6).setCell ⟨g, 7, none⟩ v7).setCell ⟨g, 8, none⟩ v8).setCell ⟨g, 9, none⟩ v9).setCell ⟨g, 10, none⟩ v10).heap[g]? = some (.cells #[v0, v1, v2, v3, v4, v5, v6, v7, v8, v9, v10] t (0, 0)) := by
  generalize hW0 : w.setCell ⟨g, 0, none⟩ v0 = W0
  have h0 : W0.heap[g]? = some (.cells #[v0, x1, x2, x3, x4, x5, x6, x7, x8, x9, x10] t (0, 0)) := by rw [← hW0]; exact blk_set h 0 v0
  clear hW0
  generalize hW1 : W0.setCell ⟨g, 1, none⟩ v1 = W1
  have h1 : W1.heap[g]? = some (.cells #[v0, v1, x2, x3, x4, x5, x6, x7, x8, x9, x10] t (0, 0)) := by rw [← hW1]; exact blk_set h0 1 v1
  clear hW1
  generalize hW2 : W1.setCell ⟨g, 2, none⟩ v2 = W2
  have h2 : W2.heap[g]? = some (.cells #[v0, v1, v2, x3, x4, x5, x6, x7, x8, x9, x10] t (0, 0)) := by rw [← hW2]; exact blk_set h1 2 v2
  clear hW2
  generalize hW3 : W2.setCell ⟨g, 3, none⟩ v3 = W3
  have h3 : W3.heap[g]? = some (.cells #[v0, v1, v2, v3, x4, x5, x6, x7, x8, x9, x10] t (0, 0)) := by rw [← hW3]; exact blk_set h2 3 v3
  clear hW3
  generalize hW4 : W3.setCell ⟨g, 4, none⟩ v4 = W4
  have h4 : W4.heap[g]? = some (.cells #[v0, v1, v2, v3, v4, x5, x6, x7, x8, x9, x10] t (0, 0)) := by rw [← hW4]; exact blk_set h3 4 v4
  clear hW4
  generalize hW5 : W4.setCell ⟨g, 5, none⟩ v5 = W5
  have h5 : W5.heap[g]? = some (.cells #[v0, v1, v2, v3, v4, v5, x6, x7, x8, x9, x10] t (0, 0)) := by rw [← hW5]; exact blk_set h4 5 v5
  clear hW5
  generalize hW6 : W5.setCell ⟨g, 6, none⟩ v6 = W6
  have h6 : W6.heap[g]? = some (.cells #[v0, v1, v2, v3, v4, v5, v6, x7, x8, x9, x10] t (0, 0)) := by rw [← hW6]; exact blk_set h5 6 v6
  clear hW6
  generalize hW7 : W6.setCell ⟨g, 7, none⟩ v7 = W7
  have h7 : W7.heap[g]? = some (.cells #[v0, v1, v2, v3, v4, v5, v6, v7, x8, x9, x10] t (0, 0)) := by rw [← hW7]; exact blk_set h6 7 v7
  clear hW7
  generalize hW8 : W7.setCell ⟨g, 8, none⟩ v8 = W8
  have h8 : W8.heap[g]? = some (.cells #[v0, v1, v2, v3, v4, v5, v6, v7, v8, x9, x10] t (0, 0)) := by rw [← hW8]; exact blk_set h7 8 v8
  clear hW8
  generalize hW9 : W8.setCell ⟨g, 9, none⟩ v9 = W9
  have h9 : W9.heap[g]? = some (.cells #[v0, v1, v2, v3, v4, v5, v6, v7, v8, v9, x10] t (0, 0)) := by rw [← hW9]; exact blk_set h8 9 v9
  clear hW9
  generalize hW10 : W9.setCell ⟨g, 10, none⟩ v10 = W10
  have h10 : W10.heap[g]? = some (.cells #[v0, v1, v2, v3, v4, v5, v6, v7, v8, v9, v10] t (0, 0)) := by rw [← hW10]; exact blk_set h9 10 v10
  clear hW10
  exact h10

set_option maxRecDepth 100000 in
set_option maxHeartbeats 1600000 in
theorem lane_clear_is {w : World} {own : Nat → Prop} {g : Nat} {ts : List Tk} (h : IsLane w own g ts) :
    Calls Tryd.prog 79 #[.pointer (some ⟨g, 0, none⟩)] w fun e w' => e = .returned (.int .i64 ts.length) ∧ LaneTo w own g [] w' := by
  have HI := hide h
  obtain ⟨lv, bm, es, ms, c, n, hR, hO⟩ := h
  obtain rfl := hO.nn
  obtain ⟨c0, c1, c10, ck, fg⟩ := lane_cells hR.blk
  have hgl := blk_lt hR.blk
  have HR := hide hR
  have HN := hide (lane_new w)
  have hnb : ((w.alloc (.map #[] 0)).alloc (.cells (laneCells (.slice none 0 0) w.heap.size (fun _ => 0) 0) 129)).heap[w.heap.size + 1]? = some (.cells (laneCells (.slice none 0 0) w.heap.size (fun _ => 0) 0) 129 (0, 0)) := by
    have := blk_new (w.alloc (.map #[] 0)) (.cells (laneCells (.slice none 0 0) w.heap.size (fun _ => 0) 0) 129)
    simpa using this
  have HNB := hide hnb
  clear hR hO ck hnb
  go_enter Tryd.func79, Tryd.ntmps79
  go_wp2_with (go_at_call 29; refine HN.out.mono ?_; rintro e5 w5 ⟨rfl, hw5⟩; have hU5 : Upd (fun _ => False) w w5 := (by subst hw5; exact ((Upd.refl _ w).alloc _).alloc _); have hb5 : w5.heap[w.heap.size + 1]? = some (.cells (laneCells (.slice none 0 0) w.heap.size (fun _ => 0) 0) 129 (0, 0)) := (by rw [hw5]; exact HNB.out); have hm5 : MapIs w5 encPl w.heap.size (msv []) := (by rw [hw5]; exact MapIs.alloc (show MapIs (w.alloc (.map #[] 0)) encPl w.heap.size (msv []) from ⟨#[], 0, blk_new w _, rfl⟩) _); clear hw5; have n0 : w5.cell? ⟨w.heap.size + 1, 0, none⟩ = some (.slice none 0 0) := blk_cell hb5 0; have n1 : w5.cell? ⟨w.heap.size + 1, 1, none⟩ = some (.map (some w.heap.size)) := blk_cell hb5 1; have n2 : w5.cell? ⟨w.heap.size + 1, 2, none⟩ = some (.int .i64 0) := blk_cell hb5 2; have n3 : w5.cell? ⟨w.heap.size + 1, 3, none⟩ = some (.int .i64 0) := blk_cell hb5 3; have n4 : w5.cell? ⟨w.heap.size + 1, 4, none⟩ = some (.int .i64 0) := blk_cell hb5 4; have n5 : w5.cell? ⟨w.heap.size + 1, 5, none⟩ = some (.int .i64 0) := blk_cell hb5 5; have n6 : w5.cell? ⟨w.heap.size + 1, 6, none⟩ = some (.int .i64 0) := blk_cell hb5 6; have n7 : w5.cell? ⟨w.heap.size + 1, 7, none⟩ = some (.int .i64 0) := blk_cell hb5 7; have n8 : w5.cell? ⟨w.heap.size + 1, 8, none⟩ = some (.int .i64 0) := blk_cell hb5 8; have n9 : w5.cell? ⟨w.heap.size + 1, 9, none⟩ = some (.int .i64 0) := blk_cell hb5 9; have n10 : w5.cell? ⟨w.heap.size + 1, 10, none⟩ = some (.int .i64 0) := blk_cell hb5 10; have hg5 := hU5.keeps HR.out.blk (fun e => e); have HG5 := hide hg5; have HU5 := hide hU5; have HM5 := hide hm5; have fg5 : ∀ i, w5.frozen? ⟨g, i, none⟩ = false := (fun i => blk_frozen hg5 i); have a0 : w5.cell? ⟨g, 0, none⟩ = some (lv) := blk_cell hg5 0; have a1 : w5.cell? ⟨g, 1, none⟩ = some (.map (some bm)) := blk_cell hg5 1; have a2 : w5.cell? ⟨g, 2, none⟩ = some (.int .i64 (c 0)) := blk_cell hg5 2; have a3 : w5.cell? ⟨g, 3, none⟩ = some (.int .i64 (c 1)) := blk_cell hg5 3; have a4 : w5.cell? ⟨g, 4, none⟩ = some (.int .i64 (c 2)) := blk_cell hg5 4; have a5 : w5.cell? ⟨g, 5, none⟩ = some (.int .i64 (c 3)) := blk_cell hg5 5; have a6 : w5.cell? ⟨g, 6, none⟩ = some (.int .i64 (c 4)) := blk_cell hg5 6; have a7 : w5.cell? ⟨g, 7, none⟩ = some (.int .i64 (c 5)) := blk_cell hg5 7; have a8 : w5.cell? ⟨g, 8, none⟩ = some (.int .i64 (c 6)) := blk_cell hg5 8; have a9 : w5.cell? ⟨g, 9, none⟩ = some (.int .i64 (c 7)) := blk_cell hg5 9; have a10 : w5.cell? ⟨g, 10, none⟩ = some (.int .i64 (ts.length : Int)) := blk_cell hg5 10; clear hb5 hg5 hU5 hm5)
  refine wp_nameP (fun wd hwd => ?_)
  have hbd : wd.heap[g]? = some (.cells (laneCells (.slice none 0 0) w.heap.size (fun _ => 0) 0) 129 (0, 0)) := by
    subst hwd
    exact blk_set11 _ _ _ _ _ _ _ _ _ _ _ _ _ _ _ _ _ _ _ _ _ _ HG5.out
  have hU : Upd (fun k => k = g) w5 wd := by
    subst hwd
    exact (((((((((((Upd.refl (fun k => k = g) w5).setCell (p := ⟨g, 0, none⟩) (.inl rfl) _).setCell (p := ⟨g, 1, none⟩) (.inl rfl) _).setCell (p := ⟨g, 2, none⟩) (.inl rfl) _).setCell (p := ⟨g, 3, none⟩) (.inl rfl) _).setCell (p := ⟨g, 4, none⟩) (.inl rfl) _).setCell (p := ⟨g, 5, none⟩) (.inl rfl) _).setCell (p := ⟨g, 6, none⟩) (.inl rfl) _).setCell (p := ⟨g, 7, none⟩) (.inl rfl) _).setCell (p := ⟨g, 8, none⟩) (.inl rfl) _).setCell (p := ⟨g, 9, none⟩) (.inl rfl) _).setCell (p := ⟨g, 10, none⟩) (.inl rfl) _
  clear hwd
  go_ret
  refine ⟨rfl, fun k => own k ∨ k = w.heap.size, ⟨.slice none 0 0, w.heap.size, [], [], fun _ => 0, 0, ⟨hbd, Row.nil _ _ _, fun _ h => (by cases h), ?_, .inl HI.out.og, .inr rfl, fun _ h => (by cases h), fun k h => (by simp [Value.ownBlock] at h), by simp, by simp, ?_⟩, ⟨rfl, rfl, fun _ _ => rfl, fun _ h => (by cases h), fun _ h => (by cases h), fun _ h => (by cases h), fun _ h => (by cases h), by simp⟩⟩, ?_, ?_⟩
  · exact HM5.out.upd hU (fun e => by omega)
  · intro k hk
    have h1 := HU5.out.size
    have h2 := hU.size
    have h3 := HM5.out.lt
    rcases hk with hk | hk
    · have := HI.out.own_lt k hk; omega
    · omega
  · exact (HU5.out.mono (fun _ _ e => e.elim)).trans hU (fun i _ e => by subst e; exact HI.out.og)
  · intro k hk
    rcases hk with hk | hk
    · exact .inl hk
    · exact .inr (Nat.le_of_eq hk.symm)
end Go.Proofs.YtdeonehebbofiaaDoor
