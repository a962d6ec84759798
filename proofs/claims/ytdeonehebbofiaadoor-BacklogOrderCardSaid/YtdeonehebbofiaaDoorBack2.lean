/-
  backlog.Backlog: New, Put, Head, Take, Remove, Len, Clear; a nil one.
-/
import Derived.Test.YtdeonehebbofiaaDoorBack1
set_option linter.unusedVariables false
namespace Go.Proofs.YtdeonehebbofiaaDoor
open Go.RowKit

theorem gone_pos (ids : List Int) (id : Int) : decide (0 < ((ids.length : Int) - ((ids.filter (fun x => !(x == id))).length : Int))) = decide (id ∈ ids) := by
  have h : (ids.filter (fun x => !(x == id))).length < ids.length ↔ id ∈ ids := by
    rw [List.length_filter_lt_length_iff_exists]
    constructor
    · rintro ⟨x, hx, h⟩
      simp at h
      rwa [← h]
    · exact fun h => ⟨id, h, by simp⟩
  by_cases hm : id ∈ ids
  · have := h.2 hm
    rw [decide_eq_true hm, decide_eq_true (by omega)]
  · have := mt h.1 hm
    rw [decide_eq_false hm, decide_eq_false (by omega)]

/-! ### a nil one -/
theorem back_has_nil (id : Int) (w : World) : Calls Tryd.prog 18 #[.pointer none, .int .u32 id] w fun e w' => e = .returned (.bool false) ∧ Below w.heap.size w w' := by
  go_enter Tryd.func18, Tryd.ntmps18
  go_wp2
  have hb := new2_1 w (.cells #[.int .u32 id] 34) (.cells #[.bool false] 4)
  exact bodyPost_ret (v := .bool false) (by simp [results, Tryd.results18, go_sem]) rfl ⟨rfl, (below_alloc (below_alloc (Below.refl _ w) _) _)⟩
theorem back_put_nil {E : Nat → Addr} (id : Int) (w : World) (hS : Sent w E) : Calls Tryd.prog 19 #[.pointer none, .int .u32 id] w fun e w' => e = .returned (errOf E 1) ∧ w = w' := by
  have c1 := hS.cell 1 (by decide) (by decide)
  simp only [gid] at c1
  clear hS
  go_enter Tryd.func19, Tryd.ntmps19
  go_wp2
  go_ret
  exact ⟨rfl, rfl⟩
theorem back_len_nil (w : World) : Calls Tryd.prog 22 #[.pointer none] w fun e w' => e = .returned (.int .i64 0) ∧ w = w' := by
  go_enter Tryd.func22, Tryd.ntmps22
  go_wp2
  go_ret
  exact ⟨rfl, rfl⟩
theorem back_clear_nil (w : World) : Calls Tryd.prog 25 #[.pointer none] w fun e w' => e = .returned (.int .i64 0) ∧ w = w' := by
  go_enter Tryd.func25, Tryd.ntmps25
  go_wp2
  go_ret
  exact ⟨rfl, rfl⟩
theorem back_head_nil (w : World) : Calls Tryd.prog 23 #[.pointer none] w fun e w' => e = .returned (.tuple #[.int .u32 0, .bool false]) ∧ w = w' := by
  go_enter Tryd.func23, Tryd.ntmps23
  go_wp2
  go_ret2
  exact ⟨rfl, rfl⟩
theorem back_take_nil (w : World) : Calls Tryd.prog 24 #[.pointer none] w fun e w' => e = .returned (.tuple #[.int .u32 0, .bool false]) ∧ w = w' := by
  go_enter Tryd.func24, Tryd.ntmps24
  go_wp2
  go_ret2
  exact ⟨rfl, rfl⟩
theorem back_remove_nil (id : Int) (w : World) : Calls Tryd.prog 20 #[.pointer none, .int .u32 id] w fun e w' => e = .returned (.bool false) ∧ Below w.heap.size w w' := by
  go_enter Tryd.func20, Tryd.ntmps20
  go_wp2
  go_ret
  exact ⟨rfl, below_alloc (Below.refl _ w) _⟩

/-! ### New -/
theorem back_new_bad {E : Nat → Addr} (n : Int) (w : World) (hS : Sent w E) (hn : n < 1 ∨ 1024 < n) : Calls Tryd.prog 14 #[.int .i64 n] w fun e w' => e = .returned (.tuple #[.pointer none, errOf E 2]) ∧ Below w.heap.size w w' := by
  have c2 := hS.cell 2 (by decide) (by decide)
  have l2 := (hS.lt 2 (by decide) (by decide)).1
  simp only [gid] at c2 l2
  clear hS
  rcases hn with h1 | h1
  · go_enter Tryd.func14, Tryd.ntmps14
    go_wp2
    go_quiet (fail)
    go_wp2
    go_ret2
    exact ⟨rfl, below_drewN (Below.refl _ _) _⟩
  · have h0 : ¬ n < 1 := by omega
    go_enter Tryd.func14, Tryd.ntmps14
    go_wp2
    go_quiet (fail)
    go_wp2
    go_ret2
    exact ⟨rfl, below_drewN (Below.refl _ _) _⟩
theorem back_new (n : Int) (w : World) (h1 : 1 ≤ n) (h2 : n ≤ 1024) : Calls Tryd.prog 14 #[.int .i64 n] w fun e w' => ∃ own b, e = .returned (.tuple #[.pointer (some ⟨b, 0, none⟩), .nilIface]) ∧ IsBack w' own b n [] ∧ (∀ k, own k → w.heap.size ≤ k) ∧ Below w.heap.size w w' := by
  go_enter Tryd.func14, Tryd.ntmps14
  go_wp2_with fail
  refine (fifo_new w n (by omega)).mono ?_
  rintro e1 w1 ⟨rfl, hF, hB⟩
  have HF := hide hF
  have HB := hide hB
  clear hF hB
  go_wp2
  go_ret2
  have hsz := blk_lt HF.out.blk
  refine ⟨fun k => k = w.heap.size ∨ k = w1.heap.size, w1.heap.size, rfl, ⟨w.heap.size, _, new1 w1 _, .inr rfl, ⟨blk_alloc HF.out.blk _, Row.alloc HF.out.row _, .inl rfl, fun k hk => by simp [Value.ownBlock] at hk, fun k hk => by simp; omega⟩, by simp; omega, h2, List.nodup_nil⟩, fun k hk => by omega, HB.out.trans ((below_alloc (Below.refl _ w1) _).mono (by omega))⟩

/-! ### Len, Head, Take, Clear, Remove, Put -/
section
variable {w : World} {own : Nat → Prop} {b : Nat} {most : Int} {ids : List Int}
theorem BackRaw.cell {g : Nat} {lv : Value} (h : BackRaw w own b g most lv ids) : w.cell? ⟨b, 0, none⟩ = some (.pointer (some ⟨g, 0, none⟩)) := blk_cell h.blk 0
theorem BackRaw.small {g : Nat} {lv : Value} (h : BackRaw w own b g most lv ids) : ids.length ≤ 1048576 := by have := h.le; have := h.mx; omega
/-- The queue moves on: so does the backlog. -/
theorem BackRaw.to {g : Nat} {lv : Value} {ids' : List Int} {w' : World} (h : BackRaw w own b g most lv ids) (hbg : b ≠ g) (hbl : lv.ownBlock ≠ some b) (hf : FifoTo w (fun k => own k ∧ k ≠ b) g most ids' w') (hl : (ids'.length : Int) ≤ most) (hd : ids'.Nodup) : BackTo w own b most ids' w' := by
  obtain ⟨own', lv', hF, hU, hO⟩ := hf
  refine ⟨fun k => own' k ∨ k = b, ⟨g, lv', hU.keeps h.blk (fun e => e.2 rfl), .inr rfl, ⟨hF.blk, hF.row, .inl hF.og, fun k hk => .inl (hF.ol k hk), fun k hk => ?_⟩, hl, h.mx, hd⟩, hU.mono (fun _ _ e => e.1), fun k hk => ?_⟩
  · rcases hk with hk | rfl
    · exact hF.ob k hk
    · exact Nat.lt_of_lt_of_le (blk_lt h.blk) hU.size
  · rcases hk with hk | rfl
    · rcases hO k hk with h1 | h1
      · exact .inl h1.1
      · exact .inr h1
    · exact .inl h.ob
theorem BackRaw.sub {g : Nat} {lv : Value} (h : BackRaw w own b g most lv ids) : FifoRaw w (fun k => own k ∧ k ≠ b) g most lv ids ∧ b ≠ g ∧ lv.ownBlock ≠ some b := by
  have h1 : b ≠ g := fun e => by
    have := h.blk
    rw [e, h.fifo.blk] at this
    injection this with this
    injection this with _ this
    exact absurd this (by decide)
  have h2 : lv.ownBlock ≠ some b := Row.ne h.fifo.row h.blk (by decide)
  exact ⟨⟨h.fifo.blk, h.fifo.row, ⟨h.fifo.og, fun e => h1 e.symm⟩, fun k hk => ⟨h.fifo.ol k hk, fun e => h2 (by rw [hk, e])⟩, fun k hk => h.fifo.ob k hk.1⟩, h1, h2⟩

theorem back_len (h : IsBack w own b most ids) : Calls Tryd.prog 22 #[.pointer (some ⟨b, 0, none⟩)] w fun e w' => e = .returned (.int .i64 ids.length) ∧ w = w' := by
  obtain ⟨g, lv, h⟩ := h
  have c0 := h.cell
  have H := hide h
  clear h
  go_enter Tryd.func22, Tryd.ntmps22
  go_wp2_with fail
  refine (fifo_len H.out.fifo).mono ?_
  rintro e1 w1 ⟨rfl, rfl⟩
  go_wp2
  go_ret
  exact ⟨rfl, rfl⟩
theorem back_head_none (h : IsBack w own b most []) : Calls Tryd.prog 23 #[.pointer (some ⟨b, 0, none⟩)] w fun e w' => e = .returned (.tuple #[.int .u32 0, .bool false]) ∧ w = w' := by
  obtain ⟨g, lv, h⟩ := h
  have c0 := h.cell
  have H := hide h
  clear h
  go_enter Tryd.func23, Tryd.ntmps23
  go_wp2_with fail
  refine (fifo_head_none H.out.fifo).mono ?_
  rintro e1 w1 ⟨rfl, rfl⟩
  go_wp2
  go_ret2
  exact ⟨rfl, rfl⟩
theorem back_head_some {i : Int} (h : IsBack w own b most (i :: ids)) : Calls Tryd.prog 23 #[.pointer (some ⟨b, 0, none⟩)] w fun e w' => e = .returned (.tuple #[.int .u32 i, .bool true]) ∧ Below w.heap.size w w' := by
  obtain ⟨g, lv, h⟩ := h
  have c0 := h.cell
  have H := hide h
  clear h
  go_enter Tryd.func23, Tryd.ntmps23
  go_wp2_with fail
  refine (fifo_head_some H.out.fifo).mono ?_
  rintro e1 w1 ⟨rfl, hb⟩
  have HB := hide hb
  clear hb
  go_wp2
  go_ret2
  exact ⟨rfl, HB.out⟩
theorem back_take_none (h : IsBack w own b most []) : Calls Tryd.prog 24 #[.pointer (some ⟨b, 0, none⟩)] w fun e w' => e = .returned (.tuple #[.int .u32 0, .bool false]) ∧ w = w' := by
  obtain ⟨g, lv, h⟩ := h
  have c0 := h.cell
  have H := hide h
  clear h
  go_enter Tryd.func24, Tryd.ntmps24
  go_wp2_with fail
  refine (fifo_get_none H.out.fifo).mono ?_
  rintro e1 w1 ⟨rfl, rfl⟩
  go_wp2
  go_ret2
  exact ⟨rfl, rfl⟩
theorem back_take_some {i : Int} (h : IsBack w own b most (i :: ids)) : Calls Tryd.prog 24 #[.pointer (some ⟨b, 0, none⟩)] w fun e w' => e = .returned (.tuple #[.int .u32 i, .bool true]) ∧ BackTo w own b most ids w' := by
  obtain ⟨g, lv, h⟩ := h
  have c0 := h.cell
  have H := hide h
  clear h
  go_enter Tryd.func24, Tryd.ntmps24
  go_wp2_with fail
  refine (fifo_get_some H.out.sub.1).mono ?_
  rintro e1 w1 ⟨rfl, hb⟩
  have HB := hide hb
  clear hb
  go_wp2
  go_ret2
  exact ⟨rfl, H.out.to H.out.sub.2.1 H.out.sub.2.2 HB.out (by have := H.out.le; simp at this; omega) (List.nodup_cons.1 H.out.nd).2⟩
theorem back_clear (h : IsBack w own b most ids) : Calls Tryd.prog 25 #[.pointer (some ⟨b, 0, none⟩)] w fun e w' => e = .returned (.int .i64 ids.length) ∧ BackTo w own b most [] w' := by
  obtain ⟨g, lv, h⟩ := h
  have c0 := h.cell
  have H := hide h
  cases ids with
  | nil =>
    clear h
    go_enter Tryd.func25, Tryd.ntmps25
    go_wp2_with fail
    refine (fifo_remove_empty H.out.fifo _).mono ?_
    rintro e1 w1 ⟨rfl, rfl⟩
    go_wp2
    go_ret
    exact ⟨rfl, BackTo.same ⟨_, _, H.out⟩ (Below.refl _ _)⟩
  | cons i ids =>
    have hf : (i :: ids).filter (fun x => !(fun _ => true) x) = [] := by simp
    have HFI := hide hf
    clear h hf
    go_enter Tryd.func25, Tryd.ntmps25
    go_wp2_with fail
    refine (fifo_remove_all H.out.sub.1 (fun _ => true) (fun x W _ => keep_all x W) H.out.small (by simp)).mono ?_
    rintro e1 w1 ⟨rfl, hb⟩
    rw [HFI.out] at hb ⊢
    have HB := hide hb
    clear hb
    go_wp2
    go_ret
    refine ⟨by simp, H.out.to H.out.sub.2.1 H.out.sub.2.2 HB.out (by have := H.out.le; simp at this; simp; omega) List.nodup_nil⟩
theorem back_remove (h : IsBack w own b most ids) (id : Int) : Calls Tryd.prog 20 #[.pointer (some ⟨b, 0, none⟩), .int .u32 id] w fun e w' => e = .returned (.bool (decide (id ∈ ids))) ∧ BackTo w own b most (ids.filter (fun x => !(x == id))) w' := by
  obtain ⟨g, lv, h⟩ := h
  have c0 := h.cell
  have lb := blk_lt h.blk
  have H := hide h
  cases ids with
  | nil =>
    clear h
    go_enter Tryd.func20, Tryd.ntmps20
    go_wp2_with fail
    refine (fifo_remove_empty (H.out.fifo.upd (Upd.of_below (below_alloc (Below.refl _ w) _) (fun _ => False)) (fun _ _ _ e => e)) _).mono ?_
    rintro e1 w1 ⟨rfl, rfl⟩
    go_wp2
    go_ret
    exact ⟨by simp, BackTo.same ⟨_, _, H.out⟩ (below_alloc (Below.refl _ w) _)⟩
  | cons i ids =>
    have hU : Upd (fun _ => False) w (w.alloc (.cells #[.int .u32 id] 34)) := Upd.of_below (below_alloc (Below.refl _ w) _) (fun _ => False)
    have h1 := h.upd hU (fun _ _ _ e => e)
    have H1 := hide h1
    clear h h1
    go_enter Tryd.func20, Tryd.ntmps20
    go_wp2_with fail
    refine (fifo_remove_one H1.out.sub.1 (fun x => x == id) w.heap.size (fun x W hW => keep_one id x w.heap.size W (blk_cell ((hW.block _ (by simp)).trans (new1 w _)) 0)) H1.out.small (by simp)).mono ?_
    rintro e1 w1 ⟨rfl, hb⟩
    have HB := hide hb
    clear hb
    have HG := hide (gone_pos (i :: ids) id)
    generalize (((i :: ids).length : Int) - (((i :: ids).filter (fun x => !(x == id))).length : Int)) = d at HG ⊢
    go_wp2
    go_ret
    have hto := H1.out.to H1.out.sub.2.1 H1.out.sub.2.2 HB.out (by have := H1.out.le; have := List.length_filter_le (fun x => !(x == id)) (i :: ids); omega) (H1.out.nd.filter _)
    obtain ⟨own', hI, hU2, hO⟩ := hto
    exact ⟨ret_bool HG.out, own', hI, (hU.mono (fun _ _ e => e.elim)).trans hU2 (fun _ _ e => e), fun k hk => by
      rcases hO k hk with h | h
      · exact .inl h
      · exact .inr (by simp at h; omega)⟩

/-- What Put does to the numbers, and the number of its error. -/
def bput (most : Int) (ids : List Int) (id : Int) : List Int × Nat := if id ∈ ids then (ids, 8) else if most ≤ ids.length then (ids, 6) else (ids ++ [id], 0)
theorem back_put {E : Nat → Addr} (h : IsBack w own b most ids) (hS : Sent w E) (id : Int) : Calls Tryd.prog 19 #[.pointer (some ⟨b, 0, none⟩), .int .u32 id] w fun e w' => e = .returned (errOf E (bput most ids id).2) ∧ BackTo w own b most (bput most ids id).1 w' := by
  have HI := hide h
  obtain ⟨g, lv, h⟩ := h
  have H := hide h
  have HS := hide hS
  clear h hS
  unfold bput
  by_cases hm : id ∈ ids
  · rw [if_pos hm]
    have HM := hide (decide_eq_true hm)
    clear hm
    go_enter Tryd.func19, Tryd.ntmps19
    go_wp2_with fail
    refine (back_has HI.out id).mono ?_
    rintro e1 w1 ⟨rfl, hB⟩
    rw [HM.out]
    have c8 := (HS.out.belows hB).cell 8 (by decide) (by decide)
    simp only [gid] at c8
    have HB := hide hB
    clear hB
    go_wp2
    go_ret
    exact ⟨rfl, BackTo.same HI.out HB.out⟩
  · rw [if_neg hm]
    have HM := hide (decide_eq_false hm)
    have HM' := hide hm
    clear hm
    by_cases hf : most ≤ ids.length
    · rw [if_pos hf]
      have HF := hide hf
      clear hf
      go_enter Tryd.func19, Tryd.ntmps19
      go_wp2_with fail
      refine (back_has HI.out id).mono ?_
      rintro e1 w1 ⟨rfl, hB⟩
      rw [HM.out]
      have hx := H.out.upd (Upd.of_below hB (fun _ => False)) (fun _ _ _ e => e)
      have c0 := hx.cell
      have HX := hide hx
      have HB := hide hB
      clear hB hx
      go_wp2_with fail
      refine (fifo_put_full HX.out.fifo (HS.out.belows HB.out) id HF.out).mono ?_
      rintro e2 w2 ⟨rfl, hB2⟩
      rw [show errOf E 6 = errv (E 6) from rfl]
      unfold errv
      have HB2 := hide hB2
      clear hB2
      go_wp2
      go_ret
      exact ⟨rfl, BackTo.same HI.out (below_then HB.out HB.out.size HB2.out)⟩
    · rw [if_neg hf]
      have HF := hide (show ¬ most ≤ (ids.length : Int) from hf)
      clear hf
      go_enter Tryd.func19, Tryd.ntmps19
      go_wp2_with fail
      refine (back_has HI.out id).mono ?_
      rintro e1 w1 ⟨rfl, hB⟩
      rw [HM.out]
      have hx := H.out.upd (Upd.of_below hB (fun _ => False)) (fun _ _ _ e => e)
      have c0 := hx.cell
      have HX := hide hx
      have HB := hide hB
      clear hB hx
      go_wp2_with fail
      refine (fifo_put_room HX.out.sub.1 id (by have := HF.out; omega) (by have := HX.out.mx; omega)).mono ?_
      rintro e2 w2 ⟨rfl, hT⟩
      have HT := hide hT
      clear hT
      go_wp2
      go_ret
      have hto := HX.out.to HX.out.sub.2.1 HX.out.sub.2.2 HT.out (by have := HF.out; simp; omega) (List.nodup_append.2 ⟨HX.out.nd, by simp, fun x hx y hy => by simp at hy; subst hy; rintro rfl; exact HM'.out hx⟩)
      obtain ⟨own', hI, hU2, hO⟩ := hto
      exact ⟨rfl, own', hI, (Upd.of_below HB.out own).trans hU2 (fun _ _ e => e), fun k hk => by
        rcases hO k hk with h | h
        · exact .inl h
        · have := HB.out.size
          exact .inr (by omega)⟩
end
end Go.Proofs.YtdeonehebbofiaaDoor
