/-
  A lane as a plain list of tickets: each method's contract.
-/
import Derived.Test.YtdeonehebbofiaaDoorLane9
namespace Go.Proofs.YtdeonehebbofiaaDoor
open Go.RowKit

/-- The block g is a lane whose tickets are ts; its memory are the blocks of own. -/
def IsLane (w : World) (own : Nat → Prop) (g : Nat) (ts : List Tk) : Prop := ∃ lv bm es ms c n, LaneRaw w own g lv bm es ms c n ∧ LaneOk es ms c n ts
def LaneTo (w : World) (own : Nat → Prop) (g : Nat) (ts : List Tk) (w' : World) : Prop := ∃ own', IsLane w' own' g ts ∧ Upd own w w' ∧ ∀ k, own' k → own k ∨ w.heap.size ≤ k

theorem IsLane.upd {w w' : World} {own S : Nat → Prop} {g : Nat} {ts : List Tk} (h : IsLane w own g ts) (hu : Upd S w w') (hn : ∀ k, own k → k < w.heap.size → ¬ S k) : IsLane w' own g ts := by
  obtain ⟨lv, bm, es, ms, c, n, hR, hO⟩ := h
  exact ⟨lv, bm, es, ms, c, n, hR.upd hu hn, hO⟩
theorem IsLane.own_lt {w : World} {own : Nat → Prop} {g : Nat} {ts : List Tk} (h : IsLane w own g ts) : ∀ k, own k → k < w.heap.size := by
  obtain ⟨lv, bm, es, ms, c, n, hR, hO⟩ := h
  exact hR.ob
theorem IsLane.og {w : World} {own : Nat → Prop} {g : Nat} {ts : List Tk} (h : IsLane w own g ts) : own g := by
  obtain ⟨lv, bm, es, ms, c, n, hR, hO⟩ := h
  exact hR.og
theorem IsLane.may {w : World} {own : Nat → Prop} {g : Nat} {ts : List Tk} (h : IsLane w own g ts) : ∀ t ∈ ts, may t = 0 ∧ t.Wf := by
  obtain ⟨lv, bm, es, ms, c, n, hR, hO⟩ := h
  exact fun t ht => ⟨hO.ok t ht, hO.wf t ht⟩
theorem IsLane.same {w w' : World} {own : Nat → Prop} {g : Nat} {ts : List Tk} (h : IsLane w own g ts) (hb : Below w.heap.size w w') : IsLane w' own g ts :=
  h.upd (Upd.of_below hb (fun _ => False)) (fun _ _ _ e => e)
theorem LaneTo.of_below {w w' : World} {own : Nat → Prop} {g : Nat} {ts : List Tk} (h : IsLane w own g ts) (hb : Below w.heap.size w w') : LaneTo w own g ts w' :=
  ⟨own, h.same hb, Upd.of_below hb _, fun _ hk => .inl hk⟩
theorem LaneTo.refl {w : World} {own : Nat → Prop} {g : Nat} {ts : List Tk} (h : IsLane w own g ts) : LaneTo w own g ts w :=
  LaneTo.of_below h (Below.refl _ w)
theorem LaneTo.trans {w w1 w2 : World} {own own1 : Nat → Prop} {g : Nat} {ts : List Tk} (hu : Upd own w w1) (ho : ∀ k, own1 k → own k ∨ w.heap.size ≤ k) (h : LaneTo w1 own1 g ts w2) : LaneTo w own g ts w2 := by
  obtain ⟨own2, hI, hU, hO⟩ := h
  refine ⟨own2, hI, hu.trans hU (fun i hi e => ?_), fun k hk => ?_⟩
  · rcases ho _ e with h | h
    · exact h
    · omega
  · rcases hO _ hk with h | h
    · exact ho _ h
    · exact .inr (Nat.le_trans hu.size h)

def LB : Nat := 8000000000000
theorem cntK_le (ts : List Tk) (j : Int) : 0 ≤ cntK ts j ∧ cntK ts j ≤ ts.length := by
  unfold cntK
  have := List.countP_le_length (p := fun t : Tk => t.k == j) (l := ts)
  omega
theorem cntK_pos {ts : List Tk} {t : Tk} (h : t ∈ ts) : 1 ≤ cntK ts t.k := by
  unfold cntK
  have := List.countP_pos_iff.2 (⟨t, h, by simp⟩ : ∃ a ∈ ts, (fun u : Tk => u.k == t.k) a = true)
  omega
theorem LaneOk.toLive {es : List En} {ms : List ((Int × Int) × Nat)} {c : Nat → Int} {n : Int} {ts : List Tk} (h : LaneOk es ms c n ts) (hmnd : (ms.map (·.1)).Nodup) (hl : ts.length ≤ LB) : LiveOk es ms c n := by
  unfold LB at hl
  have hin : ∀ x ∈ es, x.gone = false → x.t ∈ ts := fun x hx hg => h.tk ▸ mem_live.2 ⟨x, hx, hg, rfl⟩
  have hr : ∀ x ∈ es, x.gone = false → 1 ≤ x.t.k ∧ x.t.k ≤ 7 := fun x hx hg => may_range (h.ok _ (hin x hx hg))
  have hc : ∀ x ∈ es, x.gone = false → c x.t.k.toNat = cntK ts x.t.k := fun x hx hg => by
    have := hr x hx hg
    rw [h.cnt _ (by omega)]
    congr 1
    omega
  refine ⟨fun x hx hg => (hr x hx hg).1, fun x hx hg => (hr x hx hg).2, fun x hx hg => ?_, fun x hx hg => ?_, fun x hx hg => ?_, ?_, fun x hx hg p hp hk => ?_, ?_⟩
  · rw [hc x hx hg]; exact cntK_pos (hin x hx hg)
  · rw [hc x hx hg]; have := (cntK_le ts x.t.k).2; omega
  · rw [h.nn]; have := List.length_pos_of_mem (hin x hx hg); omega
  · rw [h.nn]; omega
  · have hs := (h.m1 p hp).1
    rw [hk] at hs
    have hm := h.m2 x hx hg hs
    have := key_unique hmnd hp hm hk
    rw [this]
  · have := h.len; omega

/-! ### New, Len, Count, List -/
theorem isLane_new (w : World) : IsLane ((w.alloc (.map #[] 0)).alloc (.cells (laneCells (.slice none 0 0) w.heap.size (fun _ => 0) 0) 129)) (fun k => k = w.heap.size ∨ k = w.heap.size + 1) (w.heap.size + 1) [] := by
  refine ⟨.slice none 0 0, w.heap.size, [], [], fun _ => 0, 0, ⟨?_, Row.nil _ _ _, fun _ h => (by cases h), ?_, .inr rfl, .inl rfl, fun _ h => (by cases h), fun k h => (by simp [Value.ownBlock] at h), by simp, by simp, ?_⟩, ⟨rfl, rfl, fun _ _ => rfl, fun _ h => (by cases h), fun _ h => (by cases h), fun _ h => (by cases h), fun _ h => (by cases h), by simp⟩⟩
  · have := blk_new (w.alloc (.map #[] 0)) (.cells (laneCells (.slice none 0 0) w.heap.size (fun _ => 0) 0) 129)
    simpa using this
  · exact MapIs.alloc (show MapIs (w.alloc (.map #[] 0)) encPl w.heap.size (msv []) from ⟨#[], 0, blk_new w _, rfl⟩) _
  · intro k hk
    simp
    omega
theorem lane_new_is (w : World) : Calls Tryd.prog 29 #[] w fun e w' => ∃ own g, e = .returned (.pointer (some ⟨g, 0, none⟩)) ∧ IsLane w' own g [] ∧ Below w.heap.size w w' ∧ ∀ k, own k → w.heap.size ≤ k := by
  refine (lane_new w).mono ?_
  rintro e w' ⟨rfl, rfl⟩
  exact ⟨_, _, rfl, isLane_new w, below_alloc (below_alloc (Below.refl _ w) _) _, fun k hk => by omega⟩
theorem lane_len_is {w : World} {own : Nat → Prop} {g : Nat} {ts : List Tk} (h : IsLane w own g ts) : Calls Tryd.prog 31 #[.pointer (some ⟨g, 0, none⟩)] w fun e w' => e = .returned (.int .i64 ts.length) ∧ w = w' := by
  obtain ⟨lv, bm, es, ms, c, n, hR, hO⟩ := h
  have := lane_len g n w (lane_cells hR.blk).2.2.1
  rwa [hO.nn] at this
theorem lane_count_is {w : World} {own : Nat → Prop} {g : Nat} {ts : List Tk} (h : IsLane w own g ts) (k : Int) : Calls Tryd.prog 34 #[.pointer (some ⟨g, 0, none⟩), .int .i64 k] w fun e w' => e = .returned (.int .i64 (cntK ts k)) ∧ w = w' := by
  obtain ⟨lv, bm, es, ms, c, n, hR, hO⟩ := h
  refine (lane_count g k c w (lane_cells hR.blk).2.2.2.1).mono ?_
  rintro e w' ⟨rfl, rfl⟩
  refine ⟨?_, rfl⟩
  split
  · rw [hO.cnt k.toNat (by omega)]
    congr 3
    omega
  · rename_i hk
    congr 2
    unfold cntK
    have : ts.countP (fun t => t.k == k) = 0 := by
      rw [List.countP_eq_zero]
      intro t ht
      have := may_range (hO.ok t ht)
      simp
      omega
    rw [this]
    rfl
theorem lane_list_is {w : World} {own : Nat → Prop} {g : Nat} {ts : List Tk} (h : IsLane w own g ts) (hl : ts.length ≤ LB) :
    Calls Tryd.prog 33 #[.pointer (some ⟨g, 0, none⟩)] w fun e w' => ∃ v, e = .returned v ∧ TkRow w' v ts ∧ (∀ b, v.ownBlock = some b → w.heap.size ≤ b) ∧ Below w.heap.size w w' := by
  obtain ⟨lv, bm, es, ms, c, n, hR, hO⟩ := h
  unfold LB at hl
  have := lane_list w own g lv bm es ms c n hR (by have := hO.len; omega) (by rw [← hO.tk]; omega)
  rwa [← hO.tk] at this

/-! ### drop, on lists -/
theorem live_append (a b : List En) : live (a ++ b) = live a ++ live b := by simp [live]
theorem live_filter_gone (es : List En) : live (es.filter fun e => !e.gone) = live es := by
  unfold live
  rw [List.filter_filter]
  simp
theorem live_dropEs (b : Nat) (es : List En) (n : Int) : live (dropEs b es n) = live (markGone b es) := by
  unfold dropEs
  split
  · exact live_filter_gone _
  · rfl
theorem live_mark_mid {pre post : List En} {x : En} (hnd : ((pre ++ x :: post).map (·.b)).Nodup) : live (markGone x.b (pre ++ x :: post)) = live pre ++ live post := by
  rw [List.map_append, List.map_cons, List.nodup_append, List.nodup_cons] at hnd
  obtain ⟨_, ⟨h1, _⟩, h2⟩ := hnd
  have hp : x.b ∉ pre.map (·.b) := fun hm => h2 _ hm _ List.mem_cons_self rfl
  have e1 : markGone x.b (pre ++ x :: post) = markGone x.b pre ++ { x with gone := true } :: markGone x.b post := by simp [markGone]
  rw [e1, markGone_of_not_mem hp, markGone_of_not_mem h1, live_append]
  congr 1
theorem dropEs_sub {b : Nat} {es : List En} {n : Int} {e : En} (he : e ∈ dropEs b es n) (hg : e.gone = false) : e ∈ es ∧ e.b ≠ b := by
  have hm : e ∈ markGone b es := by
    unfold dropEs at he
    split at he
    · exact (List.mem_filter.1 he).1
    · exact he
  obtain ⟨e0, h0, ⟨hb, rfl⟩ | ⟨hb, rfl⟩⟩ := markGone_mem hm
  · cases hg
  · exact ⟨h0, hb⟩
theorem dropEs_sup {b : Nat} {es : List En} {n : Int} {e : En} (he : e ∈ es) (hg : e.gone = false) (hb : e.b ≠ b) : e ∈ dropEs b es n := by
  have hm : e ∈ markGone b es := List.mem_map.2 ⟨e, he, by rw [if_neg hb]⟩
  unfold dropEs
  split
  · exact List.mem_filter.2 ⟨hm, by simp [hg]⟩
  · exact hm
theorem dropEs_len {b : Nat} {es : List En} {n : Int} {ts2 : List Tk} (hn : n - 1 = ts2.length) (ht : ts2 = live (dropEs b es n)) : (dropEs b es n).length ≤ 2 * ts2.length + 16 := by
  by_cases hc : 2 * (n - 1) + 16 < (es.length : Int)
  · have hd : dropEs b es n = (markGone b es).filter (fun e => !e.gone) := if_pos hc
    have : ts2.length = (dropEs b es n).length := by
      rw [ht, hd]
      unfold live
      rw [List.length_map, List.filter_filter]
      simp
    omega
  · have hd : dropEs b es n = markGone b es := if_neg hc
    rw [hd, markGone_length]
    omega
theorem live_gone {es : List En} (h : ∀ y ∈ es, y.gone = true) : live es = [] := by
  unfold live
  rw [List.map_eq_nil_iff, List.filter_eq_nil_iff]
  intro y hy
  simp [h y hy]

/-- An entry in the middle waits no more. -/
theorem LaneOk.dropMid {pre post : List En} {x : En} {ms : List ((Int × Int) × Nat)} {c : Nat → Int} {n : Int} {ts : List Tk} (h : LaneOk (pre ++ x :: post) ms c n ts)
    (hnd : ((pre ++ x :: post).map (·.b)).Nodup) (hmnd : (ms.map (·.1)).Nodup) (hg : x.gone = false) :
    LaneOk (dropEs x.b (pre ++ x :: post) n) (ms.filter fun p => p.1 ≠ (x.t.k, x.t.s)) (fun i => if i = x.t.k.toNat then c x.t.k.toNat - 1 else c i) (n - 1) (live pre ++ live post) ∧ ts = live pre ++ x.t :: live post := by
  have hl : live (dropEs x.b (pre ++ x :: post) n) = live pre ++ live post := by rw [live_dropEs, live_mark_mid hnd]
  have hts : ts = live pre ++ x.t :: live post := by
    rw [h.tk, live_append]
    congr 1
    simp [live, hg]
  have hn : n - 1 = ((live pre ++ live post).length : Int) := by
    rw [h.nn, hts]
    simp
    omega
  exact ⟨h.drop hnd hmnd (by simp) hg hl.symm (by rw [hts]; exact List.perm_middle) (fun e he hge => dropEs_sub he hge) (fun e he hge hb => dropEs_sup he hge hb) (dropEs_len hn hl.symm), hts⟩
/-- The first that waits is taken, and those in front of it are forgotten. -/
theorem LaneOk.dropHead {pre post : List En} {x : En} {ms : List ((Int × Int) × Nat)} {c : Nat → Int} {n : Int} {ts : List Tk} (h : LaneOk (pre ++ x :: post) ms c n ts)
    (hnd : ((pre ++ x :: post).map (·.b)).Nodup) (hmnd : (ms.map (·.1)).Nodup) (hg : x.gone = false) (hp : ∀ y ∈ pre, y.gone = true) :
    LaneOk (dropEs x.b post n) (ms.filter fun p => p.1 ≠ (x.t.k, x.t.s)) (fun i => if i = x.t.k.toNat then c x.t.k.toNat - 1 else c i) (n - 1) (live post) ∧ ts = x.t :: live post := by
  have hnd2 := hnd
  rw [List.map_append, List.map_cons, List.nodup_append, List.nodup_cons] at hnd2
  obtain ⟨_, ⟨h1, _⟩, h2⟩ := hnd2
  have hl : live (dropEs x.b post n) = live post := by rw [live_dropEs, markGone_of_not_mem h1]
  have hts : ts = x.t :: live post := by
    rw [h.tk, live_append, live_gone hp]
    simp [live, hg]
  have hn : n - 1 = ((live post).length : Int) := by
    rw [h.nn, hts]
    simp
  refine ⟨h.drop hnd hmnd (by simp) hg hl.symm (by rw [hts]) (fun e he hge => ?_) (fun e he hge hb => ?_) (dropEs_len hn hl.symm), hts⟩
  · obtain ⟨h3, h4⟩ := dropEs_sub he hge
    exact ⟨by simp [h3], h4⟩
  · refine dropEs_sup ?_ hge hb
    rcases List.mem_append.1 he with he | he
    · rw [hp e he] at hge; cases hge
    · rcases List.mem_cons.1 he with rfl | he
      · exact absurd rfl hb
      · exact he

theorem lane_next_is {w : World} {own : Nat → Prop} {g : Nat} {ts : List Tk} (h : IsLane w own g ts) (hl : ts.length ≤ LB) :
    Calls Tryd.prog 72 #[.pointer (some ⟨g, 0, none⟩)] w fun e w' =>
      (ts = [] ∧ e = .returned (.tuple #[zeroTk, .bool false]) ∧ LaneTo w own g [] w') ∨ (∃ t r, ts = t :: r ∧ e = .returned (.tuple #[t.val, .bool true]) ∧ LaneTo w own g r w') := by
  obtain ⟨lv, bm, es, ms, c, n, hR, hO⟩ := h
  refine (lane_next w own g lv bm es ms c n hR (hO.toLive hR.mnd hl)).mono ?_
  rintro e w' (⟨rfl, hall, lv', hR', hU⟩ | ⟨pre, x, post, own', lv', rfl, rfl, hp, hg, hR', hU, hown⟩)
  · have hts : ts = [] := by rw [hO.tk]; exact live_gone hall
    subst hts
    refine .inl ⟨rfl, rfl, own, ⟨lv', bm, [], ms, c, n, hR', ⟨rfl, hO.nn, hO.cnt, hO.ok, hO.wf, fun p hp => ?_, fun _ h => (by cases h), by simp⟩⟩, hU, fun _ hk => .inl hk⟩
    obtain ⟨_, e, he, hge, _⟩ := hO.m1 p hp
    rw [hall e he] at hge
    cases hge
  · obtain ⟨hO', hts⟩ := hO.dropHead hR.nd hR.mnd hg hp
    exact .inr ⟨x.t, live post, hts, rfl, own', ⟨lv', bm, _, _, _, _, hR', hO'⟩, hU, hown⟩

def keyB (k s : Int) (u : Tk) : Bool := u.k == k && u.s == s
theorem lane_withdraw_is {w : World} {own : Nat → Prop} {g : Nat} {ts : List Tk} (h : IsLane w own g ts) (hl : ts.length ≤ LB) (k s : Int) :
    Calls Tryd.prog 76 #[.pointer (some ⟨g, 0, none⟩), .int .i64 k, .int .u32 s] w fun e w' =>
      e = .returned (.bool (ts.any (keyB k s))) ∧ LaneTo w own g (ts.eraseP (keyB k s)) w' := by
  obtain ⟨lv, bm, es, ms, c, n, hR, hO⟩ := h
  refine (lane_withdraw w own g lv bm es ms c n k s hR (hO.toLive hR.mnd hl)).mono ?_
  rintro e w' (⟨rfl, hall, rfl⟩ | ⟨pre, x, post, own', lv', rfl, rfl, hp, hx, hD⟩)
  · have hno : ∀ t ∈ ts, ¬ keyB k s t = true := by
      intro t ht hk
      rw [hO.tk] at ht
      obtain ⟨e, he, hg, rfl⟩ := mem_live.1 ht
      simp [keyB] at hk
      exact hall e he ⟨hg, hk.1, hk.2⟩
    have h1 : ts.any (keyB k s) = false := by rw [List.any_eq_false]; exact fun t ht => hno t ht
    have h2 : ts.eraseP (keyB k s) = ts := List.eraseP_of_forall_not hno
    rw [h1, h2]
    exact ⟨rfl, .refl ⟨lv, bm, es, ms, c, n, hR, hO⟩⟩
  · obtain ⟨hO', hts⟩ := hO.dropMid hR.nd hR.mnd hx.1
    have hno : ∀ t ∈ live pre, ¬ keyB k s t = true := by
      intro t ht hk
      obtain ⟨e, he, hg, rfl⟩ := mem_live.1 ht
      simp [keyB] at hk
      exact hp e he ⟨hg, hk.1, hk.2⟩
    have hkx : keyB k s x.t = true := by simp [keyB, hx.2]
    have h1 : ts.any (keyB k s) = true := by rw [hts]; simp [hkx]
    have h2 : ts.eraseP (keyB k s) = live pre ++ live post := by
      rw [hts, List.eraseP_append_right _ hno]
      simp [hkx]
    rw [h1, h2]
    exact ⟨rfl, own', ⟨lv', bm, _, _, _, _, hD.raw, hO'⟩, hD.upd, hD.own⟩
end Go.Proofs.YtdeonehebbofiaaDoor
